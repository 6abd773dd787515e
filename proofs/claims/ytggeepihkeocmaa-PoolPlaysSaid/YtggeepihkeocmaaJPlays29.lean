/- Joined texts: PlY, PlZ, PlSa. -/
import Derived.Test.YtggeepihkeocmaaJPlays28
/- PoolSteals, plain: evict, get, write, append, the pin. -/
namespace Go.Proofs.Ytggeepihkeocmaa
set_option linter.unusedVariables false
set_option linter.unusedSimpArgs false
open Go.RowKit Go.Maps
theorem other_key {l : List Int} (h : l.Pairwise (· < ·)) (h2 : 2 ≤ l.length) (x : Int) : ∃ k ∈ l, k ≠ x := by
  match l, h, h2 with
  | a :: b :: l, h, _ =>
    have hab := (List.pairwise_cons.1 h).1 b (by simp)
    by_cases e : a = x
    · exact ⟨b, by simp, by omega⟩
    · exact ⟨a, by simp, e⟩
theorem Near.trans {s t u : St} (h : Near s t) (h2 : Near t u) (ho : u.D.ops ≤ s.D.ops + 4) (hw : u.D.way.length ≤ s.D.way.length + 4) : Near s u := ⟨ho, hw, h2.en.trans h.en, Int.le_trans h.su h2.su⟩
/-- A frame that differs in its use alone. -/
theorem Sv.rep {s : St} {last : Int → Int} {pn i : Int} {f f' : Fr} (h : Sv s last pn) (hf : s.P.fr i = some f) (hp : f'.p = f.p) (hd : f'.dirty = f.dirty) (hn : f'.pins = f.pins) : Sv ⟨setFr s.P i f', s.D, s.L⟩ last pn := by
  have hfr : ∀ k, (setFr s.P i f').fr k = if k = i then some f' else s.P.fr k := fun _ => rfl
  have hsub : ∀ k x, (setFr s.P i f').fr k = some x → (k = i ∧ x = f') ∨ (k ≠ i ∧ s.P.fr k = some x) := fun k x hx => by
    rw [hfr] at hx
    by_cases e : k = i
    · rw [if_pos e] at hx; injection hx with hx; exact .inl ⟨e, hx.symm⟩
    · rw [if_neg e] at hx; exact .inr ⟨e, hx⟩
  refine ⟨h.pg, h.at_, h.ms, h.dn, h.inv.same rfl rfl, h.ll, fun k x hx => ?_, fun k x hx hdx => ?_, h.gn, h.dl, fun k x hx => ?_, fun k h0 h1 => ?_, ?_, fun k x hx hk => ?_⟩
  · rcases hsub k x hx with ⟨e, -⟩ | ⟨-, hx⟩
    · rw [e]; exact h.rng i f hf
    · exact h.rng k x hx
  · rcases hsub k x hx with ⟨e, e2⟩ | ⟨-, hx⟩
    · rw [e, e2, hp]; exact h.cl i f hf (by rw [← hd, ← e2]; exact hdx)
    · exact h.cl k x hx hdx
  · rcases hsub k x hx with ⟨e, e2⟩ | ⟨-, hx⟩
    · show num (x.p.take 8) < endL s.L
      rw [e2, hp]; exact h.fl i f hf
    · exact h.fl k x hx
  · rw [← h.val k h0 h1]
    congr 1
    unfold cont
    show (match (setFr s.P i f').fr k with | some f => f.p | none => readD s.D (pgI k)) = _
    rw [hfr]
    by_cases e : k = i
    · rw [if_pos e, e, hf]; exact hp
    · rw [if_neg e] <;> rfl
  · intro hp0
    obtain ⟨fp, hp1, hp2⟩ := h.pin hp0
    by_cases e : pn = i
    · rw [e, hf] at hp1
      injection hp1 with hp1
      exact ⟨f', by show (setFr s.P i f').fr pn = _; rw [hfr, if_pos e], by rw [hn, hp1]; exact hp2⟩
    · exact ⟨fp, by show (setFr s.P i f').fr pn = _; rw [hfr, if_neg e]; exact hp1, hp2⟩
  · rcases hsub k x hx with ⟨e, e2⟩ | ⟨-, hx⟩
    · rw [e2, hn]; exact h.unp i f hf (e ▸ hk)
    · exact h.unp k x hx hk
theorem Sv.ev {s : St} {last : Int → Int} {pn : Int} (h : Sv s last pn) (hF : Fits s) (hk : KeyOk s) (hl : 2 ≤ s.P.ks.length) : evE s = 0 ∧ Sv (evS s) last pn ∧ Near s (evS s) ∧ ∀ k, s.P.fr k = none → (evS s).P.fr k = none := by
  obtain ⟨k1, hk1, hk2⟩ := other_key hk.2.2 hl pn
  have hpo : ∀ k f, s.P.fr k = some f → pinsOf s.P k = f.pins := fun k f hf => by unfold pinsOf; rw [hf]
  obtain ⟨f1, hf1⟩ := Option.isSome_iff_exists.1 ((hk.1 k1).1 hk1)
  have hge := best_ge s.P s.P.ks (-1) hk.2.1 (.inr ⟨k1, hk1, by rw [hpo k1 f1 hf1]; exact h.unp k1 f1 hf1 hk2⟩)
  rcases sc_len s.P (-1) s.P.ks hk.2.1 with e | ⟨e1, e2⟩
  · omega
  · obtain ⟨k0, hk0⟩ : ∃ k, bestF s.P s.P.ks (-1) = k := ⟨_, rfl⟩
    rw [hk0] at e1 e2 hge
    obtain ⟨f, hf⟩ := Option.isSome_iff_exists.1 ((hk.1 k0).1 e1)
    rw [hpo k0 f hf] at e2
    obtain ⟨b1, b2⟩ := evS_best hk0 hge hf
    obtain ⟨c1, c2, c3, c4⟩ := h.clean hF hf
    refine ⟨b1, ?_, ?_, fun k hkn => ?_⟩
    · rw [b2]; exact c1.del c3 rfl e2
    · rw [b2]; exact ⟨c2.ops, c2.way, c2.en, c2.su⟩
    · rw [b2]
      by_cases e : k = k0
      · rw [e]; exact delFr_fr _ _
      · exact (delFr_ne _ e).trans ((c4 k e).trans hkn)
theorem Sv.get {s : St} {last : Int → Int} {pn i : Int} (h : Sv s last pn) (hF : Fits s) (hk : KeyOk s) (hi : 0 ≤ i ∧ i < 9) : getE s i = 0 ∧ Sv (getS s i) last pn ∧ Near s (getS s i) := by
  have h0 : ¬ (i < 0 ∨ s.P.pages ≤ i) := by rw [h.pg]; omega
  have hms := h.ms
  have nr : ∀ t : St, t.D = s.D → t.L = s.L → Near s t := fun t e1 e2 => ⟨by rw [e1]; omega, by rw [e1]; omega, by rw [e2], by rw [e2]; exact Int.le_refl _⟩
  cases hf : s.P.fr i with
  | some f =>
    have e1 : getE s i = 0 := by unfold getE; rw [if_neg h0, hf] <;> rfl
    have e2 : getS s i = ⟨setFr (tickP s.P) i { f with used := s.P.clock + 1 }, s.D, s.L⟩ := by unfold getS; rw [if_neg h0, hf]
    rw [e2]
    exact ⟨e1, h.tick.rep (f' := { f with used := s.P.clock + 1 }) (show (tickP s.P).fr i = some f from hf) rfl rfl rfl, nr _ rfl rfl⟩
  | none =>
    by_cases hl : (s.P.ks.length : Int) < s.P.most
    · obtain ⟨e1, e2⟩ := getS_new h0 hf hl
      rw [e2]
      exact ⟨e1, h.tick.add hi hf, nr _ rfl rfl⟩
    · obtain ⟨a1, a2, a3, a4⟩ := (h.tick).ev ⟨hF.b, hF.e, hF.o, hF.w⟩ ⟨hk.1, hk.2.1, hk.2.2⟩ (by show 2 ≤ s.P.ks.length; omega)
      obtain ⟨e1, e2⟩ := getS_ev h0 hf hl a1
      rw [e2]
      exact ⟨e1, a2.add hi (a4 i hf), ⟨a3.ops, a3.way, a3.en, a3.su⟩⟩
theorem splice_at (L : List Int) (off : Nat) (x : Int) (h : off ≤ L.length) : (splice L off [x]).getD off 0 = x := by
  unfold splice
  have e : (L.take off).length = off := by rw [List.length_take]; omega
  rw [List.getD_eq_getElem?_getD, List.getElem?_append_right (by omega), e, Nat.sub_self]
  rfl
/-- One byte of a page is written. -/
theorem Sv.put {t : St} {last : Int → Int} {pn i lsn x : Int} {f : Fr} (h : Sv t last pn) (hf : t.P.fr i = some f) (hlen : f.p.length = 512) (hl : 0 ≤ lsn ∧ lsn < endL t.L) : Sv ⟨setFr t.P i (wrF f 3 [x] lsn), t.D, t.L⟩ (fun k => if k = i then x else last k) pn := by
  have hfr : ∀ k, (setFr t.P i (wrF f 3 [x] lsn)).fr k = if k = i then some (wrF f 3 [x] lsn) else t.P.fr k := fun _ => rfl
  have hsub : ∀ k y, (setFr t.P i (wrF f 3 [x] lsn)).fr k = some y → (k = i ∧ y = wrF f 3 [x] lsn) ∨ (k ≠ i ∧ t.P.fr k = some y) := fun k y hx => by
    rw [hfr] at hx
    by_cases e : k = i
    · rw [if_pos e] at hx; injection hx with hx; exact .inl ⟨e, hx.symm⟩
    · rw [if_neg e] at hx; exact .inr ⟨e, hx⟩
  have hen := h.inv.en
  refine ⟨h.pg, h.at_, h.ms, h.dn, h.inv.same rfl rfl, h.ll, fun k y hx => ?_, fun k y hx hd => ?_, h.gn, h.dl, fun k y hx => ?_, fun k h0 h1 => ?_, ?_, fun k y hx hk => ?_⟩
  · rcases hsub k y hx with ⟨e, -⟩ | ⟨-, hx⟩
    · rw [e]; exact h.rng i f hf
    · exact h.rng k y hx
  · rcases hsub k y hx with ⟨-, e2⟩ | ⟨-, hx⟩
    · rw [e2] at hd; cases hd
    · exact h.cl k y hx hd
  · rcases hsub k y hx with ⟨-, e2⟩ | ⟨-, hx⟩
    · rw [e2]
      show num ((wrB f.p 3 [x] lsn).take 8) < endL t.L
      rw [(wrB_parts hlen 3 [x] lsn hl.1 (by omega)).1]; exact hl.2
    · exact h.fl k y hx
  · unfold cont
    show (match (setFr t.P i (wrF f 3 [x] lsn)).fr k with | some f => f.p | none => readD t.D (pgI k)).getD 11 0 = _
    rw [hfr]
    by_cases e : k = i
    · rw [if_pos e, if_pos e]
      exact splice_at _ 11 x (by rw [List.length_append, List.length_drop, hlen]; show 11 ≤ 8 + (512 - 8); omega)
    · rw [if_neg e, if_neg e]
      exact h.val k h0 h1
  · intro hp0
    obtain ⟨fp, hp1, hp2⟩ := h.pin hp0
    by_cases e : pn = i
    · rw [e, hf] at hp1
      injection hp1 with hp1
      exact ⟨_, by show (setFr t.P i (wrF f 3 [x] lsn)).fr pn = _; rw [hfr, if_pos e], by show f.pins = 1; rw [hp1]; exact hp2⟩
    · exact ⟨fp, by show (setFr t.P i (wrF f 3 [x] lsn)).fr pn = _; rw [hfr, if_neg e]; exact hp1, hp2⟩
  · rcases hsub k y hx with ⟨e, e2⟩ | ⟨-, hx⟩
    · rw [e2]; exact h.unp i f hf (e ▸ hk)
    · exact h.unp k y hx hk
/-- A record is appended. -/
theorem Sv.app {s : St} {last : Int → Int} {pn : Int} {p : List Int} (h : Sv s last pn) (hI : LgI (appL s.L 0 p)) (he : endL (appL s.L 0 p) ≤ 1000) : Sv ⟨s.P, s.D, appL s.L 0 p⟩ last pn := by
  have hen := appL_end s.L 0 p
  exact ⟨h.pg, h.at_, h.ms, h.dn, ⟨hI, h.inv.q, h.inv.len, by show endL (appL s.L 0 p) ≤ _; omega, h.inv.ops, h.inv.way⟩, ⟨h.ll.1, h.ll.2.1, (Int.add_zero _).trans h.ll.2.2.1, h.ll.2.2.2⟩, h.rng, h.cl, h.gn, h.dl, fun k f hf => by have := h.fl k f hf; show lsnP f < endL (appL s.L 0 p); omega, h.val, h.pin, h.unp⟩
end Go.Proofs.Ytggeepihkeocmaa
/- The pool laws' sure: what is on the disk is no newer than the log's sure records. -/
namespace Go.Proofs.Ytggeepihkeocmaa
set_option linter.unusedVariables false
set_option linter.unusedSimpArgs false
open Go.RowKit Go.Maps
theorem WX.later {w w' : World} {base x d lb g pp : Nat} {s : St} (h : WX w base x d lb g pp s) (hb : Below w.heap.size w w') : WX w' base x d lb g pp s := by
  obtain ⟨F, bA, bc, o, kx, hP, hx⟩ := h
  exact ⟨F, bA, bc, o, At.keep hb kx, hP.later hb, hx⟩
theorem WX.dk {w : World} {base x d lb g pp : Nat} {s : St} (h : WX w base x d lb g pp s) : ∃ F, DD w base d lb F s.D := by
  obtain ⟨F, bA, bc, o, kx, hP, hx⟩ := h
  exact ⟨F, hP.d⟩
theorem WX.lg {w : World} {base x d lb g pp : Nat} {s : St} (h : WX w base x d lb g pp s) : ∃ bA bc, LgH w base d g bA bc s.L := by
  obtain ⟨F, bA, bc, o, kx, hP, hx⟩ := h
  exact ⟨bA, bc, hP.l⟩
set_option maxRecDepth 100000 in
set_option maxHeartbeats 4000000 in
theorem sure_calls {base x d lb g pp n : Nat} {s : St} (w : World) (hn : n ≤ 9) (h : WX w base x d lb g pp s) (hq : Qt s.D) (hl : 41 + n ≤ s.D.l.length) (hs : ∀ k : Nat, k < n → num ((readD s.D (41 + k)).take 8) < s.L.sure) :
    Calls Try.prog 23 #[.pointer (some ⟨x, 0, none⟩), .int .i64 (n : Int)] w fun e w' => e = .returned (.bool true) ∧ Below w.heap.size w w' := by
  have hhx := Lib.hid h
  have hqx := Lib.hid hq
  have hsx := Lib.hid hs
  obtain ⟨sr, hsr⟩ : ∃ x, s.L.sure = x := ⟨_, rfl⟩
  have hsrx := Lib.hid hsr
  clear h hq hs hsr
  go_enter Try.func23, Try.ntmps23
  go_wp2_with fail
  go_loopw [4, 5, 6, 7, 8, 9, 10] (fun _ v5 _ _ _ _ _ wr => ∃ k : Nat, v5 = .int .i64 (k : Int) ∧ k ≤ n ∧ Below w.heap.size w wr) (fun _ v5 _ _ _ _ _ _ => n - (intOf v5).toNat)
  case atStart => exact ⟨0, rfl, Nat.zero_le _, Below.refl _ _⟩
  case round =>
    obtain ⟨k, rfl, hk, hB⟩ := hrel
    have hW := hhx.out.later hB
    have kx := hW.at_
    obtain ⟨F, hD⟩ := hW.dk
    have hWx := Lib.hid hW
    have hDx := Lib.hid hD
    clear hW hD
    have kxc := kx.c; have kxf := kx.f; have kxl := kx.lt
    by_cases hlt : k < n
    · have hlti : (k : Int) < n := by omega
      have hz1 : IntKind.i64.wrap (41 + (k : Int)) = ((41 + k : Nat) : Int) := by rw [IntWalk.i64_in _ (by omega)]; omega
      have hz2 : IntKind.i64.wrap ((k : Int) + 1) = (k : Int) + 1 := IntWalk.i64_in _ (by omega)
      have hs1 := hsx.out k hlt
      rw [hsrx.out] at hs1
      obtain ⟨sec, hsec⟩ : ∃ y, readD s.D (41 + k) = y := ⟨_, rfl⟩
      have hsecx := Lib.hid hsec
      rw [hsec] at hs1
      obtain ⟨m, hm⟩ : ∃ y, 41 + k = y := ⟨_, rfl⟩
      have hmx := Lib.hid hm
      rw [hm] at hz1
      clear hsec hm
      go_wp2_with fail
      refine (rd_dd m wr hDx.out (by have := hmx.out; omega) hqx.out.2).mono ?_
      rw [← hmx.out, hsecx.out]
      rintro e w2 ⟨q, rfl, hq2, hb2, hqw⟩
      have hB2 := below_keep hb2 hB
      go_wp2_with fail
      refine (rref_calls 512 w2 hq2.bs9 (by omega) (Nat.le_refl _) (by omega)).mono ?_
      rintro e w3 ⟨rfl, rfl⟩
      have hW3 := hWx.out.later hb2
      have k3 := hW3.at_
      obtain ⟨bA3, bc3, hL3⟩ := hW3.lg
      have hL3x := Lib.hid hL3
      obtain ⟨u, hu⟩ : ∃ y, num (sec.take 8) = y := ⟨_, rfl⟩
      rw [hu] at hs1
      have hux := Lib.hid hu
      rw [hu]
      have hge : decide (sr ≤ u) = false := by simp; omega
      have hng : ¬ (sr ≤ u) := by omega
      clear hu hL3 hW3 kx kxc kxf kxl hq2 hb2 hqw
      have k3c := k3.c; have k3f := k3.f; have k3l := k3.lt
      go_wp2_with fail
      refine (lsure_calls w2 hL3x.out).mono ?_
      rw [hsrx.out]
      rintro e w4 ⟨rfl, rfl⟩
      go_wp2
      go_roundw
      case rel => exact ⟨k + 1, by go_num, by omega, hB2⟩
      case measure => simp [intOf]; omega
    · have hlti : ¬ ((k : Int) < n) := by omega
      go_wp2
      go_ret
      exact ⟨by first | rfl | simp, hB⟩
/-- Flush of all pages, plainly: every page that is in memory is clean then. -/
theorem Sv.cleanAll {last : Int → Int} {pn : Int} : ∀ (l : List Int) (s : St), Sv s last pn → (∀ k ∈ l, (s.P.fr k).isSome = true) → 480 ≤ s.L.sure → endL s.L ≤ 1000 → s.D.ops + 4 * (l.length : Int) ≤ 300000 → s.D.way.length + 4 * l.length ≤ 300000 →
    Sv (Go.Proofs.Ytggeepihkeocmaa.cleanAll s l) last pn ∧ (∀ k f, (Go.Proofs.Ytggeepihkeocmaa.cleanAll s l).P.fr k = some f → (k ∈ l ∨ ∃ f0, s.P.fr k = some f0 ∧ f0.dirty = false) → f.dirty = false) ∧ endL (Go.Proofs.Ytggeepihkeocmaa.cleanAll s l).L = endL s.L ∧ 480 ≤ (Go.Proofs.Ytggeepihkeocmaa.cleanAll s l).L.sure
  | [], s, h, _, hb, he, _, _ => ⟨h, fun k f hf hk => by
      rcases hk with hk | ⟨f0, h1, h2⟩
      · cases hk
      · have hf : s.P.fr k = some f := hf
        rw [hf] at h1; injection h1 with h1; rw [h1]; exact h2, rfl, hb⟩
  | i :: l, s, h, hks, hb, he, ho, hw => by
    unfold Go.Proofs.Ytggeepihkeocmaa.cleanAll
    have ho2 : s.D.ops + 4 * ((l.length : Int) + 1) ≤ 300000 := by simpa using ho
    have hw2 : s.D.way.length + 4 * (l.length + 1) ≤ 300000 := by simpa using hw
    cases hf : s.P.fr i with
    | none =>
      have := hks i (by simp)
      rw [hf] at this; cases this
    | some f =>
      obtain ⟨c1, c2, c3, c4⟩ := h.clean ⟨hb, he, by omega, by omega⟩ hf
      have := c2.ops; have := c2.way; have := c2.su
      obtain ⟨r1, r2, r3, r4⟩ := Sv.cleanAll l (cleanS s i f) c1 (fun k hkm => by
        by_cases e : k = i
        · rw [e, c3] <;> rfl
        · rw [c4 k e]; exact hks k (by simp [hkm])) (by omega) (by rw [c2.en]; exact he) (by omega) (by omega)
      refine ⟨r1, fun k f' hk hc => r2 k f' hk ?_, r3.trans c2.en, r4⟩
      by_cases e : k = i
      · exact .inr ⟨offF f, by rw [e]; exact c3, rfl⟩
      · rcases hc with hc | ⟨f0, h1, h2⟩
        · exact .inl ((List.mem_cons.1 hc).resolve_left e)
        · exact .inr ⟨f0, by rw [c4 k e]; exact h1, h2⟩
end Go.Proofs.Ytggeepihkeocmaa
/- PoolSteals: the calls over a law's world with a block of the law's own. -/
namespace Go.Proofs.Ytggeepihkeocmaa
set_option linter.unusedVariables false
set_option linter.unusedSimpArgs false
open Go.RowKit Go.Maps
/-- A law's world of a pool; la is a block of the law's own. -/
def WY (w : World) (base la x d lb g pp : Nat) (s : St) : Prop := ∃ F bA bc o, At w x #[.pointer (some ⟨d, 0, none⟩), .pointer (some ⟨g, 0, none⟩), .pointer (some ⟨pp, 0, none⟩)] 30 ∧ PWo w base d lb g pp F bA bc o s ∧ ¬ FTo g pp F bA o s.P x ∧ ¬ FTo g pp F bA o s.P la ∧ la < w.heap.size
/-- What a call leaves. -/
def WYTo (w w' : World) (base la x d lb g pp : Nat) (t : St) : Prop := WY w' base la x d lb g pp t ∧ Below base w w' ∧ ∀ cs T, At w la cs T → At w' la cs T
section
variable {w w' : World} {base la x d lb g pp : Nat} {s t : St} {F : Nat → Prop} {bA : Option Addr} {bc : Nat} {o o' : Lo}
theorem WY.of (h : WX w base x d lb g pp s) {w2 : World} (hb : Below w.heap.size w w2) (h1 : w.heap.size ≤ la) (h2 : la < w2.heap.size) : WY w2 base la x d lb g pp s := by
  obtain ⟨F, bA, bc, o, kx, hP, hx⟩ := h
  exact ⟨F, bA, bc, o, At.keep hb kx, hP.later hb, hx, fun hf => by have := (hP.lts la hf).2; omega, h2⟩
theorem WY.wx (h : WY w base la x d lb g pp s) : WX w base x d lb g pp s := by
  obtain ⟨F, bA, bc, o, kx, hP, hx, -⟩ := h
  exact ⟨F, bA, bc, o, kx, hP, hx⟩
theorem WY.later (h : WY w base la x d lb g pp s) (hb : Below w.heap.size w w') : WY w' base la x d lb g pp s := by
  obtain ⟨F, bA, bc, o, kx, hP, hx, hl, hl2⟩ := h
  exact ⟨F, bA, bc, o, At.keep hb kx, hP.later hb, hx, hl, Nat.lt_of_lt_of_le hl2 hb.size⟩
/-- The law's own block turns. -/
theorem WY.own (h : WY w base la x d lb g pp s) (hx : x ≠ la) (hm : Mod (fun k => k = la) w w') : WY w' base la x d lb g pp s := by
  obtain ⟨F, bA, bc, o, kx, hP, h1, hl, hl2⟩ := h
  exact ⟨F, bA, bc, o, kx.mod hm hx, hP.mod hm (fun k hk e => hl (e ▸ hk)), h1, hl, Nat.lt_of_lt_of_le hl2 hm.size⟩
theorem wy_on (kx : At w x #[.pointer (some ⟨d, 0, none⟩), .pointer (some ⟨g, 0, none⟩), .pointer (some ⟨pp, 0, none⟩)] 30) (hP : PWo w base d lb g pp F bA bc o s) (hx : ¬ FTo g pp F bA o s.P x) (hl : ¬ FTo g pp F bA o s.P la) (hl2 : la < w.heap.size) (h : POn w w' base d lb g pp (FTo g pp F bA o s.P) o' t) : WYTo w w' base la x d lb g pp t := by
  obtain ⟨F', bA', bc', h1, h2, h3⟩ := h
  exact ⟨⟨F', bA', bc', o', kx.mod h3 hx, h1, not_grew h2 hx kx.lt, not_grew h2 hl hl2, Nat.lt_of_lt_of_le hl2 h3.size⟩, h3.below hP.bw (fun k hk => (hP.lts k hk).1), fun cs T ha => ha.mod h3 hl⟩
theorem wy_write {m mc gB : Nat} {b : List Int} {w0 : World} (i : Int) (off : Nat) (lsn : Int) (h : WY w0 base la x d lb g pp s) (hb0 : Below w0.heap.size w0 w) (hI : Inv s) (hc : s.P.clock + 1 ≤ 1000000) (he : getE s i = 0) (hlsn : 0 ≤ lsn ∧ lsn < 18446744073709551616) (hb : BsR w 0 w.heap.size (some ⟨gB, 0, none⟩) m b) (hg : w0.heap.size ≤ gB) (hoff : off ≤ 504) (hm : m ≤ 504 - off) :
    Calls Try.prog 21 #[.pointer (some ⟨pp, 0, none⟩), .int .i64 i, .int .i64 (off : Int), .slice (some ⟨gB, 0, none⟩) m mc, .int .u64 lsn] w fun e w' => e = .returned (.int .i64 0) ∧ WYTo w w' base la x d lb g pp (wrS s i off b lsn) := by
  obtain ⟨F, bA, bc, o, kx0, hP0, hx, hl, hl2⟩ := h
  have kx := At.keep hb0 kx0
  have hP := hP0.later hb0
  refine (pwrite_calls (b := b) i off lsn w hP hI hc hlsn hb (fun _ k hk hf => by
    have e2 : gB = k := by simpa [ownBlk] using hk
    have := (hP0.lts k hf).2
    omega) hoff hm).mono ?_
  rw [he]
  rintro e w' ⟨rfl, (⟨hne, -⟩ | ⟨-, o', h⟩)⟩
  · exact absurd he hne
  · exact ⟨rfl, wy_on kx hP hx hl (Nat.lt_of_lt_of_le hl2 hb0.size) h⟩
theorem wy_app {m mc gB : Nat} {p : List Int} {w0 : World} (h : WY w0 base la x d lb g pp s) (hb0 : Below w0.heap.size w0 w) (hI : LgI s.L) (hb : BsR w 0 w.heap.size (some ⟨gB, 0, none⟩) m p) (hg : w0.heap.size ≤ gB) (hn0 : 0 < m) (hn : m ≤ 1200) (hf : (m : Int) + 2 ≤ roomL s.L) :
    Calls Try.prog 20 #[.pointer (some ⟨g, 0, none⟩), .slice (some ⟨gB, 0, none⟩) m mc, .int .i64 0] w fun e w' => e = .returned (.tuple #[.int .u64 (endL s.L), .int .i64 0]) ∧ WYTo w w' base la x d lb g pp ⟨s.P, s.D, appL s.L 0 p⟩ := by
  obtain ⟨F, bA, bc, o, kx0, hP0, hx, hl, hl2⟩ := h
  have kx := At.keep hb0 kx0
  have hP := hP0.later hb0
  have hln := hb.1
  have hA := app_ok (hold := 0) (p := p) hI (by omega) (by rw [hln]; omega)
  refine (lapp_ok (p := p) 0 w hP.l hP.bw hb (fun _ k hk hf => by
    have e2 : gB = k := by simpa [ownBlk] using hk
    have := (hP0.lts k (.inr (.inl hf))).2
    omega) (by omega) hn0 hn (by omega) hA.1 hA.2.ok).mono ?_
  rintro e w' ⟨rfl, ⟨bA2, bc2, hL2, hat2⟩, hm2⟩
  have hft := foot_low hP.l hP.d
  obtain ⟨F3, bA3, bc3, hP3, hg3, hm3⟩ := hP.log (LogTo.mk (hP.d.mod hm2 hft.2) hL2 (Grew.refl _ _) hat2 (hm2.mono (fun k hk => .inr hk))) rfl
  exact ⟨rfl, wy_on kx hP hx hl (Nat.lt_of_lt_of_le hl2 hb0.size) (POn.mk hP3 hg3 (hm3.mono (fun k hk => hk.imp id .inl)))⟩
theorem wy_read (i : Int) (h : WY w base la x d lb g pp s) (hI : Inv s) (hc : s.P.clock + 1 ≤ 1000000) (he : getE s i = 0) :
    Calls Try.prog 17 #[.pointer (some ⟨pp, 0, none⟩), .int .i64 i] w fun e w' => ∃ f A c, (getS s i).P.fr i = some f ∧ e = .returned (.tuple #[.slice A 504 c, .int .u64 (lsnP f), .int .i64 0]) ∧ OwB w' w.heap.size A 504 c (f.p.drop 8) ∧ WYTo w w' base la x d lb g pp (getS s i) := by
  obtain ⟨F, bA, bc, o, kx, hP, hx, hl, hl2⟩ := h
  refine (pread_calls i w hP hI hc).mono ?_
  rintro e w' (⟨hne, -⟩ | ⟨-, f, A, c, hf, rfl, how, o', h⟩)
  · exact absurd he hne
  · exact ⟨f, A, c, hf, rfl, how, wy_on kx hP hx hl hl2 h⟩
theorem wy_pin (i : Int) (h : WY w base la x d lb g pp s) (hI : Inv s) (hc : s.P.clock + 1 ≤ 1000000) (he : getE s i = 0) (hp : ∀ f, (getS s i).P.fr i = some f → f.pins < 1000000) :
    Calls Try.prog 16 #[.pointer (some ⟨pp, 0, none⟩), .int .i64 i] w fun e w' => e = .returned (.int .i64 0) ∧ WYTo w w' base la x d lb g pp (pinS s i) := by
  obtain ⟨F, bA, bc, o, kx, hP, hx, hl, hl2⟩ := h
  refine (pin_calls i w hP hI hc hp).mono ?_
  rw [he]
  rintro e w' ⟨rfl, (⟨hne, -⟩ | ⟨-, o', h⟩)⟩
  · exact absurd he hne
  · exact ⟨rfl, wy_on kx hP hx hl hl2 h⟩
theorem wy_unpin (i : Int) (f : Fr) (h : WY w base la x d lb g pp s) (hf : s.P.fr i = some f) (hp : 0 < f.pins) :
    Calls Try.prog 18 #[.pointer (some ⟨pp, 0, none⟩), .int .i64 i] w fun e w' => e = .returned (.int .i64 0) ∧ WYTo w w' base la x d lb g pp ⟨setFr s.P i (pinF f (-1)), s.D, s.L⟩ := by
  obtain ⟨F, bA, bc, o, kx, hP, hx, hl, hl2⟩ := h
  refine (unpin_calls i f w hP hf hp).mono ?_
  rintro e w' ⟨rfl, h⟩
  exact ⟨rfl, wy_on kx hP hx hl hl2 h⟩
theorem wy_all (h : WY w base la x d lb g pp s) (hI : ∀ j, j ≤ s.P.ks.length → Inv (cleanAll s (s.P.ks.take j))) :
    Calls Try.prog 24 #[.pointer (some ⟨pp, 0, none⟩)] w fun e w' => e = .returned (.int .i64 0) ∧ WYTo w w' base la x d lb g pp (allS s) := by
  obtain ⟨F, bA, bc, o, kx, hP, hx, hl, hl2⟩ := h
  refine (pall_calls w hP hI).mono ?_
  rintro e w' ⟨rfl, h⟩
  exact ⟨rfl, wy_on kx hP hx hl hl2 h⟩
end
/-- The pool of the law when its page is pinned. -/
theorem steal_start {mo pn : Int} (hm : 2 ≤ mo ∧ mo ≤ 4) (hp : 0 ≤ pn ∧ pn < 9) : getE (freshS 9 mo) pn = 0 ∧ (∀ f, (getS (freshS 9 mo) pn).P.fr pn = some f → f.pins < 1000000) ∧ Sv (pinS (freshS 9 mo) pn) (fun _ => 0) pn ∧ (pinS (freshS 9 mo) pn).L = newL 0 40 ∧ (pinS (freshS 9 mo) pn).D = opnD 50 0 40 ∧ (pinS (freshS 9 mo) pn).P.clock = 1 := by
  obtain ⟨e1, e2⟩ := getS_new (s := freshS 9 mo) (i := pn) (by show ¬ (pn < 0 ∨ (9 : Int) ≤ pn); omega) rfl (by show ((0 : Nat) : Int) < mo; omega)
  have hfr : (getS (freshS 9 mo) pn).P.fr pn = some (newFr ⟨tickP (freshS 9 mo).P, (freshS 9 mo).D, (freshS 9 mo).L⟩ pn) := by rw [e2]; exact addFr_fr _ _
  have hpS : pinS (freshS 9 mo) pn = ⟨setFr (addFr ⟨tickP (freshS 9 mo).P, (freshS 9 mo).D, (freshS 9 mo).L⟩ pn).P pn (pinF (newFr ⟨tickP (freshS 9 mo).P, (freshS 9 mo).D, (freshS 9 mo).L⟩ pn) 1), opnD 50 0 40, newL 0 40⟩ := by
    unfold pinS
    rw [hfr, e2]
    rfl
  have hq : Qt (opnD 50 0 40) := opnD_qt (by omega) (by omega) (by omega)
  have hlen : (opnD 50 0 40).l.length = 50 := opnD_len (by omega) (by omega) (by omega)
  have hway : (opnD 50 0 40).way = [] := opnD_way (by omega) (by omega) (by omega)
  have hrd : ∀ k, 0 ≤ k → k < 9 → readD (opnD 50 0 40) (pgI k) = zeroS := fun k h0 h1 => by
    have := pgI_lt h0 h1
    rw [opnD_eq (by omega) (by omega) (by omega), readD_mk _ _ _ (by rw [sync_len]; show pgI k < (fmD 50 0 40).l.length; rw [fmD_len]; omega), if_neg (by show ¬ (2 = pgI k); omega), readD_mk _ _ _ (by rw [fmD_len]; omega), if_neg (by show ¬ (0 = pgI k); omega), fmD_read _ _ _ _ (by omega), if_neg (by show ¬ (0 = pgI k); omega)]
  have hbase : ∀ k, 0 ≤ k → k < 9 → (opnD 50 0 40).l.getD (pgI k) [] = readD (opnD 50 0 40) (pgI k) := fun k _ _ => by
    unfold readD
    rw [hway]
    rfl
  have hz : num (zeroS.take 8) = 0 := by decide
  have hnf : (newFr ⟨tickP (freshS 9 mo).P, (freshS 9 mo).D, (freshS 9 mo).L⟩ pn).p = zeroS := hrd pn hp.1 hp.2
  refine ⟨e1, fun f hf => ?_, ?_, by rw [hpS], by rw [hpS], by rw [hpS]; rfl⟩
  · rw [hfr] at hf; injection hf with hf; rw [← hf]; show (0 : Int) < _; omega
  · rw [hpS]
    have hfr2 : ∀ k, (setFr (addFr ⟨tickP (freshS 9 mo).P, (freshS 9 mo).D, (freshS 9 mo).L⟩ pn).P pn (pinF (newFr ⟨tickP (freshS 9 mo).P, (freshS 9 mo).D, (freshS 9 mo).L⟩ pn) 1)).fr k = if k = pn then some (pinF (newFr ⟨tickP (freshS 9 mo).P, (freshS 9 mo).D, (freshS 9 mo).L⟩ pn) 1) else none := fun k => by
      by_cases e : k = pn
      · rw [if_pos e, e]; exact setFr_fr _ _ _
      · rw [if_neg e]; exact (setFr_ne _ _ e).trans (addFr_ne _ e)
    have hsub : ∀ k x, (setFr (addFr ⟨tickP (freshS 9 mo).P, (freshS 9 mo).D, (freshS 9 mo).L⟩ pn).P pn (pinF (newFr ⟨tickP (freshS 9 mo).P, (freshS 9 mo).D, (freshS 9 mo).L⟩ pn) 1)).fr k = some x → k = pn ∧ x = pinF (newFr ⟨tickP (freshS 9 mo).P, (freshS 9 mo).D, (freshS 9 mo).L⟩ pn) 1 := fun k x hx => by
      rw [hfr2] at hx
      by_cases e : k = pn
      · rw [if_pos e] at hx; injection hx with hx; exact ⟨e, hx.symm⟩
      · rw [if_neg e] at hx; cases hx
    refine ⟨rfl, rfl, hm.1, hlen, ⟨newL_I (by omega) (by omega) (by omega) (by omega), hq, by show (0 : Int) + 1 + 40 ≤ ((opnD 50 0 40).l.length : Int); rw [hlen]; omega, by show (480 : Int) + 0 ≤ _; omega, by show (opnD 50 0 40).ops ≤ _; rw [opnD_ops (by omega) (by omega) (by omega)]; omega, by show (opnD 50 0 40).way.length ≤ _; rw [hway]; simp⟩, ⟨rfl, rfl, rfl, rfl⟩, fun k x hx => by rw [(hsub k x hx).1]; exact hp, fun k x hx _ => ?_, fun k h0 h1 _ => hbase k h0 h1, fun k h0 h1 => ?_, fun k x hx => ?_, fun k h0 h1 => ?_, fun _ => ⟨_, by rw [hfr2, if_pos rfl], rfl⟩, fun k x hx hk => absurd (hsub k x hx).1 hk⟩
    · rw [(hsub k x hx).1, (hsub k x hx).2]
      show (newFr ⟨tickP (freshS 9 mo).P, (freshS 9 mo).D, (freshS 9 mo).L⟩ pn).p = readD (opnD 50 0 40) (pgI pn)
      rw [hnf, hrd pn hp.1 hp.2]
    · show num ((readD (opnD 50 0 40) (pgI k)).take 8) < 480
      rw [hrd k h0 h1, hz]; omega
    · rw [(hsub k x hx).2]
      show num ((newFr ⟨tickP (freshS 9 mo).P, (freshS 9 mo).D, (freshS 9 mo).L⟩ pn).p.take 8) < 480 + 0
      rw [hnf, hz]; omega
    · unfold cont
      rw [hfr2]
      by_cases e : k = pn
      · rw [if_pos e]
        show (newFr ⟨tickP (freshS 9 mo).P, (freshS 9 mo).D, (freshS 9 mo).L⟩ pn).p.getD 11 0 = 0
        rw [hnf] <;> rfl
      · rw [if_neg e]
        show (readD (opnD 50 0 40) (pgI k)).getD 11 0 = 0
        rw [hrd k h0 h1] <;> rfl
end Go.Proofs.Ytggeepihkeocmaa
