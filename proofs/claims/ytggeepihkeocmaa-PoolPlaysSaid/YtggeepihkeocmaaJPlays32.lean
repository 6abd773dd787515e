/- Joined texts: PpC, PpE, PpF. -/
import Derived.Test.YtggeepihkeocmaaJPlays31
import Derived.Test.YtggeepihkeocmaaJPlays02
import Derived.Test.YtggeepihkeocmaaJPlays04
/- PoolPlays: the pool's calls over a law's world; the blocks of S are the law's own. -/
namespace Go.Proofs.Ytggeepihkeocmaa
set_option linter.unusedVariables false
set_option linter.unusedSimpArgs false
open Go.RowKit Go.Maps
def WS (w : World) (base x d lb g pp : Nat) (s : St) (S : Nat → Prop) : Prop := ∃ F bA bc o, At w x #[.pointer (some ⟨d, 0, none⟩), .pointer (some ⟨g, 0, none⟩), .pointer (some ⟨pp, 0, none⟩)] 30 ∧ PWo w base d lb g pp F bA bc o s ∧ ¬ FTo g pp F bA o s.P x ∧ ∀ k, S k → ¬ FTo g pp F bA o s.P k ∧ k < w.heap.size ∧ k ≠ x
/-- What a call leaves. -/
def WSTo (w w' : World) (base x d lb g pp : Nat) (t : St) (S : Nat → Prop) : Prop := WS w' base x d lb g pp t S ∧ Mod (fun k => ¬ S k) w w' ∧ Below base w w'
section
variable {w w' : World} {base x d lb g pp : Nat} {s t : St} {S : Nat → Prop} {F : Nat → Prop} {bA : Option Addr} {bc : Nat} {o o' : Lo}
theorem WS.wx (h : WS w base x d lb g pp s S) : WX w base x d lb g pp s := by
  obtain ⟨F, bA, bc, o, kx, hP, hx, -⟩ := h
  exact ⟨F, bA, bc, o, kx, hP, hx⟩
theorem WS.of (h : WX w base x d lb g pp s) : WS w base x d lb g pp s (fun _ => False) := by
  obtain ⟨F, bA, bc, o, kx, hP, hx⟩ := h
  exact ⟨F, bA, bc, o, kx, hP, hx, fun _ h => h.elim⟩
theorem WS.later (h : WS w base x d lb g pp s S) (hb : Below w.heap.size w w') : WS w' base x d lb g pp s S := by
  obtain ⟨F, bA, bc, o, kx, hP, hx, hS⟩ := h
  exact ⟨F, bA, bc, o, At.keep hb kx, hP.later hb, hx, fun k hk => ⟨(hS k hk).1, Nat.lt_of_lt_of_le (hS k hk).2.1 hb.size, (hS k hk).2.2⟩⟩
theorem WS.bw (h : WS w base x d lb g pp s S) : base ≤ w.heap.size := by
  obtain ⟨F, bA, bc, o, kx, hP, -⟩ := h
  exact hP.bw
/-- The law turns blocks of its own, and makes new ones. -/
theorem WS.own {S2 S' : Nat → Prop} (h : WS w base x d lb g pp s S) (hm : Mod S2 w w') (h2 : ∀ k, S2 k → S k ∨ w.heap.size ≤ k) (h' : ∀ k, S' k → S k ∨ (w.heap.size ≤ k ∧ k < w'.heap.size)) : WS w' base x d lb g pp s S' := by
  obtain ⟨F, bA, bc, o, kx, hP, hx, hS⟩ := h
  have hlt := hP.lts
  refine ⟨F, bA, bc, o, kx.mod hm (fun h => ?_), hP.mod hm (fun k hk h => ?_), hx, fun k hk => ?_⟩
  · rcases h2 x h with h | h
    · exact (hS x h).2.2 rfl
    · have := kx.lt; omega
  · rcases h2 k h with h | h
    · exact (hS k h).1 hk
    · have := (hlt k hk).2; omega
  · rcases h' k hk with h | ⟨h, h3⟩
    · exact ⟨(hS k h).1, Nat.lt_of_lt_of_le (hS k h).2.1 hm.size, (hS k h).2.2⟩
    · exact ⟨fun hf => by have := (hlt k hf).2; omega, h3, fun e => by have := kx.lt; omega⟩
theorem ws_on (kx : At w x #[.pointer (some ⟨d, 0, none⟩), .pointer (some ⟨g, 0, none⟩), .pointer (some ⟨pp, 0, none⟩)] 30) (hP : PWo w base d lb g pp F bA bc o s) (hx : ¬ FTo g pp F bA o s.P x) (hS : ∀ k, S k → ¬ FTo g pp F bA o s.P k ∧ k < w.heap.size ∧ k ≠ x) (h : POn w w' base d lb g pp (FTo g pp F bA o s.P) o' t) : WSTo w w' base x d lb g pp t S := by
  obtain ⟨F', bA', bc', h1, h2, h3⟩ := h
  exact ⟨⟨F', bA', bc', o', kx.mod h3 hx, h1, not_grew h2 hx kx.lt, fun k hk => ⟨not_grew h2 (hS k hk).1 (hS k hk).2.1, Nat.lt_of_lt_of_le (hS k hk).2.1 h3.size, (hS k hk).2.2⟩⟩, h3.mono (fun k hk hs => (hS k hs).1 hk), h3.below hP.bw (fun k hk => (hP.lts k hk).1)⟩
theorem WSTo.same (h : WS w base x d lb g pp s S) : WSTo w w base x d lb g pp s S := ⟨h, Mod.refl _ _, Below.refl _ _⟩
def pinT (s : St) (i : Int) : St := if getE s i = 0 then pinS s i else getS s i
theorem ws_pin (i : Int) (h : WS w base x d lb g pp s S) (hI : Inv s) (hc : s.P.clock + 1 ≤ 1000000) (hp : ∀ f, (getS s i).P.fr i = some f → f.pins < 1000000) :
    Calls Try.prog 16 #[.pointer (some ⟨pp, 0, none⟩), .int .i64 i] w fun e w' => e = .returned (.int .i64 (getE s i)) ∧ WSTo w w' base x d lb g pp (pinT s i) S := by
  obtain ⟨F, bA, bc, o, kx, hP, hx, hS⟩ := h
  refine (pin_calls i w hP hI hc hp).mono ?_
  rintro e w' ⟨rfl, (⟨hne, o', h⟩ | ⟨he, o', h⟩)⟩
  · exact ⟨rfl, by unfold pinT; rw [if_neg hne]; exact ws_on kx hP hx hS h⟩
  · exact ⟨rfl, by unfold pinT; rw [if_pos he]; exact ws_on kx hP hx hS h⟩
theorem ws_readE (i : Int) (h : WS w base x d lb g pp s S) (hI : Inv s) (hc : s.P.clock + 1 ≤ 1000000) (he : getE s i ≠ 0) :
    Calls Try.prog 17 #[.pointer (some ⟨pp, 0, none⟩), .int .i64 i] w fun e w' => e = .returned (.tuple #[.slice none 0 0, .int .u64 0, .int .i64 (getE s i)]) ∧ WSTo w w' base x d lb g pp (getS s i) S := by
  obtain ⟨F, bA, bc, o, kx, hP, hx, hS⟩ := h
  refine (pread_calls i w hP hI hc).mono ?_
  rintro e w' (⟨-, rfl, o', h⟩ | ⟨h0, -⟩)
  · exact ⟨rfl, ws_on kx hP hx hS h⟩
  · exact absurd h0 he
theorem ws_read (i : Int) (h : WS w base x d lb g pp s S) (hI : Inv s) (hc : s.P.clock + 1 ≤ 1000000) (he : getE s i = 0) :
    Calls Try.prog 17 #[.pointer (some ⟨pp, 0, none⟩), .int .i64 i] w fun e w' => ∃ f A c, (getS s i).P.fr i = some f ∧ e = .returned (.tuple #[.slice A 504 c, .int .u64 (lsnP f), .int .i64 0]) ∧ OwB w' w.heap.size A 504 c (f.p.drop 8) ∧ WSTo w w' base x d lb g pp (getS s i) S := by
  obtain ⟨F, bA, bc, o, kx, hP, hx, hS⟩ := h
  refine (pread_calls i w hP hI hc).mono ?_
  rintro e w' (⟨hne, -⟩ | ⟨-, f, A, c, hf, rfl, how, o', h⟩)
  · exact absurd he hne
  · exact ⟨f, A, c, hf, rfl, how, ws_on kx hP hx hS h⟩
def wrT (s : St) (i : Int) (off : Nat) (b : List Int) (lsn : Int) : St := if getE s i = 0 then wrS s i off b lsn else getS s i
theorem ws_write {m mc : Nat} {B : Option Addr} {b : List Int} (i : Int) (off : Nat) (lsn : Int) (h : WS w base x d lb g pp s S) (hI : Inv s) (hc : s.P.clock + 1 ≤ 1000000) (hlsn : 0 ≤ lsn ∧ lsn < 18446744073709551616) (hb : BsR w 0 base B m b) (hoff : off ≤ 504) (hm : m ≤ 504 - off) :
    Calls Try.prog 21 #[.pointer (some ⟨pp, 0, none⟩), .int .i64 i, .int .i64 (off : Int), .slice B m mc, .int .u64 lsn] w fun e w' => e = .returned (.int .i64 (getE s i)) ∧ WSTo w w' base x d lb g pp (wrT s i off b lsn) S := by
  obtain ⟨F, bA, bc, o, kx, hP, hx, hS⟩ := h
  refine (pwrite_calls (b := b) i off lsn w hP hI hc hlsn (hb.more hP.bw) (fun h0 k hk hf => by
    obtain ⟨gb, go', hB, -, hl, -⟩ := hb.2.2 h0
    have e2 : gb = k := by rw [hB] at hk; simpa [ownBlk] using hk
    have := (hP.lts k hf).1
    omega) hoff hm).mono ?_
  rintro e w' ⟨rfl, (⟨hne, o', h⟩ | ⟨he, o', h⟩)⟩
  · exact ⟨rfl, by unfold wrT; rw [if_neg hne]; exact ws_on kx hP hx hS h⟩
  · exact ⟨rfl, by unfold wrT; rw [if_pos he]; exact ws_on kx hP hx hS h⟩
theorem ws_unpin (i : Int) (f : Fr) (h : WS w base x d lb g pp s S) (hf : s.P.fr i = some f) (hp : 0 < f.pins) :
    Calls Try.prog 18 #[.pointer (some ⟨pp, 0, none⟩), .int .i64 i] w fun e w' => e = .returned (.int .i64 0) ∧ WSTo w w' base x d lb g pp ⟨setFr s.P i (pinF f (-1)), s.D, s.L⟩ S := by
  obtain ⟨F, bA, bc, o, kx, hP, hx, hS⟩ := h
  refine (unpin_calls i f w hP hf hp).mono ?_
  rintro e w' ⟨rfl, h⟩
  exact ⟨rfl, ws_on kx hP hx hS h⟩
theorem ws_len (h : WS w base x d lb g pp s S) :
    Calls Try.prog 19 #[.pointer (some ⟨pp, 0, none⟩)] w fun e w' => e = .returned (.int .i64 s.P.ks.length) ∧ w = w' := by
  obtain ⟨F, bA, bc, o, kx, hP, hx, hS⟩ := h
  exact plen_calls w hP
theorem ws_all (h : WS w base x d lb g pp s S) (hI : ∀ j, j ≤ s.P.ks.length → Inv (cleanAll s (s.P.ks.take j))) :
    Calls Try.prog 24 #[.pointer (some ⟨pp, 0, none⟩)] w fun e w' => e = .returned (.int .i64 0) ∧ WSTo w w' base x d lb g pp (allS s) S := by
  obtain ⟨F, bA, bc, o, kx, hP, hx, hS⟩ := h
  refine (pall_calls w hP hI).mono ?_
  rintro e w' ⟨rfl, h⟩
  exact ⟨rfl, ws_on kx hP hx hS h⟩
theorem ws_app {m mc gB : Nat} {p : List Int} {w0 : World} (h : WS w0 base x d lb g pp s S) (hb0 : Below w0.heap.size w0 w) (hI : LgI s.L) (hb : BsR w 0 w.heap.size (some ⟨gB, 0, none⟩) m p) (hg : w0.heap.size ≤ gB) (hn0 : 0 < m) (hn : m ≤ 1200) (hf : (m : Int) + 2 ≤ roomL s.L) :
    Calls Try.prog 20 #[.pointer (some ⟨g, 0, none⟩), .slice (some ⟨gB, 0, none⟩) m mc, .int .i64 0] w fun e w' => e = .returned (.tuple #[.int .u64 (endL s.L), .int .i64 0]) ∧ WSTo w w' base x d lb g pp ⟨s.P, s.D, appL s.L 0 p⟩ S := by
  obtain ⟨F, bA, bc, o, kx0, hP0, hx, hS⟩ := h
  have kx := At.keep hb0 kx0
  have hP := hP0.later hb0
  have hln := hb.1
  have hA := app_ok (hold := 0) (p := p) hI (by omega) (by rw [hln]; omega)
  refine (lapp_ok (p := p) 0 w hP.l hP.bw hb (fun _ k hk hf => by
    have e2 : gB = k := by simpa [ownBlk] using hk
    have := (hP0.lts k (.inr (.inl hf))).2
    omega) (by omega) hn0 hn (by omega) hA.1 hA.2.ok).mono ?_
  rintro e w' ⟨rfl, ⟨bA2, bc2, hL2, hat2⟩, hm2⟩
  have hft := foot_low hP.l hP.d
  obtain ⟨F3, bA3, bc3, hP3, hg3, hm3⟩ := hP.log (LogTo.mk (hP.d.mod hm2 hft.2) hL2 (Grew.refl _ _) hat2 (hm2.mono (fun k hk => .inr hk))) rfl
  exact ⟨rfl, ws_on kx hP hx (fun k hk => ⟨(hS k hk).1, Nat.lt_of_lt_of_le (hS k hk).2.1 hb0.size, (hS k hk).2.2⟩) (POn.mk hP3 hg3 (hm3.mono (fun k hk => hk.imp id .inl)))⟩
def lflS (s : St) : St := ⟨s.P, flD s.D s.L, flZ s.D s.L⟩
theorem ws_lfl (h : WS w base x d lb g pp s S) (hI : Inv s) :
    Calls Try.prog 37 #[.pointer (some ⟨g, 0, none⟩)] w fun e w' => e = .returned (.int .i64 0) ∧ WSTo w w' base x d lb g pp (lflS s) S := by
  obtain ⟨F, bA, bc, o, kx, hP, hx, hS⟩ := h
  obtain ⟨hE, hQ, hlen, hop1, hop2, hway, hZ⟩ := fl_q s.L hI.q
  have hnp : nparts s.L ≤ 34953 := by have := hI.li.ok.buf; unfold nparts; omega
  refine (lflush_calls w hP.l hP.d hP.bw hI.len hI.li.mul hI.li.lo (by have := hI.ops; omega) (by have := hI.way; omega) (fl_ok hI.li hI.en).ok).mono ?_
  rw [hE]
  rintro e w' ⟨rfl, hT⟩
  obtain ⟨F3, bA3, bc3, hP3, hg3, hm3⟩ := hP.log hT hlen
  exact ⟨rfl, ws_on kx hP hx hS (POn.mk hP3 hg3 (hm3.mono (fun k hk => hk.imp id .inl)))⟩
end
end Go.Proofs.Ytggeepihkeocmaa
/- PoolPlays, plain: how many pages are pinned; how far a round goes; the pages that Dirty tells. -/
namespace Go.Proofs.Ytggeepihkeocmaa
set_option linter.unusedVariables false
set_option linter.unusedSimpArgs false
open Go.RowKit Go.Maps
/-- How many of the pages a, a+1, .. (so many) are pinned. -/
def cntF (pins : Int → Int) : Int → Nat → Nat
  | _, 0 => 0
  | a, m + 1 => (if 0 < pins a then 1 else 0) + cntF pins (a + 1) m
theorem cnt_le (pins : Int → Int) : ∀ (m : Nat) (a : Int) (l : List Int), l.Pairwise (· < ·) → (∀ k ∈ l, a ≤ k ∧ k < a + m ∧ 0 < pins k) → l.length ≤ cntF pins a m
  | 0, a, [], _, _ => Nat.le_refl _
  | 0, a, x :: l, _, h => by have := h x (by simp); omega
  | m + 1, a, [], _, _ => Nat.zero_le _
  | m + 1, a, x :: l, hp, h => by
    obtain ⟨h1, h2⟩ := List.pairwise_cons.1 hp
    have hx := h x (by simp)
    unfold cntF
    by_cases e : x = a
    · rw [if_pos (by rw [← e]; exact hx.2.2), List.length_cons]
      have := cnt_le pins m (a + 1) l h2 (fun k hk => by have := h1 k hk; have := h k (by simp [hk]); omega)
      omega
    · have := cnt_le pins m (a + 1) (x :: l) hp (fun k hk => by
        have h3 := h k hk
        rcases List.mem_cons.1 hk with e2 | hk
        · subst e2; omega
        · have := h1 k hk; omega)
      omega
theorem cnt_max (pins : Int → Int) : ∀ (m : Nat) (a : Int), cntF pins a m ≤ m
  | 0, _ => Nat.le_refl _
  | m + 1, a => by
    unfold cntF
    have := cnt_max pins m (a + 1)
    by_cases e : 0 < pins a
    · rw [if_pos e]; omega
    · rw [if_neg e]; omega
/-- The law's may. -/
def mayB (pins : Int → Int) (n : Nat) (mo i : Int) : Prop := 0 < pins i ∨ (cntF pins 0 n : Int) < mo
theorem may_room {s : St} {n : Nat} {mo i : Int} {C : Int → List Int} {pins : Int → Int} (h : Pv s n mo C pins) (hk : KeyOk s) (h0 : ∀ k, 0 ≤ pins k) (hm : mayB pins n mo i) : HasRoom s i mo pins := by
  rcases hm with hm | hm
  · cases hf : s.P.fr i with
    | some f => exact .inl (by rw [hf]; rfl)
    | none => have := h.pinNo hf; omega
  · by_cases hl : (s.P.ks.length : Int) < mo
    · exact .inr (.inl hl)
    · by_cases hp : ∃ k ∈ s.P.ks, pins k = 0
      · exact .inr (.inr hp)
      · exfalso
        have := cnt_le pins n 0 s.P.ks hk.2.2 (fun k hkm => by
          obtain ⟨f, hf⟩ := Option.isSome_iff_exists.1 ((hk.1 k).1 hkm)
          have h1 := h.rng k f hf
          have h2 := h0 k
          have h3 : pins k ≠ 0 := fun e => hp ⟨k, hkm, e⟩
          omega)
        omega
/-- How far the law has come behind i rounds. -/
structure Bq (s : St) (pins : Int → Int) (i : Nat) : Prop where
  ck : 0 ≤ s.P.clock ∧ s.P.clock ≤ i
  op : s.D.ops ≤ 6 + 40 * (i : Int)
  wy : s.D.way.length ≤ 40 * i
  en : endL s.L ≤ 480 + 3 * (i : Int)
  su : 480 ≤ s.L.sure
  pn : ∀ k, 0 ≤ pins k ∧ pins k ≤ i
theorem Bq.fits {s : St} {pins : Int → Int} {i : Nat} (h : Bq s pins i) (hi : i < 50) : Fits s := ⟨h.su, by have := h.en; omega, by have := h.op; omega, by have := h.wy; omega⟩
theorem getS_ck {s : St} {i : Int} : (getS s i).P.clock = s.P.clock ∨ (getS s i).P.clock = s.P.clock + 1 := by
  by_cases h0 : i < 0 ∨ s.P.pages ≤ i
  · rw [(getNone s h0).2]; exact .inl rfl
  · unfold getS
    rw [if_neg h0]
    cases hf : s.P.fr i with
    | some f => exact .inr rfl
    | none =>
      simp only []
      by_cases hl : (s.P.ks.length : Int) < s.P.most
      · rw [if_pos hl]; exact .inr rfl
      · rw [if_neg hl]
        by_cases hE : evE ⟨tickP s.P, s.D, s.L⟩ = 0
        · rw [if_pos hE]
          refine .inr ?_
          show (evS ⟨tickP s.P, s.D, s.L⟩).P.clock = _
          unfold evS
          cases hb : (tickP s.P).fr (bestF (tickP s.P) (tickP s.P).ks (-1)) with
          | none => rfl
          | some f =>
            show (cleanS _ _ f).P.clock = _
            exact (cleanS_P ⟨tickP s.P, s.D, s.L⟩ _ f hb).2.2.2.2.2
        · rw [if_neg hE]; exact .inr rfl
theorem Bq.next {s t : St} {pins : Int → Int} {i : Nat} (h : Bq s pins i) (hc : t.P.clock = s.P.clock ∨ t.P.clock = s.P.clock + 1) (ho : t.D.ops ≤ s.D.ops + 40) (hw : t.D.way.length ≤ s.D.way.length + 40) (he : endL t.L ≤ endL s.L + 3) (hs : 480 ≤ t.L.sure) (pins' : Int → Int) (hp : ∀ k, 0 ≤ pins' k ∧ pins' k ≤ pins k + 1) : Bq t pins' (i + 1) :=
  ⟨by have := h.ck; omega, by have := h.op; omega, by have := h.wy; omega, by have := h.en; omega, hs, fun k => by have := h.pn k; have := hp k; omega⟩
theorem Bq.near {s t : St} {pins : Int → Int} {i : Nat} (h : Bq s pins i) (hc : t.P.clock = s.P.clock ∨ t.P.clock = s.P.clock + 1) (hn : Near s t) (pins' : Int → Int) (hp : ∀ k, 0 ≤ pins' k ∧ pins' k ≤ pins k + 1) : Bq t pins' (i + 1) :=
  h.next hc (by have := hn.ops; omega) (by have := hn.way; omega) (by have := hn.en; omega) (by have := hn.su; have := h.su; omega) pins' hp
theorem Bq.keep {s : St} {pins : Int → Int} {i : Nat} (h : Bq s pins i) : Bq s pins (i + 1) := h.next (.inl rfl) (by omega) (by omega) (by omega) h.su pins (fun k => by have := h.pn k; omega)
theorem Near.refl (s : St) : Near s s := ⟨by omega, by omega, rfl, Int.le_refl _⟩
/-- Since when a page may not be on the disk as it is. -/
def dirtyV (P : Pl) (k : Int) : Option Int :=
  match P.fr k with
  | some f => if f.dirty = true ∧ ∀ x, P.gone k = some x → f.since < x then some f.since else P.gone k
  | none => P.gone k
section
variable {s : St} {n mo i : Int} {C : Int → List Int} {pins : Int → Int}
theorem Pv.dirty (h : Pv s n mo C pins) {k x : Int} (hk : dirtyV s.P k = some x) : (0 ≤ k ∧ k < n) ∧ 0 < x ∧ x ≤ num ((C k).take 8) := by
  unfold dirtyV at hk
  cases hf : s.P.fr k with
  | none => rw [hf] at hk; exact h.gs k x hk
  | some f =>
    rw [hf] at hk
    by_cases hd : f.dirty = true ∧ ∀ x, s.P.gone k = some x → f.since < x
    · have hk : (if f.dirty = true ∧ ∀ x, s.P.gone k = some x → f.since < x then some f.since else s.P.gone k) = some x := hk
      rw [if_pos hd] at hk
      injection hk with hk
      have h1 := h.ds k f hf hd.1
      have h2 : lsnP f = num ((C k).take 8) := by unfold lsnP; rw [h.contOf hf]
      rw [← hk, ← h2]
      exact ⟨h.rng k f hf, h1⟩
    · have hk : (if f.dirty = true ∧ ∀ x, s.P.gone k = some x → f.since < x then some f.since else s.P.gone k) = some x := hk
      rw [if_neg hd] at hk
      exact h.gs k x hk
/-- A page that is not told is on the disk as it is. -/
theorem Pv.told (h : Pv s n mo C pins) {k : Int} (h0 : 0 ≤ k) (h1 : k < n) (hk : dirtyV s.P k = none) : readD s.D (pgI k) = C k := by
  rw [← h.val k h0 h1]
  unfold dirtyV at hk
  unfold cont
  cases hf : s.P.fr k with
  | none => rfl
  | some f =>
    rw [hf] at hk
    have hk : (if f.dirty = true ∧ ∀ x, s.P.gone k = some x → f.since < x then some f.since else s.P.gone k) = none := hk
    by_cases hd : f.dirty = true ∧ ∀ x, s.P.gone k = some x → f.since < x
    · rw [if_pos hd] at hk; cases hk
    · rw [if_neg hd] at hk
      have hdf : f.dirty = false := by
        cases e : f.dirty with
        | false => rfl
        | true => exact absurd ⟨e, fun x hx => by rw [hk] at hx; cases hx⟩ hd
      exact (h.cl k f hf hdf).symm
theorem dirty_no (hd : ∀ k f, s.P.fr k = some f → f.dirty = false) (hg : ∀ k, s.P.gone k = none) (k : Int) : dirtyV s.P k = none := by
  unfold dirtyV
  cases hf : s.P.fr k with
  | none => exact hg k
  | some f =>
    show (if _ then _ else _) = none
    rw [if_neg (by rw [hd k f hf]; simp)]; exact hg k
end
end Go.Proofs.Ytggeepihkeocmaa
/- PoolPlays: the law's model in the heap; pinned, may, write. -/
namespace Go.Proofs.Ytggeepihkeocmaa
set_option linter.unusedVariables false
set_option linter.unusedSimpArgs false
open Go.RowKit Go.Maps
/-- A block whose first n cells are as f says. -/
def RwA (w : World) (g T n : Nat) (f : Nat → Value) : Prop := ∃ cs : Array Value, At w g cs T ∧ n ≤ cs.size ∧ ∀ j, j < n → cs[j]? = some (f j)
section
variable {w w' : World} {g T n : Nat} {f : Nat → Value} {S : Nat → Prop}
theorem RwA.lt (h : RwA w g T n f) : g < w.heap.size := by obtain ⟨cs, h1, -⟩ := h; exact h1.lt
theorem RwA.cell (h : RwA w g T n f) {j : Nat} (hj : j < n) : w.cell? ⟨g, j, none⟩ = some (f j) := by
  obtain ⟨cs, h1, h2, h3⟩ := h
  rw [h1.c j]; exact h3 j hj
theorem RwA.fz (h : RwA w g T n f) (j : Nat) : w.frozen? ⟨g, j, none⟩ = false := by obtain ⟨cs, h1, -⟩ := h; exact h1.f j
theorem RwA.mod (h : RwA w g T n f) (hm : Mod S w w') (hs : ¬ S g) : RwA w' g T n f := by
  obtain ⟨cs, h1, h2⟩ := h
  exact ⟨cs, h1.mod hm hs, h2⟩
theorem RwA.to {f' : Nat → Value} (h : RwA w g T n f) (e : ∀ j, j < n → f j = f' j) : RwA w g T n f' := by
  obtain ⟨cs, h1, h2, h3⟩ := h
  exact ⟨cs, h1, h2, fun j hj => by rw [h3 j hj, e j hj]⟩
theorem RwA.set (h : RwA w g T n f) (k : Nat) (v : Value) : RwA (w.setCell ⟨g, k, none⟩ v) g T n (fun j => if j = k then v else f j) := by
  obtain ⟨cs, h1, h2, h3⟩ := h
  refine ⟨cs.setIfInBounds k v, h1.set, by simpa using h2, fun j hj => ?_⟩
  show _ = some (if j = k then v else f j)
  by_cases e : j = k
  · subst e
    rw [if_pos rfl, Array.getElem?_setIfInBounds_self_of_lt (by omega)]
  · rw [if_neg e, Array.getElem?_setIfInBounds_ne (Ne.symm e)]
    exact h3 j hj
end
structure Mq where
  gl : Nat
  gs : Nat
  gp : Nat
  gd : Nat
  cl : Nat
  cs : Nat
  cp : Nat
  cd : Nat
  pa : Nat → Nat
  pc : Nat → Nat
  sn : Nat → Int
structure MdH (w : World) (base b n : Nat) (mo : Int) (C : Int → List Int) (pins : Int → Int) (q : Mq) : Prop where
  at_ : At w b #[.slice (some ⟨q.gl, 0, none⟩) n q.cl, .slice (some ⟨q.gs, 0, none⟩) n q.cs, .slice (some ⟨q.gp, 0, none⟩) n q.cp, .slice (some ⟨q.gd, 0, none⟩) n q.cd, .int .i64 mo] 60
  rl : RwA w q.gl 32 n (fun j => .slice (some ⟨q.pa j, 0, none⟩) 504 (q.pc j))
  rs : RwA w q.gs 33 n (fun j => .int .u64 (num ((C j).take 8)))
  rp : RwA w q.gp 3 n (fun j => .int .i64 (pins j))
  rd : RwA w q.gd 33 n (fun j => .int .u64 (q.sn j))
  sd : q.gs ≠ q.gd
  pg : ∀ j, j < n → OwB w base (some ⟨q.pa j, 0, none⟩) 504 (q.pc j) ((C j).drop 8)
  hb : base ≤ b ∧ base ≤ q.gl ∧ base ≤ q.gs ∧ base ≤ q.gp ∧ base ≤ q.gd
/-- Its blocks. -/
def MdF (b n : Nat) (q : Mq) (k : Nat) : Prop := k = b ∨ k = q.gl ∨ k = q.gs ∨ k = q.gp ∨ k = q.gd ∨ ∃ j, j < n ∧ k = q.pa j
section
variable {w w' : World} {base b n : Nat} {mo : Int} {C : Int → List Int} {pins : Int → Int} {q : Mq} {S : Nat → Prop}
theorem MdH.mod (h : MdH w base b n mo C pins q) (hm : Mod S w w') (hs : ∀ k, MdF b n q k → ¬ S k) : MdH w' base b n mo C pins q :=
  ⟨h.at_.mod hm (hs _ (.inl rfl)), h.rl.mod hm (hs _ (.inr (.inl rfl))), h.rs.mod hm (hs _ (.inr (.inr (.inl rfl)))), h.rp.mod hm (hs _ (.inr (.inr (.inr (.inl rfl))))), h.rd.mod hm (hs _ (.inr (.inr (.inr (.inr (.inl rfl)))))), h.sd, fun j hj => (h.pg j hj).mod hm (fun k hk => by
    have e : q.pa j = k := by simpa [ownBlk] using hk
    exact hs k (.inr (.inr (.inr (.inr (.inr ⟨j, hj, e.symm⟩)))))), h.hb⟩
theorem MdH.later (h : MdH w base b n mo C pins q) (hb : Below w.heap.size w w') : MdH w' base b n mo C pins q := h.mod (S := Nob) (Mod.of_below hb) (fun _ _ h => h)
theorem MdH.lts (h : MdH w base b n mo C pins q) : ∀ k, MdF b n q k → base ≤ k ∧ k < w.heap.size := fun k hk => by
  rcases hk with rfl | rfl | rfl | rfl | rfl | ⟨j, hj, rfl⟩
  · exact ⟨h.hb.1, h.at_.lt⟩
  · exact ⟨h.hb.2.1, h.rl.lt⟩
  · exact ⟨h.hb.2.2.1, h.rs.lt⟩
  · exact ⟨h.hb.2.2.2.1, h.rp.lt⟩
  · exact ⟨h.hb.2.2.2.2, h.rd.lt⟩
  · exact (h.pg j hj).lt _ rfl
theorem At.apart {b1 b2 T1 T2 : Nat} {c1 c2 : Array Value} (h1 : At w b1 c1 T1) (h2 : At w b2 c2 T2) (hT : T1 ≠ T2) : b1 ≠ b2 := fun e => by
  subst e
  have := h1.symm.trans h2
  simp only [Option.some.injEq, Obj.cells.injEq] at this
  exact hT this.2.1
/-- The blocks of the model are apart. -/
theorem MdH.apart (h : MdH w base b n mo C pins q) : (b ≠ q.gl ∧ b ≠ q.gs ∧ b ≠ q.gp ∧ b ≠ q.gd) ∧ (q.gl ≠ q.gs ∧ q.gl ≠ q.gp ∧ q.gl ≠ q.gd) ∧ (q.gs ≠ q.gp ∧ q.gp ≠ q.gd) ∧ ∀ j, j < n → q.pa j ≠ b ∧ q.pa j ≠ q.gl ∧ q.pa j ≠ q.gs ∧ q.pa j ≠ q.gp ∧ q.pa j ≠ q.gd := by
  obtain ⟨c1, a1, -⟩ := h.rl
  obtain ⟨c2, a2, -⟩ := h.rs
  obtain ⟨c3, a3, -⟩ := h.rp
  obtain ⟨c4, a4, -⟩ := h.rd
  have a0 := h.at_
  refine ⟨⟨a0.apart a1 (by decide), a0.apart a2 (by decide), a0.apart a3 (by decide), a0.apart a4 (by decide)⟩, ⟨a1.apart a2 (by decide), a1.apart a3 (by decide), a1.apart a4 (by decide)⟩, ⟨a2.apart a3 (by decide), a3.apart a4 (by decide)⟩, fun j hj => ?_⟩
  obtain ⟨c5, a5, -⟩ := (h.pg j hj).at_
  exact ⟨a5.apart a0 (by decide), a5.apart a1 (by decide), a5.apart a2 (by decide), a5.apart a3 (by decide), a5.apart a4 (by decide)⟩
/-- A page's pins. -/
theorem MdH.setPin (h : MdH w base b n mo C pins q) (i : Nat) (x : Int) : MdH (w.setCell ⟨q.gp, i, none⟩ (.int .i64 x)) base b n mo C (fun k => if k = (i : Int) then x else pins k) q := by
  obtain ⟨⟨d1, d2, d3, d4⟩, ⟨d5, d6, d7⟩, ⟨d8, d9⟩, d10⟩ := h.apart
  have m := (Mod.refl (fun k => k = q.gp) w).set (k := q.gp) (.inl rfl) (o := i) (.int .i64 x)
  refine ⟨h.at_.mod m d3, h.rl.mod m d6, h.rs.mod m d8, (h.rp.set i (.int .i64 x)).to (fun j hj => ?_), h.rd.mod m (Ne.symm d9), h.sd, fun j hj => (h.pg j hj).mod m (fun k hk => by
    have e : q.pa j = k := by simpa [ownBlk] using hk
    rw [← e]; exact (d10 j hj).2.2.2.1), h.hb⟩
  by_cases e : j = i
  · subst e; simp
  · rw [if_neg e, if_neg (by omega)]
theorem MdH.setSn (h : MdH w base b n mo C pins q) (i : Nat) (x : Int) : MdH (w.setCell ⟨q.gd, i, none⟩ (.int .u64 x)) base b n mo C pins { q with sn := fun j => if j = i then x else q.sn j } := by
  obtain ⟨⟨d1, d2, d3, d4⟩, ⟨d5, d6, d7⟩, ⟨d8, d9⟩, d10⟩ := h.apart
  have m := (Mod.refl (fun k => k = q.gd) w).set (k := q.gd) (.inl rfl) (o := i) (.int .u64 x)
  refine ⟨h.at_.mod m d4, h.rl.mod m d7, h.rs.mod m h.sd, h.rp.mod m d9, (h.rd.set i (.int .u64 x)).to (fun j hj => ?_), h.sd, fun j hj => (h.pg j hj).mod m (fun k hk => by
    have e : q.pa j = k := by simpa [ownBlk] using hk
    rw [← e]; exact (d10 j hj).2.2.2.2), h.hb⟩
  by_cases e : j = i
  · subst e; simp
  · simp [e]
end
end Go.Proofs.Ytggeepihkeocmaa
