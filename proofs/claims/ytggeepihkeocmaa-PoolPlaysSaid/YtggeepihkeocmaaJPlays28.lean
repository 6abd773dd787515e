/- Joined texts: PlV, PlW, PlX. -/
import Derived.Test.YtggeepihkeocmaaJPlays27
/- The reference's number; the law's sure; the pool's Flush. -/
namespace Go.Proofs.Ytggeepihkeocmaa
set_option linter.unusedVariables false
set_option linter.unusedSimpArgs false
open Go.RowKit Go.Maps
set_option maxRecDepth 100000 in
set_option maxHeartbeats 2000000 in
theorem rref_calls {lo hi n : Nat} (c : Nat) {A : Option Addr} {l : List Int} (w : World) (h : BsR w lo hi A n l) (hi8 : 8 ≤ n) (hnc : n ≤ c) (hn : n ≤ 140737488355328) :
    Calls Try.prog 68 #[.slice A n c, .int .i64 0] w fun e w' => e = .returned (.tuple #[.int .u64 (num (l.take 8)), .int .i64 8, .int .i64 0]) ∧ w = w' := by
  obtain ⟨gb, go', rfl, -, -, hc⟩ := h.2.2 (by omega)
  have hby := Lib.hid h.2.1
  have hln := Lib.hid h.1
  have i2 : (8 : Int) ≤ n := by omega
  have i3 : (n : Int) ≤ 140737488355328 := by omega
  have i5 : ¬ ((n : Int) < 8) := by omega
  have i6 : (0 : Int) ≤ n := by omega
  have i7 : ¬ ((n : Int) < 0) := by omega
  have z0 : IntKind.i64.wrap (n : Int) = n := IntWalk.i64_in _ (by omega)
  clear h
  go_enter Try.func68, Try.ntmps68
  go_wp2_with fail
  go_loopw [7, 8] (fun v7 v8 wr => ∃ k : Nat, k ≤ 8 ∧ v8 = .int .i64 (k : Int) ∧ v7 = .int .u64 (num (l.take k)) ∧ wr = w) (fun _ v8 _ => 8 - (intOf v8).toNat)
  case atStart => exact ⟨0, by omega, rfl, rfl, rfl⟩
  case round =>
    obtain ⟨k, hk, rfl, rfl, rfl⟩ := hrel
    by_cases hlt : k < 8
    · have hs := num_small l k hby.out (by omega)
      have hsn := Lib.hid (num_take l k (by rw [hln.out]; omega))
      have hcell := hc k (by omega)
      have hb := hby.out.getD k
      unfold bsF at hcell
      generalize l.getD k 0 = x at *
      generalize num (l.take k) = u at *
      have k0 : (0 : Int) ≤ k := by omega
      have k8 : (k : Int) < 8 := by omega
      have kn : (k : Int) < n := by omega
      have z1 : IntKind.u64.wrap (u * 256) = u * 256 := IntWalk.u64_in _ (by omega)
      have z2 : IntKind.u64.wrap (u * 256 + x) = u * 256 + x := IntWalk.u64_in _ (by omega)
      have z3 : IntKind.u64.wrap x = x := IntWalk.u64_in _ (by omega)
      have z4 : IntKind.i64.wrap (k : Int) = k := IntWalk.i64_in _ (by omega)
      have z5 : IntKind.i64.wrap ((k : Int) + 1) = (k : Int) + 1 := IntWalk.i64_in _ (by omega)
      go_wp2
      go_roundw
      case rel => exact ⟨k + 1, by omega, by go_num, by rw [hsn.out], by first | rfl | trivial⟩
      case measure => simp [intOf]; omega
    · obtain rfl : k = 8 := by omega
      go_wp2
      go_ret3
      exact ⟨by first | rfl | simp, rfl⟩
def cleanAll (s : St) : List Int → St
  | [] => s
  | k :: l => match s.P.fr k with | some f => cleanAll (cleanS s k f) l | none => cleanAll s l
def allS (s : St) : St := if (cleanAll s s.P.ks).P.gs = [] then cleanAll s s.P.ks else ⟨wipeP (cleanAll s s.P.ks).P, syncD (cleanAll s s.P.ks).D, (cleanAll s s.P.ks).L⟩
theorem cleanAll_take (l : List Int) : ∀ (s : St) (j : Nat), j < l.length → (∀ k ∈ l, (s.P.fr k).isSome = true) → ∃ f, (cleanAll s (l.take j)).P.fr (l.getD j 0) = some f ∧ cleanAll s (l.take (j + 1)) = cleanS (cleanAll s (l.take j)) (l.getD j 0) f := by
  induction l with
  | nil => intro s j h; cases h
  | cons x l ih =>
    intro s j h hk
    obtain ⟨fx, hfx⟩ := Option.isSome_iff_exists.1 (hk x (by simp))
    cases j with
    | zero =>
      refine ⟨fx, hfx, ?_⟩
      show cleanAll s [x] = _
      unfold cleanAll
      rw [hfx]
      rfl
    | succ j =>
      have hs : (cleanAll s ((x :: l).take (j + 1))) = cleanAll (cleanS s x fx) (l.take j) := by
        show cleanAll s (x :: l.take j) = _
        rw [cleanAll, hfx]
      have hs2 : (cleanAll s ((x :: l).take (j + 1 + 1))) = cleanAll (cleanS s x fx) (l.take (j + 1)) := by
        show cleanAll s (x :: l.take (j + 1)) = _
        rw [cleanAll, hfx]
      rw [hs, hs2]
      have hp := cleanS_P s x fx hfx
      exact ih (cleanS s x fx) j (by simpa using h) (fun k hkm => by rw [hp.2.1]; exact hk k (by simp [hkm]))
theorem sy_dd2 {base d lb : Nat} {F : Nat → Prop} {D : Dk} (w : World) (h : DD w base d lb F D) (hq : Qt D) (h9 : D.ops < 1000000000) :
    Calls Try.prog 50 #[.pointer (some ⟨d, 0, none⟩)] w fun e w' => e = .returned (.int .i64 0) ∧ (∃ F', DD w' base d lb F' (syncD D) ∧ Grew F F' w.heap.size) ∧ Mod F w w' := by
  refine (sy_dd w h h9).mono ?_
  rw [hq.syE, hq.sy1]
  exact fun _ _ h => h
set_option maxRecDepth 100000 in
set_option maxHeartbeats 8000000 in
theorem pall_calls {base d lb g pp bc : Nat} {F : Nat → Prop} {bA : Option Addr} {o : Lo} {s : St} (w : World) (h : PWo w base d lb g pp F bA bc o s) (hI : ∀ j, j ≤ s.P.ks.length → Inv (cleanAll s (s.P.ks.take j))) :
    Calls Try.prog 24 #[.pointer (some ⟨pp, 0, none⟩)] w fun e w' => e = .returned (.int .i64 0) ∧ POn w w' base d lb g pp (FTo g pp F bA o s.P) o (allS s) := by
  have hlenk := h.ok.len
  have hmost := h.ok.most
  have hn64 : s.P.ks.length ≤ 64 := by omega
  have hkeys := Lib.hid h.key
  have hhx := Lib.hid h
  have hIx := Lib.hid hI
  clear hmost hlenk h hI
  go_enter Try.func24, Try.ntmps24
  go_wp2_with fail
  refine (list_calls w hhx.out.p (by omega)).mono ?_
  rintro e w1 ⟨A, c, rfl, hz, hb1⟩
  have h1 := hhx.out.later hb1
  have h1x := Lib.hid h1
  have hbw1 := hb1.size
  clear h1
  go_wp2_with fail
  go_loopw [4, 5, 12] (fun _ _ v12 wr => ∃ j : Nat, v12 = .int .i64 (j : Int) ∧ j ≤ s.P.ks.length ∧ POn w1 wr base d lb g pp (FTo g pp F bA o s.P) o (cleanAll s (s.P.ks.take j))) (fun _ _ v12 _ => s.P.ks.length - (intOf v12).toNat)
  case atStart => exact ⟨0, rfl, Nat.zero_le _, POn.mk h1x.out (Grew.refl _ _) (Mod.refl _ _)⟩
  case round =>
    obtain ⟨j, rfl, hj, F2, bA2, bc2, h2, hg2, hm2⟩ := hrel
    by_cases hlt : j < s.P.ks.length
    · obtain ⟨i, hi⟩ : ∃ x, s.P.ks.getD j 0 = x := ⟨_, rfl⟩
      obtain ⟨f, hf, hst⟩ := cleanAll_take s.P.ks s j hlt (fun k hk => (hkeys.out k).1 hk)
      rw [hi] at hf hst
      obtain ⟨gz, oz, rfl, hgz0, hgz, hcz⟩ := hz (by omega)
      have hci : wr.cell? ⟨gz, oz + j, none⟩ = some (.int .i64 i) := by
        rw [← hi]
        have hnf : ¬ FTo g pp F bA o s.P gz := fun hf => by have := (hhx.out.lts gz hf).2; omega
        exact (World.cell?_of_block (a := ⟨gz, oz + j, none⟩) (hm2.block gz hgz hnf)).trans (hcz j hlt)
      have hlti : (j : Int) < s.P.ks.length := by omega
      have hj0 : (0 : Int) ≤ j := by omega
      have hw63 : IntKind.i64.wrap ((j : Int) + 1) = (j : Int) + 1 := IntWalk.i64_in _ (by omega)
      have h2x := Lib.hid h2
      have hg2x := Lib.hid hg2
      have hm2x := Lib.hid hm2
      have hfx := Lib.hid hf
      have hstx := Lib.hid hst
      clear h2 hg2 hm2 hf hst hi hcz
      go_wp2_with fail
      refine (clean_calls i f wr h2x.out (hIx.out j hj) hfx.out).mono ?_
      rintro e w3 ⟨rfl, F3, bA3, bc3, h3, hg3, hm3⟩
      have hgo := go_on hg2x.out hm2x.out hm3 (fun k hk => hk) hg3
      have hgox := Lib.hid hgo
      have h3x := Lib.hid h3
      clear h3 hg3 hm3 hgo
      go_wp2
      go_roundw
      case rel => exact ⟨j + 1, by go_num, by omega, by (rw [hstx.out]; exact POn.mk h3x.out hgox.out.1 hgox.out.2)⟩
      case measure => simp [intOf]; omega
    · have hlti : ¬ ((j : Int) < s.P.ks.length) := by omega
      have hjl : j = s.P.ks.length := by omega
      rw [hjl, List.take_length] at h2 hg2
      have hIf := hIx.out s.P.ks.length (Nat.le_refl _)
      rw [List.take_length] at hIf
      have hall : allS s = if (cleanAll s s.P.ks).P.gs = [] then cleanAll s s.P.ks else ⟨wipeP (cleanAll s s.P.ks).P, syncD (cleanAll s s.P.ks).D, (cleanAll s s.P.ks).L⟩ := rfl
      have hallx := Lib.hid hall
      have hIfx := Lib.hid hIf
      clear hall hIf hjl
      generalize cleanAll s s.P.ks = t at *
      have k2 := h2.p.at_
      have hlen : ∀ ty, (Builtin.len_ #[109] ty #[.map (some o.gb)]).run Try.prog wr = .ok (.int .i64 t.P.gs.length) wr := fun ty => h2.p.gm.len Try.underlying109 ty
      have hg0 : Grew (FTo g pp F bA o s.P) (FTo g pp F2 bA2 o t.P) w.heap.size := fun k hk => (hg2 k hk).imp id (fun h => Nat.le_trans hbw1 h)
      have hm0 : Mod (FTo g pp F bA o s.P) w wr := (Mod.of_below hb1).trans hm2 (fun _ _ h => h)
      have h2x := Lib.hid h2
      have hg0x := Lib.hid hg0
      have hm0x := Lib.hid hm0
      clear h2 hg2 hm2 hg0 hm0
      have k2c := k2.c; have k2f := k2.f; have k2l := k2.lt
      by_cases he : t.P.gs.length = 0
      · have he0 : t.P.gs = [] := List.eq_nil_of_length_eq_zero he
        have he0x := Lib.hid he0
        clear he0
        go_wp2
        go_ret
        rw [hallx.out, if_pos he0x.out]
        exact ⟨by first | rfl | simp, POn.mk h2x.out hg0x.out hm0x.out⟩
      · have he0 : ¬ (t.P.gs = []) := fun e => he (by rw [e]; rfl)
        have heb : decide ((t.P.gs.length : Int) = 0) = false := by simp; omega
        have he0x := Lib.hid he0
        clear he0
        go_wp2_with fail
        refine (sy_dd2 wr h2x.out.d hIfx.out.q (by have := hIfx.out.ops; omega)).mono ?_
        rintro e w3 ⟨rfl, hdd, hm3⟩
        obtain ⟨F3, h3, hg3⟩ := h2x.out.dsk hdd hm3 (sync_len _)
        have hgo := go_on hg0x.out hm0x.out hm3 (fun k hk => .inl hk) hg3
        have k3 := h3.p.at_
        obtain ⟨w4, hrun, hmp, hturn⟩ := h3.p.gm.clear Try.underlying109
        have h3x := Lib.hid h3
        have hgox := Lib.hid hgo
        have hmpx := Lib.hid hmp
        have hturnx := Lib.hid hturn
        clear h3 hgo hg3 hm3 hdd hmp hturn k2 k2c k2f k2l
        have k3c := k3.c; have k3f := k3.f; have k3l := k3.lt
        go_wp2
        go_ret
        rw [hallx.out, if_neg he0x.out]
        obtain ⟨h5, hg5⟩ := h3x.out.setGn (turned_mod (S := fun k => k = o.gb) hturnx.out rfl) hmpx.out (fun k x h => by cases h)
        have hgo5 := go_on hgox.out.1 hgox.out.2 (turned_mod (S := fun k => k = o.gb) hturnx.out rfl) (fun k hk => hk ▸ .inr (.inr (.inr (.inr (.inl rfl))))) hg5
        exact ⟨by first | rfl | simp, POn.mk h5 hgo5.1 hgo5.2⟩
end Go.Proofs.Ytggeepihkeocmaa
/- PoolSteals, plain: what a law's pool keeps true while pages are stolen. -/
namespace Go.Proofs.Ytggeepihkeocmaa
set_option linter.unusedVariables false
set_option linter.unusedSimpArgs false
open Go.RowKit Go.Maps
theorem flR_o (L : Lg) (m : Nat) : ∀ (f j : Nat) (D : Dk), Qt D → (∀ i, idxL L i ≠ m) → readD (flR D L f j).1 m = readD D m
  | 0, _, _, _, _ => rfl
  | f + 1, j, D, hq, h => by
    unfold flR
    rw [if_pos hq.wrE, hq.wr1]
    rw [flR_o L m f (j + 1) _ (hq.wr _ _) h, readD_wr, if_neg (h _)]
theorem idx_low {L : Lg} (h : LgOk L) (h0 : L.pos = 0) (hc : L.count = 40) (i : Nat) : idxL L i < 41 := by
  unfold idxL
  rw [h0, hc]
  have := Int.emod_lt_of_pos (i : Int) (by omega : (0 : Int) < 40)
  have := Int.emod_nonneg (i : Int) (by omega : (40 : Int) ≠ 0)
  omega
/-- The log's Flush leaves the pages; it syncs where it writes. -/
theorem fl_page {D : Dk} {L : Lg} (hq : Qt D) (hok : LgOk L) (h0 : L.pos = 0) (hc : L.count = 40) (m : Nat) (hm : 41 ≤ m) (hl : m < D.l.length) : readD (flD D L) m = readD D m ∧ (L.sure ≠ endL L → D.ops < (flD D L).ops ∧ (flD D L).l.getD m [] = readD D m ∧ (flD D L).way = []) := by
  obtain ⟨h1, h2, h3, h4, -⟩ := flR_q L (nparts L) 0 D hq
  have hr : readD (fl1D D L) m = readD D m := flR_o L m (nparts L) 0 D hq (fun i => by have := idx_low hok h0 hc i; omega)
  have hl1 : m < (fl1D D L).l.length := by show m < (flR D L (nparts L) 0).1.l.length; rw [h3]; exact hl
  unfold flD
  by_cases hs : L.sure = endL L
  · rw [if_pos hs]; exact ⟨rfl, fun h => absurd hs h⟩
  · rw [if_neg hs, if_pos (show fl1E D L = 0 from h2), (show Qt (fl1D D L) from h1).sy1]
    refine ⟨(readD_sync m hl1).trans hr, fun _ => ⟨?_, ?_, rfl⟩⟩
    · show D.ops < (fl1D D L).ops + 1
      have : (fl1D D L).ops = _ := h4
      omega
    · show (setTo (fl1D D L) (fun _ => true) (fl1D D L).way.length).getD m [] = _
      rw [setTo_read m hl1]
      exact hr
def pgI (k : Int) : Nat := (41 + k).toNat
def cont (s : St) (k : Int) : List Int := match s.P.fr k with | some f => f.p | none => readD s.D (pgI k)
structure Sv (s : St) (last : Int → Int) (pn : Int) : Prop where
  pg : s.P.pages = 9
  at_ : s.P.at_ = 41
  ms : 2 ≤ s.P.most
  dn : s.D.l.length = 50
  inv : Inv s
  ll : s.L.pos = 0 ∧ s.L.count = 40 ∧ s.L.held = 0 ∧ s.L.start = 480
  rng : ∀ k f, s.P.fr k = some f → 0 ≤ k ∧ k < 9
  cl : ∀ k f, s.P.fr k = some f → f.dirty = false → f.p = readD s.D (pgI k)
  gn : ∀ k, 0 ≤ k → k < 9 → s.P.gone k = none → s.D.l.getD (pgI k) [] = readD s.D (pgI k)
  dl : ∀ k, 0 ≤ k → k < 9 → num ((readD s.D (pgI k)).take 8) < s.L.sure
  fl : ∀ k f, s.P.fr k = some f → lsnP f < endL s.L
  val : ∀ k, 0 ≤ k → k < 9 → (cont s k).getD 11 0 = last k
  pin : 0 ≤ pn → ∃ f, s.P.fr pn = some f ∧ f.pins = 1
  unp : ∀ k f, s.P.fr k = some f → k ≠ pn → f.pins = 0
theorem pgI_lt {k : Int} (h0 : 0 ≤ k) (h1 : k < 9) : 41 ≤ pgI k ∧ pgI k < 50 := by unfold pgI; omega
theorem pgI_inj {j k : Int} (h0 : 0 ≤ k) (h1 : 0 ≤ j) (h : pgI j = pgI k) : j = k := by unfold pgI at h; omega
theorem nparts_le {L : Lg} (h : LgI L) (h0 : 480 ≤ L.sure) (he : endL L ≤ 1000) : nparts L ≤ 2 := by
  have h1 := h.mul; have h2 := h.lo; have h3 := h.hi; have h4 := h.ok.base
  have he2 : endL L = L.base + L.buf.length := rfl
  unfold nparts
  omega
/-- The pool's inner flush. -/
theorem Sv.flush {s : St} {last : Int → Int} {pn : Int} (h : Sv s last pn) (hne : s.L.sure ≠ endL s.L) (hb : 480 ≤ s.L.sure) (he : endL s.L ≤ 1000) (ho : s.D.ops + 10 ≤ 500000) (hw : s.D.way.length ≤ 400000) :
    Sv (flushS s) last pn ∧ (flushS s).L.sure = endL s.L ∧ endL (flushS s).L = endL s.L ∧ (flushS s).D.ops ≤ s.D.ops + 3 ∧ (flushS s).D.way = [] ∧ (flushS s).P.fr = s.P.fr ∧ (flushS s).P.ks = s.P.ks ∧ (∀ k, (flushS s).P.gone k = none) := by
  obtain ⟨hE, hQ, hlen, hop1, hop2, hway, hZ⟩ := fl_q s.L h.inv.q
  rw [if_neg hne] at hZ
  have hpage := fun k h0 h1 => fl_page h.inv.q h.inv.li.ok h.ll.1 h.ll.2.1 (pgI k) (pgI_lt (k := k) h0 h1).1 (by rw [h.dn]; exact (pgI_lt h0 h1).2)
  have hops : s.D.ops < (flD s.D s.L).ops := ((hpage 0 (by omega) (by omega)).2 hne).1
  have hP : flushS s = ⟨wipeP s.P, flD s.D s.L, flL s.L⟩ := by unfold flushS; rw [if_pos hops, hZ]
  have hnp := nparts_le h.inv.li hb he
  have hen := flL_end h.inv.li
  have hli := fl_ok h.inv.li h.inv.en
  have hwy : (flD s.D s.L).way = [] := ((hpage 0 (by omega) (by omega)).2 hne).2.2
  have hcont : ∀ k, 0 ≤ k → k < 9 → cont ⟨wipeP s.P, flD s.D s.L, flL s.L⟩ k = cont s k := fun k h0 h1 => by
    unfold cont
    show (match s.P.fr k with | some f => f.p | none => readD (flD s.D s.L) (pgI k)) = _
    cases s.P.fr k with
    | some f => rfl
    | none => exact (hpage k h0 h1).1
  rw [hP]
  refine ⟨⟨h.pg, h.at_, h.ms, hlen.trans h.dn, ⟨hli, hQ, by rw [show (⟨wipeP s.P, flD s.D s.L, flL s.L⟩ : St).D.l.length = s.D.l.length from hlen]; exact h.inv.len, by show endL (flL s.L) ≤ _; rw [hen]; exact h.inv.en, by show (flD s.D s.L).ops ≤ _; omega, by show (flD s.D s.L).way.length ≤ _; rw [hwy]; simp⟩, h.ll, h.rng, fun k f hf hd => ?_, fun k h0 h1 _ => ?_, fun k h0 h1 => ?_, fun k f hf => ?_, fun k h0 h1 => ?_, h.pin, h.unp⟩, rfl, hen, by show (flD s.D s.L).ops ≤ _; omega, hwy, rfl, rfl, fun _ => rfl⟩
  · have := h.rng k f hf
    show f.p = readD (flD s.D s.L) (pgI k)
    rw [(hpage k this.1 this.2).1]; exact h.cl k f hf hd
  · show (flD s.D s.L).l.getD (pgI k) [] = readD (flD s.D s.L) (pgI k)
    rw [(hpage k h0 h1).1]; exact ((hpage k h0 h1).2 hne).2.1
  · show num ((readD (flD s.D s.L) (pgI k)).take 8) < endL s.L
    rw [(hpage k h0 h1).1]
    have := h.dl k h0 h1
    have := h.inv.li.ok.sure
    omega
  · show lsnP f < endL (flL s.L)
    rw [hen]; exact h.fl k f hf
  · rw [hcont k h0 h1]; exact h.val k h0 h1
end Go.Proofs.Ytggeepihkeocmaa
/- PoolSteals, plain: clean, evict, get, write, append. -/
namespace Go.Proofs.Ytggeepihkeocmaa
set_option linter.unusedVariables false
set_option linter.unusedSimpArgs false
open Go.RowKit Go.Maps
/-- How far a call goes. -/
structure Near (s t : St) : Prop where
  ops : t.D.ops ≤ s.D.ops + 4
  way : t.D.way.length ≤ s.D.way.length + 4
  en : endL t.L = endL s.L
  su : s.L.sure ≤ t.L.sure
structure Fits (s : St) : Prop where
  b : 480 ≤ s.L.sure
  e : endL s.L ≤ 1000
  o : s.D.ops ≤ 300000
  w : s.D.way.length ≤ 300000
theorem setGone_fr (P : Pl) (k x : Int) : (setGone P k x).fr = P.fr ∧ (setGone P k x).ks = P.ks ∧ (setGone P k x).pages = P.pages ∧ (setGone P k x).at_ = P.at_ ∧ (setGone P k x).most = P.most ∧ (setGone P k x).gone k ≠ none ∧ ∀ j, j ≠ k → (setGone P k x).gone j = P.gone j := by
  unfold setGone
  by_cases h : (P.gone k).isSome = true
  · rw [if_pos h]; exact ⟨rfl, rfl, rfl, rfl, rfl, (fun e => by rw [e] at h; cases h), fun _ _ => rfl⟩
  · rw [if_neg h]
    exact ⟨rfl, rfl, rfl, rfl, rfl, (fun e => by
      have h2 : updM P.gone k (some x) k = none := e
      rw [upd_same] at h2
      cases h2), fun j hj => upd_ne _ _ hj⟩
def offF (f : Fr) : Fr := { f with dirty := false }
theorem Sv.core {t : St} {last : Int → Int} {pn i : Int} {f : Fr} (h : Sv t last pn) (hf : t.P.fr i = some f) (hl : lsnP f < t.L.sure) (ho : t.D.ops + 1 ≤ 500000) (hw : t.D.way.length + 1 ≤ 500000) :
    Sv ⟨setGone (setFr t.P i (offF f)) i f.since, wrD t.D (pgI i) f.p, t.L⟩ last pn := by
  obtain ⟨hi0, hi1⟩ := h.rng i f hf
  obtain ⟨g1, g2, g3, g4, g5, g6, g7⟩ := setGone_fr (setFr t.P i (offF f)) i f.since
  have hfr : ∀ k, (setGone (setFr t.P i (offF f)) i f.since).fr k = if k = i then some (offF f) else t.P.fr k := fun k => by rw [g1] <;> rfl
  have hrd : ∀ k, 0 ≤ k → readD (wrD t.D (pgI i) f.p) (pgI k) = if k = i then f.p else readD t.D (pgI k) := fun k hk => by
    rw [readD_wr]
    by_cases e : k = i
    · subst e; rw [if_pos rfl, if_pos rfl]
    · rw [if_neg (fun h => e (pgI_inj hi0 hk h.symm)), if_neg e]
  have hsub : ∀ k x, (setGone (setFr t.P i (offF f)) i f.since).fr k = some x → (k = i ∧ x = offF f) ∨ (k ≠ i ∧ t.P.fr k = some x) := fun k x hx => by
    rw [hfr] at hx
    by_cases e : k = i
    · rw [if_pos e] at hx; injection hx with hx; exact .inl ⟨e, hx.symm⟩
    · rw [if_neg e] at hx; exact .inr ⟨e, hx⟩
  refine ⟨g3.trans h.pg, g4.trans h.at_, by show 2 ≤ (setGone _ _ _).most; rw [g5]; exact h.ms, h.dn, ⟨h.inv.li, h.inv.q.wr _ _, h.inv.len, h.inv.en, by show t.D.ops + 1 ≤ _; omega, by show (t.D.way ++ [_]).length ≤ _; rw [List.length_append]; show t.D.way.length + 1 ≤ _; omega⟩, h.ll, fun k x hx => ?_, fun k x hx hd => ?_, fun k h0 h1 hg => ?_, fun k h0 h1 => ?_, fun k x hx => ?_, fun k h0 h1 => ?_, ?_, fun k x hx hk => ?_⟩
  · rcases hsub k x hx with ⟨e, -⟩ | ⟨-, hx⟩
    · rw [e]; exact ⟨hi0, hi1⟩
    · exact h.rng k x hx
  · show x.p = readD (wrD t.D (pgI i) f.p) (pgI k)
    rcases hsub k x hx with ⟨e, e2⟩ | ⟨e, hx⟩
    · rw [e, hrd i hi0, if_pos rfl, e2] <;> rfl
    · rw [hrd k (h.rng k x hx).1, if_neg e]; exact h.cl k x hx hd
  · have hki : k ≠ i := fun e => g6 (e ▸ hg)
    show t.D.l.getD (pgI k) [] = readD (wrD t.D (pgI i) f.p) (pgI k)
    rw [hrd k h0, if_neg hki]
    exact h.gn k h0 h1 ((g7 k hki).symm.trans hg)
  · show num ((readD (wrD t.D (pgI i) f.p) (pgI k)).take 8) < t.L.sure
    rw [hrd k h0]
    by_cases e : k = i
    · rw [if_pos e]; exact hl
    · rw [if_neg e]; exact h.dl k h0 h1
  · rcases hsub k x hx with ⟨e, e2⟩ | ⟨e, hx⟩
    · rw [e2]; exact h.fl i f hf
    · exact h.fl k x hx
  · rw [← h.val k h0 h1]
    congr 1
    unfold cont
    show (match (setGone (setFr t.P i (offF f)) i f.since).fr k with | some f => f.p | none => readD (wrD t.D (pgI i) f.p) (pgI k)) = _
    rw [hfr, hrd k h0]
    by_cases e : k = i
    · rw [if_pos e, if_pos e, e, hf] <;> rfl
    · rw [if_neg e, if_neg e] <;> rfl
  · intro hp0
    obtain ⟨fp, hp1, hp2⟩ := h.pin hp0
    by_cases e : pn = i
    · rw [e] at hp1
      have : fp = f := by rw [hf] at hp1; injection hp1 with hp1; exact hp1.symm
      exact ⟨offF f, by show (setGone _ _ _).fr pn = _; rw [hfr, if_pos e], by rw [← this]; exact hp2⟩
    · exact ⟨fp, by show (setGone _ _ _).fr pn = _; rw [hfr, if_neg e]; exact hp1, hp2⟩
  · rcases hsub k x hx with ⟨e, e2⟩ | ⟨e, hx⟩
    · rw [e2]; exact h.unp i f hf (e ▸ hk)
    · exact h.unp k x hx hk
theorem Sv.clean {s : St} {last : Int → Int} {pn i : Int} {f : Fr} (h : Sv s last pn) (hF : Fits s) (hf : s.P.fr i = some f) :
    Sv (cleanS s i f) last pn ∧ Near s (cleanS s i f) ∧ (cleanS s i f).P.fr i = some (offF f) ∧ (∀ k, k ≠ i → (cleanS s i f).P.fr k = s.P.fr k) := by
  obtain ⟨hb, he, ho, hw⟩ := hF
  have hcore : ∀ t : St, Sv t last pn → t.P.fr = s.P.fr → t.P.at_ = 41 → lsnP f < t.L.sure → t.D.ops + 1 ≤ 500000 → t.D.way.length + 1 ≤ 500000 → t.D.ops ≤ s.D.ops + 3 → t.D.way.length ≤ s.D.way.length + 3 → endL t.L = endL s.L → s.L.sure ≤ t.L.sure →
      Sv ⟨setGone (setFr t.P i { f with dirty := false }) i f.since, wrD t.D (t.P.at_ + i).toNat f.p, t.L⟩ last pn ∧ Near s ⟨setGone (setFr t.P i { f with dirty := false }) i f.since, wrD t.D (t.P.at_ + i).toNat f.p, t.L⟩ ∧ (setGone (setFr t.P i { f with dirty := false }) i f.since).fr i = some (offF f) ∧ (∀ k, k ≠ i → (setGone (setFr t.P i { f with dirty := false }) i f.since).fr k = s.P.fr k) := fun t ht e1 e2 e3 e4 e5 e6 e7 e8 e9 => by
    have hf2 : t.P.fr i = some f := by rw [e1]; exact hf
    have hc := ht.core hf2 e3 e4 e5
    have ep : (t.P.at_ + i).toNat = pgI i := by rw [e2] <;> rfl
    obtain ⟨g1, -⟩ := setGone_fr (setFr t.P i (offF f)) i f.since
    rw [ep]
    refine ⟨hc, ⟨by show t.D.ops + 1 ≤ _; omega, by show (t.D.way ++ [_]).length ≤ _; rw [List.length_append]; show t.D.way.length + 1 ≤ _; omega, e8, e9⟩, ?_, fun k hk => ?_⟩
    · show (setGone (setFr t.P i (offF f)) i f.since).fr i = _
      rw [g1]; exact setFr_fr _ _ _
    · show (setGone (setFr t.P i (offF f)) i f.since).fr k = _
      rw [g1, setFr_ne _ _ hk, e1]
  unfold cleanS
  by_cases hd : f.dirty = true
  · rw [if_pos hd]
    by_cases hl : lsnP f < s.L.sure
    · simp only [if_pos hl]
      exact hcore s h rfl h.at_ hl (by omega) (by omega) (by omega) (by omega) rfl (Int.le_refl _)
    · simp only [if_neg hl]
      have hfl := h.fl i f hf
      have hne : s.L.sure ≠ endL s.L := by omega
      obtain ⟨f1, f2, f3, f4, f5, f6, f7, f8⟩ := h.flush hne hb he (by omega) (by omega)
      have hso := h.inv.li.ok.sure
      exact hcore (flushS s) f1 f6 f1.at_ (by rw [f2]; exact hfl) (by omega) (by rw [f5]; simp) f4 (by rw [f5]; simp) f3 (by rw [f2]; exact hso)
  · rw [if_neg hd]
    have hdf : f.dirty = false := by simpa using hd
    have eo : offF f = f := by unfold offF; cases f; simp at hdf; subst hdf; rfl
    exact ⟨h, ⟨by omega, by omega, rfl, Int.le_refl _⟩, by rw [eo]; exact hf, fun _ _ => rfl⟩
/-- A page goes. -/
theorem Sv.del {s : St} {last : Int → Int} {pn i : Int} {f : Fr} (h : Sv s last pn) (hf : s.P.fr i = some f) (hd : f.dirty = false) (hp : f.pins = 0) : Sv ⟨delFr s.P i, s.D, s.L⟩ last pn := by
  have hfr : ∀ k, (delFr s.P i).fr k = if k = i then none else s.P.fr k := fun _ => rfl
  have hsub : ∀ k x, (delFr s.P i).fr k = some x → k ≠ i ∧ s.P.fr k = some x := fun k x hx => by
    rw [hfr] at hx
    by_cases e : k = i
    · rw [if_pos e] at hx; cases hx
    · rw [if_neg e] at hx; exact ⟨e, hx⟩
  refine ⟨h.pg, h.at_, h.ms, h.dn, h.inv.same rfl rfl, h.ll, fun k x hx => h.rng k x (hsub k x hx).2, fun k x hx => h.cl k x (hsub k x hx).2, h.gn, h.dl, fun k x hx => h.fl k x (hsub k x hx).2, fun k h0 h1 => ?_, ?_, fun k x hx => h.unp k x (hsub k x hx).2⟩
  · rw [← h.val k h0 h1]
    congr 1
    unfold cont
    show (match (delFr s.P i).fr k with | some f => f.p | none => readD s.D (pgI k)) = _
    rw [hfr]
    by_cases e : k = i
    · rw [if_pos e, e, hf]; exact (h.cl i f hf hd).symm
    · rw [if_neg e] <;> rfl
  · intro hp0
    obtain ⟨fp, hp1, hp2⟩ := h.pin hp0
    have e : pn ≠ i := fun e => by
      rw [e, hf] at hp1
      injection hp1 with hp1
      rw [← hp1, hp] at hp2; exact absurd hp2 (by decide)
    exact ⟨fp, by show (delFr s.P i).fr pn = _; rw [hfr, if_neg e]; exact hp1, hp2⟩
theorem Sv.tick {s : St} {last : Int → Int} {pn : Int} (h : Sv s last pn) : Sv ⟨tickP s.P, s.D, s.L⟩ last pn :=
  ⟨h.pg, h.at_, h.ms, h.dn, h.inv.same rfl rfl, h.ll, h.rng, h.cl, h.gn, h.dl, h.fl, h.val, h.pin, h.unp⟩
/-- A page comes. -/
theorem Sv.add {s : St} {last : Int → Int} {pn i : Int} (h : Sv s last pn) (hi : 0 ≤ i ∧ i < 9) (hn : s.P.fr i = none) : Sv (addFr s i) last pn := by
  have hfr : ∀ k, (addFr s i).P.fr k = if k = i then some (newFr s i) else s.P.fr k := fun _ => rfl
  have hpI : (newFr s i).p = readD s.D (pgI i) := by show readD s.D (s.P.at_ + i).toNat = _; rw [h.at_] <;> rfl
  have hsub : ∀ k x, (addFr s i).P.fr k = some x → (k = i ∧ x = newFr s i) ∨ (k ≠ i ∧ s.P.fr k = some x) := fun k x hx => by
    rw [hfr] at hx
    by_cases e : k = i
    · rw [if_pos e] at hx; injection hx with hx; exact .inl ⟨e, hx.symm⟩
    · rw [if_neg e] at hx; exact .inr ⟨e, hx⟩
  have hso := h.inv.li.ok.sure
  have hdl := h.dl i hi.1 hi.2
  refine ⟨h.pg, h.at_, h.ms, h.dn, h.inv.same rfl rfl, h.ll, fun k x hx => ?_, fun k x hx hd => ?_, h.gn, h.dl, fun k x hx => ?_, fun k h0 h1 => ?_, ?_, fun k x hx hk => ?_⟩
  · rcases hsub k x hx with ⟨e, -⟩ | ⟨-, hx⟩
    · rw [e]; exact hi
    · exact h.rng k x hx
  · rcases hsub k x hx with ⟨e, e2⟩ | ⟨-, hx⟩
    · rw [e, e2, hpI] <;> rfl
    · exact h.cl k x hx hd
  · rcases hsub k x hx with ⟨e, e2⟩ | ⟨-, hx⟩
    · show num (x.p.take 8) < endL s.L
      rw [e2, hpI]; omega
    · exact h.fl k x hx
  · rw [← h.val k h0 h1]
    congr 1
    unfold cont
    rw [hfr]
    by_cases e : k = i
    · rw [if_pos e, e, hn]; exact hpI
    · rw [if_neg e] <;> rfl
  · intro hp0
    obtain ⟨fp, hp1, hp2⟩ := h.pin hp0
    have e : pn ≠ i := fun e => by rw [e, hn] at hp1; cases hp1
    exact ⟨fp, by rw [hfr, if_neg e]; exact hp1, hp2⟩
  · rcases hsub k x hx with ⟨e, e2⟩ | ⟨-, hx⟩
    · rw [e2] <;> rfl
    · exact h.unp k x hx hk
end Go.Proofs.Ytggeepihkeocmaa
