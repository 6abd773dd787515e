/- Joined texts: LogRa, LogRb. -/
import Derived.Test.YtnehppeoffemlaaJLogRings35
import Derived.Test.YtnehppeoffemlaaJLogRings36
/- The ring of sectors (plain): behind Mark, behind Append and Flush. -/
namespace Go.Proofs.Ytnehppeoffemlaa
set_option linter.unusedVariables false
set_option linter.unusedSimpArgs false
open Go.RowKit
theorem mark_ring {D : Dk} {L : Lg} {B : List Int} {ep : Nat → Int} (h : Ring D L B ep) {ck st : Int} (h1 : L.start ≤ st) (h2 : st ≤ L.sure) (h3 : 0 ≤ ck) (h4 : ck ≤ L.sure) (hlow : st < 1099511627776) :
    Ring (syncD (wrD D L.pos.toNat (masterL (markL L ck st)))) (markL L ck st) (B.drop (org (markL L ck st) - org L).toNat) ep := by
  have hI := mark_ok h.i h1 h2 h3 h4
  have a1 := h.i.ok.start; have a2 := h.i.ok.pos; have a3 := h.i.ok.count
  have hlen := h.len
  have hbl := h.blen
  have hsu := h.sure
  have ho : org L = L.start / 480 * 480 := rfl
  have ho2 : org (markL L ck st) = st / 480 * 480 := rfl
  have hen : endL (markL L ck st) = endL L := rfl
  obtain ⟨y, hy⟩ : ∃ y, (org (markL L ck st) - org L).toNat = y := ⟨_, rfl⟩
  have hrd : ∀ j : Nat, readD (syncD (wrD D L.pos.toNat (masterL (markL L ck st)))) (idxL L j) = readD D (idxL L j) := fun j => by
    rw [readD_mk _ _ _ (idx_lt h.i.ok hlen j), if_neg (idx_pos h.i.ok j)]
  rw [hy]
  refine ⟨hI, hlow, by rw [sync_len]; exact hlen, ?_, h.byt.drop _, ?_, h.epm, h.ep0, ?_, ?_, h.sure, h.base, ?_, ?_⟩
  · rw [List.length_drop, hen, ho2]; omega
  · intro j hj1 hj2
    rw [hen] at hj2
    show readD _ (idxL L j) = _
    rw [hrd, h.sec j (by omega) hj2, List.drop_drop]
    congr 3
    omega
  · intro j hj e
    show ¬ SecYes (readD _ (idxL L j)) j e
    rw [hrd]; exact h.fresh j hj e
  · intro j hj
    have := h.last j hj
    show (∀ e, ¬ SecYes (readD _ (idxL L j)) j e) ∨ ∃ e, (0 ≤ e ∧ e < 18446744073709551616) ∧ readD _ (idxL L j) = _
    rw [hrd]; exact this
  · show L.buf = (B.drop y).drop (L.base - org (markL L ck st)).toNat
    have hb := h.base
    rw [h.buf, List.drop_drop]
    congr 1
    omega
  · show readD _ L.pos.toNat = _
    rw [readD_mk _ _ _ (by omega), if_pos rfl]
theorem flR_len (L : Lg) : ∀ (f j : Nat) (D : Dk), (flR D L f j).1.l.length = D.l.length
  | 0, _, _ => rfl
  | f + 1, j, D => by
    unfold flR
    by_cases h : wr1E D = 0
    · rw [if_pos h, flR_len L f (j + 1), wr1_len]
    · rw [if_neg h]; exact wr1_len _ _ _
theorem flR_out (L : Lg) (m : Nat) : ∀ (f j : Nat) (D : Dk), Qt D → (∀ i, j ≤ i → i < j + f → idxL L (numL L i) ≠ m) → readD (flR D L f j).1 m = readD D m
  | 0, _, _, _, _ => rfl
  | f + 1, j, D, hq, h => by
    unfold flR
    rw [if_pos hq.wrE, hq.wr1]
    rw [flR_out L m f (j + 1) _ (hq.wr _ _) (fun i h1 h2 => h i (by omega) (by omega)), readD_wr, if_neg (h j (Nat.le_refl _) (by omega))]
theorem flR_in {L : Lg} (hok : LgOk L) : ∀ (f j : Nat) (D : Dk), Qt D → (f : Int) ≤ L.count → ∀ i, j ≤ i → i < j + f → readD (flR D L f j).1 (idxL L (numL L i)) = layL (numL L i : Nat) L.epoch (partL L i)
  | 0, _, _, _, _, _, _, _ => by omega
  | f + 1, j, D, hq, hf, i, h1, h2 => by
    unfold flR
    rw [if_pos hq.wrE, hq.wr1]
    by_cases hij : i = j
    · subst hij
      rw [flR_out L _ f (i + 1) _ (hq.wr _ _) (fun i' h3 h4 => idx_ne hok (by unfold numL; omega) (by unfold numL; omega) (by unfold numL; omega)), readD_wr, if_pos rfl]
    · exact flR_in hok f (j + 1) _ (hq.wr _ _) (by omega) i (by omega) (by omega)
/-- The log behind Append and Flush, the disk, the epochs. -/
def apL (L : Lg) (p : List Int) : Lg := flL (appL L 0 p)
def apD (D : Dk) (L : Lg) (p : List Int) : Dk := flD D (appL L 0 p)
def apE (L : Lg) (ep : Nat → Int) (j : Nat) : Int := if L.base ≤ 480 * (j : Int) then L.epoch else ep j
theorem apD_eq {D : Dk} {L : Lg} {p : List Int} (hq : Qt D) (hne : L.sure < endL (appL L 0 p)) : apD D L p = syncD (flR D (appL L 0 p) (nparts (appL L 0 p)) 0).1 ∧ Qt (apD D L p) ∧ flZ D (appL L 0 p) = apL L p := by
  have h1 := flR_qt (appL L 0 p) (nparts (appL L 0 p)) 0 D hq
  have hs : ¬ ((appL L 0 p).sure = endL (appL L 0 p)) := by show ¬ (L.sure = _); omega
  have e : apD D L p = syncD (flR D (appL L 0 p) (nparts (appL L 0 p)) 0).1 := by
    unfold apD flD
    rw [if_neg hs, if_pos (show fl1E D (appL L 0 p) = 0 from h1.2), (show Qt (fl1D D (appL L 0 p)) from h1.1).sy1]
    rfl
  refine ⟨e, by rw [e]; exact h1.1.sy, ?_⟩
  unfold flZ
  rw [if_neg hs, if_pos (flE_qt _ hq)]
  rfl
theorem ap_ring {D : Dk} {L : Lg} {B : List Int} {ep : Nat → Int} {p : List Int} (h : Ring D L B ep) (hq : Qt D) (hp0 : 1 ≤ p.length) (hpb : Byt p) (hpl : p.length ≤ 1200) (hf : (p.length : Int) + 2 ≤ roomL L) (he : endL L + 2000 < 1099511627776) :
    Ring (apD D L p) (apL L p) (B ++ two2 p.length ++ p) (apE L ep) := by
  have hA := app_ok (hold := 0) (p := p) h.i (by omega) (by omega)
  have he1 := appL_end L 0 p
  have hb1 := appL_buf L 0 p
  have h1 := h.i.ok.epoch; have h2 := h.i.ok.start; have h4 := h.i.ok.sure; have h5 := end_i h.i.ok; have h6 := h.i.ok.count; have h7 := hA.2.ok.held; have h8 := hA.2.ok.room
  have hI2 := fl_ok hA.2 (by omega)
  have hsu := h.sure
  have hb := h.base
  have hbl := h.blen
  have hlen := h.len
  have ho : org L = L.start / 480 * 480 := rfl
  have hor : org (apL L p) = org L := rfl
  have hen : endL (apL L p) = endL (appL L 0 p) := flL_end hA.2
  obtain ⟨hDe, hqe, -⟩ := apD_eq (D := D) (p := p) hq (show L.sure < endL (appL L 0 p) by omega)
  have hee : endL L = L.base + L.buf.length := rfl
  obtain ⟨kb, hkb⟩ : ∃ kb, (L.base / 480).toNat = kb := ⟨_, rfl⟩
  have hkb2 : L.base = 480 * (kb : Int) := by omega
  obtain ⟨N, hN⟩ : ∃ N, nparts (appL L 0 p) = N := ⟨_, rfl⟩
  have hN2 : N = (L.buf.length + 2 + p.length + 479) / 480 := by rw [← hN, ← hb1]; rfl
  have h8' : endL (appL L 0 p) + (appL L 0 p).held ≤ (L.start / 480 + L.count) * 480 := h8
  have hNc : (N : Int) ≤ (appL L 0 p).count := by show (N : Int) ≤ L.count; omega
  have hnum : ∀ i, numL (appL L 0 p) i = kb + i := fun i => by unfold numL; show (L.base / 480).toNat + i = _; rw [hkb]
  have hidx : ∀ j, idxL (appL L 0 p) j = idxL L j := fun _ => rfl
  have hin : ∀ i, i < N → readD (apD D L p) (idxL L (kb + i)) = layL ((kb + i : Nat) : Int) L.epoch (partL (appL L 0 p) i) := fun i hi => by
    have := flR_in hA.2.ok N 0 D hq hNc i (Nat.zero_le _) (by omega)
    rw [hnum, hidx] at this
    rw [hDe, hN, readD_sync _ (by rw [flR_len]; exact idx_lt h.i.ok hlen _)]
    exact this
  have hout : ∀ m, m < D.l.length → (∀ i, i < N → idxL L (kb + i) ≠ m) → readD (apD D L p) m = readD D m := fun m hm hne => by
    rw [hDe, hN, readD_sync _ (by rw [flR_len]; exact hm), flR_out _ m N 0 D hq (fun i _ hi => by rw [hnum, hidx]; exact hne i (by omega))]
  obtain ⟨x, hx⟩ : ∃ x, (L.base - org L).toNat = x := ⟨_, rfl⟩
  have hbufB : (appL L 0 p).buf = (B ++ two2 p.length ++ p).drop x := by
    show L.buf ++ two2 p.length ++ p = _
    rw [h.buf, hx, List.append_assoc, List.append_assoc, List.drop_append_of_le_length (by omega)]
  have hB1l : (B ++ two2 p.length ++ p).length = B.length + 2 + p.length := by rw [List.length_append, List.length_append]; rfl
  have htwo : Byt (two2 p.length) := Byt.cons (by omega) (by omega) (Byt.cons (by omega) (by omega) Byt.nil)
  refine ⟨hI2, h.low, ?_, ?_, (h.byt.app htwo).app hpb, ?_, ?_, ?_, ?_, ?_, ?_, ?_, ?_, ?_⟩
  · rw [hDe, sync_len, flR_len]; exact hlen
  · rw [hB1l, hen, hor]; omega
  · intro j hj1 hj2
    rw [hen] at hj2
    rw [hor] at hj1 ⊢
    show readD (apD D L p) (idxL L j) = _
    by_cases hjk : kb ≤ j
    · obtain ⟨i, rfl⟩ : ∃ i, j = kb + i := ⟨j - kb, by omega⟩
      rw [hin i (by omega)]
      have e : apE L ep (kb + i) = L.epoch := by unfold apE; rw [if_pos (by omega)]
      rw [e]
      congr 1
      unfold partL
      rw [hbufB, List.drop_take, List.drop_drop, show 480 * i + 480 - 480 * i = 480 by omega]
      congr 2
      omega
    · rw [hout _ (idx_lt h.i.ok hlen j) (fun i hi => idx_ne h.i.ok (by omega) (by omega) (by omega)), h.sec j hj1 (by omega)]
      have e : apE L ep j = ep j := by unfold apE; rw [if_neg (by omega)]
      rw [e]
      congr 1
      rw [List.append_assoc, List.drop_append_of_le_length (by omega), List.take_append_of_le_length (by rw [List.length_drop]; omega)]
  · intro i j hij
    have a1 := h.epm i j hij; have a2 := (h.ep0 i).2; have a3 := (h.ep0 j).2
    unfold apE
    by_cases c1 : L.base ≤ 480 * (i : Int)
    · rw [if_pos c1, if_pos (by omega)]; omega
    · rw [if_neg c1]
      by_cases c2 : L.base ≤ 480 * (j : Int)
      · rw [if_pos c2]; omega
      · rw [if_neg c2]; exact a1
  · intro j
    have a2 := h.ep0 j
    show 0 ≤ apE L ep j ∧ apE L ep j ≤ L.epoch
    unfold apE
    by_cases c2 : L.base ≤ 480 * (j : Int)
    · rw [if_pos c2]; omega
    · rw [if_neg c2]; omega
  · intro j hj e
    rw [hen] at hj
    show ¬ SecYes (readD (apD D L p) (idxL L j)) j e
    by_cases c : ∃ i, i < N ∧ idxL L (kb + i) = idxL L j
    · obtain ⟨i, hi, hc⟩ := c
      rw [← hc, hin i hi]
      exact lay_no (by omega) (by omega) e
    · rw [hout _ (idx_lt h.i.ok hlen j) (fun i hi hc => c ⟨i, hi, hc⟩)]
      exact h.fresh j (by omega) e
  · intro j hj
    rw [hen] at hj
    left
    intro e
    show ¬ SecYes (readD (apD D L p) (idxL L j)) j e
    by_cases c : ∃ i, i < N ∧ idxL L (kb + i) = idxL L j
    · obtain ⟨i, hi, hc⟩ := c
      rw [← hc, hin i hi]
      exact lay_no (by omega) (by omega) e
    · rw [hout _ (idx_lt h.i.ok hlen j) (fun i hi hc => c ⟨i, hi, hc⟩)]
      exact h.fresh j (by omega) e
  · show endL (appL L 0 p) = endL (apL L p)
    rw [hen]
  · show endL (appL L 0 p) / 480 * 480 = endL (apL L p) / 480 * 480
    rw [hen]
  · show (appL L 0 p).buf.drop (endL (appL L 0 p) / 480 * 480 - L.base).toNat = (B ++ two2 p.length ++ p).drop (endL (appL L 0 p) / 480 * 480 - org L).toNat
    rw [hbufB, List.drop_drop]
    congr 1
    omega
  · show readD (apD D L p) L.pos.toNat = masterL L
    rw [hout _ (by have := h.i.ok.pos; omega) (fun i hi hc => idx_pos h.i.ok _ hc.symm)]
    exact h.mas
end Go.Proofs.Ytnehppeoffemlaa
/- LogRings: the law's model: room, same. -/
namespace Go.Proofs.Ytnehppeoffemlaa
set_option linter.unusedVariables false
set_option linter.unusedSimpArgs false
open Go.RowKit
/-- The model tells what the log does; its records lie at lA. -/
def MdAt (w : World) (m : Nat) (lA : Option Addr) (ln lc : Nat) (L : Lg) : Prop := At w m #[.slice lA ln lc, .int .u64 (endL L), .int .u64 L.sure, .int .u64 L.start, .int .u64 L.check, .int .i64 L.held, .int .i64 L.count] 41
theorem MdAt.drewN {w : World} {m ln lc : Nat} {lA : Option Addr} {L : Lg} (h : MdAt w m lA ln lc L) (k : Nat) : MdAt (w.drewN k) m lA ln lc L := At.drewN h k
theorem mroom_q {m ln lc : Nat} {lA : Option Addr} {L : Lg} (w : World) (v : Int) (hok : LgOk L) (hm : MdAt w m lA ln lc L) (hv : roomL L = v) : Calls Try.prog 38 #[.pointer (some ⟨m, 0, none⟩)] w fun e w' => e = .returned (.int .i64 v) ∧ ∃ k, w' = w.drewN k := by
  have k0 : At w m #[.slice lA ln lc, .int .u64 (endL L), .int .u64 L.sure, .int .u64 L.start, .int .u64 L.check, .int .i64 L.held, .int .i64 L.count] 41 := hm
  have h3 := hok.start
  have h4 := hok.count
  have h5 := hok.held
  have h6 := hok.room
  have h7 := hok.sure
  have h8 := end_i hok
  unfold roomL at hv
  obtain ⟨en, hene⟩ : ∃ en, endL L = en := ⟨_, rfl⟩
  rw [hene] at h6 h7 hv k0 h8
  obtain ⟨q, hq⟩ : ∃ q, L.start / 480 = q := ⟨_, rfl⟩
  have hst : L.start.tdiv 480 = q := by rw [Int.tdiv_eq_ediv_of_nonneg h3.1, hq]
  have hq0 : 0 ≤ q ∧ q ≤ 1099511627776 := by omega
  rw [hq] at h6 hv
  have z0 : IntKind.u64.wrap q = q := IntWalk.u64_in _ (by omega)
  have z1 : IntKind.u64.wrap L.count = L.count := IntWalk.u64_in _ (by omega)
  have z2 : IntKind.u64.wrap (q + L.count) = q + L.count := IntWalk.u64_in _ (by omega)
  have z3 : IntKind.u64.wrap ((q + L.count) * 480) = (q + L.count) * 480 := IntWalk.u64_in _ (by omega)
  have z4 : IntKind.u64.wrap ((q + L.count) * 480 - en) = (q + L.count) * 480 - en := IntWalk.u64_in _ (by omega)
  have z5 : IntKind.i64.wrap ((q + L.count) * 480 - en) = (q + L.count) * 480 - en := IntWalk.i64_in _ (by omega)
  have z6 : IntKind.i64.wrap ((q + L.count) * 480 - en - L.held) = (q + L.count) * 480 - en - L.held := IntWalk.i64_in _ (by omega)
  have hvx := Lib.hid hv
  have k0c := k0.c; have k0f := k0.f; have k0l := k0.lt
  clear hv hene hm hq h3 h4 h5 h6 h7 h8 hok
  go_enter Try.func38, Try.ntmps38
  go_upto_region 1 with (fail)
  go_quiet (fail)
  go_wp2
  go_ret
  exact ⟨by rw [← hvx.out]; first | rfl | simp, _, rfl⟩
set_option maxRecDepth 100000 in
set_option maxHeartbeats 4000000 in
theorem same_q {base d g bc m ln lc : Nat} {bA lA : Option Addr} {L : Lg} (w : World) (h : LgH w base d g bA bc L) (hm : MdAt w m lA ln lc L) : Calls Try.prog 24 #[.pointer (some ⟨g, 0, none⟩), .pointer (some ⟨m, 0, none⟩)] w fun e w' => e = .returned (.bool true) ∧ ∃ k, w' = w.drewN k := by
  have k0 : At w m #[.slice lA ln lc, .int .u64 (endL L), .int .u64 L.sure, .int .u64 L.start, .int .u64 L.check, .int .i64 L.held, .int .i64 L.count] 41 := hm
  have hmx := Lib.hid hm
  have hhx := Lib.hid h
  obtain ⟨en, hen⟩ : ∃ en, endL L = en := ⟨_, rfl⟩
  obtain ⟨rm, hrm⟩ : ∃ rm, roomL L = rm := ⟨_, rfl⟩
  rw [hen] at k0
  have hex := Lib.hid hen
  have hrx := Lib.hid hrm
  have k0c := k0.c; have k0f := k0.f; have k0l := k0.lt
  clear h hm hen hrm
  go_enter Try.func24, Try.ntmps24
  go_upto_region 1 with (fail)
  go_quiet (first
    | (go_at_call 31; with_reducible exact Calls.quiet_of (lend_q _ en (hhx.out.drewN _) hex.out))
    | (go_at_call 32; with_reducible exact Calls.quiet_of_same ((lsure_calls _ (hhx.out.drewN _)).mono (fun _ _ h => And.intro h.1 h.2.symm)))
    | (go_at_call 33; with_reducible exact Calls.quiet_of_same ((lstart_calls _ (hhx.out.drewN _)).mono (fun _ _ h => And.intro h.1 h.2.symm)))
    | (go_at_call 34; with_reducible exact Calls.quiet_of_same ((lcheck_calls _ (hhx.out.drewN _)).mono (fun _ _ h => And.intro h.1 h.2.symm)))
    | (go_at_call 17; with_reducible exact Calls.quiet_of_same ((lheld_calls _ (hhx.out.drewN _)).mono (fun _ _ h => And.intro h.1 h.2.symm)))
    | (go_at_call 16; with_reducible exact Calls.quiet_of (lroom_q _ rm (hhx.out.drewN _) hrx.out))
    | (go_at_call 38; with_reducible exact Calls.quiet_of (mroom_q _ rm hhx.out.ok (hmx.out.drewN _) hrx.out)))
  go_wp2
  go_ret
  exact ⟨by first | rfl | simp, _, rfl⟩
end Go.Proofs.Ytnehppeoffemlaa
