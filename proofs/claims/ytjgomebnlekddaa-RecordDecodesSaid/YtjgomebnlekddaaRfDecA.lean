/- The reference's Decode of a record by its contract. -/
import Derived.Test.YtjgomebnlekddaaRfDec1
import Derived.Test.YtjgomebnlekddaaRfDec3
import Derived.Test.YtjgomebnlekddaaRfDec6
namespace Go.Proofs.Ytjgomebnlekddaa
set_option linter.unusedVariables false
set_option linter.unusedSimpArgs false
open Go.RowKit
theorem cand_1 {l : List Int} (h : l.getD 0 0 = 1) : cand l = ⟨1, atN l 1 8, 0, 0, 0, 0, [], [], [], false⟩ := by unfold cand; rw [if_pos h, h]
theorem cand_2 {l : List Int} (h : l.getD 0 0 = 2) : cand l = ⟨2, atN l 1 8, atN l 9 8, atN l 17 2, atN l 19 2, 0, cutL l 23 (cN l), cutL l (23 + cN l) (cN l), [], false⟩ := by
  unfold cand; rw [if_neg (by rw [h]; decide), if_pos h, h]
theorem cand_3 {l : List Int} (h : l.getD 0 0 = 3) : cand l = ⟨3, atN l 1 8, atN l 9 8, atN l 17 2, atN l 19 2, atN l (23 + cN l) 8, [], cutL l 23 (cN l), [], false⟩ := by
  unfold cand; rw [if_neg (by rw [h]; decide), if_neg (by rw [h]; decide), if_pos h, h]
theorem cand_6 {l : List Int} (h : l.getD 0 0 = 6) : cand l = ⟨6, atN l 1 8, atN l 9 8, 0, 0, 0, [], [], cDl l (atN l 17 1 / 2).toNat, decide (atN l 17 1 % 2 = 1)⟩ := by
  unfold cand; rw [if_neg (by rw [h]; decide), if_neg (by rw [h]; decide), if_neg (by rw [h]; decide), if_pos h, h]
theorem cand_e {l : List Int} {K : Int} (h : l.getD 0 0 = K) (h1 : K ≠ 1) (h2 : K ≠ 2) (h3 : K ≠ 3) (h6 : K ≠ 6) : cand l = ⟨K, atN l 1 8, atN l 9 8, 0, 0, 0, [], [], [], false⟩ := by
  unfold cand; rw [h, if_neg h1, if_neg h2, if_neg h3, if_neg h6]
theorem decC_fin {l : List Int} {n : Nat} (hl : l.length = n) (h5 : ¬ n < 5) (hs : atN l (n - 4) 4 = sumL (l.take (n - 4))) {R : Rc} (h : cand l = R) : decC l = finC R l (formR R) := by
  subst hl
  unfold decC finC
  rw [if_neg h5, if_pos hs, h]
theorem rdc_calls {n c : Nat} {A : Option Addr} {l : List Int} (w : World) (h : BsR w 0 w.heap.size A n l) (hc : n ≤ c) (hn : n ≤ 140737488355328) :
    Calls Try.prog 62 #[.slice A n c] w (DecPostC (decC l) w) := by
  have hl := h.1
  by_cases h5 : n < 5
  · rw [show decC l = (zeroR, 3) from by unfold decC; rw [if_pos (by omega)]]
    exact rdc_short w h h5
  by_cases hs : atN l (n - 4) 4 = sumL (l.take (n - 4))
  · have hfin : ∀ {R : Rc}, cand l = R → decC l = finC R l (formR R) := fun hr => decC_fin hl h5 hs hr
    have hNr := atN_r2 h.2.1 21
    have hMr := atN_r1 h.2.1 17
    by_cases k1 : l.getD 0 0 = 1
    · rw [hfin (cand_1 k1)]
      exact rdc_1 w h (by omega) hc hn hs rfl k1 rfl rfl _ rfl
    by_cases k2 : l.getD 0 0 = 2
    · rw [hfin (cand_2 k2)]
      exact rdc_2 w h (by omega) hc hn hs rfl k2 rfl rfl rfl rfl (toNat_eq hNr.1).symm rfl rfl rfl _ rfl
    by_cases k3 : l.getD 0 0 = 3
    · rw [hfin (cand_3 k3)]
      exact rdc_3 w h (by omega) hc hn hs rfl k3 rfl rfl rfl rfl (toNat_eq hNr.1).symm rfl rfl rfl _ rfl
    by_cases k6 : l.getD 0 0 = 6
    · rw [hfin (cand_6 k6)]
      exact rdc_6 w h (by omega) hc hn hs rfl k6 rfl rfl rfl (toNat_eq (Int.ediv_nonneg hMr.1 (by decide))).symm rfl rfl rfl _ rfl
    · rw [hfin (cand_e rfl k1 k2 k3 k6)]
      exact rdc_e w h (by omega) hc hn hs rfl rfl rfl rfl k1 k2 k3 k6 _ rfl
  · rw [show decC l = (zeroR, 15) from by unfold decC; rw [if_neg (by omega), hl, if_neg hs]]
    exact rdc_sum w h (by omega) hc hn rfl rfl hs
end Go.Proofs.Ytjgomebnlekddaa
