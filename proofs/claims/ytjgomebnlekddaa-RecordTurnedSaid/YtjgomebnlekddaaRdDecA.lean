/- record.Decode by its contract. -/
import Derived.Test.YtjgomebnlekddaaRdDec1
import Derived.Test.YtjgomebnlekddaaRdDec2
import Derived.Test.YtjgomebnlekddaaRdDec3
import Derived.Test.YtjgomebnlekddaaRdDec6
namespace Go.Proofs.Ytjgomebnlekddaa
set_option linter.unusedVariables false
set_option linter.unusedSimpArgs false
open Go.RowKit
theorem lt6 {z : Int} (h : 0 ≤ z ∧ z < 65536) : z.toNat < 65536 := by omega
theorem decS_fin {l : List Int} {n : Nat} (hl : l.length = n) (h5 : ¬ n < 5) (hs : l.drop (n - 4) = fourL (sumL (l.take (n - 4)))) {R : Rc} {r : Rdr} (h : readR (l.take (n - 4)) = (R, r)) : decS l = finR R r (formR R) := by
  subst hl
  unfold decS finR
  rw [if_neg h5, if_pos hs, h]
theorem rdec_rec_calls {n c : Nat} {A : Option Addr} {l : List Int} (w : World) (h : BsR w 0 w.heap.size A n l) (hc : n ≤ c) (hn : n ≤ 140737488355328) :
    Calls Try.prog 59 #[.slice A n c] w (DecPostR (decS l) w) := by
  have hl := h.1
  by_cases h5 : n < 5
  · rw [show decS l = (zeroR, 3) from by unfold decS; rw [if_pos (by omega)]]
    exact dec_short w h h5
  by_cases hs : l.drop (n - 4) = fourL (sumL (l.take (n - 4)))
  · have hb : Byt (l.take (n - 4)) := h.2.1.take _
    generalize hbb : l.take (n - 4) = b at *
    have hbb' := hbb
    have hK0 : one ⟨l.take (n - 4), false⟩ = rK b := by rw [rK, hbb']
    have hT0 : num8 (rK b).2 = rT b := by rw [rT]
    have hP0 : num8 (rT b).2 = rP b := by rw [rP]
    have hG0 : num2 (rP b).2 = rG b := by rw [rG]
    have hO0 : num2 (rG b).2 = rO b := by rw [rO]
    have hN0 : num2 (rO b).2 = rN b := by rw [rN]
    have hX0 : nxt (rN b).2 (rN b).1.toNat = rX b := by rw [rX]
    have hY0 : nxt (rX b).2 (rN b).1.toNat = rY b := by rw [rY]
    have hZ0 : num8 (rX b).2 = rZ b := by rw [rZ]
    have hM0 : one (rP b).2 = rM b := by rw [rM]
    have hD0 : dirtTo (rM b).2 ((rM b).1 / 2).toNat = rD b := by rw [rD]
    have hNr := rN_r hb
    have hMr := rM_r hb
    have hs' : l.drop (n - 4) = fourL (sumL (l.take (n - 4))) := by rw [hbb']; exact hs
    have hfin : ∀ {R : Rc} {r : Rdr}, readR b = (R, r) → decS l = finR R r (formR R) := fun {R r} hr => decS_fin hl h5 hs' (by rw [hbb']; exact hr)
    by_cases k1 : (rK b).1 = 1
    · rw [hfin (readR_1 k1 rfl)]
      exact dec_1 w h (by omega) hc hn hs' hK0 hT0 k1 _ rfl
    by_cases k2 : (rK b).1 = 2
    · rw [hfin (readR_2 k2 rfl rfl rfl rfl rfl rfl)]
      exact dec_2 w h (by omega) hc hn hs' hK0 hT0 hP0 hG0 hO0 hN0 (toNat_eq hNr.1).symm (lt6 hNr) hX0 hY0 k2 _ rfl
    by_cases k3 : (rK b).1 = 3
    · rw [hfin (readR_3 k3 rfl rfl rfl rfl rfl rfl)]
      exact dec_3 w h (by omega) hc hn hs' hK0 hT0 hP0 hG0 hO0 hN0 (toNat_eq hNr.1).symm (lt6 hNr) hX0 hZ0 k3 _ rfl
    by_cases k6 : (rK b).1 = 6
    · rw [hfin (readR_6 k6 rfl rfl rfl rfl)]
      exact dec_6 w h (by omega) hc hn hs' hK0 hT0 hP0 hM0 (toNat_eq (Int.ediv_nonneg hMr.1 (by decide))).symm rfl hD0 k6 _ rfl
    · rw [hfin (readR_e rfl k1 k2 k3 k6 rfl rfl)]
      exact dec_e w h (by omega) hc hn hs' hK0 hT0 hP0 k1 k2 k3 k6 _ rfl
  · rw [show decS l = (zeroR, 15) from by unfold decS; rw [if_neg (by omega), hl, if_neg hs]]
    exact dec_sum w h (by omega) hc hn hs
end Go.Proofs.Ytjgomebnlekddaa
