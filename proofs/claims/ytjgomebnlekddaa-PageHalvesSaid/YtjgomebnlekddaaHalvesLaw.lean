/- PageHalves: the walk of the law. -/
import Derived.Test.YtjgomebnlekddaaPAwake
namespace Go.Proofs.Ytjgomebnlekddaa
set_option linter.unusedVariables false
set_option linter.unusedSimpArgs false
open Go.RowKit
set_option maxRecDepth 100000 in
theorem lhalves_calls {n c : Nat} {A : Option Addr} {l : List Cl} (w : World) (h : CsR w 0 w.heap.size A n l) (hc : n ≤ c) :
    Calls Try.prog 9 #[.slice A n c] w fun e w' => e = .returned (.bool true) ∧ Below w.heap.size w w' := by
  by_cases hn : n ≤ 300
  · have hn' : (n : Int) ≤ 300 := by omega
    go_enter Try.func9, Try.ntmps9
    go_wp2_with fail
    refine (pawake_calls _).mono ?_
    rintro e w1 ⟨rfl, hb1⟩
    go_wp2_with fail
    refine (halves_calls w1 (h.later hb1) (Nat.le_refl _) (by omega) hc).mono ?_
    rintro e w2 ⟨rfl, hb2⟩
    go_wp2_with fail
    have hb12 := below_keep hb2 hb1
    refine (rhalves_calls w2 (h.later hb12) (Nat.le_refl _) (by omega) hc).mono ?_
    rintro e w3 ⟨rfl, hb3⟩
    go_wp2
    go_ret
    exact ⟨by first | rfl | simp, below_keep hb3 hb12⟩
  · have hn' : (300 : Int) < n := by omega
    go_enter Try.func9, Try.ntmps9
    go_wp2_with fail
    refine (pawake_calls _).mono ?_
    rintro e w1 ⟨rfl, hb1⟩
    go_wp2_with fail
    refine (pawake_calls _).mono ?_
    rintro e w2 ⟨rfl, hb2⟩
    go_wp2
    go_ret
    exact ⟨by first | rfl | simp, below_keep hb2 hb1⟩
end Go.Proofs.Ytjgomebnlekddaa
