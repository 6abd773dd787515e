/- The reference's record form by its contract. -/
import Derived.Test.YtjgomebnlekddaaRecord
namespace Go.Proofs.Ytjgomebnlekddaa
set_option linter.unusedVariables false
set_option linter.unusedSimpArgs false
open Go.RowKit
set_option linter.unusedVariables false
set_option maxRecDepth 100000 in
set_option maxHeartbeats 4000000 in
theorem rform_else (k tx prev page off next : Int) (bA aA dA : Option Addr) (bN bC aN aC dN dC : Nat) (opn : Bool) (l : List (Int × Int)) (w : World) (hl : PrR w 0 w.heap.size dA dN l) (hn : dN * 16 ≤ 140737488351232) (hk0 : 0 ≤ k) (haN : aN ≤ 140737488351232) (hnx : 0 ≤ next) (hpv : 0 ≤ prev) (h1 : ¬ (k = 1 ∨ k = 4 ∨ k = 5 ∨ k = 2 ∨ k = 3)) (h6 : k ≠ 6) :
    Calls Try.prog 22 #[.agg #[.int .u8 k, .int .u64 tx, .int .u64 prev, .int .i64 page, .int .i64 off, .slice bA bN bC, .slice aA aN aC, .int .u64 next, .slice dA dN dC, .bool opn]] w fun e w' => e = .returned (.bool (formB k prev page off next bN aN dN opn (dirtyOk (-1) l))) ∧ Below w.heap.size w w' := by
  go_enter Try.func22, Try.ntmps22
  go_upto_region 1 with (fail)
  have k1 := At.new w #[.int .u8 k, .int .u64 tx, .int .u64 prev, .int .i64 page, .int .i64 off, .slice bA bN bC, .slice aA aN aC, .int .u64 next, .slice dA dN dC, .bool opn] 26
  have hB : Below w.heap.size w (w.alloc (.cells #[.int .u8 k, .int .u64 tx, .int .u64 prev, .int .i64 page, .int .i64 off, .slice bA bN bC, .slice aA aN aC, .int .u64 next, .slice dA dN dC, .bool opn] 26)) := (Below.refl _ _).alloc (Nat.le_refl _) _
  generalize (w.alloc (.cells #[.int .u8 k, .int .u64 tx, .int .u64 prev, .int .i64 page, .int .i64 off, .slice bA bN bC, .slice aA aN aC, .int .u64 next, .slice dA dN dC, .bool opn] 26)) = w0 at *
  have k1c := k1.c; have k1f := k1.f; have k1l := k1.lt
  have hln := Lib.hid hl.1
  have hk1 : k < 1 ∨ 6 < k := by omega
  rcases hk1 with hk1 | hk1
  all_goals
    go_wp2
    all_goals (try go_ret)
    all_goals (refine ⟨ret_bool ?_, hB⟩; unfold formB plainB listB placeB; rw [if_neg (by omega), if_neg (by omega), if_neg (by omega), if_neg (by omega), if_neg (by omega)])
end Go.Proofs.Ytjgomebnlekddaa
