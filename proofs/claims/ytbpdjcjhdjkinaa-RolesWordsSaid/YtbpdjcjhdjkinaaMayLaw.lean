/- RolesMay: the walk of the law. -/
import Derived.Test.YtbpdjcjhdjkinaaMay
namespace Go.Proofs.Ytbpdjcjhdjkinaa
open Go.RowKit
theorem may_at (r v : Int) (own : Bool) (wh fr : Int) (b : Bool) (h : mayB r v own wh fr = b) (w : World) :
    Calls Try.prog 18 #[.int .u8 r, .int .u8 v, .bool own, .int .u8 wh, .int .u8 fr] w fun e w' => e = .returned (.bool b) ∧ Below w.heap.size w w' := h ▸ may_calls r v own wh fr w
theorem mawake_calls (w : World) : Calls Try.prog 17 #[] w fun e w' => e = .returned (.bool true) ∧ Below w.heap.size w w' := by
  go_enter Try.func17, Try.ntmps17
  go_wp2_with fail
  refine (may_at 2 1 false 0 1 true (by decide) _).mono ?_
  rintro e w1 ⟨rfl, hb1⟩
  go_wp2_with fail
  refine (may_at 2 1 false 0 2 false (by decide) _).mono ?_
  rintro e w2 ⟨rfl, hb2⟩
  go_wp2
  go_ret
  exact ⟨rfl, below_keep hb2 hb1⟩
theorem rolesMay_calls (r v : Int) (own : Bool) (wh fr : Int) (w : World) :
    Calls Try.prog 4 #[.int .u8 r, .int .u8 v, .bool own, .int .u8 wh, .int .u8 fr] w fun e w' => e = .returned (.bool true) ∧ Below w.heap.size w w' := by
  go_enter Try.func4, Try.ntmps4
  go_wp2_with fail
  refine (mawake_calls _).mono ?_
  rintro e w1 ⟨rfl, hb1⟩
  go_wp2_with fail
  refine (may_calls r v own wh fr _).mono ?_
  rintro e w2 ⟨rfl, hb2⟩
  go_wp2_with fail
  refine (rmay_calls r v own wh fr _).mono ?_
  rintro e w3 ⟨rfl, hb3⟩
  go_wp2
  go_ret
  exact ⟨by first | rfl | simp, below_keep hb3 (below_keep hb2 hb1)⟩
end Go.Proofs.Ytbpdjcjhdjkinaa
