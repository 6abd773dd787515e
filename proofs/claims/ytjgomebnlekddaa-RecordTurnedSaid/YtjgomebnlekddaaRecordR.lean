/- The reference's record form by its contract. -/
import Derived.Test.YtjgomebnlekddaaRecord
namespace Go.Proofs.Ytjgomebnlekddaa
set_option linter.unusedVariables false
set_option linter.unusedSimpArgs false
open Go.RowKit
set_option linter.unusedVariables false
set_option linter.unusedSimpArgs false
set_option maxRecDepth 100000 in
set_option maxHeartbeats 4000000 in
theorem rform_1 (tx prev page off next : Int) (bA aA dA : Option Addr) (bN bC aN aC dN dC : Nat) (opn : Bool) (l : List (Int × Int)) (w : World) (hl : PrR w 0 w.heap.size dA dN l) (hn : dN * 16 ≤ 140737488351232) (haN : aN ≤ 140737488351232) (hnx : 0 ≤ next) (hpv : 0 ≤ prev)  :
    Calls Try.prog 22 #[.agg #[.int .u8 1, .int .u64 tx, .int .u64 prev, .int .i64 page, .int .i64 off, .slice bA bN bC, .slice aA aN aC, .int .u64 next, .slice dA dN dC, .bool opn]] w fun e w' => e = .returned (.bool (formB 1 prev page off next bN aN dN opn (dirtyOk (-1) l))) ∧ Below w.heap.size w w' := by
  go_enter Try.func22, Try.ntmps22
  go_upto_region 1 with (fail)
  have k1 := At.new w #[.int .u8 1, .int .u64 tx, .int .u64 prev, .int .i64 page, .int .i64 off, .slice bA bN bC, .slice aA aN aC, .int .u64 next, .slice dA dN dC, .bool opn] 26
  have hB : Below w.heap.size w (w.alloc (.cells #[.int .u8 1, .int .u64 tx, .int .u64 prev, .int .i64 page, .int .i64 off, .slice bA bN bC, .slice aA aN aC, .int .u64 next, .slice dA dN dC, .bool opn] 26)) := (Below.refl _ _).alloc (Nat.le_refl _) _
  generalize (w.alloc (.cells #[.int .u8 1, .int .u64 tx, .int .u64 prev, .int .i64 page, .int .i64 off, .slice bA bN bC, .slice aA aN aC, .int .u64 next, .slice dA dN dC, .bool opn] 26)) = w0 at *
  have k1c := k1.c; have k1f := k1.f; have k1l := k1.lt
  have hln := Lib.hid hl.1
  go_wp2
  all_goals (try go_ret)
  all_goals (try (refine ⟨ret_bool ?_, hB⟩; unfold formB plainB listB placeB; first | (simp [*]; done) | (simp [*]; omega) | (simp [*]; intros; omega)))
  obtain rfl : dN = 0 := by first | assumption | omega
  obtain rfl : l = [] := List.eq_nil_of_length_eq_zero hln.out
  refine wp_loop_rounds 1 ?_
  rw [rounds_succ]
  go_wp2
  go_ret
  refine ⟨ret_bool ?_, hB⟩
  unfold formB plainB listB placeB
  first | (simp [*, dirtyOk]; done) | (simp [*, dirtyOk]; omega) | (simp [*]; done)
set_option maxRecDepth 100000 in
set_option maxHeartbeats 4000000 in
theorem rform_4 (tx prev page off next : Int) (bA aA dA : Option Addr) (bN bC aN aC dN dC : Nat) (opn : Bool) (l : List (Int × Int)) (w : World) (hl : PrR w 0 w.heap.size dA dN l) (hn : dN * 16 ≤ 140737488351232) (haN : aN ≤ 140737488351232) (hnx : 0 ≤ next) (hpv : 0 ≤ prev)  :
    Calls Try.prog 22 #[.agg #[.int .u8 4, .int .u64 tx, .int .u64 prev, .int .i64 page, .int .i64 off, .slice bA bN bC, .slice aA aN aC, .int .u64 next, .slice dA dN dC, .bool opn]] w fun e w' => e = .returned (.bool (formB 4 prev page off next bN aN dN opn (dirtyOk (-1) l))) ∧ Below w.heap.size w w' := by
  go_enter Try.func22, Try.ntmps22
  go_upto_region 1 with (fail)
  have k1 := At.new w #[.int .u8 4, .int .u64 tx, .int .u64 prev, .int .i64 page, .int .i64 off, .slice bA bN bC, .slice aA aN aC, .int .u64 next, .slice dA dN dC, .bool opn] 26
  have hB : Below w.heap.size w (w.alloc (.cells #[.int .u8 4, .int .u64 tx, .int .u64 prev, .int .i64 page, .int .i64 off, .slice bA bN bC, .slice aA aN aC, .int .u64 next, .slice dA dN dC, .bool opn] 26)) := (Below.refl _ _).alloc (Nat.le_refl _) _
  generalize (w.alloc (.cells #[.int .u8 4, .int .u64 tx, .int .u64 prev, .int .i64 page, .int .i64 off, .slice bA bN bC, .slice aA aN aC, .int .u64 next, .slice dA dN dC, .bool opn] 26)) = w0 at *
  have k1c := k1.c; have k1f := k1.f; have k1l := k1.lt
  have hln := Lib.hid hl.1
  go_wp2
  all_goals (try go_ret)
  all_goals (try (refine ⟨ret_bool ?_, hB⟩; unfold formB plainB listB placeB; first | (simp [*]; done) | (simp [*]; omega) | (simp [*]; intros; omega)))
  obtain rfl : dN = 0 := by first | assumption | omega
  obtain rfl : l = [] := List.eq_nil_of_length_eq_zero hln.out
  refine wp_loop_rounds 1 ?_
  rw [rounds_succ]
  go_wp2
  go_ret
  refine ⟨ret_bool ?_, hB⟩
  unfold formB plainB listB placeB
  first | (simp [*, dirtyOk]; done) | (simp [*, dirtyOk]; omega) | (simp [*]; done)
set_option maxRecDepth 100000 in
set_option maxHeartbeats 4000000 in
theorem rform_5 (tx prev page off next : Int) (bA aA dA : Option Addr) (bN bC aN aC dN dC : Nat) (opn : Bool) (l : List (Int × Int)) (w : World) (hl : PrR w 0 w.heap.size dA dN l) (hn : dN * 16 ≤ 140737488351232) (haN : aN ≤ 140737488351232) (hnx : 0 ≤ next) (hpv : 0 ≤ prev)  :
    Calls Try.prog 22 #[.agg #[.int .u8 5, .int .u64 tx, .int .u64 prev, .int .i64 page, .int .i64 off, .slice bA bN bC, .slice aA aN aC, .int .u64 next, .slice dA dN dC, .bool opn]] w fun e w' => e = .returned (.bool (formB 5 prev page off next bN aN dN opn (dirtyOk (-1) l))) ∧ Below w.heap.size w w' := by
  go_enter Try.func22, Try.ntmps22
  go_upto_region 1 with (fail)
  have k1 := At.new w #[.int .u8 5, .int .u64 tx, .int .u64 prev, .int .i64 page, .int .i64 off, .slice bA bN bC, .slice aA aN aC, .int .u64 next, .slice dA dN dC, .bool opn] 26
  have hB : Below w.heap.size w (w.alloc (.cells #[.int .u8 5, .int .u64 tx, .int .u64 prev, .int .i64 page, .int .i64 off, .slice bA bN bC, .slice aA aN aC, .int .u64 next, .slice dA dN dC, .bool opn] 26)) := (Below.refl _ _).alloc (Nat.le_refl _) _
  generalize (w.alloc (.cells #[.int .u8 5, .int .u64 tx, .int .u64 prev, .int .i64 page, .int .i64 off, .slice bA bN bC, .slice aA aN aC, .int .u64 next, .slice dA dN dC, .bool opn] 26)) = w0 at *
  have k1c := k1.c; have k1f := k1.f; have k1l := k1.lt
  have hln := Lib.hid hl.1
  go_wp2
  all_goals (try go_ret)
  all_goals (try (refine ⟨ret_bool ?_, hB⟩; unfold formB plainB listB placeB; first | (simp [*]; done) | (simp [*]; omega) | (simp [*]; intros; omega)))
  obtain rfl : dN = 0 := by first | assumption | omega
  obtain rfl : l = [] := List.eq_nil_of_length_eq_zero hln.out
  refine wp_loop_rounds 1 ?_
  rw [rounds_succ]
  go_wp2
  go_ret
  refine ⟨ret_bool ?_, hB⟩
  unfold formB plainB listB placeB
  first | (simp [*, dirtyOk]; done) | (simp [*, dirtyOk]; omega) | (simp [*]; done)
set_option maxRecDepth 100000 in
set_option maxHeartbeats 4000000 in
theorem rform_3 (tx prev page off next : Int) (bA aA dA : Option Addr) (bN bC aN aC dN dC : Nat) (opn : Bool) (l : List (Int × Int)) (w : World) (hl : PrR w 0 w.heap.size dA dN l) (hn : dN * 16 ≤ 140737488351232) (haN : aN ≤ 140737488351232) (hnx : 0 ≤ next) (hpv : 0 ≤ prev)  :
    Calls Try.prog 22 #[.agg #[.int .u8 3, .int .u64 tx, .int .u64 prev, .int .i64 page, .int .i64 off, .slice bA bN bC, .slice aA aN aC, .int .u64 next, .slice dA dN dC, .bool opn]] w fun e w' => e = .returned (.bool (formB 3 prev page off next bN aN dN opn (dirtyOk (-1) l))) ∧ Below w.heap.size w w' := by
  go_enter Try.func22, Try.ntmps22
  go_upto_region 1 with (fail)
  have k1 := At.new w #[.int .u8 3, .int .u64 tx, .int .u64 prev, .int .i64 page, .int .i64 off, .slice bA bN bC, .slice aA aN aC, .int .u64 next, .slice dA dN dC, .bool opn] 26
  have hB : Below w.heap.size w (w.alloc (.cells #[.int .u8 3, .int .u64 tx, .int .u64 prev, .int .i64 page, .int .i64 off, .slice bA bN bC, .slice aA aN aC, .int .u64 next, .slice dA dN dC, .bool opn] 26)) := (Below.refl _ _).alloc (Nat.le_refl _) _
  generalize (w.alloc (.cells #[.int .u8 3, .int .u64 tx, .int .u64 prev, .int .i64 page, .int .i64 off, .slice bA bN bC, .slice aA aN aC, .int .u64 next, .slice dA dN dC, .bool opn] 26)) = w0 at *
  have k1c := k1.c; have k1f := k1.f; have k1l := k1.lt
  have hln := Lib.hid hl.1
  go_wp2
  all_goals (try go_ret)
  all_goals (try (refine ⟨ret_bool ?_, hB⟩; unfold formB plainB listB placeB; first | (simp [*]; done) | (simp [*]; omega) | (simp [*]; intros; omega)))
  obtain rfl : dN = 0 := by first | assumption | omega
  obtain rfl : l = [] := List.eq_nil_of_length_eq_zero hln.out
  refine wp_loop_rounds 1 ?_
  rw [rounds_succ]
  go_wp2
  go_ret
  refine ⟨ret_bool ?_, hB⟩
  unfold formB plainB listB placeB
  first | (simp [*, dirtyOk]; done) | (simp [*, dirtyOk]; omega) | (simp [*]; done)
set_option maxRecDepth 100000 in
set_option maxHeartbeats 4000000 in
theorem rform_2y (tx prev page off next : Int) (bA aA dA : Option Addr) (bN bC aN aC dN dC : Nat) (opn : Bool) (l : List (Int × Int)) (w : World) (hl : PrR w 0 w.heap.size dA dN l) (hn : dN * 16 ≤ 140737488351232) (haN : aN ≤ 140737488351232) (hnx : 0 ≤ next) (hpv : 0 ≤ prev) (hba : aN = bN) :
    Calls Try.prog 22 #[.agg #[.int .u8 2, .int .u64 tx, .int .u64 prev, .int .i64 page, .int .i64 off, .slice bA bN bC, .slice aA aN aC, .int .u64 next, .slice dA dN dC, .bool opn]] w fun e w' => e = .returned (.bool (formB 2 prev page off next bN aN dN opn (dirtyOk (-1) l))) ∧ Below w.heap.size w w' := by
  have hbb : ((bN : Int) != (aN : Int)) = false := by rw [hba]; simp
  have hb' := Lib.hid hba
  clear hba
  go_enter Try.func22, Try.ntmps22
  go_upto_region 1 with (fail)
  have k1 := At.new w #[.int .u8 2, .int .u64 tx, .int .u64 prev, .int .i64 page, .int .i64 off, .slice bA bN bC, .slice aA aN aC, .int .u64 next, .slice dA dN dC, .bool opn] 26
  have hB : Below w.heap.size w (w.alloc (.cells #[.int .u8 2, .int .u64 tx, .int .u64 prev, .int .i64 page, .int .i64 off, .slice bA bN bC, .slice aA aN aC, .int .u64 next, .slice dA dN dC, .bool opn] 26)) := (Below.refl _ _).alloc (Nat.le_refl _) _
  generalize (w.alloc (.cells #[.int .u8 2, .int .u64 tx, .int .u64 prev, .int .i64 page, .int .i64 off, .slice bA bN bC, .slice aA aN aC, .int .u64 next, .slice dA dN dC, .bool opn] 26)) = w0 at *
  have k1c := k1.c; have k1f := k1.f; have k1l := k1.lt
  have hln := Lib.hid hl.1
  go_wp2
  all_goals (try go_ret)
  all_goals (try (refine ⟨ret_bool ?_, hB⟩; unfold formB plainB listB placeB; have hbo := hb'.out; first | (simp [*]; done) | (simp [*]; omega) | (simp [*]; intros; omega)))
  obtain rfl : dN = 0 := by first | assumption | omega
  obtain rfl : l = [] := List.eq_nil_of_length_eq_zero hln.out
  refine wp_loop_rounds 1 ?_
  rw [rounds_succ]
  go_wp2
  go_ret
  refine ⟨ret_bool ?_, hB⟩
  unfold formB plainB listB placeB
  have hbo := hb'.out
  first | (simp [*, dirtyOk]; done) | (simp [*, dirtyOk]; omega) | (simp [*]; done)
set_option maxRecDepth 100000 in
set_option maxHeartbeats 4000000 in
theorem rform_2n (tx prev page off next : Int) (bA aA dA : Option Addr) (bN bC aN aC dN dC : Nat) (opn : Bool) (l : List (Int × Int)) (w : World) (hl : PrR w 0 w.heap.size dA dN l) (hn : dN * 16 ≤ 140737488351232) (haN : aN ≤ 140737488351232) (hnx : 0 ≤ next) (hpv : 0 ≤ prev) (hba : ¬ aN = bN) :
    Calls Try.prog 22 #[.agg #[.int .u8 2, .int .u64 tx, .int .u64 prev, .int .i64 page, .int .i64 off, .slice bA bN bC, .slice aA aN aC, .int .u64 next, .slice dA dN dC, .bool opn]] w fun e w' => e = .returned (.bool (formB 2 prev page off next bN aN dN opn (dirtyOk (-1) l))) ∧ Below w.heap.size w w' := by
  have hbb : ((bN : Int) != (aN : Int)) = true := by simp [bne_iff_ne]; omega
  go_enter Try.func22, Try.ntmps22
  go_upto_region 1 with (fail)
  have k1 := At.new w #[.int .u8 2, .int .u64 tx, .int .u64 prev, .int .i64 page, .int .i64 off, .slice bA bN bC, .slice aA aN aC, .int .u64 next, .slice dA dN dC, .bool opn] 26
  have hB : Below w.heap.size w (w.alloc (.cells #[.int .u8 2, .int .u64 tx, .int .u64 prev, .int .i64 page, .int .i64 off, .slice bA bN bC, .slice aA aN aC, .int .u64 next, .slice dA dN dC, .bool opn] 26)) := (Below.refl _ _).alloc (Nat.le_refl _) _
  generalize (w.alloc (.cells #[.int .u8 2, .int .u64 tx, .int .u64 prev, .int .i64 page, .int .i64 off, .slice bA bN bC, .slice aA aN aC, .int .u64 next, .slice dA dN dC, .bool opn] 26)) = w0 at *
  have k1c := k1.c; have k1f := k1.f; have k1l := k1.lt
  have hln := Lib.hid hl.1
  go_wp2
  all_goals (try go_ret)
  all_goals (try (refine ⟨ret_bool ?_, hB⟩; unfold formB plainB listB placeB; first | (simp [*]; done) | (simp [*]; omega) | (simp [*]; intros; omega)))

end Go.Proofs.Ytjgomebnlekddaa
