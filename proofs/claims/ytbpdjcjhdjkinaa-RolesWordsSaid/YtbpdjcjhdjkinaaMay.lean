/- RolesMay and RolesWords: the walks of roles.May, of the reference's May and Word, and of the law. -/
import Derived.Test.YtbpdjcjhdjkinaaBase
namespace Go.Proofs.Ytbpdjcjhdjkinaa
open Go.RowKit
def mayB (r v : Int) (own : Bool) (wh fr : Int) : Bool :=
  if r < 1 then false else if 3 < r then false else
  if v = 4 then own else if v = 5 then own else if v = 6 then own else
  if v = 9 then (own || decide (2 ≤ r)) else if v = 10 then decide (2 ≤ r) else if v = 11 then decide (r = 3) else
  if v = 8 then (!own && decide (2 ≤ r) && decide (wh < r)) else if v = 2 then (!own && decide (2 ≤ r) && decide (wh < r)) else
  if v = 1 then ((decide (2 ≤ r) && decide (1 ≤ fr) && decide (fr < r)) || (decide (r = 3) && decide (fr = 3))) else
  if v = 7 then (!own && decide (r = 3) && decide (wh < 3) && decide (1 ≤ fr) && decide (fr ≤ 3)) else false
set_option maxRecDepth 100000 in
set_option maxHeartbeats 4000000 in
theorem may_calls (r v : Int) (own : Bool) (wh fr : Int) (w : World) :
    Calls Try.prog 18 #[.int .u8 r, .int .u8 v, .bool own, .int .u8 wh, .int .u8 fr] w fun e w' => e = .returned (.bool (mayB r v own wh fr)) ∧ Below w.heap.size w w' := by
  go_enter Try.func18, Try.ntmps18
  go_wp2
  all_goals go_ret
  all_goals refine ⟨ret_bool ?_, ?_⟩
  all_goals first | exact Below.refl _ _ | skip
  all_goals (try simp only [beq_iff_eq, beq_eq_false_iff_ne, ne_eq, Bool.not_eq_true] at *)
  all_goals unfold mayB
  all_goals (repeat' split) <;> first | omega | rfl | assumption | (simp [*]; done) | (simp [*]; omega) | (rw [Bool.eq_iff_iff]; simp [*]; done) | (rw [Bool.eq_iff_iff]; simp [*]; omega)
/-- The role's word. -/
def wordB (r : Int) : Array UInt8 := if r = 1 then #[117, 115, 101, 114] else if r = 2 then #[99, 108, 101, 114, 107] else if r = 3 then #[97, 100, 109, 105, 110] else #[]
def wordS (r : Int) : ByteArray := ⟨wordB r⟩
theorem ret_str {a b : Array UInt8} (h : a = b) : Ending.returned (.string ⟨a⟩) = Ending.returned (.string ⟨b⟩) := by rw [h]
theorem rword_calls (r : Int) (w : World) : Calls Try.prog 23 #[.int .u8 r] w fun e w' => e = .returned (.string (wordS r)) ∧ Below w.heap.size w w' := by
  unfold wordS
  go_enter Try.func23, Try.ntmps23
  go_wp2
  all_goals go_ret
  all_goals refine ⟨ret_str ?_, Below.refl _ _⟩
  all_goals unfold wordB
  all_goals simp_all
theorem wordS_isEmpty (r : Int) : (wordS r).toList.isEmpty = (decide (r < 1) || decide (3 < r)) := by
  unfold wordS wordB
  by_cases h1 : r = 1
  · subst h1; simp
  by_cases h2 : r = 2
  · subst h2; simp
  by_cases h3 : r = 3
  · subst h3; simp
  rw [if_neg h1, if_neg h2, if_neg h3]
  simp; omega
set_option maxRecDepth 100000 in
set_option maxHeartbeats 4000000 in
theorem rmay_calls (r v : Int) (own : Bool) (wh fr : Int) (w : World) :
    Calls Try.prog 19 #[.int .u8 r, .int .u8 v, .bool own, .int .u8 wh, .int .u8 fr] w fun e w' => e = .returned (.bool (mayB r v own wh fr)) ∧ Below w.heap.size w w' := by
  by_cases hr : 1 ≤ r ∧ r ≤ 3
  · have hw := Lib.hid (show (wordS r).toList.isEmpty = false by rw [wordS_isEmpty]; simp; omega)
    go_enter Try.func19, Try.ntmps19
    go_wp2_with fail
    refine (rword_calls _ _).mono ?_
    rintro e w1 ⟨rfl, hb1⟩
    have hw' := hw.out
    go_wp2_with (go_at_call 23; refine (rword_calls _ _).mono ?_; rintro e w2 ⟨rfl, hb2⟩)
    all_goals go_ret
    all_goals refine ⟨ret_bool ?_, ?_⟩
    all_goals first | exact hb1 | exact below_keep hb2 hb1 | skip
    all_goals (try rw [wordS_isEmpty])
    all_goals (try simp only [beq_iff_eq, beq_eq_false_iff_ne, ne_eq, Bool.not_eq_true] at *)
    all_goals clear hw'
    all_goals unfold mayB
    all_goals (repeat' split) <;> first | omega | rfl | assumption | (simp [*]; done) | (simp [*]; omega) | (rw [Bool.eq_iff_iff]; simp [*]; done) | (rw [Bool.eq_iff_iff]; simp [*]; omega)
  · have hw1 := Lib.hid (show (wordS r).toList.isEmpty = true by rw [wordS_isEmpty]; simp; omega)
    go_enter Try.func19, Try.ntmps19
    go_wp2_with fail
    refine (rword_calls _ _).mono ?_
    rintro e w1 ⟨rfl, hb1⟩
    have hw' := hw1.out
    go_wp2
    go_ret
    refine ⟨ret_bool ?_, hb1⟩
    unfold mayB
    by_cases h1 : r < 1
    · rw [if_pos h1]
    · rw [if_neg h1, if_pos (by omega)]
end Go.Proofs.Ytbpdjcjhdjkinaa
