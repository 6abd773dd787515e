/- The program's disk: what it answers to a bad index, when off, to a bad size, to a bad Arm. -/
import Derived.Test.YtjgomebnlekddaaDiskX
namespace Go.Proofs.Ytjgomebnlekddaa
set_option linter.unusedVariables false
set_option linter.unusedSimpArgs false
open Go.RowKit
theorem read_arg {d lb m mc : Nat} {pA : Option Addr} {D : Dk} (i : Int) (w : World) (h : Dsk w d lb pA m mc D) (hi : ¬ (0 ≤ i ∧ i < D.l.length)) :
    Calls Try.prog 36 #[.pointer (some ⟨d, 0, none⟩), .int .i64 i] w fun e w' => e = .returned (.tuple #[.slice none 0 0, .int .i64 1]) ∧ w = w' := by
  have hlk : lookE D i = 1 := if_neg hi
  go_enter Try.func36, Try.ntmps36
  go_wp2_with fail
  refine (look_calls i w h).mono ?_
  rintro e w' ⟨rfl, rfl⟩
  rw [hlk]
  go_wp2
  go_ret2
  exact ⟨rfl, rfl⟩
theorem read_off {d lb m mc : Nat} {pA : Option Addr} {D : Dk} (i : Int) (w : World) (h : Dsk w d lb pA m mc D) (hi : 0 ≤ i ∧ i < D.l.length) (hoff : D.off = true) :
    Calls Try.prog 36 #[.pointer (some ⟨d, 0, none⟩), .int .i64 i] w fun e w' => e = .returned (.tuple #[.slice none 0 0, .int .i64 8]) ∧ w = w' := by
  have hlk : lookE D i = 0 := if_pos hi
  have k0 := h.at_
  rw [hoff] at k0
  have k0c := k0.c; have k0f := k0.f; have k0l := k0.lt
  go_enter Try.func36, Try.ntmps36
  go_wp2_with fail
  refine (look_calls i w h).mono ?_
  rintro e w' ⟨rfl, rfl⟩
  rw [hlk]
  go_wp2
  go_ret2
  exact ⟨rfl, rfl⟩
theorem arm_arg {d lb m mc : Nat} {pA : Option Addr} {D : Dk} (i : Int) (w : World) (h : Dsk w d lb pA m mc D) (h0 : i < 0) : Calls Try.prog 50 #[.pointer (some ⟨d, 0, none⟩), .int .i64 i] w fun e w' => e = .returned (.int .i64 1) ∧ w = w' := by
  have k0 := h.at_
  have k0c := k0.c; have k0f := k0.f; have k0l := k0.lt
  go_enter Try.func50, Try.ntmps50
  go_wp2
  go_ret
  exact ⟨rfl, rfl⟩
theorem new_arg (n : Int) (h : n < 1 ∨ 4096 < n) (w : World) : Calls Try.prog 33 #[.int .i64 n] w fun e w' => e = .returned (.tuple #[.pointer none, .int .i64 1]) ∧ w = w' := by
  by_cases h1 : n < 1
  · go_enter Try.func33, Try.ntmps33
    go_wp2
    go_ret2
    exact ⟨rfl, rfl⟩
  · have h2 : 4096 < n := by omega
    go_enter Try.func33, Try.ntmps33
    go_wp2
    go_ret2
    exact ⟨rfl, rfl⟩
end Go.Proofs.Ytjgomebnlekddaa
