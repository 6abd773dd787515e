/- Arguments opened: a byte, a number of two bytes. -/
import Derived.Test.YtnehppeoffemlaaOpen
namespace Go.Proofs.Ytnehppeoffemlaa
set_option linter.unusedVariables false
set_option linter.unusedSimpArgs false
open Go.ChangeShapes Go.WideShapes Go.ChangeAt Go.RowKit Go.Joins
section
variable {H : Type} {enc : TypeId × Value → H} {w : World} {held : Bool}
set_option maxRecDepth 100000 in
theorem open_n8 {r : Reach} {b0 : Nat} {v : Value} {d : DataW H} {p : List MemPlace} {spare : Nat → Bool} (hv : Value.okWide Try.prog w r b0 5 v) (h : DataW.Trod enc Try.prog w 0 spare held 5 v d p) : ∃ x : Int, v = .int .u8 x ∧ 0 ≤ x ∧ x ≤ 255 := by
  obtain ⟨x, rfl⟩ := okWide_int Try.underlying5 hv
  obtain ⟨f, hf⟩ := h
  obtain ⟨a, q, -, z⟩ := DataW.trod_int Try.underlying5 hf
  have e : [Value.int .u8 x] = [Value.int .u8 a] := q
  injection e with e _
  injection e with _ e
  subst e
  have := bounds_u8 z
  exact ⟨x, rfl, by omega, by omega⟩
set_option maxRecDepth 100000 in
theorem open_n16 {r : Reach} {b0 : Nat} {v : Value} {d : DataW H} {p : List MemPlace} {spare : Nat → Bool} (hv : Value.okWide Try.prog w r b0 22 v) (h : DataW.Trod enc Try.prog w 0 spare held 22 v d p) : ∃ x : Int, v = .int .u16 x ∧ 0 ≤ x ∧ x ≤ 65535 := by
  obtain ⟨x, rfl⟩ := okWide_int Try.underlying22 hv
  obtain ⟨f, hf⟩ := h
  obtain ⟨a, q, -, z⟩ := DataW.trod_int Try.underlying22 hf
  have e : [Value.int .u16 x] = [Value.int .u16 a] := q
  injection e with e _
  injection e with _ e
  subst e
  have := bounds_u16 z
  exact ⟨x, rfl, by omega, by omega⟩
end
end Go.Proofs.Ytnehppeoffemlaa
