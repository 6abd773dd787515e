/- How long a list of cells that is an argument may be. -/
import Derived.Test.YtjgomebnlekddaaOpenCells
namespace Go.Proofs.Ytjgomebnlekddaa
set_option linter.unusedVariables false
set_option linter.unusedSimpArgs false
open Go.ChangeShapes Go.WideShapes Go.ChangeAt Go.RowKit Go.Joins Go.Deep
section
variable {H : Type} {enc : TypeId × Value → H} {w : World} {spare : Nat → Bool} {held : Bool}
theorem open_len {fuel : Nat} {cs : List Value} {x : DataW H × List MemPlace} (h : DataW.trod enc Try.prog w 0 spare held fuel 32 cs = some x) (hs : ∀ k ∈ x.1.weights Try.prog 32, k ≤ reachBytes) {A : Option Addr} {n c : Nat} (e : cs = [.slice A n c]) : n ≤ 140737488355328 := by
  obtain ⟨A', n', c', D, rfl, _, _, hwt, _⟩ := open_rows Try.underlying32 Try.underlying35 (by kernel_rfl) (by kernel_rfl) (by decide) h
  have hb : Try.prog.bytesOf 35 = 48 := by kernel_rfl
  have h1 := (hwt 0 hs).1
  rw [hb] at h1
  injection e with e _
  injection e with _ e _
  subst e
  simp [reachBytes] at h1
  omega
end
end Go.Proofs.Ytjgomebnlekddaa
