/- A list of lists of bytes that is an argument, opened. -/
import Derived.Test.YtjgomebnlekddaaOpenPage
import Derived.Test.YtjgomebnlekddaaDLastsL
namespace Go.Proofs.Ytjgomebnlekddaa
set_option linter.unusedVariables false
set_option linter.unusedSimpArgs false
open Go.ChangeShapes Go.WideShapes Go.ChangeAt Go.RowKit Go.Joins Go.Deep
section
variable {H : Type} {enc : TypeId × Value → H} {w : World} {spare : Nat → Bool} {held : Bool}
set_option maxRecDepth 100000 in
theorem open_list {fuel : Nat} {cs : List Value} {x : DataW H × List MemPlace} (h : DataW.trod enc Try.prog w 0 spare held fuel 68 cs = some x) :
    ∃ (A : Option Addr) (n c : Nat) (L : Nat → List Int), cs = [.slice A n c] ∧ LtR w A n L := by
  rcases open_slice1 Try.underlying68 (by kernel_rfl) h with ⟨rfl, _⟩ | ⟨a, len, cap, m, k, V, D, Pl, rfl, _, hl, hm, hmm, _, hx⟩
  · exact ⟨none, 0, 0, fun _ => [], rfl, fun i hi => absurd hi (by omega)⟩
  · have hml : len ≤ m := by rw [hmm]; split <;> omega
    obtain ⟨b, off, spot⟩ := a
    have hi : ∀ i, ∃ l : List Int, i < len → ∃ (gb go' : Nat) (bA : Option Addr) (bN bC : Nat), some (⟨b, off, spot⟩ : Addr) = some ⟨gb, go', none⟩ ∧ gb < w.heap.size ∧ w.cell? ⟨gb, go' + i, none⟩ = some (.slice bA bN bC) ∧ BsR w 0 w.heap.size bA bN l := by
      intro i
      by_cases hin : i < len
      · obtain ⟨hc, ht⟩ := hx i (by omega)
        obtain ⟨A0, n0, m0, l0, q0, r0, -, -, -⟩ := open_bytes ht
        simp at q0
        rw [q0] at hc
        have hx0 := (hx 0 (by omega)).1
        have ht0 := (hx 0 (by omega)).2
        obtain ⟨A9, n9, m9, l9, q9, -, -, -, -⟩ := open_bytes ht0
        simp at q9
        rw [q9] at hx0
        have hv : w.cell? ⟨b, off, spot⟩ = some (.slice A9 n9 m9) := by simpa [Addr.add] using hx0
        have hspot : spot = none := World.cell?_spot hv
        subst hspot
        rw [Go.WideShapes.add_plain] at hc
        exact ⟨l0, fun _ => ⟨b, off, A0, n0, m0, rfl, World.block_lt_of_cell? w ⟨b, off + i, none⟩ hc, hc, r0⟩⟩
      · exact ⟨[], fun h => absurd h hin⟩
    exact ⟨some ⟨b, off, spot⟩, len, cap, fun i => Classical.choose (hi i), rfl, fun i h => Classical.choose_spec (hi i) h⟩
end
end Go.Proofs.Ytjgomebnlekddaa
