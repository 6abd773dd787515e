/- Small words on what a call keeps, shared by the records and the pages. -/
import Derived.Test.YtnehppeoffemlaaApp
namespace Go.Proofs.Ytnehppeoffemlaa
set_option linter.unusedVariables false
set_option linter.unusedSimpArgs false
open Go.RowKit
theorem BsR.grown {w w' : World} {lo hi n : Nat} {A : Option Addr} {l : List Int} {row : Option Nat} (h : BsR w lo hi A n l) (hg : w.grownBy w' row) (hne : ∀ k, row = some k → k < lo ∨ hi ≤ k) (hh : hi ≤ w.heap.size) : BsR w' lo hi A n l :=
  ⟨h.1, h.2.1, h.2.2.keep fun b o h1 h2 => World.cell?_of_block (a := ⟨b, o, none⟩) (hg.block b (by omega) (fun e => by rcases hne b e.symm with h | h <;> omega))⟩
theorem At.grown {w w' : World} {b T : Nat} {c : Array Value} {row : Option Nat} (h : At w b c T) (hg : w.grownBy w' row) (hne : some b ≠ row) : At w' b c T := h.of_heap (hg.block b h.lt hne)
theorem ne_next {A A' : Option Addr} {D H : Nat} (hat : ownBlk A' = ownBlk A ∨ ownBlk A' = some H) (h1 : some D ≠ ownBlk A) (h2 : D < H) : some D ≠ ownBlk A' := by
  rcases hat with h | h
  · rw [h]; exact h1
  · rw [h]; intro e; injection e with e; omega
theorem OwB.drew {w : World} {base n c : Nat} {A : Option Addr} {l : List Int} (h : OwB w base A n c l) : OwB w.drew base A n c l := h
theorem BsR.drew {w : World} {lo hi n : Nat} {A : Option Addr} {l : List Int} (h : BsR w lo hi A n l) : BsR w.drew lo hi A n l := h
end Go.Proofs.Ytnehppeoffemlaa
