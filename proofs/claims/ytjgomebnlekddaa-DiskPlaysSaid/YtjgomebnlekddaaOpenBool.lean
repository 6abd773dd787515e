/- Arguments opened: bools, a byte. -/
import Derived.Test.YtjgomebnlekddaaOpen
import Derived.Test.YtjgomebnlekddaaDiskS
import Derived.Deep.Grids
namespace Go.Proofs.Ytjgomebnlekddaa
set_option linter.unusedVariables false
set_option linter.unusedSimpArgs false
open Go.ChangeShapes Go.WideShapes Go.ChangeAt Go.RowKit Go.Joins Go.Deep
section
variable {H : Type} {enc : TypeId × Value → H} {w : World} {held : Bool}
theorem open_keep {fuel : Nat} {cs : List Value} {x : DataW H × List MemPlace} (h : DataW.trod enc Try.prog w 0 (fun _ => true) held fuel 57 cs = some x) :
    ∃ (A : Option Addr) (n c : Nat) (l : List Bool), cs = [.slice A n c] ∧ BoR w 0 w.heap.size A n l := by
  rcases open_bools Try.underlying57 Try.underlying4 (by kernel_rfl) h with ⟨rfl, _⟩ | ⟨a, len, cap, B, rfl, _, hl, hm, hx, hc⟩
  · exact ⟨none, 0, 0, [], rfl, rfl, Rd.nil _ _ _ _ _⟩
  · refine ⟨some a, len, cap, (List.range len).map B, rfl, by simp, fun h0 => ?_⟩
    obtain ⟨b, off, spot⟩ := a
    have hc0 := hc 0 (by omega)
    have hv0 : w.cell? ⟨b, off, spot⟩ = some (.bool (B 0)) := by simpa [Addr.add] using hc0
    have hspot : spot = none := World.cell?_spot hv0
    subst hspot
    refine ⟨b, off, rfl, Nat.zero_le _, World.block_lt_of_cell? w ⟨b, off, none⟩ hv0, fun j hj => ?_⟩
    have := hc j (by omega)
    rw [Go.WideShapes.add_plain] at this
    rw [this]
    simp [hj]
set_option maxRecDepth 100000 in
theorem open_u8 {r : Reach} {b0 : Nat} {v : Value} {d : DataW H} {p : List MemPlace} {spare : Nat → Bool} (hv : Value.okWide Try.prog w r b0 5 v) (h : DataW.Trod enc Try.prog w 0 spare held 5 v d p) : ∃ x : Int, v = .int .u8 x ∧ 0 ≤ x ∧ x ≤ 255 := by
  obtain ⟨x, rfl⟩ := okWide_int Try.underlying5 hv
  obtain ⟨f, hf⟩ := h
  obtain ⟨a, q, -, z⟩ := DataW.trod_int Try.underlying5 hf
  have e : [Value.int .u8 x] = [Value.int .u8 a] := q
  injection e with e _
  injection e with _ e
  subst e
  have := bounds_u8 z
  exact ⟨x, rfl, by omega, by omega⟩
end
end Go.Proofs.Ytjgomebnlekddaa
