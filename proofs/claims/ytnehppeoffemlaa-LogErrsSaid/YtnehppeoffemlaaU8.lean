/- Numbers as eight bytes, as two. -/
import Derived.Test.YtnehppeoffemlaaOctet
import Derived.Test.YtnehppeoffemlaaApp
namespace Go.Proofs.Ytnehppeoffemlaa
set_option linter.unusedVariables false
set_option linter.unusedSimpArgs false
open Go.RowKit
theorem BsR.bs {w : World} {lo hi n : Nat} {A : Option Addr} {l : List Int} (h : BsR w lo hi A n l) (hh : hi ≤ w.heap.size) : Bs w A n l := by
  refine ⟨h.1, fun j hj => ?_⟩
  obtain ⟨gb, go', hA, _, h2, hc⟩ := h.at_ hj
  have := h.2.1.getD j
  exact ⟨this.1, this.2, gb, go', hA, by omega, hc⟩
def u8L (u : Int) : List Int := (List.range 8).map (ub u)
theorem u8L_byt (u : Int) : Byt (u8L u) := by
  intro x hx
  obtain ⟨j, _, rfl⟩ := List.mem_map.1 hx
  unfold ub
  omega
theorem uint_g (u : Int) (h0 : 0 ≤ u) (h1 : u < 18446744073709551616) (w : World) :
    Calls Try.prog 72 #[.int .u64 u] w fun e w' => ∃ g, e = .returned (.slice (some ⟨g, 0, none⟩) 8 8) ∧ BsR w' g (g + 1) (some ⟨g, 0, none⟩) 8 (u8L u) ∧ w.heap.size ≤ g ∧ g < w'.heap.size ∧ Below w.heap.size w w' :=
  (uint_calls u h0 h1 w).mono fun _ _ ⟨he, ha, hb⟩ => ⟨w.heap.size, he, BsR.of_at ha rfl (u8L_byt u), Nat.le_refl _, ha.lt, hb⟩
def twoL (n : Int) : List Int := [n / 256, n % 256]
theorem twoL_byt (n : Int) (h0 : 0 ≤ n) (h1 : n < 65536) : Byt (twoL n) := Byt.cons (by omega) (by omega) (Byt.cons (by omega) (by omega) Byt.nil)
theorem sumL_range (l : List Int) : 0 ≤ sumL l ∧ sumL l < 4294967296 := bits_u32 _ _ _
end Go.Proofs.Ytnehppeoffemlaa
