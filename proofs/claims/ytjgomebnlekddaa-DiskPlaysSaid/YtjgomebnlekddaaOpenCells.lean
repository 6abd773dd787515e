/- Cells that are arguments, opened. -/
import Derived.Test.YtjgomebnlekddaaOpen
import Derived.Test.YtjgomebnlekddaaCells
namespace Go.Proofs.Ytjgomebnlekddaa
set_option linter.unusedVariables false
set_option linter.unusedSimpArgs false
open Go.ChangeShapes Go.WideShapes Go.ChangeAt Go.RowKit Go.Joins Go.Deep
section
variable {H : Type} {enc : TypeId × Value → H} {w : World} {spare : Nat → Bool} {held : Bool}
theorem cell_weight {ys : List (DataW H × List MemPlace)} (hs : ∀ j ∈ (DataW.agg (ys.map (·.1))).weights Try.prog 35, j ≤ reachBytes) (i : Nat) (hi : i < 2) (y : DataW H × List MemPlace) (hy : ys[i]? = some y) : ∀ m ∈ y.1.weights Try.prog 23, m ≤ reachBytes := fun m hm =>
  hs m (by
    simp only [DataW.weights, Try.underlying35]
    refine DataW.weights_mem_each (j := i) (t := 23) (d := y.1) ?_ (by simp [hy]) m hm
    rcases Nat.lt_or_ge i 1 with h0 | h0
    · obtain rfl : i = 0 := by omega
      rfl
    · obtain rfl : i = 1 := by omega
      rfl)
set_option maxRecDepth 100000 in
theorem open_cells {fuel : Nat} {cs : List Value} {x : DataW H × List MemPlace} (h : DataW.trod enc Try.prog w 0 spare held fuel 32 cs = some x) (hs : ∀ k ∈ x.1.weights Try.prog 32, k ≤ reachBytes) :
    ∃ (A : Option Addr) (n c : Nat) (l : List Cl), cs = [.slice A n c] ∧ CsR w 0 w.heap.size A n l ∧ n ≤ c := by
  obtain ⟨A, n, c, D, rfl, hnc, _, hwt, hrow⟩ := open_rows Try.underlying32 Try.underlying35 (by kernel_rfl) (by kernel_rfl) (by decide) h
  have hex : ∃ f : Nat → Cl, ∀ i, i < n → ∃ (gb go' : Nat) (kA : Option Addr) (kN kC : Nat) (vA : Option Addr) (vN vC : Nat), A = some ⟨gb, go', none⟩ ∧ 0 ≤ gb ∧ gb < w.heap.size ∧
    w.cell? ⟨gb, go' + i * 2, none⟩ = some (.slice kA kN kC) ∧ w.cell? ⟨gb, go' + i * 2 + 1, none⟩ = some (.slice vA vN vC) ∧ BsR w 0 w.heap.size kA kN (f i).1 ∧ BsR w 0 w.heap.size vA vN (f i).2 ∧ kN ≤ 70368744177664 * 2 ∧ vN ≤ 70368744177664 * 2 := by
    have hi : ∀ i, ∃ p : Cl, i < n → ∃ (gb go' : Nat) (kA : Option Addr) (kN kC : Nat) (vA : Option Addr) (vN vC : Nat), A = some ⟨gb, go', none⟩ ∧ 0 ≤ gb ∧ gb < w.heap.size ∧
        w.cell? ⟨gb, go' + i * 2, none⟩ = some (.slice kA kN kC) ∧ w.cell? ⟨gb, go' + i * 2 + 1, none⟩ = some (.slice vA vN vC) ∧ BsR w 0 w.heap.size kA kN p.1 ∧ BsR w 0 w.heap.size vA vN p.2 ∧ kN ≤ 70368744177664 * 2 ∧ vN ≤ 70368744177664 * 2 := by
      intro i
      by_cases hin : i < n
      · obtain ⟨gb, go', hA, hgb, hc⟩ := hrow (by omega)
        obtain ⟨ys, m, hD, _, hf⟩ := hc i hin
        have hw := (hwt i hs).2 hin
        rw [hD] at hw
        obtain ⟨v0, y0, hc0, hy0, ht0⟩ := hf 0 _ rfl
        obtain ⟨v1, y1, hc1, hy1, ht1⟩ := hf 1 _ rfl
        obtain ⟨A0, n0, m0, l0, q0, r0, -, -, s0⟩ := open_bytes ht0
        obtain ⟨A1, n1, m1, l1, q1, r1, -, -, s1⟩ := open_bytes ht1
        simp at q0 q1
        subst q0 q1
        have z0 := s0 (cell_weight hw 0 (by omega) y0 hy0)
        have z1 := s1 (cell_weight hw 1 (by omega) y1 hy1)
        exact ⟨(l0, l1), fun _ => ⟨gb, go', A0, n0, m0, A1, n1, m1, hA, Nat.zero_le _, hgb, hc0, hc1, r0, r1, by omega, by omega⟩⟩
      · exact ⟨([], []), fun h => absurd h hin⟩
    exact ⟨fun i => Classical.choose (hi i), fun i h => Classical.choose_spec (hi i) h⟩
  obtain ⟨f, hf⟩ := hex
  have hget : ∀ j, j < n → clAt ((List.range n).map f) j = f j := fun j hj => by simp [clAt, hj]
  refine ⟨A, n, c, (List.range n).map f, rfl, ⟨by simp, fun i hi => ?_⟩, hnc⟩
  rw [hget i hi]
  exact hf i hi
set_option maxRecDepth 100000 in
theorem open_cell {r : Reach} {b0 : Nat} {v : Value} {d : DataW H} {p : List MemPlace} (hv : Value.okWide Try.prog w r b0 35 v) (h : DataW.Trod enc Try.prog w 0 spare held 35 v d p) (hs : ∀ n ∈ d.weights Try.prog 35, n ≤ reachBytes) :
    ∃ (kA vA : Option Addr) (kN kC vN vC : Nat) (k v' : List Int), v = .agg #[.slice kA kN kC, .slice vA vN vC] ∧ BsR w 0 w.heap.size kA kN k ∧ BsR w 0 w.heap.size vA vN v' ∧ kN ≤ 70368744177664 * 2 ∧ vN ≤ 70368744177664 * 2 ∧ kN ≤ kC ∧ vN ≤ vC := by
  obtain ⟨cs, rfl, hcs⟩ := okWide_struct Try.underlying35 hv
  obtain ⟨cs⟩ := cs
  obtain ⟨fuel, hf0⟩ := h
  have hf : DataW.trod enc Try.prog w 0 spare held fuel 35 cs = some (d, p) := hf0
  obtain ⟨ys, n, hcl, hyl, hx, hg⟩ := open_fields Try.underlying35 (by kernel_rfl) (by kernel_rfl) hf
  simp only [Prod.mk.injEq] at hx
  obtain ⟨hd, -⟩ := hx
  subst hd
  have hlen : cs.length = 2 := hcl
  match cs, hlen with
  | [c0, c1], _ =>
    obtain ⟨v0, y0, e0, g0, t0⟩ := hg 0 _ rfl
    obtain ⟨v1, y1, e1, g1, t1⟩ := hg 1 _ rfl
    simp at e0 e1
    subst e0 e1
    obtain ⟨A0, n0, m0, l0, q0, r0, b0, -, s0⟩ := open_bytes t0
    obtain ⟨A1, n1, m1, l1, q1, r1, b1, -, s1⟩ := open_bytes t1
    simp at q0 q1
    subst q0 q1
    have z0 := s0 (cell_weight hs 0 (by omega) y0 g0)
    have z1 := s1 (cell_weight hs 1 (by omega) y1 g1)
    exact ⟨A0, A1, n0, m0, n1, m1, l0, l1, rfl, r0, r1, by omega, by omega, b0, b1⟩
end
end Go.Proofs.Ytjgomebnlekddaa
