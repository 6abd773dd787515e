/- A page that is an argument, opened. -/
import Derived.Test.YtjgomebnlekddaaOpenLen
namespace Go.Proofs.Ytjgomebnlekddaa
set_option linter.unusedVariables false
set_option linter.unusedSimpArgs false
open Go.ChangeShapes Go.WideShapes Go.ChangeAt Go.RowKit Go.Joins Go.Deep
section
variable {H : Type} {enc : TypeId × Value → H} {w : World} {spare : Nat → Bool} {held : Bool}
set_option maxRecDepth 100000 in
theorem open_page {r : Reach} {b0 : Nat} {v : Value} {d : DataW H} {p : List MemPlace} (hv : Value.okWide Try.prog w r b0 54 v) (h : DataW.Trod enc Try.prog w 0 spare held 54 v d p) (hs : ∀ n ∈ d.weights Try.prog 54, n ≤ reachBytes) :
    ∃ (kd next : Int) (A : Option Addr) (n c : Nat) (l : List Cl), v = .agg #[.int .u8 kd, .int .i64 next, .slice A n c] ∧ 0 ≤ kd ∧ kd ≤ 255 ∧ CsR w 0 w.heap.size A n l ∧ n ≤ c ∧ n ≤ 140737488355328 := by
  obtain ⟨cs, rfl, hcs⟩ := okWide_struct Try.underlying54 hv
  obtain ⟨cs⟩ := cs
  obtain ⟨fuel, hf0⟩ := h
  have hf : DataW.trod enc Try.prog w 0 spare held fuel 54 cs = some (d, p) := hf0
  obtain ⟨ys, n, hcl, hyl, hx, hg⟩ := open_fields Try.underlying54 (by kernel_rfl) (by kernel_rfl) hf
  simp only [Prod.mk.injEq] at hx
  obtain ⟨hd, -⟩ := hx
  subst hd
  have hw : ∀ (j : Nat) (f : Field) (y : DataW H × List MemPlace), _ → ys[j]? = some y → ∀ m ∈ y.1.weights Try.prog f.type, m ≤ reachBytes := fun j f y (hj : (#[_, _, _] : Array Field)[j]? = some f) hy m hm =>
    hs m (by
      simp only [DataW.weights, Try.underlying54]
      refine DataW.weights_mem_each (j := j) (t := f.type) (d := y.1) ?_ (by simp [hy]) m hm
      rw [List.getElem?_map, Array.getElem?_toList, hj]; rfl)
  have hlen : cs.length = 3 := hcl
  match cs, hlen with
  | [c0, c1, c2], _ =>
    obtain ⟨v0, y0, e0, g0, t0⟩ := hg 0 _ rfl
    obtain ⟨v1, y1, e1, g1, t1⟩ := hg 1 _ rfl
    obtain ⟨v2, y2, e2, g2, t2⟩ := hg 2 _ rfl
    have w2 := hw 2 _ y2 rfl g2
    simp at e0 e1 e2
    subst e0 e1 e2
    obtain ⟨a0, q0, -, z0⟩ := DataW.trod_int Try.underlying5 t0
    obtain ⟨a1, q1, -, -⟩ := DataW.trod_int Try.underlying3 t1
    obtain ⟨A, n2, c2', l, q2, hcr, hnc⟩ := open_cells t2 w2
    have hn := open_len t2 w2 q2
    simp at q0 q1 q2
    subst q0 q1 q2
    have k0 := bounds_u8 z0
    exact ⟨a0, a1, A, n2, c2', l, rfl, by omega, by omega, hcr, hnc, hn⟩
end
end Go.Proofs.Ytjgomebnlekddaa
