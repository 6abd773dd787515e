/- Calls of a disk that are an argument, opened. -/
import Derived.Test.YtjgomebnlekddaaOpenBool
import Derived.Test.YtjgomebnlekddaaOpenPage
namespace Go.Proofs.Ytjgomebnlekddaa
set_option linter.unusedVariables false
set_option linter.unusedSimpArgs false
open Go.ChangeShapes Go.WideShapes Go.ChangeAt Go.RowKit Go.Joins Go.Deep
/-- A list of calls: the cells of each, its bytes and bools. -/
def AcR (w : World) (A : Option Addr) (n : Nat) : Prop := ∀ i, i < n → ∃ (gb go' : Nat) (kd N : Int) (aA : Option Addr) (an ac : Nat) (kA : Option Addr) (kn kc : Nat) (p : List Int) (kl : List Bool), A = some ⟨gb, go', none⟩ ∧ gb < w.heap.size ∧
    w.cell? ⟨gb, go' + i * 4, none⟩ = some (.int .u8 kd) ∧ w.cell? ⟨gb, go' + i * 4 + 1, none⟩ = some (.int .i64 N) ∧ w.cell? ⟨gb, go' + i * 4 + 2, none⟩ = some (.slice aA an ac) ∧ w.cell? ⟨gb, go' + i * 4 + 3, none⟩ = some (.slice kA kn kc) ∧
    0 ≤ kd ∧ kd ≤ 255 ∧ N ≤ 9223372036854775807 ∧ BsR w 0 w.heap.size aA an p ∧ an ≤ ac ∧ BoR w 0 w.heap.size kA kn kl
section
variable {H : Type} {enc : TypeId × Value → H} {w : World} {held : Bool}
set_option maxRecDepth 100000 in
theorem open_acts {fuel : Nat} {cs : List Value} {x : DataW H × List MemPlace} (h : DataW.trod enc Try.prog w 0 (fun _ => true) held fuel 71 cs = some x) :
    ∃ (A : Option Addr) (n c : Nat), cs = [.slice A n c] ∧ AcR w A n ∧ n ≤ c := by
  obtain ⟨A, n, c, D, rfl, hnc, _, hwt, hrow⟩ := open_rows Try.underlying71 Try.underlying76 (by kernel_rfl) (by kernel_rfl) (by decide) h
  refine ⟨A, n, c, rfl, fun i hin => ?_, hnc⟩
  obtain ⟨gb, go', hA, hgb, hc⟩ := hrow (by omega)
  obtain ⟨ys, m, hD, _, hf⟩ := hc i hin
  obtain ⟨v0, y0, hc0, hy0, ht0⟩ := hf 0 _ rfl
  obtain ⟨v1, y1, hc1, hy1, ht1⟩ := hf 1 _ rfl
  obtain ⟨v2, y2, hc2, hy2, ht2⟩ := hf 2 _ rfl
  obtain ⟨v3, y3, hc3, hy3, ht3⟩ := hf 3 _ rfl
  obtain ⟨a0, q0, -, z0⟩ := DataW.trod_int Try.underlying5 ht0
  obtain ⟨a1, q1, -, z1⟩ := DataW.trod_int Try.underlying3 ht1
  obtain ⟨A2, n2, m2, l2, q2, r2, b2, -, -⟩ := open_bytes ht2
  obtain ⟨A3, n3, m3, l3, q3, r3⟩ := open_keep ht3
  simp at q0 q1 q2 q3
  subst q0 q1 q2 q3
  have k0 := bounds_u8 z0
  have k1 := bounds_i64 z1
  exact ⟨gb, go', a0, a1, A2, n2, m2, A3, n3, m3, l2, l3, hA, hgb, hc0, hc1, hc2, hc3, by omega, by omega, by omega, r2, b2, r3⟩
end
theorem AcR.below {w w' : World} {A : Option Addr} {n : Nat} (h : AcR w A n) (hb : Below w.heap.size w w') : ∀ i, i < n → ∃ (gb go' : Nat) (kd N : Int) (aA : Option Addr) (an ac : Nat) (kA : Option Addr) (kn kc : Nat) (p : List Int) (kl : List Bool), A = some ⟨gb, go', none⟩ ∧ gb < w.heap.size ∧
    w'.cell? ⟨gb, go' + i * 4, none⟩ = some (.int .u8 kd) ∧ w'.cell? ⟨gb, go' + i * 4 + 1, none⟩ = some (.int .i64 N) ∧ w'.cell? ⟨gb, go' + i * 4 + 2, none⟩ = some (.slice aA an ac) ∧ w'.cell? ⟨gb, go' + i * 4 + 3, none⟩ = some (.slice kA kn kc) ∧
    0 ≤ kd ∧ kd ≤ 255 ∧ N ≤ 9223372036854775807 ∧ BsR w' 0 w.heap.size aA an p ∧ an ≤ ac ∧ BoR w' 0 w.heap.size kA kn kl := by
  intro i hi
  obtain ⟨gb, go', kd, N, aA, an, ac, kA, kn, kc, p, kl, hA, hgb, h0, h1, h2, h3, k0, k1, k2, hp, hpc, hk⟩ := h i hi
  exact ⟨gb, go', kd, N, aA, an, ac, kA, kn, kc, p, kl, hA, hgb, (hb.cell (p := ⟨gb, go' + i * 4, none⟩) hgb).trans h0, (hb.cell (p := ⟨gb, go' + i * 4 + 1, none⟩) hgb).trans h1, (hb.cell (p := ⟨gb, go' + i * 4 + 2, none⟩) hgb).trans h2, (hb.cell (p := ⟨gb, go' + i * 4 + 3, none⟩) hgb).trans h3, k0, k1, k2, ⟨hp.1, hp.2.1, hp.2.2.below hb (Nat.le_refl _)⟩, hpc, ⟨hk.1, hk.2.below hb (Nat.le_refl _)⟩⟩
end Go.Proofs.Ytjgomebnlekddaa
