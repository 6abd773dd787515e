/- A record that is an argument, opened. -/
import Derived.Test.YtjgomebnlekddaaOpen
import Derived.Test.YtjgomebnlekddaaEnc6
namespace Go.Proofs.Ytjgomebnlekddaa
set_option linter.unusedVariables false
set_option linter.unusedSimpArgs false
open Go.ChangeShapes Go.WideShapes Go.ChangeAt Go.RowKit Go.Joins Go.Deep
section
variable {H : Type} {enc : TypeId × Value → H} {w : World} {spare : Nat → Bool} {held : Bool}
set_option maxRecDepth 100000 in
theorem open_pairs {fuel : Nat} {cs : List Value} {x : DataW H × List MemPlace} (h : DataW.trod enc Try.prog w 0 spare held fuel 24 cs = some x) :
    ∃ (A : Option Addr) (n c : Nat) (l : List (Int × Int)), cs = [.slice A n c] ∧ PrR w 0 w.heap.size A n l ∧ (∀ d ∈ l, 0 ≤ d.2 ∧ d.2 < 18446744073709551616) ∧ ((∀ k ∈ x.1.weights Try.prog 24, k ≤ reachBytes) → n * 16 ≤ 140737488351232) := by
  obtain ⟨A, n, c, D, rfl, _, _, hwt, hrow⟩ := open_rows Try.underlying24 Try.underlying94 (by kernel_rfl) (by kernel_rfl) (by decide) h
  have hbytes : Try.prog.bytesOf 94 = 16 := by kernel_rfl
  have hex : ∃ f : Nat → Int × Int, ∀ i, i < n → 0 ≤ (f i).2 ∧ (f i).2 < 18446744073709551616 ∧ ∃ gb go', A = some ⟨gb, go', none⟩ ∧ gb < w.heap.size ∧ w.cell? ⟨gb, go' + (i * 2 + 0), none⟩ = some (.int .i64 (f i).1) ∧ w.cell? ⟨gb, go' + (i * 2 + 1), none⟩ = some (.int .u64 (f i).2) := by
    have hi : ∀ i, ∃ p : Int × Int, i < n → 0 ≤ p.2 ∧ p.2 < 18446744073709551616 ∧ ∃ gb go', A = some ⟨gb, go', none⟩ ∧ gb < w.heap.size ∧ w.cell? ⟨gb, go' + (i * 2 + 0), none⟩ = some (.int .i64 p.1) ∧ w.cell? ⟨gb, go' + (i * 2 + 1), none⟩ = some (.int .u64 p.2) := by
      intro i
      by_cases hin : i < n
      · obtain ⟨gb, go', hA, hgb, hc⟩ := hrow (by omega)
        obtain ⟨ys, m, _, _, hf⟩ := hc i hin
        obtain ⟨v0, y0, hc0, _, ht0⟩ := hf 0 _ rfl
        obtain ⟨v1, y1, hc1, _, ht1⟩ := hf 1 _ rfl
        obtain ⟨a0, e0, -, -⟩ := DataW.trod_int Try.underlying3 ht0
        obtain ⟨a1, e1, -, w1⟩ := DataW.trod_int Try.underlying22 ht1
        simp at e0 e1
        subst e0 e1
        have := bounds_u64 w1
        exact ⟨(a0, a1), fun _ => ⟨by simp only; omega, by simp only; omega, gb, go', hA, hgb, hc0, hc1⟩⟩
      · exact ⟨(0, 0), fun h => absurd h hin⟩
    exact ⟨fun i => Classical.choose (hi i), fun i h => Classical.choose_spec (hi i) h⟩
  obtain ⟨f, hf⟩ := hex
  have hget : ∀ j, j < n → ((List.range n).map f).getD j (0, 0) = f j := fun j hj => by simp [hj]
  refine ⟨A, n, c, (List.range n).map f, rfl, ⟨by simp, fun h0 => ?_⟩, fun d hd => ?_, fun hs => ?_⟩
  · obtain ⟨gb, go', rfl, hgb, _⟩ := hrow (by omega)
    refine ⟨gb, go', rfl, Nat.zero_le _, hgb, fun j hj => ?_⟩
    obtain ⟨_, _, gb2, go2, hA, _, c0, c1⟩ := hf (j / 2) (by omega)
    injection hA with hA
    injection hA with hb ho
    subst hb ho
    unfold prF
    rw [hget _ (by omega)]
    by_cases h2 : j % 2 = 0
    · rw [if_pos h2, ← c0]; congr 2; omega
    · rw [if_neg h2, ← c1]; congr 2; omega
  · obtain ⟨j, hj, rfl⟩ := List.mem_map.1 hd
    have := hf j (by simpa using hj)
    exact ⟨this.1, this.2.1⟩
  · have h16 := (hwt 0 hs).1
    rw [hbytes] at h16
    exact h16
set_option maxRecDepth 100000 in
theorem open_rec {r : Reach} {b0 : Nat} {v : Value} {d : DataW H} {p : List MemPlace} (hv : Value.okWide Try.prog w r b0 26 v) (h : DataW.Trod enc Try.prog w 0 spare held 26 v d p) (hs : ∀ n ∈ d.weights Try.prog 26, n ≤ reachBytes) :
    ∃ (k tx prev page off next : Int) (bA aA dA : Option Addr) (bN bC aN aC dN dC : Nat) (opn : Bool) (bl al : List Int) (dl : List (Int × Int)), v = .agg #[.int .u8 k, .int .u64 tx, .int .u64 prev, .int .i64 page, .int .i64 off, .slice bA bN bC, .slice aA aN aC, .int .u64 next, .slice dA dN dC, .bool opn] ∧ RecIn w k tx prev page off next bA aA dA bN bC aN aC dN dC opn bl al dl := by
  obtain ⟨cs, rfl, hcs⟩ := okWide_struct Try.underlying26 hv
  obtain ⟨cs⟩ := cs
  obtain ⟨fuel, hf0⟩ := h
  have hf : DataW.trod enc Try.prog w 0 spare held fuel 26 cs = some (d, p) := hf0
  obtain ⟨ys, n, hcl, hyl, hx, hg⟩ := open_fields Try.underlying26 (by kernel_rfl) (by kernel_rfl) hf
  simp only [Prod.mk.injEq] at hx
  obtain ⟨hd, -⟩ := hx
  subst hd
  have hw : ∀ (j : Nat) (f : Field) (y : DataW H × List MemPlace), _ → ys[j]? = some y → ∀ m ∈ y.1.weights Try.prog f.type, m ≤ reachBytes := fun j f y (hj : (#[_, _, _, _, _, _, _, _, _, _] : Array Field)[j]? = some f) hy m hm =>
    hs m (by
      simp only [DataW.weights, Try.underlying26]
      refine DataW.weights_mem_each (j := j) (t := f.type) (d := y.1) ?_ (by simp [hy]) m hm
      rw [List.getElem?_map, Array.getElem?_toList, hj]; rfl)
  have hlen : cs.length = 10 := hcl
  match cs, hlen with
  | [c0, c1, c2, c3, c4, c5, c6, c7, c8, c9], _ =>
    obtain ⟨v0, y0, e0, g0, t0⟩ := hg 0 _ rfl
    obtain ⟨v1, y1, e1, g1, t1⟩ := hg 1 _ rfl
    obtain ⟨v2, y2, e2, g2, t2⟩ := hg 2 _ rfl
    obtain ⟨v3, y3, e3, g3, t3⟩ := hg 3 _ rfl
    obtain ⟨v4, y4, e4, g4, t4⟩ := hg 4 _ rfl
    obtain ⟨v5, y5, e5, g5, t5⟩ := hg 5 _ rfl
    obtain ⟨v6, y6, e6, g6, t6⟩ := hg 6 _ rfl
    obtain ⟨v7, y7, e7, g7, t7⟩ := hg 7 _ rfl
    obtain ⟨v8, y8, e8, g8, t8⟩ := hg 8 _ rfl
    obtain ⟨v9, y9, e9, g9, t9⟩ := hg 9 _ rfl
    have w5 := hw 5 _ y5 rfl g5
    have w6 := hw 6 _ y6 rfl g6
    have w8 := hw 8 _ y8 rfl g8
    simp at e0 e1 e2 e3 e4 e5 e6 e7 e8 e9
    subst e0 e1 e2 e3 e4 e5 e6 e7 e8 e9
    obtain ⟨a0, q0, -, z0⟩ := DataW.trod_int Try.underlying5 t0
    obtain ⟨a1, q1, -, z1⟩ := DataW.trod_int Try.underlying22 t1
    obtain ⟨a2, q2, -, z2⟩ := DataW.trod_int Try.underlying22 t2
    obtain ⟨a3, q3, -, -⟩ := DataW.trod_int Try.underlying3 t3
    obtain ⟨a4, q4, -, -⟩ := DataW.trod_int Try.underlying3 t4
    obtain ⟨A5, n5, m5, l5, q5, r5, -, -, s5⟩ := open_bytes t5
    obtain ⟨A6, n6, m6, l6, q6, r6, -, -, s6⟩ := open_bytes t6
    obtain ⟨a7, q7, -, z7⟩ := DataW.trod_int Try.underlying22 t7
    obtain ⟨A8, n8, m8, l8, q8, r8, u8', s8⟩ := open_pairs t8
    obtain ⟨b9, q9, -⟩ := DataW.trod_bool Try.underlying4 t9
    simp at q0 q1 q2 q3 q4 q5 q6 q7 q8 q9
    subst q0 q1 q2 q3 q4 q5 q6 q7 q8 q9
    have k0 := bounds_u8 z0
    have k1 := bounds_u64 z1
    have k2 := bounds_u64 z2
    have k7 := bounds_u64 z7
    exact ⟨a0, a1, a2, a3, a4, a7, A5, A6, A8, n5, m5, n6, m6, n8, m8, b9, l5, l6, l8, rfl,
      ⟨by omega, by omega, by omega, by omega, by omega, by omega, by omega, by omega, r5, r6, r8, s5 w5, s6 w6, s8 w8, u8'⟩⟩
end
end Go.Proofs.Ytjgomebnlekddaa
