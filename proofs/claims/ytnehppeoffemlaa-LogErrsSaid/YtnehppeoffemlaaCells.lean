/- Lists of cells in memory; page.Size and the reference's. -/
import Derived.Test.YtnehppeoffemlaaByt
import Derived.Deep.LoopGhost
import Derived.Deep.QuietTactic
namespace Go.Proofs.Ytnehppeoffemlaa
set_option linter.unusedVariables false
set_option linter.unusedSimpArgs false
open Go.RowKit
abbrev Cl := List Int × List Int
def clAt (l : List Cl) (i : Nat) : Cl := l.getD i ([], [])
/-- A slice of cells that reads as l, all of it in blocks from lo on and below hi. -/
def CsR (w : World) (lo hi : Nat) (A : Option Addr) (n : Nat) (l : List Cl) : Prop :=
  l.length = n ∧ ∀ i, i < n → ∃ (gb go' : Nat) (kA : Option Addr) (kN kC : Nat) (vA : Option Addr) (vN vC : Nat), A = some ⟨gb, go', none⟩ ∧ lo ≤ gb ∧ gb < hi ∧
    w.cell? ⟨gb, go' + i * 2, none⟩ = some (.slice kA kN kC) ∧ w.cell? ⟨gb, go' + i * 2 + 1, none⟩ = some (.slice vA vN vC) ∧ BsR w lo hi kA kN (clAt l i).1 ∧ BsR w lo hi vA vN (clAt l i).2 ∧ kN ≤ 70368744177664 * 2 ∧ vN ≤ 70368744177664 * 2
theorem CsR.keep {w w' : World} {lo hi n : Nat} {A : Option Addr} {l : List Cl} (h : CsR w lo hi A n l) (hk : ∀ b o, lo ≤ b → b < hi → w'.cell? ⟨b, o, none⟩ = w.cell? ⟨b, o, none⟩) : CsR w' lo hi A n l := by
  refine ⟨h.1, fun i hi' => ?_⟩
  obtain ⟨gb, go', kA, kN, kC, vA, vN, vC, hA, h1, h2, c1, c2, b1, b2, m1, m2⟩ := h.2 i hi'
  exact ⟨gb, go', kA, kN, kC, vA, vN, vC, hA, h1, h2, (hk _ _ h1 h2).trans c1, (hk _ _ h1 h2).trans c2, ⟨b1.1, b1.2.1, b1.2.2.keep hk⟩, ⟨b2.1, b2.2.1, b2.2.2.keep hk⟩, m1, m2⟩
theorem CsR.below {w w' : World} {lo hi n B : Nat} {A : Option Addr} {l : List Cl} (h : CsR w lo hi A n l) (hb : Below B w w') (hB : hi ≤ B) : CsR w' lo hi A n l :=
  h.keep fun b o _ h2 => hb.cell (p := ⟨b, o, none⟩) (Nat.lt_of_lt_of_le h2 hB)
theorem CsR.widen {w : World} {lo hi lo' hi' n : Nat} {A : Option Addr} {l : List Cl} (h : CsR w lo hi A n l) (h1 : lo' ≤ lo) (h2 : hi ≤ hi') : CsR w lo' hi' A n l := by
  refine ⟨h.1, fun i hi' => ?_⟩
  obtain ⟨gb, go', kA, kN, kC, vA, vN, vC, hA, a1, a2, c1, c2, b1, b2, m1, m2⟩ := h.2 i hi'
  exact ⟨gb, go', kA, kN, kC, vA, vN, vC, hA, by omega, by omega, c1, c2, (b1.more h2).less h1, (b2.more h2).less h1, m1, m2⟩
/-- .. kept by a call that leaves all that was there. -/
theorem CsR.later {w w' : World} {n : Nat} {A : Option Addr} {l : List Cl} (h : CsR w 0 w.heap.size A n l) (hb : Below w.heap.size w w') : CsR w' 0 w'.heap.size A n l := (h.below hb (Nat.le_refl _)).widen (Nat.le_refl _) hb.size
theorem CsR.nil (w : World) (lo hi : Nat) (A : Option Addr) : CsR w lo hi A 0 [] := ⟨rfl, fun _ h => absurd h (by omega)⟩
def clSize (c : Cl) : Int := 2 + c.1.length + c.2.length
def sizeL (l : List Cl) : Int := l.foldl (fun s c => s + clSize c) 0
theorem foldl_size (l : List Cl) : ∀ a : Int, l.foldl (fun s c => s + clSize c) a = a + sizeL l := by
  induction l with
  | nil => intro a; simp [sizeL]
  | cons c l ih => intro a; simp only [List.foldl_cons, sizeL]; rw [ih, ih]; omega
theorem sizeL_cons (c : Cl) (l : List Cl) : sizeL (c :: l) = clSize c + sizeL l := by
  show (c :: l).foldl _ 0 = _
  rw [List.foldl_cons, foldl_size]; omega
theorem sizeL_app (a b : List Cl) : sizeL (a ++ b) = sizeL a + sizeL b := by
  induction a with
  | nil => simp [sizeL]
  | cons c a ih => rw [List.cons_append, sizeL_cons, sizeL_cons, ih]; omega
theorem clSize_nn (c : Cl) : 0 ≤ clSize c := by unfold clSize; omega
theorem sizeL_nn (l : List Cl) : 0 ≤ sizeL l := by
  induction l with
  | nil => exact Int.le_refl _
  | cons c l ih => rw [sizeL_cons]; have := clSize_nn c; omega
theorem take_one (l : List Cl) (j : Nat) (h : j < l.length) : l.take (j + 1) = l.take j ++ [clAt l j] := by
  rw [List.take_succ_eq_append_getElem h]; simp [clAt, h]
theorem sizeL_take (l : List Cl) (j : Nat) (h : j < l.length) : sizeL (l.take (j + 1)) = sizeL (l.take j) + clSize (clAt l j) := by
  rw [take_one l j h, sizeL_app, sizeL_cons]; simp [sizeL]
set_option maxHeartbeats 1000000 in
theorem psize_calls {lo hi n : Nat} (c : Nat) {A : Option Addr} {l : List Cl} (w : World) (h : CsR w lo hi A n l) (hhi : hi ≤ w.heap.size) (hn : n ≤ 4096) :
    Calls Try.prog 76 #[.slice A n c] w fun e w' => e = .returned (.int .i64 (sizeL l)) ∧ Below w.heap.size w w' := by
  have hln := Lib.hid h.1
  go_enter Try.func76, Try.ntmps76
  go_wp2
  go_loopw [3, 8] (fun v3 v8 wr => ∃ j : Nat, j ≤ n ∧ v8 = .int .i64 j ∧ v3 = .int .i64 (sizeL (l.take j)) ∧ sizeL (l.take j) ≤ j * 300000000000000 ∧ Below w.heap.size w wr) (fun _ v8 _ => n - (intOf v8).toNat)
  case atStart => exact ⟨0, by omega, rfl, rfl, by simp [sizeL], Below.refl _ _⟩
  case round =>
    obtain ⟨j, hj, rfl, rfl, hb, hB⟩ := hrel
    have hnn := sizeL_nn (l.take j)
    by_cases hlt : j < n
    · obtain ⟨gb, go', kA, kN, kC, vA, vN, vC, rfl, g1, g2, c1, c2, b1, b2, m1, m2⟩ := h.2 j hlt
      have hst := Lib.hid (sizeL_take l j (by rw [hln.out]; exact hlt))
      have e1 := b1.1
      have e2 := b2.1
      have hcz : clSize (clAt l j) = 2 + kN + vN := by unfold clSize; rw [e1, e2]
      have hcz' := Lib.hid hcz
      have hgw : gb < wr.heap.size := by have := hB.size; omega
      replace c1 := (hB.cell (p := ⟨gb, go' + j * 2, none⟩) (Nat.lt_of_lt_of_le g2 hhi)).trans c1
      replace c2 := (hB.cell (p := ⟨gb, go' + j * 2 + 1, none⟩) (Nat.lt_of_lt_of_le g2 hhi)).trans c2
      clear e1 e2 hcz b1 b2 h
      generalize hss : sizeL (l.take j) = s at *
      have hss' := Lib.hid hss
      clear hss
      have hj0 : (0 : Int) ≤ j := by omega
      have hj1 : (j : Int) < n := by omega
      go_wp2
      go_roundw
      case rel => exact ⟨j + 1, by omega, by go_num, by (rw [hst.out, hcz'.out]) <;> go_num, by rw [hst.out, hcz'.out]; omega, below_al hB⟩
      case measure => simp [intOf]; omega
    · obtain rfl : j = n := by omega
      go_wp2
      go_ret
      refine ⟨?_, hB⟩
      show Ending.returned (.int .i64 (sizeL (l.take j))) = _
      rw [List.take_of_length_le (by rw [hln.out]; exact Nat.le_refl _)]
end Go.Proofs.Ytnehppeoffemlaa
