/- Words of our own on slices in memory: bytes, pairs of numbers. -/
import Derived.Test.YtnehppeoffemlaaBase
namespace Go.Proofs.Ytnehppeoffemlaa
set_option linter.unusedVariables false
set_option linter.unusedSimpArgs false
open Go.RowKit
/-- The m cells from A on, in a block from lo on and below hi, are f 0, f 1, .. -/
def Rd (w : World) (lo hi : Nat) (A : Option Addr) (m : Nat) (f : Nat → Value) : Prop :=
  0 < m → ∃ gb go : Nat, A = some ⟨gb, go, none⟩ ∧ lo ≤ gb ∧ gb < hi ∧ ∀ j, j < m → w.cell? ⟨gb, go + j, none⟩ = some (f j)
theorem Rd.keep {w w' : World} {lo hi m : Nat} {A : Option Addr} {f : Nat → Value} (h : Rd w lo hi A m f) (hk : ∀ b o, lo ≤ b → b < hi → w'.cell? ⟨b, o, none⟩ = w.cell? ⟨b, o, none⟩) : Rd w' lo hi A m f := by
  intro hm
  obtain ⟨gb, go', rfl, h1, h2, h3⟩ := h hm
  exact ⟨gb, go', rfl, h1, h2, fun j hj => (hk _ _ h1 h2).trans (h3 j hj)⟩
theorem Rd.below {w w' : World} {lo hi m B : Nat} {A : Option Addr} {f : Nat → Value} (h : Rd w lo hi A m f) (hb : Below B w w') (hB : hi ≤ B) : Rd w' lo hi A m f :=
  h.keep fun b o _ h2 => hb.cell (p := ⟨b, o, none⟩) (Nat.lt_of_lt_of_le h2 hB)
theorem Rd.more {w : World} {lo hi hi' m : Nat} {A : Option Addr} {f : Nat → Value} (h : Rd w lo hi A m f) (hh : hi ≤ hi') : Rd w lo hi' A m f := by
  intro hm
  obtain ⟨gb, go', rfl, h1, h2, h3⟩ := h hm
  exact ⟨gb, go', rfl, h1, by omega, h3⟩
theorem Rd.less {w : World} {lo lo' hi m : Nat} {A : Option Addr} {f : Nat → Value} (h : Rd w lo hi A m f) (hh : lo' ≤ lo) : Rd w lo' hi A m f := by
  intro hm
  obtain ⟨gb, go', rfl, h1, h2, h3⟩ := h hm
  exact ⟨gb, go', rfl, by omega, h2, h3⟩
theorem Rd.nil (w : World) (lo hi : Nat) (A : Option Addr) (f : Nat → Value) : Rd w lo hi A 0 f := fun h => absurd h (by omega)
/-- Bytes. -/
def Byt (l : List Int) : Prop := ∀ x ∈ l, 0 ≤ x ∧ x ≤ 255
def bsF (l : List Int) : Nat → Value := fun j => .int .u8 (l.getD j 0)
def BsR (w : World) (lo hi : Nat) (A : Option Addr) (n : Nat) (l : List Int) : Prop := l.length = n ∧ Byt l ∧ Rd w lo hi A n (bsF l)
theorem Byt.getD {l : List Int} (h : Byt l) (j : Nat) : 0 ≤ l.getD j 0 ∧ l.getD j 0 ≤ 255 := by
  rcases Nat.lt_or_ge j l.length with hj | hj
  · have := h l[j] (List.getElem_mem hj); simpa [hj] using this
  · simp [hj]
theorem Byt.app {a b : List Int} (ha : Byt a) (hb : Byt b) : Byt (a ++ b) := by
  intro x hx
  rcases List.mem_append.1 hx with h | h
  · exact ha x h
  · exact hb x h
theorem Byt.take {a : List Int} (ha : Byt a) (k : Nat) : Byt (a.take k) := fun x hx => ha x (List.mem_of_mem_take hx)
theorem Byt.drop {a : List Int} (ha : Byt a) (k : Nat) : Byt (a.drop k) := fun x hx => ha x (List.mem_of_mem_drop hx)
theorem Byt.nil : Byt [] := fun _ h => nomatch h
theorem Byt.cons {x : Int} {l : List Int} (h0 : 0 ≤ x) (h1 : x ≤ 255) (h : Byt l) : Byt (x :: l) := by
  intro y hy
  rcases List.mem_cons.1 hy with rfl | hy
  · exact ⟨h0, h1⟩
  · exact h y hy
/-- Pairs of a number and one that is not signed. -/
def prF (l : List (Int × Int)) : Nat → Value := fun j => if j % 2 = 0 then .int .i64 (l.getD (j / 2) (0, 0)).1 else .int .u64 (l.getD (j / 2) (0, 0)).2
def PrR (w : World) (lo hi : Nat) (A : Option Addr) (n : Nat) (l : List (Int × Int)) : Prop := l.length = n ∧ Rd w lo hi A (n * 2) (prF l)
theorem PrR.at_ {w : World} {lo hi n k : Nat} {A : Option Addr} {l : List (Int × Int)} (h : PrR w lo hi A n l) (hk : k < n) :
    ∃ gb go : Nat, A = some ⟨gb, go, none⟩ ∧ lo ≤ gb ∧ gb < hi ∧ w.cell? ⟨gb, go + k * 2, none⟩ = some (.int .i64 (l.getD k (0, 0)).1) ∧ w.cell? ⟨gb, go + k * 2 + 1, none⟩ = some (.int .u64 (l.getD k (0, 0)).2) := by
  obtain ⟨gb, go', rfl, h1, h2, h3⟩ := h.2 (by omega)
  refine ⟨gb, go', rfl, h1, h2, ?_, ?_⟩
  · have := h3 (k * 2) (by omega)
    rw [this]; simp [prF]
  · have := h3 (k * 2 + 1) (by omega)
    rw [Nat.add_assoc, this]; unfold prF
    rw [if_neg (by omega), show (k * 2 + 1) / 2 = k from by omega]
theorem BsR.at_ {w : World} {lo hi n k : Nat} {A : Option Addr} {l : List Int} (h : BsR w lo hi A n l) (hk : k < n) :
    ∃ gb go : Nat, A = some ⟨gb, go, none⟩ ∧ lo ≤ gb ∧ gb < hi ∧ w.cell? ⟨gb, go + k, none⟩ = some (.int .u8 (l.getD k 0)) := by
  obtain ⟨gb, go', rfl, h1, h2, h3⟩ := h.2.2 (by omega)
  exact ⟨gb, go', rfl, h1, h2, h3 k hk⟩
end Go.Proofs.Ytnehppeoffemlaa
