/- Joined texts: Store. -/
import Derived.Test.YtnehppeoffemlaaJLogRings09
/- A byte of one value stored, in a row of cells that the call owns. -/
namespace Go.Proofs.Ytnehppeoffemlaa
set_option linter.unusedVariables false
set_option linter.unusedSimpArgs false
open Go.RowKit
theorem grown_set (w : World) (g o : Nat) (v : Value) : w.grownBy (w.setCell ⟨g, o, none⟩ v) (some g) :=
  ⟨rfl, rfl, rfl, by simp [World.setCell], fun k _ hk => Below.heap_setCell _ _ _ _ (fun e => hk (by simp at e; rw [e]))⟩
theorem OwB.addr {w : World} {base n c : Nat} {A : Option Addr} {l : List Int} (h : OwB w base A n c l) (hn : 0 < n) : ∃ g, A = some ⟨g, 0, none⟩ ∧ base ≤ g ∧ g < w.heap.size := by
  obtain ⟨g, cap, hv, hb, hlt⟩ := h.2.2.form hn
  injection hv with hA _ _
  exact ⟨g, hA, hb, hlt⟩
theorem OwB.at_ {w : World} {base n c g : Nat} {l : List Int} (h : OwB w base (some ⟨g, 0, none⟩) n c l) : ∃ cur : Array Value, At w g cur 5 ∧ cur.size = c ∧ n ≤ c ∧ cur.toList.take n = l.map (Value.int .u8) := by
  rcases h.2.2.2 with ⟨hv, _⟩ | ⟨g', cap, cur, hv, _, hat, hnc, _, hcs, htk⟩
  · injection hv with h1; cases h1
  · injection hv with h1 _ h3
    injection h1 with h1
    injection h1 with h1
    subst h1; subst h3
    exact ⟨cur, hat, by omega, hnc, by simpa using htk⟩
theorem OwB.set {w : World} {base n c g k : Nat} {l : List Int} (h : OwB w base (some ⟨g, 0, none⟩) n c l) (hk : k < n) {x : Int} (h0 : 0 ≤ x) (h1 : x ≤ 255) : OwB (w.setCell ⟨g, k, none⟩ (.int .u8 x)) base (some ⟨g, 0, none⟩) n c (l.set k x) := by
  refine ⟨by simp [h.1], fun y hy => ?_, ?_⟩
  · rcases List.mem_or_eq_of_mem_set hy with h2 | h2
    · exact h.2.1 y h2
    · omega
  · rcases h.2.2.2 with ⟨hv, _⟩ | ⟨g', cap, cur, hv, hb, hat, hnc, hcm, hcs, htk⟩
    · injection hv with e; cases e
    · injection hv with e1 _ e3
      injection e1 with e1
      injection e1 with e1
      subst e1; subst e3
      have hat' : At w g cur 5 := hat
      refine ⟨by simp [h.1], .inr ⟨g, c, cur.setIfInBounds k (.int .u8 x), rfl, hb, hat'.set, hnc, hcm, by simpa using hcs, ?_⟩⟩
      rw [Array.toList_setIfInBounds, List.take_set, htk, List.map_set]
theorem blks_pair {hs : List Hc} (h : (blks hs).Pairwise (· < ·)) {i j : Nat} (hij : i < j) (hj : j < hs.length) {a b : Nat} (ha : ownBlk (hcAt hs i).1.A = some a ∨ ownBlk (hcAt hs i).2.A = some a) (hb : ownBlk (hcAt hs j).1.A = some b ∨ ownBlk (hcAt hs j).2.A = some b) : a < b := by
  unfold blks at h
  rw [List.pairwise_flatMap] at h
  have h2 := (List.pairwise_iff_getElem.1 h.2) i j (by omega) hj hij
  have e1 : hcAt hs i = hs[i] := by simp [hcAt, List.getD, show i < hs.length by omega]
  have e2 : hcAt hs j = hs[j] := by simp [hcAt, List.getD, hj]
  rw [e1] at ha
  rw [e2] at hb
  refine h2 a ?_ b ?_
  · rcases ha with h | h <;> simp [h]
  · rcases hb with h | h <;> simp [h]
theorem blks_one {hs : List Hc} (h : (blks hs).Pairwise (· < ·)) {i : Nat} (hi : i < hs.length) {a b : Nat} (ha : ownBlk (hcAt hs i).1.A = some a) (hb : ownBlk (hcAt hs i).2.A = some b) : a < b := by
  unfold blks at h
  rw [List.pairwise_flatMap] at h
  have e1 : hcAt hs i = hs[i] := by simp [hcAt, List.getD, hi]
  have h2 := h.1 hs[i] (List.getElem_mem hi)
  rw [e1] at ha hb
  rw [ha, hb] at h2
  simpa using h2
def setV (l : List Cl) (i k : Nat) (x : Int) : List Cl := l.set i ((clAt l i).1, (clAt l i).2.set k x)
theorem setV_same {l : List Cl} {i k : Nat} {x : Int} (hi : i < l.length) : clAt (setV l i k x) i = ((clAt l i).1, (clAt l i).2.set k x) := by
  unfold setV; simp [clAt, hi]
theorem setV_ne {l : List Cl} {i j k : Nat} {x : Int} (h : i ≠ j) : clAt (setV l i k x) j = clAt l j := by
  unfold setV; simp [clAt, List.getD, List.getElem?_set_ne h]
theorem setV_len (l : List Cl) (i k : Nat) (x : Int) : (setV l i k x).length = l.length := by simp [setV]
theorem OwC.store {w : World} {base n c g i k : Nat} {A : Option Addr} {l : List Cl} {hs : List Hc} (h : OwC w base A n c l hs) (hi : i < n) (hA : (hcAt hs i).2.A = some ⟨g, 0, none⟩) (hk : k < (hcAt hs i).2.n) {x : Int} (h0 : 0 ≤ x) (h1 : x ≤ 255) :
    OwC (w.setCell ⟨g, k, none⟩ (.int .u8 x)) base A n c (setV l i k x) hs := by
  have hg := grown_set w g k (.int .u8 x)
  have hvb : ownBlk (hcAt hs i).2.A = some g := by rw [hA]; rfl
  have hhl := h.hl
  have hrow : ownBlk A = none ∨ ownBlk A ≠ some g := by
    rcases ne_ty h.row (h.el i hi).2.1.2.2 (by decide) with h | h
    · exact .inl h
    · right; rw [← hvb]; exact h
  refine ⟨h.row.kept hg (by rw [ownBlk_eq]; exact hrow), h.hl, by rw [setV_len]; exact h.ll, fun j hj => ?_, h.inc⟩
  obtain ⟨a, b, m⟩ := h.el j hj
  have hne : ∀ B : Option Addr, (∀ b, ownBlk B = some b → b ≠ g) → (ownBlk B = none ∨ ownBlk B ≠ some g) := fun B hB => by
    cases e : ownBlk B with
    | none => exact .inl rfl
    | some b => right; intro e'; injection e' with e'; exact hB b e e'
  by_cases hij : i = j
  · subst hij
    rw [setV_same (by rw [h.ll]; exact hi)]
    refine ⟨a.kept hg (hne _ fun b' hb' => ?_), ?_, m⟩
    · have := blks_one h.inc (by omega) hb' hvb; omega
    · rw [hA] at b ⊢
      exact b.set hk h0 h1
  · rw [setV_ne hij]
    refine ⟨a.kept hg (hne _ fun b' hb' => ?_), b.kept hg (hne _ fun b' hb' => ?_), m⟩
    · rcases Nat.lt_or_ge i j with h2 | h2
      · have := blks_pair h.inc h2 (by omega) (.inr hvb) (.inl hb'); omega
      · have := blks_pair h.inc (show j < i by omega) (by omega) (.inl hb') (.inr hvb); omega
    · rcases Nat.lt_or_ge i j with h2 | h2
      · have := blks_pair h.inc h2 (by omega) (.inr hvb) (.inr hb'); omega
      · have := blks_pair h.inc (show j < i by omega) (by omega) (.inr hb') (.inr hvb); omega
theorem OwC.cells {w : World} {base n c i : Nat} {A : Option Addr} {l : List Cl} {hs : List Hc} (h : OwC w base A n c l hs) (hi : i < n) : ∃ r : Nat, A = some ⟨r, 0, none⟩ ∧ base ≤ r ∧ r < w.heap.size ∧ w.cell? ⟨r, i * 2, none⟩ = some (hcAt hs i).1.v ∧ w.cell? ⟨r, i * 2 + 1, none⟩ = some (hcAt hs i).2.v := by
  obtain ⟨g, cap, hv, hb, hlt⟩ := h.row.form (by omega)
  injection hv with hA hn hc
  subst hA
  have hf := flat_get hs i (by rw [h.hl]; exact hi)
  have h1 := h.row.cells (g := g) rfl (i * 2) _ hf.1
  have h2 := h.row.cells (g := g) rfl (i * 2 + 1) _ hf.2
  rw [Go.WideShapes.add_plain] at h1 h2
  exact ⟨g, rfl, hb, hlt, by simpa using h1, by simpa using h2⟩
end Go.Proofs.Ytnehppeoffemlaa
