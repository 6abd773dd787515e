/- PageFits: its plain law: a right page with one cell more, parted, is two right pages. -/
import Derived.Test.YtjgomebnlekddaaOrd
import Derived.Test.YtjgomebnlekddaaRForm
namespace Go.Proofs.Ytjgomebnlekddaa
set_option linter.unusedVariables false
set_option linter.unusedSimpArgs false
open Go.RowKit
theorem halvesTo_ok (l : List Cl) : ∀ j, 1 ≤ j → ∃ i : Nat, 1 ≤ i ∧ i ≤ j ∧ halvesTo l j = ((i : Int), absI (sizeL l - 2 * sizeL (l.take i))) ∧ ∀ t, 1 ≤ t → t ≤ j → absI (sizeL l - 2 * sizeL (l.take i)) ≤ absI (sizeL l - 2 * sizeL (l.take t))
  | 0, h => absurd h (by omega)
  | 1, _ => ⟨1, Nat.le_refl _, Nat.le_refl _, by show hStep l (halvesTo l 0) 1 = _; unfold hStep halvesTo; simp, fun t h1 h2 => by
      obtain rfl : t = 1 := by omega
      exact Int.le_refl _⟩
  | j + 2, _ => by
    obtain ⟨i, h1, h2, h3, h4⟩ := halvesTo_ok l (j + 1) (by omega)
    have e : halvesTo l (j + 2) = hStep l (halvesTo l (j + 1)) (j + 2) := rfl
    rw [e, h3]
    unfold hStep
    by_cases hc : absI (sizeL l - 2 * sizeL (l.take (j + 2))) < absI (sizeL l - 2 * sizeL (l.take i))
    · rw [if_pos (Or.inr hc)]
      refine ⟨j + 2, by omega, Nat.le_refl _, rfl, fun t t1 t2 => ?_⟩
      rcases Nat.lt_or_ge t (j + 2) with ht | ht
      · have := h4 t t1 (by omega); omega
      · obtain rfl : t = j + 2 := by omega
        exact Int.le_refl _
    · rw [if_neg (by simp only; omega)]
      refine ⟨i, h1, by omega, rfl, fun t t1 t2 => ?_⟩
      rcases Nat.lt_or_ge t (j + 2) with ht | ht
      · exact h4 t t1 (by omega)
      · obtain rfl : t = j + 2 := by omega
        omega
theorem near_half (l : List Cl) (hc : ∀ i, i < l.length → clSize (clAt l i) ≤ 242) (hS : 498 < sizeL l) : ∀ j, j ≤ l.length →
    (∀ t, t ≤ j → 242 < sizeL l - 2 * sizeL (l.take t)) ∨ ∃ t, 1 ≤ t ∧ t ≤ j ∧ absI (sizeL l - 2 * sizeL (l.take t)) ≤ 242
  | 0, _ => Or.inl fun t ht => by
      obtain rfl : t = 0 := by omega
      simp [sizeL] at hS ⊢
      omega
  | j + 1, hj => by
    rcases near_half l hc hS j (by omega) with h | ⟨t, h1, h2, h3⟩
    · have h0 := h j (Nat.le_refl _)
      have hs := sizeL_take l j (by omega)
      have hz := hc j (by omega)
      have hn := clSize_nn (clAt l j)
      by_cases hq : 242 < sizeL l - 2 * sizeL (l.take (j + 1))
      · left
        intro t ht
        rcases Nat.lt_or_ge t (j + 1) with h5 | h5
        · exact h t (by omega)
        · obtain rfl : t = j + 1 := by omega
          exact hq
      · right
        refine ⟨j + 1, by omega, Nat.le_refl _, ?_⟩
        unfold absI
        split <;> omega
    · exact Or.inr ⟨t, h1, by omega, h3⟩
theorem halves_near (l : List Cl) (hc : ∀ i, i < l.length → clSize (clAt l i) ≤ 242) (hS : 498 < sizeL l) :
    ∃ i : Nat, 1 ≤ i ∧ i < l.length ∧ halvesL l = i ∧ absI (sizeL l - 2 * sizeL (l.take i)) ≤ 242 := by
  rcases near_half l hc hS l.length (Nat.le_refl _) with h | ⟨t, h1, h2, h3⟩
  · have := h l.length (Nat.le_refl _)
    rw [List.take_length] at this
    omega
  · have ht : t < l.length := by
      rcases Nat.lt_or_ge t l.length with h | h
      · exact h
      · rw [List.take_of_length_le h] at h3
        unfold absI at h3
        split at h3 <;> omega
    obtain ⟨i, i1, i2, i3, i4⟩ := halvesTo_ok l (l.length - 1) (by omega)
    refine ⟨i, i1, by omega, by unfold halvesL; rw [i3], ?_⟩
    have := i4 t h1 (by omega)
    omega
theorem size_count (l : List Cl) : 2 * (l.length : Int) ≤ sizeL l := by
  induction l with
  | nil => simp [sizeL]
  | cons c l ih => rw [sizeL_cons]; unfold clSize; simp; omega
def CellsOk (l : List Cl) : Prop := ∀ i, i < l.length → (clAt l i).1.length ≤ 90 ∧ (clAt l i).2.length ≤ 150
theorem cellsOk_iff {l : List Cl} : CellsOk l ↔ ∀ c ∈ l, c.1.length ≤ 90 ∧ c.2.length ≤ 150 := by
  constructor
  · intro h c hc
    obtain ⟨i, hi, e⟩ := List.getElem_of_mem hc
    have := h i hi
    rwa [show clAt l i = c by simp [clAt, hi, e]] at this
  · intro h i hi
    have := h (clAt l i) (by simp [clAt, hi])
    exact this
theorem CellsOk.put {l : List Cl} (h : CellsOk l) {k v : List Int} (h1 : k.length ≤ 90) (h2 : v.length ≤ 150) : CellsOk (putL l k v) := by
  rw [cellsOk_iff] at h ⊢
  intro c hc
  rw [putL_rest] at hc
  simp only [List.mem_append, List.mem_singleton] at hc
  rcases hc with (hc | hc) | hc
  · exact h c (List.mem_of_mem_take hc)
  · subst hc; exact ⟨h1, h2⟩
  · exact h c (List.mem_of_mem_drop hc)
theorem size_put (l : List Cl) (k v : List Int) : sizeL (putL l k v) ≤ sizeL l + clSize (k, v) := by
  rw [putL_rest, sizeL_app, sizeL_app, sizeL_cons]
  have h1 := sizeL_split l (findI l k)
  have h2 : sizeL (l.drop (nextI l k)) ≤ sizeL (l.drop (findI l k)) := by
    have hn : findI l k ≤ nextI l k := by unfold nextI; split <;> omega
    obtain ⟨d, hd⟩ := Nat.exists_eq_add_of_le hn
    rw [hd, ← List.drop_drop]
    have := sizeL_split (l.drop (findI l k)) d
    have := sizeL_nn ((l.drop (findI l k)).take d)
    omega
  simp [sizeL] at *
  omega
theorem form_part {k : Int} {l : List Cl} (hr : Rs l) (ho : CellsOk l) (hk : k ≤ 3) (hs : sizeL l ≤ 498) : PForm k 0 l := by
  have := size_count l
  exact ⟨⟨hk, Int.le_refl _, by omega⟩, cells_ok (rs_risB hr) ho, by omega, hs⟩
theorem CellsOk.take {l : List Cl} (h : CellsOk l) (n : Nat) : CellsOk (l.take n) := by
  rw [cellsOk_iff] at h ⊢; exact fun c hc => h c (List.mem_of_mem_take hc)
theorem CellsOk.drop {l : List Cl} (h : CellsOk l) (n : Nat) : CellsOk (l.drop n) := by
  rw [cellsOk_iff] at h ⊢; exact fun c hc => h c (List.mem_of_mem_drop hc)
/-- The law of PageFits. -/
theorem fits_plain {kd next : Int} {l : List Cl} {k v : List Int} (h : PForm kd next l) (h1 : k.length ≤ 90) (h2 : v.length ≤ 150) (hbig : ¬ (sizeL (putL l k v) ≤ 498 ∧ (putL l k v).length < 256)) :
    ∃ i : Nat, 1 ≤ i ∧ i < (putL l k v).length ∧ halvesL (putL l k v) = i ∧ PForm kd 0 ((putL l k v).take i) ∧ PForm kd 0 ((putL l k v).drop i) := by
  have hr := rs_put (k := k) (v := v) (risB_rs (pform_ris h))
  have hok : CellsOk (putL l k v) := CellsOk.put (fun i hi => ⟨(h.2.1 i hi).1, (h.2.1 i hi).2.1⟩) h1 h2
  have hsz := size_put l k v
  have hct := size_count (putL l k v)
  have h498 := h.2.2.2
  have hk := h.1.1
  have hcl : clSize (k, v) ≤ 242 := by unfold clSize; simp only; omega
  obtain ⟨i, i1, i2, i3, i4⟩ := halves_near (putL l k v) (fun i hi => by have := hok i hi; unfold clSize; omega) (by omega)
  have hsp := sizeL_split (putL l k v) i
  refine ⟨i, i1, i2, i3, form_part (rs_take hr i) (hok.take i) hk ?_, form_part (rs_drop hr i) (hok.drop i) hk ?_⟩
  · unfold absI at i4; split at i4 <;> omega
  · unfold absI at i4; split at i4 <;> omega
end Go.Proofs.Ytjgomebnlekddaa
