/- The order of cells: what Put and Drop leave rises again; a cell put and dropped. -/
import Derived.Test.YtjgomebnlekddaaPut
import Derived.Test.YtjgomebnlekddaaRises
namespace Go.Proofs.Ytjgomebnlekddaa
set_option linter.unusedVariables false
set_option linter.unusedSimpArgs false
open Go.RowKit
theorem findI_low {l : List Cl} {k : List Int} : ∀ {t : Nat}, t < findI l k → cmpI (clAt l t).1 k < 0 := by
  induction l with
  | nil => intro t h; simp [findI] at h
  | cons c l ih =>
    intro t h
    unfold findI at h ih
    by_cases hc : cmpI c.1 k < 0
    · rw [List.takeWhile_cons_of_pos (by simpa using hc), List.length_cons] at h
      rcases t with _ | t
      · simpa [clAt] using hc
      · have := ih (t := t) (by omega)
        simpa [clAt] using this
    · rw [List.takeWhile_cons_of_neg (by simpa using hc)] at h
      simp at h
theorem findI_at {l : List Cl} {k : List Int} (h : findI l k < l.length) : 0 ≤ cmpI (clAt l (findI l k)).1 k := by
  induction l with
  | nil => simp at h
  | cons c l ih =>
    unfold findI at h ih ⊢
    by_cases hc : cmpI c.1 k < 0
    · rw [List.takeWhile_cons_of_pos (by simpa using hc), List.length_cons] at h ⊢
      have := ih (by simpa using h)
      simpa [clAt] using this
    · rw [List.takeWhile_cons_of_neg (by simpa using hc)]
      simp only [List.length_nil, clAt, List.getD_cons_zero]
      omega
theorem findI_gt {l : List Cl} {k : List Int} (hr : Rs l) {t : Nat} (h : findI l k < t) (ht : t < l.length) : 0 < cmpI (clAt l t).1 k := by
  have h1 := findI_at (l := l) (k := k) (by omega)
  have h2 := hr _ _ h ht
  have h3 := cmpI_neg (clAt l (findI l k)).1 k
  have h4 := cmpI_neg (clAt l t).1 k
  have := (cmpI_trans k (clAt l (findI l k)).1 (clAt l t).1 (by omega) (by omega)).2 (Or.inr h2)
  omega
theorem fndB_no {l : List Cl} {k : List Int} (h : fndB l k = false) (hl : findI l k < l.length) : (clAt l (findI l k)).1 ≠ k := by
  unfold fndB at h
  rw [decide_eq_true hl, Bool.true_and] at h
  exact of_decide_eq_false h
theorem fndB_yes {l : List Cl} {k : List Int} (h : fndB l k = true) : (clAt l (findI l k)).1 = k := by
  unfold fndB at h
  rw [Bool.and_eq_true] at h
  exact of_decide_eq_true h.2
theorem clAt_take {l : List Cl} {f i : Nat} (h : i < f) : clAt (l.take f) i = clAt l i := by
  unfold clAt
  simp [List.getD, List.getElem?_take, h]
theorem clAt_drop {l : List Cl} {f i : Nat} : clAt (l.drop f) i = clAt l (f + i) := by
  unfold clAt
  simp [List.getD, List.getElem?_drop]
theorem rs_app {a b : List Cl} (ha : Rs a) (hb : Rs b) (h : ∀ i, i < a.length → ∀ j, j < b.length → cmpI (clAt a i).1 (clAt b j).1 < 0) : Rs (a ++ b) := by
  intro i j hij hj
  rw [List.length_append] at hj
  rcases Nat.lt_or_ge j a.length with h1 | h1
  · rw [clAt_app_l (by omega), clAt_app_l h1]
    exact ha i j hij h1
  · rcases Nat.lt_or_ge i a.length with h2 | h2
    · rw [clAt_app_l h2, clAt_app_r h1]
      exact h i h2 _ (by omega)
    · rw [clAt_app_r h2, clAt_app_r h1]
      exact hb _ _ (by omega) (by omega)
theorem rs_take {l : List Cl} (h : Rs l) (f : Nat) : Rs (l.take f) := by
  intro i j hij hj
  rw [List.length_take] at hj
  rw [clAt_take (by omega), clAt_take (by omega)]
  exact h i j hij (by omega)
theorem rs_drop {l : List Cl} (h : Rs l) (f : Nat) : Rs (l.drop f) := by
  intro i j hij hj
  rw [List.length_drop] at hj
  rw [clAt_drop, clAt_drop]
  exact h _ _ (by omega) (by omega)
def nextI (l : List Cl) (k : List Int) : Nat := if fndB l k then findI l k + 1 else findI l k
theorem nextI_le (l : List Cl) (k : List Int) : nextI l k ≤ l.length := by
  have h1 := findI_le l k
  unfold nextI
  split
  · next h => have := fndB_lt h; omega
  · exact h1
theorem nextI_gt {l : List Cl} {k : List Int} (hr : Rs l) {t : Nat} (h : nextI l k ≤ t) (ht : t < l.length) : 0 < cmpI (clAt l t).1 k := by
  unfold nextI at h
  split at h
  · exact findI_gt hr (by omega) ht
  · next hn =>
    rcases Nat.lt_or_ge (findI l k) t with h1 | h1
    · exact findI_gt hr h1 ht
    · obtain rfl : findI l k = t := by omega
      have h2 := findI_at ht
      have h3 := fndB_no (by simpa using hn) ht
      have h4 := cmpI_zero (clAt l (findI l k)).1 k
      have h5 : cmpI (clAt l (findI l k)).1 k ≠ 0 := fun e => h3 (h4.1 e)
      omega
def restL (l : List Cl) (k : List Int) : List Cl := l.take (findI l k) ++ l.drop (nextI l k)
theorem dropL_rest (l : List Cl) (k : List Int) : dropL l k = restL l k := by
  unfold dropL restL nextI
  split
  · rfl
  · rw [List.take_append_drop]
theorem putL_rest (l : List Cl) (k v : List Int) : putL l k v = l.take (findI l k) ++ [(k, v)] ++ l.drop (nextI l k) := rfl
theorem rs_rest {l : List Cl} {k : List Int} (hr : Rs l) : Rs (restL l k) := by
  have hf := findI_le l k
  refine rs_app (rs_take hr _) (rs_drop hr _) fun i hi j hj => ?_
  rw [List.length_take] at hi
  rw [List.length_drop] at hj
  rw [clAt_take (by omega), clAt_drop]
  have h1 := findI_low (l := l) (k := k) (t := i) (by omega)
  have h2 := nextI_gt hr (k := k) (t := nextI l k + j) (by omega) (by omega)
  have h3 := cmpI_neg (clAt l (nextI l k + j)).1 k
  exact (cmpI_trans _ k _ (by omega) (by omega)).2 (Or.inl h1)
theorem one_rs (k v : List Int) : Rs [(k, v)] := by
  intro i j h1 h2
  simp at h2
  omega
theorem rs_put {l : List Cl} {k v : List Int} (hr : Rs l) : Rs (putL l k v) := by
  rw [putL_rest]
  have hf := findI_le l k
  have hlow : ∀ i, i < findI l k → cmpI (clAt (l.take (findI l k)) i).1 k < 0 := fun i hi => by rw [clAt_take hi]; exact findI_low hi
  have hhigh : ∀ j, j < (l.drop (nextI l k)).length → cmpI k (clAt (l.drop (nextI l k)) j).1 < 0 := fun j hj => by
    rw [List.length_drop] at hj
    rw [clAt_drop]
    have h2 := nextI_gt hr (k := k) (t := nextI l k + j) (by omega) (by omega)
    have h3 := cmpI_neg (clAt l (nextI l k + j)).1 k
    omega
  refine rs_app (rs_app (rs_take hr _) (one_rs k v) fun i hi j hj => ?_) (rs_drop hr _) fun i hi j hj => ?_
  · rw [List.length_take] at hi
    obtain rfl : j = 0 := by simpa using hj
    exact hlow i (by omega)
  · have h2 := hhigh j hj
    rw [List.length_append, List.length_take] at hi
    rcases Nat.lt_or_ge i (l.take (findI l k)).length with h1 | h1
    · rw [clAt_app_l h1]
      rw [List.length_take] at h1
      exact (cmpI_trans _ k _ (by have := hlow i (by omega); omega) (by omega)).2 (Or.inr h2)
    · rw [clAt_app_r h1]
      rw [List.length_take] at h1
      obtain h0 : i - (l.take (findI l k)).length = 0 := by rw [List.length_take]; simp at hi; omega
      rw [h0]
      exact h2
theorem cmpI_self (k : List Int) : cmpI k k = 0 := (cmpI_zero k k).2 rfl
theorem find_put {l : List Cl} {k v : List Int} : findI (putL l k v) k = findI l k := by
  have hf := findI_le l k
  refine findI_eq k _ _ (by rw [putL_rest]; simp; omega) (fun t ht => ?_) (fun _ => ?_)
  · rw [putL_rest, List.append_assoc, clAt_app_l (by rw [List.length_take]; omega), clAt_take ht]
    exact findI_low ht
  · rw [putL_rest, List.append_assoc, clAt_app_r (by rw [List.length_take]; omega)]
    have h0 : findI l k - (l.take (findI l k)).length = 0 := by rw [List.length_take]; omega
    rw [h0]
    show 0 ≤ cmpI k k
    rw [cmpI_self]; exact Int.le_refl _
theorem fnd_put {l : List Cl} {k v : List Int} : fndB (putL l k v) k = true := by
  have hf := findI_le l k
  unfold fndB
  rw [find_put]
  have h1 : findI l k < (putL l k v).length := by rw [putL_rest]; simp; omega
  have h2 : clAt (putL l k v) (findI l k) = (k, v) := by
    rw [putL_rest, List.append_assoc, clAt_app_r (by rw [List.length_take]; omega)]
    have h0 : findI l k - (l.take (findI l k)).length = 0 := by rw [List.length_take]; omega
    rw [h0]; rfl
  rw [decide_eq_true h1, h2]
  simp [eqB]
theorem drop_put {l : List Cl} {k v : List Int} : dropL (putL l k v) k = dropL l k := by
  have hf := findI_le l k
  rw [dropL_rest l k]
  unfold dropL
  rw [if_pos fnd_put, find_put, putL_rest]
  unfold restL
  have h1 : (l.take (findI l k)).length = findI l k := by rw [List.length_take]; omega
  rw [List.append_assoc, List.take_left' h1]
  congr 1
  rw [← List.append_assoc, List.drop_left' (by simp; omega)]
theorem fnd_rest {l : List Cl} {k : List Int} (hr : Rs l) : fndB (restL l k) k = false := by
  have hf := findI_le l k
  have h1 : (l.take (findI l k)).length = findI l k := by rw [List.length_take]; omega
  have hat : ∀ _ : findI l k < (restL l k).length, 0 < cmpI (clAt (restL l k) (findI l k)).1 k := fun h => by
    unfold restL at h ⊢
    rw [List.length_append, h1, List.length_drop] at h
    rw [clAt_app_r (by omega), h1, Nat.sub_self, clAt_drop]
    exact nextI_gt hr (by omega) (by omega)
  have h2 : findI (restL l k) k = findI l k := by
    refine findI_eq k _ _ (by unfold restL; rw [List.length_append, h1]; omega) (fun t ht => ?_) (fun h => by have := hat h; omega)
    unfold restL
    rw [clAt_app_l (by omega), clAt_take ht]
    exact findI_low ht
  unfold fndB
  rw [h2]
  by_cases h : findI l k < (restL l k).length
  · have h3 := hat h
    rw [decide_eq_true h, Bool.true_and]
    refine decide_eq_false fun e => ?_
    rw [e, cmpI_self] at h3
    omega
  · rw [decide_eq_false h]; rfl
theorem len_put (l : List Cl) (k v : List Int) : (putL l k v).length = (dropL l k).length + 1 := by
  rw [dropL_rest, putL_rest]
  unfold restL
  simp
  omega
theorem len_drop (l : List Cl) (k : List Int) : (dropL l k).length ≤ l.length := by
  have := nextI_le l k
  have := findI_le l k
  rw [dropL_rest]
  unfold restL
  simp only [List.length_append, List.length_take, List.length_drop]
  have : findI l k ≤ nextI l k := by unfold nextI; split <;> omega
  omega
end Go.Proofs.Ytjgomebnlekddaa
