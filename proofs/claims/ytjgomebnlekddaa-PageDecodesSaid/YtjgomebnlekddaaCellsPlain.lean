/- PageCells: its plain law. -/
import Derived.Test.YtjgomebnlekddaaOrd
import Derived.Test.YtjgomebnlekddaaRPut
namespace Go.Proofs.Ytjgomebnlekddaa
set_option linter.unusedVariables false
set_option linter.unusedSimpArgs false
open Go.RowKit
theorem mem_clAt {l : List Cl} {a : Cl} (h : a ∈ l) : ∃ i, i < l.length ∧ clAt l i = a := by
  obtain ⟨i, hi, e⟩ := List.getElem_of_mem h
  exact ⟨i, hi, by simp [clAt, hi, e]⟩
theorem ne_of_cmp {a k : List Int} (h : cmpI a k ≠ 0) : a ≠ k := fun e => h ((cmpI_zero a k).2 e)
theorem filter_low (l : List Cl) (k : List Int) : (l.take (findI l k)).filter (fun c => decide (c.1 ≠ k)) = l.take (findI l k) := by
  refine List.filter_eq_self.2 fun a ha => ?_
  obtain ⟨i, hi, rfl⟩ := mem_clAt ha
  rw [List.length_take] at hi
  rw [clAt_take (by omega)]
  have := findI_low (l := l) (k := k) (t := i) (by omega)
  exact decide_eq_true (ne_of_cmp (by omega))
theorem filter_high {l : List Cl} {k : List Int} (hr : Rs l) : (l.drop (nextI l k)).filter (fun c => decide (c.1 ≠ k)) = l.drop (nextI l k) := by
  refine List.filter_eq_self.2 fun a ha => ?_
  obtain ⟨i, hi, rfl⟩ := mem_clAt ha
  rw [List.length_drop] at hi
  rw [clAt_drop]
  have := nextI_gt hr (k := k) (t := nextI l k + i) (by omega) (by omega)
  exact decide_eq_true (ne_of_cmp (by omega))
theorem rdrop_rs {l : List Cl} {k : List Int} (hr : Rs l) : rdropL l k = dropL l k := by
  rw [dropL_rest]
  unfold restL rdropL
  have h1 := filter_low l k
  have h2 := filter_high (l := l) (k := k) hr
  by_cases hf : fndB l k = true
  · have hl := fndB_lt hf
    have hn : nextI l k = findI l k + 1 := by unfold nextI; rw [if_pos hf]
    have hs : l.take (findI l k) ++ [clAt l (findI l k)] ++ l.drop (nextI l k) = l := by
      rw [← take_one l _ hl, hn, List.take_append_drop]
    rw [hn] at h2 hs ⊢
    have h3 : [clAt l (findI l k)].filter (fun c => decide (c.1 ≠ k)) = [] := by
      simp [fndB_yes hf]
    have h4 := congrArg (List.filter (fun c => decide (c.1 ≠ k))) hs
    rw [List.filter_append, List.filter_append, h1, h2, h3, List.append_nil] at h4
    exact h4.symm
  · have hn : nextI l k = findI l k := by unfold nextI; rw [if_neg hf]
    have hs : l.take (findI l k) ++ l.drop (nextI l k) = l := by rw [hn, List.take_append_drop]
    rw [hn] at h2 hs ⊢
    have h4 := congrArg (List.filter (fun c => decide (c.1 ≠ k))) hs
    rw [List.filter_append, h1, h2] at h4
    exact h4.symm
def belowTo (l : List Cl) (k : List Int) (j : Nat) : Nat := if j ≤ findI l k then j else findI l k
def thereTo (l : List Cl) (k : List Int) (j : Nat) : Bool := decide (findI l k < j) && fndB l k
theorem below_step {l : List Cl} {k : List Int} (hr : Rs l) {j : Nat} (h : j < l.length) : belowTo l k (j + 1) = if cmpI (clAt l j).1 k < 0 then belowTo l k j + 1 else belowTo l k j := by
  unfold belowTo
  rcases Nat.lt_trichotomy j (findI l k) with hf | hf | hf
  · have := findI_low hf
    rw [if_pos (by omega), if_pos this, if_pos (by omega)]
  · have := findI_at (l := l) (k := k) (by omega)
    rw [← hf] at this
    rw [if_neg (by omega), if_neg (by omega), if_pos (by omega)]; omega
  · have := findI_gt hr hf h
    rw [if_neg (by omega), if_neg (by omega), if_neg (by omega)]
theorem there_step {l : List Cl} {k : List Int} (hr : Rs l) {j : Nat} (h : j < l.length) : thereTo l k (j + 1) = (thereTo l k j || eqB (clAt l j).1 k) := by
  unfold thereTo
  rcases Nat.lt_trichotomy j (findI l k) with hf | hf | hf
  · have h1 := findI_low hf
    have h2 : eqB (clAt l j).1 k = false := decide_eq_false (ne_of_cmp (by omega))
    rw [h2, decide_eq_false (by omega), decide_eq_false (by omega)]; rfl
  · have hj : decide (j < l.length) = true := decide_eq_true h
    rw [decide_eq_true (by omega), decide_eq_false (show ¬ findI l k < j by omega), Bool.true_and, Bool.false_and, Bool.false_or]
    unfold fndB
    rw [← hf, hj, Bool.true_and]
  · have h1 := findI_gt hr hf h
    have h2 : eqB (clAt l j).1 k = false := decide_eq_false (ne_of_cmp (by omega))
    rw [h2, decide_eq_true (by omega), decide_eq_true hf]; simp
theorem below_end {l : List Cl} {k : List Int} : belowTo l k l.length = findI l k := by
  have := findI_le l k
  unfold belowTo
  split <;> omega
theorem there_end {l : List Cl} {k : List Int} : thereTo l k l.length = fndB l k := by
  unfold thereTo fndB
  cases decide (findI l k < l.length) <;> simp
end Go.Proofs.Ytjgomebnlekddaa
