/- The page of any bytes: the plain decoding, and that it undoes the encoding. -/
import Derived.Test.YtjgomebnlekddaaPEnc
namespace Go.Proofs.Ytjgomebnlekddaa
set_option linter.unusedVariables false
set_option linter.unusedSimpArgs false
open Go.RowKit
def cutL (b : List Int) (i j : Nat) : List Int := (b.take j).drop i
def stepD (b : List Int) (s : Nat × List Cl) : Option (Nat × List Cl) :=
  if s.1 + 2 ≤ b.length ∧ s.1 + 2 + (b.getD s.1 0).toNat + (b.getD (s.1 + 1) 0).toNat ≤ b.length then
    some (s.1 + 2 + (b.getD s.1 0).toNat + (b.getD (s.1 + 1) 0).toNat, s.2 ++ [(cutL b (s.1 + 2) (s.1 + 2 + (b.getD s.1 0).toNat), cutL b (s.1 + 2 + (b.getD s.1 0).toNat) (s.1 + 2 + (b.getD s.1 0).toNat + (b.getD (s.1 + 1) 0).toNat))])
  else none
def decTo (b : List Int) : Nat → Option (Nat × List Cl)
  | 0 => some (6, [])
  | j + 1 => (decTo b j).bind (stepD b)
theorem decTo_none {b : List Int} {j m : Nat} (h : decTo b j = none) (hm : j ≤ m) : decTo b m = none := by
  induction m with
  | zero =>
    obtain rfl : j = 0 := by omega
    exact h
  | succ m ih =>
    rcases Nat.lt_or_ge m j with h1 | h1
    · obtain rfl : j = m + 1 := by omega
      exact h
    · show (decTo b m).bind (stepD b) = none
      rw [ih h1]; rfl
theorem decTo_yes {b : List Int} {j at_ : Nat} {l : List Cl} (h : decTo b j = some (at_, l)) {x y : Nat} (hx : b.getD at_ 0 = x) (hy : b.getD (at_ + 1) 0 = y) (h1 : at_ + 2 + x + y ≤ b.length) :
    decTo b (j + 1) = some (at_ + 2 + x + y, l ++ [(cutL b (at_ + 2) (at_ + 2 + x), cutL b (at_ + 2 + x) (at_ + 2 + x + y))]) := by
  show (decTo b j).bind (stepD b) = _
  rw [h, Option.bind_some]
  unfold stepD
  simp only [hx, hy, Int.toNat_natCast]
  rw [if_pos ⟨by omega, h1⟩]
theorem decTo_no1 {b : List Int} {j at_ : Nat} {l : List Cl} (h : decTo b j = some (at_, l)) (h1 : b.length < at_ + 2) : decTo b (j + 1) = none := by
  show (decTo b j).bind (stepD b) = _
  rw [h, Option.bind_some]
  unfold stepD
  rw [if_neg (by simp only; omega)]
theorem decTo_no2 {b : List Int} {j at_ : Nat} {l : List Cl} (h : decTo b j = some (at_, l)) {x y : Nat} (hx : b.getD at_ 0 = x) (hy : b.getD (at_ + 1) 0 = y) (h1 : b.length < at_ + 2 + x + y) : decTo b (j + 1) = none := by
  show (decTo b j).bind (stepD b) = _
  rw [h, Option.bind_some]
  unfold stepD
  simp only [hx, hy, Int.toNat_natCast]
  rw [if_neg (by omega)]
theorem decTo_len {b : List Int} : ∀ {j at_ : Nat} {l : List Cl}, decTo b j = some (at_, l) → l.length = j ∧ (at_ ≤ b.length ∨ j = 0) ∧ 6 ≤ at_
  | 0, at_, l, h => by
    injection h with h
    injection h with h1 h2
    subst h1 h2
    exact ⟨rfl, .inr rfl, Nat.le_refl _⟩
  | j + 1, at_, l, h => by
    have h' : (decTo b j).bind (stepD b) = some (at_, l) := h
    cases hd : decTo b j with
    | none => rw [hd] at h'; cases h'
    | some s =>
      obtain ⟨a0, l0⟩ := s
      rw [hd, Option.bind_some] at h'
      obtain ⟨i1, i2, i3⟩ := decTo_len hd
      unfold stepD at h'
      split at h'
      · next hc =>
        injection h' with h'
        injection h' with e1 e2
        subst e1 e2
        simp only at hc
        exact ⟨by simp [i1], .inl hc.2, by have := i3; simp only; omega⟩
      · cases h'
abbrev Pg := Int × Int × List Cl
open Classical in
noncomputable def decP (b : List Int) : Option Pg :=
  if b.length = 504 then
    (decTo b (b.getD 4 0).toNat).bind fun s => if PForm (b.getD 0 0) (b.getD 1 0 * 65536 + b.getD 2 0 * 256 + b.getD 3 0) s.2 ∧ pageB (b.getD 0 0) (b.getD 1 0 * 65536 + b.getD 2 0 * 256 + b.getD 3 0) s.2 = b then some (b.getD 0 0, b.getD 1 0 * 65536 + b.getD 2 0 * 256 + b.getD 3 0, s.2) else none
  else none
theorem decP_none {b : List Int} {cnt : Nat} (h4 : b.getD 4 0 = cnt) (hd : decTo b cnt = none) : decP b = none := by
  unfold decP
  split
  · rw [h4, Int.toNat_natCast, hd]; rfl
  · rfl
theorem decP_no {b : List Int} {cnt at_ : Nat} {k next : Int} {l : List Cl} (h4 : b.getD 4 0 = cnt) (h0 : b.getD 0 0 = k) (hx : b.getD 1 0 * 65536 + b.getD 2 0 * 256 + b.getD 3 0 = next) (hd : decTo b cnt = some (at_, l)) (hno : ¬ (PForm k next l ∧ pageB k next l = b)) : decP b = none := by
  unfold decP
  split
  · rw [h4, Int.toNat_natCast, hd, Option.bind_some, h0, hx, if_neg hno]
  · rfl
theorem decP_yes {b : List Int} {cnt at_ : Nat} {k next : Int} {l : List Cl} (hl : b.length = 504) (h4 : b.getD 4 0 = cnt) (h0 : b.getD 0 0 = k) (hx : b.getD 1 0 * 65536 + b.getD 2 0 * 256 + b.getD 3 0 = next) (hd : decTo b cnt = some (at_, l)) (h1 : PForm k next l) (h2 : pageB k next l = b) : decP b = some (k, next, l) := by
  unfold decP
  rw [if_pos hl, h4, Int.toNat_natCast, hd, Option.bind_some, h0, hx, if_pos ⟨h1, h2⟩]
theorem cellB_len (c : Cl) : (cellB c).length = 2 + c.1.length + c.2.length := by simp [cellB]; omega
theorem cellsB_cons (c : Cl) (l : List Cl) : cellsB (c :: l) = cellB c ++ cellsB l := by simp [cellsB]
theorem cellsB_app (a b : List Cl) : cellsB (a ++ b) = cellsB a ++ cellsB b := by simp [cellsB]
theorem getD_app_r {a b : List Int} {i : Nat} (h : a.length ≤ i) : (a ++ b).getD i 0 = b.getD (i - a.length) 0 := by simp [List.getD, List.getElem?_append_right h]
theorem getD_app_l {a b : List Int} {i : Nat} (h : i < a.length) : (a ++ b).getD i 0 = a.getD i 0 := by simp [List.getD, List.getElem?_append_left h]
theorem cutL_mid (p a q : List Int) : cutL (p ++ a ++ q) p.length (p.length + a.length) = a := by
  unfold cutL
  rw [List.take_left' (by simp), List.drop_left]
/-- A cell that stands behind p is read. -/
theorem stepD_cell (p : List Int) (c : Cl) (q : List Int) (l : List Cl) : stepD (p ++ cellB c ++ q) (p.length, l) = some ((p ++ cellB c).length, l ++ [c]) := by
  have hlen : (p ++ cellB c ++ q).length = p.length + 2 + c.1.length + c.2.length + q.length := by simp [cellB_len]; omega
  have h0 : (p ++ cellB c ++ q).getD p.length 0 = (c.1.length : Int) := by
    rw [List.append_assoc, getD_app_r (Nat.le_refl _), Nat.sub_self]; simp [cellB]
  have h1 : (p ++ cellB c ++ q).getD (p.length + 1) 0 = (c.2.length : Int) := by
    rw [List.append_assoc, getD_app_r (by omega), show p.length + 1 - p.length = 1 by omega]; simp [cellB]
  have e1 : cutL (p ++ cellB c ++ q) (p.length + 2) (p.length + 2 + c.1.length) = c.1 := by
    have := cutL_mid (p ++ [(c.1.length : Int), (c.2.length : Int)]) c.1 (c.2 ++ q)
    rw [show (p ++ [(c.1.length : Int), (c.2.length : Int)]).length = p.length + 2 by simp] at this
    refine Eq.trans ?_ this
    congr 1
    simp [cellB]
  have e2 : cutL (p ++ cellB c ++ q) (p.length + 2 + c.1.length) (p.length + 2 + c.1.length + c.2.length) = c.2 := by
    have := cutL_mid (p ++ [(c.1.length : Int), (c.2.length : Int)] ++ c.1) c.2 q
    rw [show (p ++ [(c.1.length : Int), (c.2.length : Int)] ++ c.1).length = p.length + 2 + c.1.length by simp; omega] at this
    refine Eq.trans ?_ this
    congr 1
    simp [cellB]
  unfold stepD
  simp only [h0, h1, Int.toNat_natCast]
  rw [if_pos ⟨by omega, by omega⟩, e1, e2]
  congr 2
  simp [cellB_len]; omega
theorem decTo_cells (h6 : List Int) (hl : h6.length = 6) (l : List Cl) (z : List Int) : ∀ j, j ≤ l.length → decTo (h6 ++ cellsB l ++ z) j = some (6 + (cellsB (l.take j)).length, l.take j)
  | 0, _ => rfl
  | j + 1, hj => by
    show (decTo _ j).bind (stepD _) = _
    rw [decTo_cells h6 hl l z j (by omega), Option.bind_some]
    have hs : l = l.take j ++ [clAt l j] ++ l.drop (j + 1) := by
      rw [← take_one l j (by omega), List.take_append_drop]
    have hb : h6 ++ cellsB l ++ z = (h6 ++ cellsB (l.take j)) ++ cellB (clAt l j) ++ (cellsB (l.drop (j + 1)) ++ z) := by
      conv => lhs; rw [hs]
      rw [cellsB_app, cellsB_app]
      simp [cellsB, List.append_assoc]
    have hp : 6 + (cellsB (l.take j)).length = (h6 ++ cellsB (l.take j)).length := by simp [hl]
    rw [hb, hp, stepD_cell, take_one l j (by omega), cellsB_app]
    simp [cellsB, hl]
theorem headB_len (k next : Int) (l : List Cl) : (headB k next l).length = 6 := rfl
theorem pageB_len {k next : Int} {l : List Cl} (h : PForm k next l) : (pageB k next l).length = 504 := by
  have h1 := cellsB_len l
  have h2 := h.2.2.2
  unfold pageB
  simp [headB_len]
  omega
theorem pageB_at (k next : Int) (l : List Cl) : (pageB k next l).getD 0 0 = k ∧ (pageB k next l).getD 1 0 = next / 65536 ∧ (pageB k next l).getD 2 0 = next / 256 ∧ (pageB k next l).getD 3 0 = next % 256 ∧ (pageB k next l).getD 4 0 = (l.length : Int) := by
  unfold pageB headB
  simp
/-- What was encoded is decoded. -/
theorem dec_enc {k next : Int} {l : List Cl} (h : PForm k next l) : decP (pageB k next l) = some (k, next, l) := by
  obtain ⟨a0, a1, a2, a3, a4⟩ := pageB_at k next l
  have hd : decTo (pageB k next l) l.length = some (6 + (cellsB l).length, l) := by
    have := decTo_cells (headB k next l) rfl l (List.replicate (504 - (6 + (cellsB l).length)) 0) l.length (Nat.le_refl _)
    rwa [List.take_length] at this
  have hn : next / 65536 * 65536 + next / 256 * 256 + next % 256 = next := by
    have := h.1; omega
  unfold decP
  rw [if_pos (pageB_len h), a0, a1, a2, a3, a4, hn, Int.toNat_natCast, hd, Option.bind_some, if_pos ⟨h, rfl⟩]
end Go.Proofs.Ytjgomebnlekddaa
