/- A record's bytes with one turned, or cut short, are none: in plain terms. -/
import Derived.Test.YtjgomebnlekddaaRcPlain3
import Derived.Test.YtjgomebnlekddaaCrc
namespace Go.Proofs.Ytjgomebnlekddaa
set_option linter.unusedVariables false
set_option linter.unusedSimpArgs false
open Go.RowKit
theorem fourL_inj {s t : Int} (hs : 0 ≤ s ∧ s < 4294967296) (ht : 0 ≤ t ∧ t < 4294967296) (h : fourL s = fourL t) : s = t := by
  have := congrArg num h
  rwa [num_fourL hs.1, num_fourL ht.1] at this
theorem fourL_len (s : Int) : (fourL s).length = 4 := rfl
/-- A byte turned: the sum tells. -/
theorem turned_no {R : Rc} (hb : Byt (encR R)) {k : Nat} (hk : k < (encR R).length) {x : Int} (hx : 0 ≤ x ∧ x ≤ 255) (hne : x ≠ (encR R).getD k 0) : decS ((encR R).set k x) = (zeroR, 15) := by
  have hl : (encR R).length = (bodyR R).length + 4 := by rw [encR_eq, List.length_append, fourL_len]
  have h5 : ¬ ((encR R).set k x).length < 5 := by
    rw [List.length_set, hl]
    have := body_pos R
    omega
  have hn4 : ((encR R).set k x).length - 4 = (bodyR R).length := by rw [List.length_set, hl]; omega
  unfold decS
  rw [if_neg h5, hn4]
  rw [if_neg]
  intro h
  rw [encR_eq] at h hne hb hk
  rcases Nat.lt_or_ge k (bodyR R).length with h1 | h1
  · rw [List.set_append_left _ _ h1, List.drop_left' (by rw [List.length_set]), List.take_left' (by rw [List.length_set])] at h
    have hs := fourL_inj (sumL_range _) (sumL_range _) h
    have hb1 : Byt (bodyR R) := fun y hy => hb y (by simp [hy])
    have hg : (bodyR R ++ fourL (sumL (bodyR R))).getD k 0 = (bodyR R).getD k 0 := by
      simp only [List.getD_eq_getElem?_getD]; rw [List.getElem?_append_left h1]
    rw [hg] at hne
    exact sum_turned hb1 h1 hx hne hs.symm
  · rw [List.set_append_right _ _ h1, List.drop_left' rfl, List.take_left' rfl] at h
    have hg : (bodyR R ++ fourL (sumL (bodyR R))).getD k 0 = (fourL (sumL (bodyR R))).getD (k - (bodyR R).length) 0 := by
      simp only [List.getD_eq_getElem?_getD]; rw [List.getElem?_append_right h1]
    rw [hg] at hne
    have hk4 : k - (bodyR R).length < (fourL (sumL (bodyR R))).length := by
      rw [List.length_append] at hk; omega
    have := congrArg (fun m => m.getD (k - (bodyR R).length) 0) h
    simp only [List.getD_eq_getElem?_getD] at this hne
    rw [List.getElem?_set_self hk4] at this
    exact hne this
/-- How long a record is that begins so. -/
def lenL (l : List Int) : Nat :=
  if l.getD 0 0 = 1 then 13 else if l.getD 0 0 = 2 then 27 + 2 * cN l else if l.getD 0 0 = 3 then 35 + cN l else if l.getD 0 0 = 6 then 22 + 10 * (atN l 17 1 / 2).toNat else 21
theorem encR_len (R : Rc) : (encR R).length = if R.k = 1 then 13 else if R.k = 2 then 27 + R.bl.length + R.al.length else if R.k = 3 then 35 + R.bl.length + R.al.length else if R.k = 6 then 22 + 10 * R.dl.length else 21 := enc_len _ _ _ _ _ _ _ _ _ _
theorem len_enc {R : Rc} (hf : formR R = true) (ho : RcOk R) : (encR R).length = lenL (encR R) := by
  rw [encR_len]
  rw [encR_eq]
  generalize fourL (sumL (bodyR R)) = z
  unfold lenL
  rcases form_shape hf with ⟨tx, rfl⟩ | ⟨k, tx, prev, hk, rfl⟩ | ⟨tx, prev, page, off, bl, al, p0, p1, o0, o1, hb, a1, a2, rfl⟩ | ⟨tx, prev, page, off, next, al, p0, p1, o0, o1, a1, a2, rfl⟩ | ⟨tx, prev, dl, opn, hd, hl, rfl⟩
  · rw [body_1]
    have hg : ([1] ++ (u8L tx ++ []) ++ z).getD 0 0 = 1 := rfl
    rw [hg, if_pos rfl, if_pos rfl]
  · rw [body_4 tx prev hk]
    have hg : ([k] ++ (u8L tx ++ (u8L prev ++ [])) ++ z).getD 0 0 = k := rfl
    rw [hg]
    dsimp only
    rw [if_neg (by omega), if_neg (by omega), if_neg (by omega), if_neg (by omega), if_neg (by omega), if_neg (by omega), if_neg (by omega), if_neg (by omega)]
  · rw [body_2]
    have h5 := atN_mid ([2] ++ (u8L tx ++ (u8L prev ++ (twoL page ++ twoL off)))) (twoL al.length) (bl ++ (al ++ z)) 21 2 rfl rfl
    rw [num_twoL (by omega)] at h5
    simp only [List.append_nil, List.append_assoc] at h5 ⊢
    have hg : ([2] ++ (u8L tx ++ (u8L prev ++ (twoL page ++ (twoL off ++ (twoL (al.length : Int) ++ (bl ++ (al ++ z)))))))).getD 0 0 = 2 := rfl
    generalize [2] ++ (u8L tx ++ (u8L prev ++ (twoL page ++ (twoL off ++ (twoL (al.length : Int) ++ (bl ++ (al ++ z))))))) = l at *
    have h8 : cN l = al.length := by unfold cN; rw [h5]; rfl
    rw [hg, h8]
    simp
    omega
  · rw [body_3]
    have h5 := atN_mid ([3] ++ (u8L tx ++ (u8L prev ++ (twoL page ++ twoL off)))) (twoL al.length) (al ++ (u8L next ++ z)) 21 2 rfl rfl
    rw [num_twoL (by omega)] at h5
    simp only [List.append_nil, List.append_assoc] at h5 ⊢
    have hg : ([3] ++ (u8L tx ++ (u8L prev ++ (twoL page ++ (twoL off ++ (twoL (al.length : Int) ++ (al ++ (u8L next ++ z)))))))).getD 0 0 = 3 := rfl
    generalize [3] ++ (u8L tx ++ (u8L prev ++ (twoL page ++ (twoL off ++ (twoL (al.length : Int) ++ (al ++ (u8L next ++ z))))))) = l at *
    have h8 : cN l = al.length := by unfold cN; rw [h5]; rfl
    rw [hg, h8]
    simp
  · rw [body_6]
    generalize hm : (dl.length : Int) * 2 + (if opn then 1 else 0) = m
    have hm1 : (m / 2).toNat = dl.length := by rw [← hm]; cases opn <;> first | (simp; done) | (simp; omega)
    have h3 := atN_mid ([6] ++ (u8L tx ++ u8L prev)) [m] (dl.flatMap drL ++ z) 17 1 rfl rfl
    rw [show num [m] = m by simp [num]] at h3
    simp only [List.append_nil, List.append_assoc] at h3 ⊢
    have hg : ([6] ++ (u8L tx ++ (u8L prev ++ ([m] ++ (dl.flatMap drL ++ z))))).getD 0 0 = 6 := rfl
    generalize [6] ++ (u8L tx ++ (u8L prev ++ ([m] ++ (dl.flatMap drL ++ z)))) = l at *
    rw [hg, h3, hm1]
    simp
theorem take_getD (l : List Int) {i k : Nat} (h : i < k) : (l.take k).getD i 0 = l.getD i 0 := by
  simp only [List.getD_eq_getElem?_getD]
  rw [List.getElem?_take, if_pos h]
theorem atN_take (l : List Int) {i n k : Nat} (h : i + n ≤ k) : atN (l.take k) i n = atN l i n := by
  unfold atN
  congr 1
  apply List.map_congr_left
  intro j hj
  have := List.mem_range.1 hj
  exact take_getD l (by omega)
theorem len_min {R : Rc} (hf : formR R = true) : 13 ≤ (encR R).length := by
  rw [encR_len]
  split
  · omega
  · split
    · omega
    · split
      · omega
      · split <;> omega
/-- Bytes cut short are no record. -/
theorem short_no {R : Rc} (hb : Byt (encR R)) (hf : formR R = true) (ho : RcOk R) {k : Nat} (hk : k < (encR R).length) : (decS ((encR R).take k)).2 ≠ 0 := by
  intro h0
  obtain ⟨h1, h2, h3⟩ := decS_of (R := (decS ((encR R).take k)).1) (hb.take k) (by rw [← h0])
  generalize (decS ((encR R).take k)).1 = R' at *
  have hl := len_enc hf ho
  have hl' := len_enc h2 h3
  have hm := len_min h2
  rw [← h1] at hl' hm
  rw [List.length_take, Nat.min_eq_left (by omega)] at hl' hm
  generalize encR R = l at *
  have g0 : (l.take k).getD 0 0 = l.getD 0 0 := take_getD l (by omega)
  unfold lenL at hl hl'
  rw [g0] at hl'
  by_cases k1 : l.getD 0 0 = 1
  · rw [if_pos k1] at hl hl'; omega
  rw [if_neg k1] at hl hl'
  by_cases k2 : l.getD 0 0 = 2
  · rw [if_pos k2] at hl hl'
    have : cN (l.take k) = cN l := by unfold cN; rw [atN_take l (by omega)]
    omega
  rw [if_neg k2] at hl hl'
  by_cases k3 : l.getD 0 0 = 3
  · rw [if_pos k3] at hl hl'
    have : cN (l.take k) = cN l := by unfold cN; rw [atN_take l (by omega)]
    omega
  rw [if_neg k3] at hl hl'
  by_cases k6 : l.getD 0 0 = 6
  · rw [if_pos k6] at hl hl'
    have : atN (l.take k) 17 1 = atN l 17 1 := atN_take l (by omega)
    rw [this] at hl'
    omega
  · rw [if_neg k6] at hl hl'; omega
end Go.Proofs.Ytjgomebnlekddaa
