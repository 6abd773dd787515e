/- Records in plain terms: the reference's Decode. -/
import Derived.Test.YtjgomebnlekddaaRcPlain2
namespace Go.Proofs.Ytjgomebnlekddaa
set_option linter.unusedVariables false
set_option linter.unusedSimpArgs false
open Go.RowKit
def atN (l : List Int) (i n : Nat) : Int := num ((List.range n).map fun j => l.getD (i + j) 0)
def cutL (l : List Int) (i n : Nat) : List Int := (l.drop i).take n
def cDl (l : List Int) (n : Nat) : List (Int × Int) := (List.range n).map fun j => (atN l (18 + 10 * j) 2, atN l (20 + 10 * j) 8)
def cN (l : List Int) : Nat := (atN l 21 2).toNat
/-- The record that the reference takes from bytes, whether or not they are one. -/
def cand (l : List Int) : Rc :=
  if l.getD 0 0 = 1 then ⟨l.getD 0 0, atN l 1 8, 0, 0, 0, 0, [], [], [], false⟩
  else if l.getD 0 0 = 2 then ⟨l.getD 0 0, atN l 1 8, atN l 9 8, atN l 17 2, atN l 19 2, 0, cutL l 23 (cN l), cutL l (23 + cN l) (cN l), [], false⟩
  else if l.getD 0 0 = 3 then ⟨l.getD 0 0, atN l 1 8, atN l 9 8, atN l 17 2, atN l 19 2, atN l (23 + cN l) 8, [], cutL l 23 (cN l), [], false⟩
  else if l.getD 0 0 = 6 then ⟨l.getD 0 0, atN l 1 8, atN l 9 8, 0, 0, 0, [], [], cDl l (atN l 17 1 / 2).toNat, decide (atN l 17 1 % 2 = 1)⟩
  else ⟨l.getD 0 0, atN l 1 8, atN l 9 8, 0, 0, 0, [], [], [], false⟩
theorem range_get (x : List Int) : (List.range x.length).map (fun j => x.getD j 0) = x := by
  apply List.ext_getElem
  · simp
  · intro i h1 h2
    simp at h1
    simp [h1]
theorem atN_mid (x y z : List Int) (i n : Nat) (hi : x.length = i) (hn : y.length = n) : atN (x ++ (y ++ z)) i n = num y := by
  subst hi hn
  unfold atN
  congr 1
  conv => rhs; rw [← range_get y]
  apply List.map_congr_left
  intro j hj
  have hj' := List.mem_range.1 hj
  simp only [List.getD_eq_getElem?_getD]
  rw [List.getElem?_append_right (by omega), show x.length + j - x.length = j by omega, List.getElem?_append_left hj']
theorem cutL_mid (x y z : List Int) (i n : Nat) (hi : x.length = i) (hn : y.length = n) : cutL (x ++ (y ++ z)) i n = y := by
  subst hi hn
  unfold cutL
  rw [List.drop_left' rfl, List.take_left' rfl]
theorem drs_len (l : List (Int × Int)) : (l.flatMap drL).length = 10 * l.length := by
  induction l with
  | nil => rfl
  | cons d l ih => rw [List.flatMap_cons, List.length_append, ih]; simp [drL, twoL, u8L_len]; omega
theorem cDl_mid (x z : List Int) (dl : List (Int × Int)) (hx : x.length = 18) (hd : ∀ d ∈ dl, 0 ≤ d.1 ∧ 0 ≤ d.2 ∧ d.2 < 18446744073709551616) : cDl (x ++ (dl.flatMap drL ++ z)) dl.length = dl := by
  unfold cDl
  apply List.ext_getElem
  · simp
  · intro j h1 h2
    simp at h1
    have hj : j < dl.length := h1
    have hm := hd dl[j] (List.getElem_mem hj)
    have e : dl.flatMap drL = (dl.take j).flatMap drL ++ (twoL dl[j].1 ++ (u8L dl[j].2 ++ (dl.drop (j + 1)).flatMap drL)) := by
      conv => lhs; rw [← List.take_append_drop j dl, List.drop_eq_getElem_cons hj]
      rw [List.flatMap_append, List.flatMap_cons]
      simp [drL]
    have hl : ((dl.take j).flatMap drL).length = 10 * j := by rw [drs_len, List.length_take]; omega
    rw [List.getElem_map, List.getElem_range, e]
    have a1 := atN_mid (x ++ (dl.take j).flatMap drL) (twoL dl[j].1) (u8L dl[j].2 ++ (dl.drop (j + 1)).flatMap drL ++ z) (18 + 10 * j) 2 (by rw [List.length_append, hl, hx]) rfl
    have a2 := atN_mid (x ++ ((dl.take j).flatMap drL ++ twoL dl[j].1)) (u8L dl[j].2) ((dl.drop (j + 1)).flatMap drL ++ z) (20 + 10 * j) 8 (by rw [List.length_append, List.length_append, hl, hx]; simp [twoL]; omega) rfl
    rw [num_twoL hm.1] at a1
    rw [num_u8L hm.2.1 hm.2.2] at a2
    simp only [List.append_assoc] at a1 a2 ⊢
    rw [a1, a2]
/-- (C) What the reference takes from a record's bytes is the record. -/
theorem cand_enc {R : Rc} (hf : formR R = true) (ho : RcOk R) : cand (encR R) = R := by
  rw [encR_eq]
  generalize fourL (sumL (bodyR R)) = z
  rcases form_shape hf with ⟨tx, rfl⟩ | ⟨k, tx, prev, hk, rfl⟩ | ⟨tx, prev, page, off, bl, al, p0, p1, o0, o1, hb, a1, a2, rfl⟩ | ⟨tx, prev, page, off, next, al, p0, p1, o0, o1, a1, a2, rfl⟩ | ⟨tx, prev, dl, opn, hd, hl, rfl⟩
  · rw [body_1]
    have h1 := atN_mid [1] (u8L tx) z 1 8 rfl rfl
    rw [num_u8L ho.t0 ho.t1] at h1
    simp only [List.append_nil, List.append_assoc]
    have hg : ([1] ++ (u8L tx ++ z)).getD 0 0 = 1 := rfl
    unfold cand
    rw [hg, if_pos rfl, h1]
  · rw [body_4 tx prev hk]
    have h1 := atN_mid [k] (u8L tx) (u8L prev ++ z) 1 8 rfl rfl
    have h2 := atN_mid ([k] ++ u8L tx) (u8L prev) z 9 8 rfl rfl
    rw [num_u8L ho.t0 ho.t1] at h1
    rw [num_u8L ho.p0 ho.p1] at h2
    simp only [List.append_nil, List.append_assoc] at h1 h2 ⊢
    have hg : ([k] ++ (u8L tx ++ (u8L prev ++ z))).getD 0 0 = k := rfl
    unfold cand
    rw [hg, if_neg (by omega), if_neg (by omega), if_neg (by omega), if_neg (by omega), h1, h2]
  · rw [body_2]
    have h1 := atN_mid [2] (u8L tx) (u8L prev ++ (twoL page ++ (twoL off ++ (twoL al.length ++ (bl ++ (al ++ z)))))) 1 8 rfl rfl
    have h2 := atN_mid ([2] ++ u8L tx) (u8L prev) (twoL page ++ (twoL off ++ (twoL al.length ++ (bl ++ (al ++ z))))) 9 8 rfl rfl
    have h3 := atN_mid ([2] ++ (u8L tx ++ u8L prev)) (twoL page) (twoL off ++ (twoL al.length ++ (bl ++ (al ++ z)))) 17 2 rfl rfl
    have h4 := atN_mid ([2] ++ (u8L tx ++ (u8L prev ++ twoL page))) (twoL off) (twoL al.length ++ (bl ++ (al ++ z))) 19 2 rfl rfl
    have h5 := atN_mid ([2] ++ (u8L tx ++ (u8L prev ++ (twoL page ++ twoL off)))) (twoL al.length) (bl ++ (al ++ z)) 21 2 rfl rfl
    have h6 := cutL_mid ([2] ++ (u8L tx ++ (u8L prev ++ (twoL page ++ (twoL off ++ twoL al.length))))) bl (al ++ z) 23 al.length rfl hb
    have h7 := cutL_mid ([2] ++ (u8L tx ++ (u8L prev ++ (twoL page ++ (twoL off ++ (twoL al.length ++ bl)))))) al z (23 + al.length) al.length (by simp [u8L_len, twoL]; omega) rfl
    rw [num_u8L ho.t0 ho.t1] at h1
    rw [num_u8L ho.p0 ho.p1] at h2
    rw [num_twoL p0] at h3
    rw [num_twoL o0] at h4
    rw [num_twoL (by omega)] at h5
    simp only [List.append_nil, List.append_assoc] at h1 h2 h3 h4 h5 h6 h7 ⊢
    have hg : ([2] ++ (u8L tx ++ (u8L prev ++ (twoL page ++ (twoL off ++ (twoL (al.length : Int) ++ (bl ++ (al ++ z)))))))).getD 0 0 = 2 := rfl
    generalize [2] ++ (u8L tx ++ (u8L prev ++ (twoL page ++ (twoL off ++ (twoL (al.length : Int) ++ (bl ++ (al ++ z))))))) = l at *
    have h8 : cN l = al.length := by unfold cN; rw [h5]; rfl
    unfold cand
    rw [hg, if_neg (by decide), if_pos rfl, h1, h2, h3, h4, h8, h6, h7]
  · rw [body_3]
    have h1 := atN_mid [3] (u8L tx) (u8L prev ++ (twoL page ++ (twoL off ++ (twoL al.length ++ (al ++ (u8L next ++ z)))))) 1 8 rfl rfl
    have h2 := atN_mid ([3] ++ u8L tx) (u8L prev) (twoL page ++ (twoL off ++ (twoL al.length ++ (al ++ (u8L next ++ z))))) 9 8 rfl rfl
    have h3 := atN_mid ([3] ++ (u8L tx ++ u8L prev)) (twoL page) (twoL off ++ (twoL al.length ++ (al ++ (u8L next ++ z)))) 17 2 rfl rfl
    have h4 := atN_mid ([3] ++ (u8L tx ++ (u8L prev ++ twoL page))) (twoL off) (twoL al.length ++ (al ++ (u8L next ++ z))) 19 2 rfl rfl
    have h5 := atN_mid ([3] ++ (u8L tx ++ (u8L prev ++ (twoL page ++ twoL off)))) (twoL al.length) (al ++ (u8L next ++ z)) 21 2 rfl rfl
    have h6 := cutL_mid ([3] ++ (u8L tx ++ (u8L prev ++ (twoL page ++ (twoL off ++ twoL al.length))))) al (u8L next ++ z) 23 al.length rfl rfl
    have h7 := atN_mid ([3] ++ (u8L tx ++ (u8L prev ++ (twoL page ++ (twoL off ++ (twoL al.length ++ al)))))) (u8L next) z (23 + al.length) 8 (by simp [u8L_len, twoL]; omega) rfl
    rw [num_u8L ho.t0 ho.t1] at h1
    rw [num_u8L ho.p0 ho.p1] at h2
    rw [num_twoL p0] at h3
    rw [num_twoL o0] at h4
    rw [num_twoL (by omega)] at h5
    rw [num_u8L ho.x0 ho.x1] at h7
    simp only [List.append_nil, List.append_assoc] at h1 h2 h3 h4 h5 h6 h7 ⊢
    have hg : ([3] ++ (u8L tx ++ (u8L prev ++ (twoL page ++ (twoL off ++ (twoL (al.length : Int) ++ (al ++ (u8L next ++ z)))))))).getD 0 0 = 3 := rfl
    generalize [3] ++ (u8L tx ++ (u8L prev ++ (twoL page ++ (twoL off ++ (twoL (al.length : Int) ++ (al ++ (u8L next ++ z))))))) = l at *
    have h8 : cN l = al.length := by unfold cN; rw [h5]; rfl
    unfold cand
    rw [hg, if_neg (by decide), if_neg (by decide), if_pos rfl, h1, h2, h3, h4, h8, h6, h7]
  · rw [body_6]
    have hds : ∀ x ∈ dl, 0 ≤ x.1 ∧ 0 ≤ x.2 ∧ x.2 < 18446744073709551616 := fun x hx => ⟨(dirty_all dl _ hd x hx).1, ho.d x hx⟩
    generalize hm : (dl.length : Int) * 2 + (if opn then 1 else 0) = m
    have hm1 : (m / 2).toNat = dl.length := by rw [← hm]; cases opn <;> first | (simp; done) | (simp; omega)
    have hm2 : decide (m % 2 = 1) = opn := by rw [← hm]; cases opn <;> first | (simp; done) | (simp; omega)
    have h1 := atN_mid [6] (u8L tx) (u8L prev ++ ([m] ++ (dl.flatMap drL ++ z))) 1 8 rfl rfl
    have h2 := atN_mid ([6] ++ u8L tx) (u8L prev) ([m] ++ (dl.flatMap drL ++ z)) 9 8 rfl rfl
    have h3 := atN_mid ([6] ++ (u8L tx ++ u8L prev)) [m] (dl.flatMap drL ++ z) 17 1 rfl rfl
    have h4 := cDl_mid ([6] ++ (u8L tx ++ (u8L prev ++ [m]))) z dl rfl hds
    rw [num_u8L ho.t0 ho.t1] at h1
    rw [num_u8L ho.p0 ho.p1] at h2
    rw [show num [m] = m by simp [num]] at h3
    simp only [List.append_nil, List.append_assoc] at h1 h2 h3 h4 ⊢
    have hg : ([6] ++ (u8L tx ++ (u8L prev ++ ([m] ++ (dl.flatMap drL ++ z))))).getD 0 0 = 6 := rfl
    generalize [6] ++ (u8L tx ++ (u8L prev ++ ([m] ++ (dl.flatMap drL ++ z)))) = l at *
    unfold cand
    rw [hg, if_neg (by decide), if_neg (by decide), if_neg (by decide), if_pos rfl, h1, h2, h3, hm1, hm2, h4]
theorem atN_four (l : List Int) (h : 4 ≤ l.length) : atN l (l.length - 4) 4 = num (l.drop (l.length - 4)) := by
  have e : l = l.take (l.length - 4) ++ (l.drop (l.length - 4) ++ []) := by simp
  have := atN_mid (l.take (l.length - 4)) (l.drop (l.length - 4)) [] (l.length - 4) 4 (by simp) (by simp; omega)
  rw [← e] at this
  exact this
/-- What the reference's Decode answers. -/
def decC (l : List Int) : Rc × Int :=
  if l.length < 5 then (zeroR, 3)
  else if atN l (l.length - 4) 4 = sumL (l.take (l.length - 4)) then
    (if formR (cand l) = true ∧ encR (cand l) = l then (cand l, 0) else (zeroR, 3))
  else (zeroR, 15)
theorem four_iff {l : List Int} {s : Int} (h : l.length = 4) (hb : Byt l) (h0 : 0 ≤ s) : num l = s ↔ l = fourL s := by
  constructor
  · intro e; rw [← e, four_num h hb]
  · intro e; rw [e, num_fourL h0]
theorem atN_byt {l : List Int} (h : Byt l) (i n : Nat) : Byt ((List.range n).map fun j => l.getD (i + j) 0) := fun x hx => by
  obtain ⟨j, _, rfl⟩ := List.mem_map.1 hx
  exact h.getD _
theorem atN_r8 {l : List Int} (h : Byt l) (i : Nat) : 0 ≤ atN l i 8 ∧ atN l i 8 < 18446744073709551616 := num_r8 (by simp) (atN_byt h i 8)
theorem atN_r2 {l : List Int} (h : Byt l) (i : Nat) : 0 ≤ atN l i 2 ∧ atN l i 2 < 65536 := num_r2 (by simp) (atN_byt h i 2)
theorem atN_r1 {l : List Int} (h : Byt l) (i : Nat) : 0 ≤ atN l i 1 ∧ atN l i 1 ≤ 255 := by
  have := h.getD i
  show 0 ≤ num [l.getD (i + 0) 0] ∧ num [l.getD (i + 0) 0] ≤ 255
  simp only [num, List.foldl_cons, List.foldl_nil, Nat.add_zero]; omega
theorem cand_ok {l : List Int} (h : Byt l) : RcOk (cand l) := by
  have k := h.getD 0
  have t := atN_r8 h 1
  have p := atN_r8 h 9
  have z := atN_r8 h (23 + cN l)
  have hx : Byt (cutL l 23 (cN l)) := (h.drop _).take _
  have hy : Byt (cutL l (23 + cN l) (cN l)) := (h.drop _).take _
  have hd : ∀ n, ∀ x ∈ cDl l n, 0 ≤ x.2 ∧ x.2 < 18446744073709551616 := fun n x hx => by
    obtain ⟨j, _, rfl⟩ := List.mem_map.1 hx
    exact atN_r8 h _
  have n0 : (0 : Int) ≤ 0 := Int.le_refl _
  have n1 : (0 : Int) < 18446744073709551616 := by decide
  unfold cand
  split
  · exact RcOk.of k.1 k.2 t.1 t.2 n0 n1 n0 n1 Byt.nil Byt.nil (fun _ h => nomatch h)
  · split
    · exact RcOk.of k.1 k.2 t.1 t.2 p.1 p.2 n0 n1 hx hy (fun _ h => nomatch h)
    · split
      · exact RcOk.of k.1 k.2 t.1 t.2 p.1 p.2 z.1 z.2 Byt.nil hx (fun _ h => nomatch h)
      · split
        · exact RcOk.of k.1 k.2 t.1 t.2 p.1 p.2 n0 n1 Byt.nil Byt.nil (hd _)
        · exact RcOk.of k.1 k.2 t.1 t.2 p.1 p.2 n0 n1 Byt.nil Byt.nil (fun _ h => nomatch h)
/-- Both Decodes are the same. -/
theorem dec_same {l : List Int} (hb : Byt l) : decC l = decS l := by
  unfold decC
  by_cases h5 : l.length < 5
  · rw [if_pos h5]; unfold decS; rw [if_pos h5]
  rw [if_neg h5, atN_four l (by omega)]
  have hi := four_iff (s := sumL (l.take (l.length - 4))) (l := l.drop (l.length - 4)) (by simp; omega) (hb.drop _) (sumL_range _).1
  by_cases hs : num (l.drop (l.length - 4)) = sumL (l.take (l.length - 4))
  · rw [if_pos hs]
    by_cases hc : formR (cand l) = true ∧ encR (cand l) = l
    · rw [if_pos hc]
      have := decS_enc hc.1 (cand_ok hb)
      rw [hc.2] at this
      exact this.symm
    · rw [if_neg hc]
      rcases decS_err l with h | h | h
      · obtain ⟨h1, h2, h3⟩ := decS_of (R := (decS l).1) hb (by rw [← h])
        generalize (decS l).1 = R at *
        exfalso
        apply hc
        rw [h1, cand_enc h2 h3]
        exact ⟨h2, rfl⟩
      · exact h.symm
      · exfalso
        unfold decS at h
        rw [if_neg h5, if_pos (hi.1 hs)] at h
        split at h <;> exact absurd (congrArg Prod.snd h) (by simp)
  · rw [if_neg hs]; unfold decS; rw [if_neg h5, if_neg (fun e => hs (hi.2 e))]
end Go.Proofs.Ytjgomebnlekddaa
