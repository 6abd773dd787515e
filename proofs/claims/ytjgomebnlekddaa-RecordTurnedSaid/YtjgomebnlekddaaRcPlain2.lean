/- Records in plain terms: Decode undoes Encode; the reference's Decode is the same. -/
import Derived.Test.YtjgomebnlekddaaRcPlain
namespace Go.Proofs.Ytjgomebnlekddaa
set_option linter.unusedVariables false
set_option linter.unusedSimpArgs false
open Go.RowKit
theorem form_shape {R : Rc} (h : formR R = true) :
    (∃ tx, R = ⟨1, tx, 0, 0, 0, 0, [], [], [], false⟩) ∨ (∃ k tx prev, (k = 4 ∨ k = 5) ∧ R = ⟨k, tx, prev, 0, 0, 0, [], [], [], false⟩) ∨
    (∃ tx prev page off bl al, 0 ≤ page ∧ page < 4096 ∧ 0 ≤ off ∧ off ≤ 512 ∧ bl.length = al.length ∧ 1 ≤ al.length ∧ al.length ≤ 512 ∧ R = ⟨2, tx, prev, page, off, 0, bl, al, [], false⟩) ∨
    (∃ tx prev page off next al, 0 ≤ page ∧ page < 4096 ∧ 0 ≤ off ∧ off ≤ 512 ∧ 1 ≤ al.length ∧ al.length ≤ 512 ∧ R = ⟨3, tx, prev, page, off, next, [], al, [], false⟩) ∨
    (∃ tx prev dl opn, dirtyOk (-1) dl = true ∧ dl.length ≤ 64 ∧ R = ⟨6, tx, prev, 0, 0, 0, [], [], dl, opn⟩) := by
  obtain ⟨k, tx, prev, page, off, next, bl, al, dl, opn⟩ := R
  unfold formR formB plainB placeB listB at h
  dsimp only at h
  by_cases h1 : k = 1
  · subst h1
    simp at h
    obtain ⟨⟨⟨⟨⟨⟨rfl, rfl⟩, rfl⟩, rfl⟩, rfl⟩, rfl, rfl⟩, rfl⟩ := h
    exact .inl ⟨tx, rfl⟩
  by_cases h4 : k = 4 ∨ k = 5
  · rw [if_neg h1, if_pos h4] at h
    simp at h
    obtain ⟨⟨⟨⟨⟨rfl, rfl⟩, rfl⟩, rfl⟩, rfl⟩, rfl, rfl⟩ := h
    exact .inr (.inl ⟨k, tx, prev, h4, rfl⟩)
  rw [if_neg h1, if_neg h4] at h
  by_cases h2 : k = 2
  · subst h2
    simp at h
    obtain ⟨⟨⟨⟨⟨⟨⟨⟨a1, a2⟩, a3⟩, a4⟩, a5⟩, a6⟩, rfl, rfl⟩, a7⟩, rfl⟩ := h
    have ha4 : 1 ≤ al.length := by
      rcases al with _ | ⟨x, al⟩
      · simp at a4
      · simp
    exact .inr (.inr (.inl ⟨tx, prev, page, off, bl, al, a1, a2, a3, by omega, a7, ha4, a5, rfl⟩))
  rw [if_neg h2] at h
  by_cases h3 : k = 3
  · subst h3
    simp at h
    obtain ⟨⟨⟨⟨⟨⟨⟨a1, a2⟩, a3⟩, a4⟩, a5⟩, a6⟩, rfl, rfl⟩, a7⟩ := h
    have ha4 : 1 ≤ al.length := by
      rcases al with _ | ⟨x, al⟩
      · simp at a4
      · simp
    subst a7
    exact .inr (.inr (.inr (.inl ⟨tx, prev, page, off, next, al, a1, a2, a3, by omega, ha4, a5, rfl⟩)))
  rw [if_neg h3] at h
  by_cases h6 : k = 6
  · subst h6
    simp at h
    obtain ⟨⟨a1, ⟨⟨⟨⟨rfl, rfl⟩, rfl⟩, rfl⟩, rfl⟩⟩, a2⟩ := h
    exact .inr (.inr (.inr (.inr ⟨tx, prev, dl, opn, a1, a2, rfl⟩)))
  · rw [if_neg h6] at h; cases h
theorem dirty_all : ∀ (l : List (Int × Int)) (k : Int), dirtyOk k l = true → ∀ x ∈ l, 0 ≤ x.1 ∧ x.1 < 4096
  | [], _, _, _, hx => nomatch hx
  | (p, q) :: l, k, h, x, hx => by
    unfold dirtyOk at h
    simp at h
    rcases List.mem_cons.1 hx with rfl | hx
    · exact ⟨h.1.1.1, h.1.2⟩
    · exact dirty_all l p h.2 x hx
theorem body_1 (tx : Int) : bodyR ⟨1, tx, 0, 0, 0, 0, [], [], [], false⟩ = [1] ++ (u8L tx ++ []) := by simp [bodyR, bodyL]
theorem body_4 {k : Int} (tx prev : Int) (h : k = 4 ∨ k = 5) : bodyR ⟨k, tx, prev, 0, 0, 0, [], [], [], false⟩ = [k] ++ (u8L tx ++ (u8L prev ++ [])) := by
  rcases h with rfl | rfl <;> simp [bodyR, bodyL]
theorem body_2 (tx prev page off : Int) (bl al : List Int) : bodyR ⟨2, tx, prev, page, off, 0, bl, al, [], false⟩ = [2] ++ (u8L tx ++ (u8L prev ++ (twoL page ++ (twoL off ++ (twoL al.length ++ (bl ++ (al ++ []))))))) := by simp [bodyR, bodyL]
theorem body_3 (tx prev page off next : Int) (al : List Int) : bodyR ⟨3, tx, prev, page, off, next, [], al, [], false⟩ = [3] ++ (u8L tx ++ (u8L prev ++ (twoL page ++ (twoL off ++ (twoL al.length ++ (al ++ (u8L next ++ []))))))) := by simp [bodyR, bodyL]
theorem body_6 (tx prev : Int) (dl : List (Int × Int)) (opn : Bool) : bodyR ⟨6, tx, prev, 0, 0, 0, [], [], dl, opn⟩ = [6] ++ (u8L tx ++ (u8L prev ++ ([(dl.length : Int) * 2 + (if opn then 1 else 0)] ++ (dl.flatMap drL ++ [])))) := by
  have e : (fun d : Int × Int => twoL d.1 ++ u8L d.2) = drL := rfl
  simp [bodyR, bodyL, e]
theorem readR_1 {b : List Int} {t : Int × Rdr} (hK : (rK b).1 = 1) (hT : rT b = t) : readR b = (⟨1, t.1, 0, 0, 0, 0, [], [], [], false⟩, t.2) := by
  unfold readR; rw [if_pos hK, hK, hT]
theorem readR_2 {b : List Int} {t p g o : Int × Rdr} {x y : List Int × Rdr} (hK : (rK b).1 = 2) (hT : rT b = t) (hP : rP b = p) (hG : rG b = g) (hO : rO b = o) (hX : rX b = x) (hY : rY b = y) : readR b = (⟨2, t.1, p.1, g.1, o.1, 0, x.1, y.1, [], false⟩, y.2) := by
  unfold readR; rw [if_neg (by rw [hK]; decide), if_pos hK, hK, hT, hP, hG, hO, hX, hY]
theorem readR_3 {b : List Int} {t p g o z : Int × Rdr} {x : List Int × Rdr} (hK : (rK b).1 = 3) (hT : rT b = t) (hP : rP b = p) (hG : rG b = g) (hO : rO b = o) (hX : rX b = x) (hZ : rZ b = z) : readR b = (⟨3, t.1, p.1, g.1, o.1, z.1, [], x.1, [], false⟩, z.2) := by
  unfold readR; rw [if_neg (by rw [hK]; decide), if_neg (by rw [hK]; decide), if_pos hK, hK, hT, hP, hG, hO, hX, hZ]
theorem readR_6 {b : List Int} {t p m : Int × Rdr} {d : List (Int × Int) × Rdr} (hK : (rK b).1 = 6) (hT : rT b = t) (hP : rP b = p) (hM : rM b = m) (hD : rD b = d) : readR b = (⟨6, t.1, p.1, 0, 0, 0, [], [], d.1, decide (m.1 % 2 = 1)⟩, d.2) := by
  unfold readR; rw [if_neg (by rw [hK]; decide), if_neg (by rw [hK]; decide), if_neg (by rw [hK]; decide), if_pos hK, hK, hT, hP, hM, hD]
theorem readR_e {b : List Int} {k t p : Int × Rdr} (hK : rK b = k) (h1 : k.1 ≠ 1) (h2 : k.1 ≠ 2) (h3 : k.1 ≠ 3) (h6 : k.1 ≠ 6) (hT : rT b = t) (hP : rP b = p) : readR b = (⟨k.1, t.1, p.1, 0, 0, 0, [], [], [], false⟩, p.2) := by
  unfold readR; rw [hK, if_neg h1, if_neg h2, if_neg h3, if_neg h6, hT, hP]
/-- (A) A record's body, read, is the record. -/
theorem read_of {R : Rc} (hf : formR R = true) (ho : RcOk R) : readR (bodyR R) = (R, ⟨[], false⟩) := by
  rcases form_shape hf with ⟨tx, rfl⟩ | ⟨k, tx, prev, hk, rfl⟩ | ⟨tx, prev, page, off, bl, al, p0, p1, o0, o1, hb, a1, a2, rfl⟩ | ⟨tx, prev, page, off, next, al, p0, p1, o0, o1, a1, a2, rfl⟩ | ⟨tx, prev, dl, opn, hd, hl, rfl⟩
  · rw [body_1]
    generalize hbb : [1] ++ (u8L tx ++ []) = b
    have hK : rK b = (1, ⟨u8L tx ++ [], false⟩) := by rw [← hbb]; unfold rK; exact one_app _ _ _
    have hT : rT b = (tx, ⟨[], false⟩) := by unfold rT; rw [hK]; exact num8_app _ ho.t0 ho.t1 _ _
    exact readR_1 (by rw [hK]) hT
  · rw [body_4 tx prev hk]
    generalize hbb : [k] ++ (u8L tx ++ (u8L prev ++ [])) = b
    have hK : rK b = (k, ⟨u8L tx ++ (u8L prev ++ []), false⟩) := by rw [← hbb]; unfold rK; exact one_app _ _ _
    have hT : rT b = (tx, ⟨u8L prev ++ [], false⟩) := by unfold rT; rw [hK]; exact num8_app _ ho.t0 ho.t1 _ _
    have hP : rP b = (prev, ⟨[], false⟩) := by unfold rP; rw [hT]; exact num8_app _ ho.p0 ho.p1 _ _
    exact readR_e hK (by show k ≠ 1; omega) (by show k ≠ 2; omega) (by show k ≠ 3; omega) (by show k ≠ 6; omega) hT hP
  · rw [body_2]
    generalize hbb : [2] ++ (u8L tx ++ (u8L prev ++ (twoL page ++ (twoL off ++ (twoL al.length ++ (bl ++ (al ++ []))))))) = b
    have hK : rK b = (2, ⟨u8L tx ++ (u8L prev ++ (twoL page ++ (twoL off ++ (twoL al.length ++ (bl ++ (al ++ [])))))), false⟩) := by rw [← hbb]; unfold rK; exact one_app _ _ _
    have hT : rT b = (tx, ⟨u8L prev ++ (twoL page ++ (twoL off ++ (twoL al.length ++ (bl ++ (al ++ []))))), false⟩) := by unfold rT; rw [hK]; exact num8_app _ ho.t0 ho.t1 _ _
    have hP : rP b = (prev, ⟨twoL page ++ (twoL off ++ (twoL al.length ++ (bl ++ (al ++ [])))), false⟩) := by unfold rP; rw [hT]; exact num8_app _ ho.p0 ho.p1 _ _
    have hG : rG b = (page, ⟨twoL off ++ (twoL al.length ++ (bl ++ (al ++ []))), false⟩) := by unfold rG; rw [hP]; exact num2_app _ p0 _ _
    have hO : rO b = (off, ⟨twoL al.length ++ (bl ++ (al ++ [])), false⟩) := by unfold rO; rw [hG]; exact num2_app _ o0 _ _
    have hN : rN b = ((al.length : Int), ⟨bl ++ (al ++ []), false⟩) := by unfold rN; rw [hO]; exact num2_app _ (by omega) _ _
    have hX : rX b = (bl, ⟨al ++ [], false⟩) := by unfold rX; rw [hN]; exact nxt_app _ _ _ _ (by simpa using hb)
    have hY : rY b = (al, ⟨[], false⟩) := by unfold rY; rw [hN, hX]; exact nxt_app _ _ _ _ (by simp)
    exact readR_2 (by rw [hK]) hT hP hG hO hX hY
  · rw [body_3]
    generalize hbb : [3] ++ (u8L tx ++ (u8L prev ++ (twoL page ++ (twoL off ++ (twoL al.length ++ (al ++ (u8L next ++ []))))))) = b
    have hK : rK b = (3, ⟨u8L tx ++ (u8L prev ++ (twoL page ++ (twoL off ++ (twoL al.length ++ (al ++ (u8L next ++ [])))))), false⟩) := by rw [← hbb]; unfold rK; exact one_app _ _ _
    have hT : rT b = (tx, ⟨u8L prev ++ (twoL page ++ (twoL off ++ (twoL al.length ++ (al ++ (u8L next ++ []))))), false⟩) := by unfold rT; rw [hK]; exact num8_app _ ho.t0 ho.t1 _ _
    have hP : rP b = (prev, ⟨twoL page ++ (twoL off ++ (twoL al.length ++ (al ++ (u8L next ++ [])))), false⟩) := by unfold rP; rw [hT]; exact num8_app _ ho.p0 ho.p1 _ _
    have hG : rG b = (page, ⟨twoL off ++ (twoL al.length ++ (al ++ (u8L next ++ []))), false⟩) := by unfold rG; rw [hP]; exact num2_app _ p0 _ _
    have hO : rO b = (off, ⟨twoL al.length ++ (al ++ (u8L next ++ [])), false⟩) := by unfold rO; rw [hG]; exact num2_app _ o0 _ _
    have hN : rN b = ((al.length : Int), ⟨al ++ (u8L next ++ []), false⟩) := by unfold rN; rw [hO]; exact num2_app _ (by omega) _ _
    have hX : rX b = (al, ⟨u8L next ++ [], false⟩) := by unfold rX; rw [hN]; exact nxt_app _ _ _ _ (by simp)
    have hZ : rZ b = (next, ⟨[], false⟩) := by unfold rZ; rw [hX]; exact num8_app _ ho.x0 ho.x1 _ _
    exact readR_3 (by rw [hK]) hT hP hG hO hX hZ
  · rw [body_6]
    have hds : ∀ x ∈ dl, 0 ≤ x.1 ∧ 0 ≤ x.2 ∧ x.2 < 18446744073709551616 := fun x hx => ⟨(dirty_all dl _ hd x hx).1, ho.d x hx⟩
    generalize hm : (dl.length : Int) * 2 + (if opn then 1 else 0) = m
    have hm1 : (m / 2).toNat = dl.length := by rw [← hm]; cases opn <;> first | (simp; done) | (simp; omega)
    have hm2 : decide (m % 2 = 1) = opn := by rw [← hm]; cases opn <;> first | (simp; done) | (simp; omega)
    generalize hbb : [6] ++ (u8L tx ++ (u8L prev ++ ([m] ++ (dl.flatMap drL ++ [])))) = b
    have hK : rK b = (6, ⟨u8L tx ++ (u8L prev ++ ([m] ++ (dl.flatMap drL ++ []))), false⟩) := by rw [← hbb]; unfold rK; exact one_app _ _ _
    have hT : rT b = (tx, ⟨u8L prev ++ ([m] ++ (dl.flatMap drL ++ [])), false⟩) := by unfold rT; rw [hK]; exact num8_app _ ho.t0 ho.t1 _ _
    have hP : rP b = (prev, ⟨[m] ++ (dl.flatMap drL ++ []), false⟩) := by unfold rP; rw [hT]; exact num8_app _ ho.p0 ho.p1 _ _
    have hM : rM b = (m, ⟨dl.flatMap drL ++ [], false⟩) := by unfold rM; rw [hP]; exact one_app _ _ _
    have hD : rD b = (dl, ⟨[], false⟩) := by
      unfold rD; rw [hM]
      show dirtTo _ (m / 2).toNat = _
      rw [hm1, dirt_app dl [] false hds dl.length (Nat.le_refl _)]
      simp
    have := readR_6 (by rw [hK]) hT hP hM hD
    rw [this]
    show (Rc.mk 6 tx prev 0 0 0 [] [] dl (decide (m % 2 = 1)), _) = _
    rw [hm2]
/-- What the program's Decode answers. -/
def decS (l : List Int) : Rc × Int :=
  if l.length < 5 then (zeroR, 3)
  else if l.drop (l.length - 4) = fourL (sumL (l.take (l.length - 4))) then
    (if (readR (l.take (l.length - 4))).2.s = false ∧ (readR (l.take (l.length - 4))).2.p = [] ∧ formR (readR (l.take (l.length - 4))).1 = true then ((readR (l.take (l.length - 4))).1, 0) else (zeroR, 3))
  else (zeroR, 15)
theorem encR_eq (R : Rc) : encR R = bodyR R ++ fourL (sumL (bodyR R)) := rfl
theorem encR_parts (R : Rc) : (encR R).take ((encR R).length - 4) = bodyR R ∧ (encR R).drop ((encR R).length - 4) = fourL (sumL (bodyR R)) := by
  rw [encR_eq]
  have : (bodyR R ++ fourL (sumL (bodyR R))).length - 4 = (bodyR R).length := by rw [List.length_append]; simp [fourL]
  rw [this]
  exact ⟨List.take_left' rfl, List.drop_left' rfl⟩
theorem body_pos (R : Rc) : 1 ≤ (bodyR R).length := by unfold bodyR bodyL; simp
/-- Decode undoes Encode. -/
theorem decS_enc {R : Rc} (hf : formR R = true) (ho : RcOk R) : decS (encR R) = (R, 0) := by
  have h5 : ¬ (encR R).length < 5 := by
    rw [encR_eq, List.length_append]
    have := body_pos R
    simp [fourL]; omega
  unfold decS
  rw [if_neg h5, (encR_parts R).1, (encR_parts R).2, if_pos rfl, read_of hf ho, if_pos ⟨rfl, rfl, hf⟩]
/-- What Decode answers well is what was encoded. -/
theorem decS_of {l : List Int} {R : Rc} (hb : Byt l) (h : decS l = (R, 0)) : l = encR R ∧ formR R = true ∧ RcOk R := by
  unfold decS at h
  by_cases h5 : l.length < 5
  · rw [if_pos h5] at h; cases h
  rw [if_neg h5] at h
  by_cases hs : l.drop (l.length - 4) = fourL (sumL (l.take (l.length - 4)))
  · rw [if_pos hs] at h
    by_cases hc : (readR (l.take (l.length - 4))).2.s = false ∧ (readR (l.take (l.length - 4))).2.p = [] ∧ formR (readR (l.take (l.length - 4))).1 = true
    · rw [if_pos hc] at h
      injection h with h _
      have h1 := read_body (hb.take _) hc.1 hc.2.1
      have h2 := readR_ok (hb.take (l.length - 4))
      rw [h] at h1 h2 hc
      refine ⟨?_, hc.2.2, h2⟩
      rw [encR_eq, h1, ← hs, List.take_append_drop]
    · rw [if_neg hc] at h; cases h
  · rw [if_neg hs] at h; cases h
theorem decS_err (l : List Int) : (decS l).2 = 0 ∨ decS l = (zeroR, 3) ∨ decS l = (zeroR, 15) := by
  unfold decS
  split
  · exact .inr (.inl rfl)
  · split
    · split
      · exact .inl rfl
      · exact .inr (.inl rfl)
    · exact .inr (.inr rfl)
end Go.Proofs.Ytjgomebnlekddaa
