/- Joined texts: Halves. -/
import Derived.Test.YtnehppeoffemlaaJLogRings07
/- page.Halves and the reference's by their contracts. -/
namespace Go.Proofs.Ytnehppeoffemlaa
set_option linter.unusedVariables false
set_option linter.unusedSimpArgs false
open Go.RowKit
theorem clAt_cut (l : List Cl) (k m i : Nat) (h : i < m - k) (hm : m ≤ l.length) : clAt ((l.take m).drop k) i = clAt l (k + i) := by
  unfold clAt
  simp [List.getD, List.getElem?_drop, List.getElem?_take]
  rw [if_pos (by omega)]
theorem CsR.cut {w : World} {lo hi n c : Nat} {A : Option Addr} {l : List Cl} (h : CsR w lo hi A n l) (k m : Nat) (hk : k ≤ m) (hm : m ≤ n) (hc : n ≤ c) :
    CsR w lo hi (if c = k then A else A.map (·.add (k * 2))) (m - k) ((l.take m).drop k) := by
  refine ⟨by simp [h.1]; omega, fun i hi' => ?_⟩
  obtain ⟨gb, go', kA, kN, kC, vA, vN, vC, rfl, a1, a2, c1, c2, b1, b2, m1, m2⟩ := h.2 (k + i) (by omega)
  rw [if_neg (by omega), clAt_cut l k m i hi' (by rw [h.1]; exact hm)]
  refine ⟨gb, go' + k * 2, kA, kN, kC, vA, vN, vC, ?_, a1, a2, ?_, ?_, b1, b2, m1, m2⟩
  · exact congrArg some (Go.WideShapes.add_plain _ _ _)
  · rw [← c1]; congr 2; omega
  · rw [← c2]; congr 2; omega
def absI (x : Int) : Int := if x < 0 then 0 - x else x
theorem CsR.cutm {w : World} {lo hi n c : Nat} {A : Option Addr} {l : List Cl} (h : CsR w lo hi A n l) (k m : Nat) (hk : k < m) (hm : m ≤ n) (hc : n ≤ c) :
    CsR w lo hi (Option.map (fun x => x.add (k * 2)) A) (m - k) ((l.take m).drop k) := by
  have := h.cut (c := c) k m (by omega) hm hc
  rwa [if_neg (by omega)] at this
theorem CsR.size_le {w : World} {lo hi n : Nat} {A : Option Addr} {l : List Cl} (h : CsR w lo hi A n l) : ∀ j : Nat, j ≤ n → sizeL (l.take j) ≤ j * 300000000000000
  | 0, _ => by simp [sizeL]
  | j + 1, hj => by
    have ih := h.size_le j (by omega)
    rw [sizeL_take l j (by rw [h.1]; omega)]
    obtain ⟨_, _, _, kN, _, _, vN, _, _, _, _, _, _, b1, b2, m1, m2⟩ := h.2 j (by omega)
    have e1 := b1.1
    have e2 := b2.1
    unfold clSize
    omega
theorem CsR.size_all {w : World} {lo hi n : Nat} {A : Option Addr} {l : List Cl} (h : CsR w lo hi A n l) : sizeL l ≤ n * 300000000000000 := by
  have := h.size_le n (Nat.le_refl _)
  rwa [List.take_of_length_le (by rw [h.1]; exact Nat.le_refl _)] at this
theorem sizeL_split (l : List Cl) (j : Nat) : sizeL l = sizeL (l.take j) + sizeL (l.drop j) := by
  rw [← sizeL_app, List.take_append_drop]
theorem absI_bd (l : List Cl) (j : Nat) : 0 ≤ absI (sizeL l - 2 * sizeL (l.take j)) ∧ absI (sizeL l - 2 * sizeL (l.take j)) ≤ sizeL l := by
  have h1 := sizeL_split l j
  have h2 := sizeL_nn (l.take j)
  have h3 := sizeL_nn (l.drop j)
  unfold absI
  split <;> omega
def hStep (l : List Cl) (s : Int × Int) (i : Nat) : Int × Int := if s.1 = 0 ∨ absI (sizeL l - 2 * sizeL (l.take i)) < s.2 then ((i : Int), absI (sizeL l - 2 * sizeL (l.take i))) else s
def halvesTo (l : List Cl) : Nat → Int × Int
  | 0 => (0, 0)
  | j + 1 => hStep l (halvesTo l j) (j + 1)
def halvesL (l : List Cl) : Int := (halvesTo l (l.length - 1)).1
theorem halvesTo_bd (l : List Cl) : ∀ j, 0 ≤ (halvesTo l j).1 ∧ (halvesTo l j).1 ≤ j
  | 0 => by simp [halvesTo]
  | j + 1 => by
    have := halvesTo_bd l j
    unfold halvesTo hStep
    split
    · simp; omega
    · omega
theorem halves_bd (l : List Cl) : ∀ j, 0 ≤ (halvesTo l j).2 ∧ (halvesTo l j).2 ≤ sizeL l
  | 0 => ⟨Int.le_refl _, sizeL_nn l⟩
  | j + 1 => by
    have := halves_bd l j
    unfold halvesTo hStep
    split
    · exact absI_bd l (j + 1)
    · exact this
theorem hStep_yes (l : List Cl) (j : Nat) (b d e : Int) (hb : (halvesTo l j).1 = b) (hd : (halvesTo l j).2 = d) (he : absI (sizeL l - 2 * sizeL (l.take (j + 1))) = e) (h : b = 0 ∨ e < d) : (halvesTo l (j + 1)).1 = j + 1 ∧ (halvesTo l (j + 1)).2 = e := by
  subst hb hd he
  unfold halvesTo hStep
  rw [if_pos h]
  exact ⟨by simp, rfl⟩
theorem hStep_no (l : List Cl) (j : Nat) (b d e : Int) (hb : (halvesTo l j).1 = b) (hd : (halvesTo l j).2 = d) (he : absI (sizeL l - 2 * sizeL (l.take (j + 1))) = e) (h : ¬ (b = 0 ∨ e < d)) : (halvesTo l (j + 1)).1 = b ∧ (halvesTo l (j + 1)).2 = d := by
  subst hb hd he
  have e : halvesTo l (j + 1) = halvesTo l j := by
    show hStep l (halvesTo l j) (j + 1) = _
    unfold hStep
    rw [if_neg h]
  rw [e]
  exact ⟨rfl, rfl⟩
set_option maxRecDepth 100000 in
set_option maxHeartbeats 1000000 in
theorem halves_calls {lo hi n c : Nat} {A : Option Addr} {l : List Cl} (w : World) (h : CsR w lo hi A n l) (hhi : hi ≤ w.heap.size) (hn : n ≤ 4096) (hc : n ≤ c) :
    Calls Try.prog 52 #[.slice A n c] w fun e w' => e = .returned (.int .i64 (halvesL l)) ∧ Below w.heap.size w w' := by
  have hln := Lib.hid h.1
  go_enter Try.func52, Try.ntmps52
  go_wp2_with fail
  refine (psize_calls c _ h hhi hn).mono ?_
  rintro e w1 ⟨rfl, hb1⟩
  have hall : sizeL l ≤ 4096 * 300000000000000 := by have := h.size_all; omega
  have hnn := sizeL_nn l
  have hall' := Lib.hid (rfl : sizeL l = sizeL l)
  generalize hL : sizeL l = L at *
  have hL' := Lib.hid hL
  clear hL hall'
  go_wp2
  go_loopw [3, 4, 6, 7] (fun v3 v4 v6 v7 wr => ∃ j : Nat, (j < n ∨ j = 0) ∧ v7 = .int .i64 ((j : Int) + 1) ∧ v6 = .int .i64 (sizeL (l.take j)) ∧ v3 = .int .i64 (halvesTo l j).1 ∧ v4 = .int .i64 (halvesTo l j).2 ∧ Below w.heap.size w wr) (fun _ _ _ v7 _ => n + 1 - (intOf v7).toNat)
  case atStart => exact ⟨0, by omega, rfl, rfl, rfl, rfl, hb1⟩
  case round =>
    obtain ⟨j, hj, rfl, rfl, rfl, rfl, hB⟩ := hrel
    by_cases hlt : j + 1 < n
    · have hcut := Lib.hid ((h.below hB hhi).cutm (c := c) j (j + 1) (by omega) (by omega) hc)
      have e1 : j + 1 - j = 1 := by omega
      rw [e1] at hcut
      clear e1
      have e2 : (l.take (j + 1)).drop j = [clAt l j] := by rw [take_one l j (by rw [hln.out]; omega), List.drop_append_of_le_length (by simp [hln.out]; omega)]; simp
      have e2' := Lib.hid e2
      clear e2
      have hst := Lib.hid (sizeL_take l j (by rw [hln.out]; omega))
      have e3 : sizeL [clAt l j] = clSize (clAt l j) := by rw [sizeL_cons]; simp [sizeL]
      have e3' := Lib.hid e3
      clear e3
      have hbl := sizeL_split l (j + 1)
      have hbn := sizeL_nn (l.drop (j + 1))
      have hb0 := sizeL_nn (l.take j)
      have hbb := halvesTo_bd l j
      have hbd := halves_bd l j
      rw [hst.out] at hbl
      have hcs := clSize_nn (clAt l j)
      rw [hL'.out] at hbl hbd
      have hy := Lib.hid (hStep_yes l j)
      have hno := Lib.hid (hStep_no l j)
      generalize hb1 : (halvesTo l j).1 = b at *
      generalize hb2 : (halvesTo l j).2 = d at *
      generalize hs1 : sizeL (l.take j) = s at *
      generalize hs2 : clSize (clAt l j) = z at *
      generalize sizeL (l.drop (j + 1)) = t at *
      have hb1' := Lib.hid hb1
      have hb2' := Lib.hid hb2
      have hs1' := Lib.hid hs1
      have hs2' := Lib.hid hs2
      have hb3 : s + z ≤ L := by omega
      clear hb1 hb2 hs1 hs2 hbl hbn
      have hj0 : (0 : Int) ≤ j := by omega
      have hj1 : (j : Int) + 1 < n := by omega
      have hj2 : (j : Int) + 1 ≤ c := by omega
      go_wp2_with fail
      refine (psize_calls _ _ (e2'.out ▸ hcut.out) (Nat.le_trans hhi hB.size) (by omega)).mono ?_
      rintro e w2 ⟨rfl, hb2⟩
      rw [e3'.out]
      have hB2 := below_keep hb2 hB
      have hfin : ∀ e : Int, absI (L - 2 * (s + z)) = e → absI (sizeL l - 2 * sizeL (l.take (j + 1))) = e := fun e he => by rw [hL'.out, hst.out]; exact he
      have hfin' := Lib.hid hfin
      clear hfin hb2 hB
      rcases (show 2 * (s + z) < L ∨ L ≤ 2 * (s + z) from by omega) with hm | hm
      · have hab := Lib.hid (hfin'.out (L - 2 * (s + z)) (by unfold absI; rw [if_neg (by omega)]))
        by_cases hb : b = 0
        · have hbz := Lib.hid hb
          have hq : (b == 0) = true := by simp [hb]
          clear hb
          have hr := Lib.hid (hy.out b d (L - 2 * (s + z)) rfl rfl hab.out (Or.inl hbz.out))
          go_wp2
          go_roundw
          case rel => exact ⟨j + 1, by omega, by go_num, by rw [hst.out], by rw [hr.out.1], by first | (rw [hr.out.2]; done) | (rw [hr.out.2]; split <;> go_num), hB2⟩
          case measure => simp [intOf]; omega
        · by_cases hd : L - 2 * (s + z) < d
          · have hbz := Lib.hid hb
            have hq : (b == 0) = false := by simp [hb]
            clear hb
            have hr := Lib.hid (hy.out b d (L - 2 * (s + z)) rfl rfl hab.out (Or.inr (by omega)))
            go_wp2
            go_roundw
            case rel => exact ⟨j + 1, by omega, by go_num, by rw [hst.out], by rw [hr.out.1], by first | (rw [hr.out.2]; done) | (rw [hr.out.2]; split <;> go_num), hB2⟩
            case measure => simp [intOf]; omega
          · have hbz := Lib.hid hb
            have hq : (b == 0) = false := by simp [hb]
            clear hb
            have hr := Lib.hid (hno.out b d (L - 2 * (s + z)) rfl rfl hab.out ((by intro hh; rcases hh with hh | hh; exact hbz.out hh; omega)))
            go_wp2
            go_roundw
            case rel => exact ⟨j + 1, by omega, by go_num, by rw [hst.out], by rw [hr.out.1], by first | (rw [hr.out.2]; done) | (rw [hr.out.2]; split <;> go_num), hB2⟩
            case measure => simp [intOf]; omega
      · have hab := Lib.hid (hfin'.out (2 * (s + z) - L) (by unfold absI; split <;> omega))
        by_cases hb : b = 0
        · have hbz := Lib.hid hb
          have hq : (b == 0) = true := by simp [hb]
          clear hb
          have hr := Lib.hid (hy.out b d (2 * (s + z) - L) rfl rfl hab.out (Or.inl hbz.out))
          go_wp2
          go_roundw
          case rel => exact ⟨j + 1, by omega, by go_num, by rw [hst.out], by rw [hr.out.1], by first | (rw [hr.out.2]; done) | (rw [hr.out.2]; split <;> go_num), hB2⟩
          case measure => simp [intOf]; omega
        · by_cases hd : 2 * (s + z) - L < d
          · have hbz := Lib.hid hb
            have hq : (b == 0) = false := by simp [hb]
            clear hb
            have hr := Lib.hid (hy.out b d (2 * (s + z) - L) rfl rfl hab.out (Or.inr (by omega)))
            go_wp2
            go_roundw
            case rel => exact ⟨j + 1, by omega, by go_num, by rw [hst.out], by rw [hr.out.1], by first | (rw [hr.out.2]; done) | (rw [hr.out.2]; split <;> go_num), hB2⟩
            case measure => simp [intOf]; omega
          · have hbz := Lib.hid hb
            have hq : (b == 0) = false := by simp [hb]
            clear hb
            have hr := Lib.hid (hno.out b d (2 * (s + z) - L) rfl rfl hab.out ((by intro hh; rcases hh with hh | hh; exact hbz.out hh; omega)))
            go_wp2
            go_roundw
            case rel => exact ⟨j + 1, by omega, by go_num, by rw [hst.out], by rw [hr.out.1], by first | (rw [hr.out.2]; done) | (rw [hr.out.2]; split <;> go_num), hB2⟩
            case measure => simp [intOf]; omega
    · have hj' : j = l.length - 1 := by rw [hln.out]; omega
      have hj'' := Lib.hid hj'
      have hj0 : (n : Int) ≤ (j : Int) + 1 := by omega
      clear hj'
      go_wp2
      go_ret
      refine ⟨?_, hB⟩
      show Ending.returned (.int .i64 (halvesTo l j).1) = Ending.returned (.int .i64 (halvesL l))
      unfold halvesL
      rw [← hj''.out]
end Go.Proofs.Ytnehppeoffemlaa
