/- The reference's Size and Halves by their contracts. -/
import Derived.Test.YtjgomebnlekddaaHalves
namespace Go.Proofs.Ytjgomebnlekddaa
set_option linter.unusedVariables false
set_option linter.unusedSimpArgs false
open Go.RowKit
theorem CsR.drewN {w : World} {lo hi n : Nat} {A : Option Addr} {l : List Cl} (h : CsR w lo hi A n l) (k : Nat) : CsR (w.drewN k) lo hi A n l := h
set_option maxHeartbeats 1000000 in
theorem rsize_calls {lo hi n : Nat} (c : Nat) {A : Option Addr} {l : List Cl} (w : World) (h : CsR w lo hi A n l) (hn : n ≤ 4096) :
    Calls Try.prog 41 #[.slice A n c] w fun e w' => e = .returned (.int .i64 (sizeL l)) ∧ ∃ k, w' = w.drewN k := by
  have hln := Lib.hid h.1
  go_enter Try.func41, Try.ntmps41
  go_wp2
  go_loopw [3, 4] (fun v3 v4 wr => ∃ j : Nat, j ≤ n ∧ v4 = .int .i64 j ∧ v3 = .int .i64 (sizeL (l.take j)) ∧ sizeL (l.take j) ≤ j * 300000000000000 ∧ ∃ k, wr = w.drewN k) (fun _ v4 _ => n - (intOf v4).toNat)
  case atStart => exact ⟨0, by omega, rfl, rfl, by simp [sizeL], 0, by simp [World.drewN]⟩
  case round =>
    obtain ⟨j, hj, rfl, rfl, hb, k, hk⟩ := hrel
    have hk' := Lib.hid hk
    have h' : CsR wr lo hi A n l := by rw [hk]; exact h
    clear hk
    have hnn := sizeL_nn (l.take j)
    by_cases hlt : j < n
    · obtain ⟨gb, go', kA, kN, kC, vA, vN, vC, rfl, g1, g2, c1, c2, b1, b2, m1, m2⟩ := h'.2 j hlt
      have hst := Lib.hid (sizeL_take l j (by rw [hln.out]; exact hlt))
      have e1 := b1.1
      have e2 := b2.1
      have hcz : clSize (clAt l j) = kN + vN + 2 := by unfold clSize; rw [e1, e2]; omega
      have hcz' := Lib.hid hcz
      clear e1 e2 hcz b1 b2 h h'
      generalize hss : sizeL (l.take j) = s at *
      have hss' := Lib.hid hss
      clear hss
      have hj0 : (0 : Int) ≤ j := by omega
      have hj1 : (j : Int) < n := by omega
      have s1 : IntKind.i64.wrap ((kN : Int) + vN) = (kN : Int) + vN := IntWalk.i64_in _ (by omega)
      have s2 : IntKind.i64.wrap ((kN : Int) + vN + 2) = (kN : Int) + vN + 2 := IntWalk.i64_in _ (by omega)
      have s3 : IntKind.i64.wrap (s + ((kN : Int) + vN + 2)) = s + ((kN : Int) + vN + 2) := IntWalk.i64_in _ (by omega)
      go_upto_region 5 with (fail)
      go_quiet (fail)
      clear s1 s2 s3
      go_wp2
      go_roundw
      case rel => exact ⟨j + 1, by omega, by go_num, by rw [hst.out, hcz'.out], by rw [hst.out, hcz'.out]; omega, by rw [hk'.out]; exact ⟨_, World.drewN_drewN _ _ _⟩⟩
      case measure => simp [intOf]; omega
    · obtain rfl : j = n := by omega
      go_wp2
      go_ret
      refine ⟨?_, k, hk'.out⟩
      show Ending.returned (.int .i64 (sizeL (l.take j))) = _
      rw [List.take_of_length_le (by rw [hln.out]; exact Nat.le_refl _)]
theorem rsize_at {lo hi n : Nat} (c : Nat) {A : Option Addr} {l : List Cl} (w : World) (v : Int) (h : CsR w lo hi A n l) (hv : sizeL l = v) (hn : n ≤ 4096) :
    Calls Try.prog 41 #[.slice A n c] w fun e w' => e = .returned (.int .i64 v) ∧ ∃ k, w' = w.drewN k := hv ▸ rsize_calls c w h hn
theorem CsR.front {w : World} {lo hi n : Nat} {A : Option Addr} {l : List Cl} (h : CsR w lo hi A n l) (m : Nat) (hm : m ≤ n) : CsR w lo hi A m (l.take m) := by
  refine ⟨by simp [h.1]; omega, fun i hi' => ?_⟩
  have := clAt_cut l 0 m i (by omega) (by rw [h.1]; exact hm)
  rw [List.drop_zero, Nat.zero_add] at this
  rw [this]
  exact h.2 i (by omega)
theorem CsR.back {w : World} {lo hi n c : Nat} {A : Option Addr} {l : List Cl} (h : CsR w lo hi A n l) (k : Nat) (hk : k < n) (hc : n ≤ c) : CsR w lo hi (Option.map (fun x => x.add (k * 2)) A) (n - k) (l.drop k) := by
  have := h.cutm (c := c) k n hk (Nat.le_refl _) hc
  rwa [List.take_of_length_le (by rw [h.1]; exact Nat.le_refl _)] at this
set_option maxRecDepth 100000 in
set_option maxHeartbeats 1000000 in
theorem rhalves_calls {lo hi n c : Nat} {A : Option Addr} {l : List Cl} (w : World) (h : CsR w lo hi A n l) (hhi : hi ≤ w.heap.size) (hn : n ≤ 4096) (hc : n ≤ c) :
    Calls Try.prog 39 #[.slice A n c] w fun e w' => e = .returned (.int .i64 (halvesL l)) ∧ Below w.heap.size w w' := by
  have hln := Lib.hid h.1
  have hall : sizeL l ≤ 4096 * 300000000000000 := by have := h.size_all; omega
  have hnn := sizeL_nn l
  generalize hL : sizeL l = L at *
  have hL' := Lib.hid hL
  clear hL
  go_enter Try.func39, Try.ntmps39
  go_wp2
  go_loopw [3, 4, 5] (fun v3 v4 v5 wr => ∃ j : Nat, (j < n ∨ j = 0) ∧ v5 = .int .i64 ((j : Int) + 1) ∧ v3 = .int .i64 (halvesTo l j).1 ∧ v4 = .int .i64 (halvesTo l j).2 ∧ Below w.heap.size w wr) (fun _ _ v5 _ => n + 1 - (intOf v5).toNat)
  case atStart => exact ⟨0, by omega, rfl, rfl, rfl, Below.refl _ _⟩
  case round =>
    obtain ⟨j, hj, rfl, rfl, rfl, hB⟩ := hrel
    by_cases hlt : j + 1 < n
    · have hr0 := h.below hB hhi
      have hf := Lib.hid (hr0.front (j + 1) (by omega))
      have hk := Lib.hid (hr0.back (c := c) (j + 1) hlt hc)
      clear hr0
      have hbl := sizeL_split l (j + 1)
      have hbn := sizeL_nn (l.drop (j + 1))
      have hb0 := sizeL_nn (l.take (j + 1))
      have hbb := halvesTo_bd l j
      have hbd := halves_bd l j
      rw [hL'.out] at hbl hbd
      have hy := Lib.hid (hStep_yes l j)
      have hno := Lib.hid (hStep_no l j)
      generalize hb1 : (halvesTo l j).1 = b at *
      generalize hb2 : (halvesTo l j).2 = d at *
      have hst := Lib.hid (rfl : sizeL (l.take (j + 1)) = sizeL (l.take (j + 1)))
      generalize hs1 : sizeL (l.take (j + 1)) = s at hbl hb0 hst
      generalize hs2 : sizeL (l.drop (j + 1)) = t at hbl hbn
      have hb1' := Lib.hid hb1
      have hb2' := Lib.hid hb2
      have hs1' := Lib.hid hs1
      have hs2' := Lib.hid hs2
      have hbl' := Lib.hid hbl
      have hst1 : s + t ≤ L := by omega
      clear hb1 hb2 hs1 hs2 hst hbl
      have hj0 : (0 : Int) ≤ j := by omega
      have hj1 : (j : Int) + 1 < n := by omega
      have hj2 : (j : Int) + 1 ≤ c := by omega
      have hj3 : (j : Int) + 1 ≤ n := by omega
      have hj4 : (0 : Int) ≤ (j : Int) + 1 := by omega
      have hj5 : ((j : Int) + 1).toNat = j + 1 := by omega
      have s1 : IntKind.i64.wrap (s - t) = s - t := IntWalk.i64_in _ (by omega)
      go_upto_region 6 with (fail)
      go_quiet ((go_at_call 41; first | (with_reducible exact Calls.quiet_of (rsize_at _ _ s (hf.out.drewN _) hs1'.out (by omega))) | (with_reducible exact Calls.quiet_of (rsize_at _ _ t (hk.out.drewN _) hs2'.out (by omega)))))
      clear s1
      have hfin : ∀ e : Int, absI (s - t) = e → absI (sizeL l - 2 * sizeL (l.take (j + 1))) = e := fun e he => by
        rw [hL'.out, hs1'.out, ← he, show L - 2 * s = 0 - (s - t) from by rw [hbl'.out]; omega]
        unfold absI
        split <;> split <;> omega
      have hfin' := Lib.hid hfin
      clear hfin
      have hB2 := below_drewN hB nq
      rcases (show s < t ∨ t ≤ s from by omega) with hm | hm
      · have hab := Lib.hid (hfin'.out (t - s) (by unfold absI; split <;> omega))
        by_cases hb : b = 0
        · have hbz := Lib.hid hb
          have hq : (b == 0) = true := by simp [hb]
          clear hb
          have hr := Lib.hid (hy.out b d (t - s) rfl rfl hab.out (Or.inl hbz.out))
          go_wp2
          go_roundw
          case rel => exact ⟨j + 1, by omega, by go_num, by rw [hr.out.1], by first | (rw [hr.out.2]; done) | (rw [hr.out.2]; go_num), hB2⟩
          case measure => simp [intOf]; omega
        · by_cases hd : t - s < d
          · have hbz := Lib.hid hb
            have hq : (b == 0) = false := by simp [hb]
            clear hb
            have hr := Lib.hid (hy.out b d (t - s) rfl rfl hab.out (Or.inr (by omega)))
            go_wp2
            go_roundw
            case rel => exact ⟨j + 1, by omega, by go_num, by rw [hr.out.1], by first | (rw [hr.out.2]; done) | (rw [hr.out.2]; go_num), hB2⟩
            case measure => simp [intOf]; omega
          · have hbz := Lib.hid hb
            have hq : (b == 0) = false := by simp [hb]
            clear hb
            have hr := Lib.hid (hno.out b d (t - s) rfl rfl hab.out ((by intro hh; rcases hh with hh | hh; exact hbz.out hh; omega)))
            go_wp2
            go_roundw
            case rel => exact ⟨j + 1, by omega, by go_num, by rw [hr.out.1], by first | (rw [hr.out.2]; done) | (rw [hr.out.2]; go_num), hB2⟩
            case measure => simp [intOf]; omega
      · have hab := Lib.hid (hfin'.out (s - t) (by unfold absI; split <;> omega))
        by_cases hb : b = 0
        · have hbz := Lib.hid hb
          have hq : (b == 0) = true := by simp [hb]
          clear hb
          have hr := Lib.hid (hy.out b d (s - t) rfl rfl hab.out (Or.inl hbz.out))
          go_wp2
          go_roundw
          case rel => exact ⟨j + 1, by omega, by go_num, by rw [hr.out.1], by first | (rw [hr.out.2]; done) | (rw [hr.out.2]; go_num), hB2⟩
          case measure => simp [intOf]; omega
        · by_cases hd : s - t < d
          · have hbz := Lib.hid hb
            have hq : (b == 0) = false := by simp [hb]
            clear hb
            have hr := Lib.hid (hy.out b d (s - t) rfl rfl hab.out (Or.inr (by omega)))
            go_wp2
            go_roundw
            case rel => exact ⟨j + 1, by omega, by go_num, by rw [hr.out.1], by first | (rw [hr.out.2]; done) | (rw [hr.out.2]; go_num), hB2⟩
            case measure => simp [intOf]; omega
          · have hbz := Lib.hid hb
            have hq : (b == 0) = false := by simp [hb]
            clear hb
            have hr := Lib.hid (hno.out b d (s - t) rfl rfl hab.out ((by intro hh; rcases hh with hh | hh; exact hbz.out hh; omega)))
            go_wp2
            go_roundw
            case rel => exact ⟨j + 1, by omega, by go_num, by rw [hr.out.1], by first | (rw [hr.out.2]; done) | (rw [hr.out.2]; go_num), hB2⟩
            case measure => simp [intOf]; omega
    · have hj' : j = l.length - 1 := by rw [hln.out]; omega
      have hj'' := Lib.hid hj'
      have hj0 : (n : Int) ≤ (j : Int) + 1 := by omega
      clear hj'
      go_wp2
      go_ret
      refine ⟨?_, hB⟩
      show Ending.returned (.int .i64 (halvesTo l j).1) = Ending.returned (.int .i64 (halvesL l))
      unfold halvesL
      rw [← hj''.out]
end Go.Proofs.Ytjgomebnlekddaa
