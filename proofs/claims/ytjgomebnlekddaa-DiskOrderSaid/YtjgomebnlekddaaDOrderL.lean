/- DiskOrder: the walk. -/
import Derived.Test.YtjgomebnlekddaaDOrder
namespace Go.Proofs.Ytjgomebnlekddaa
set_option linter.unusedVariables false
set_option linter.unusedSimpArgs false
open Go.RowKit
set_option maxRecDepth 100000 in
set_option maxHeartbeats 8000000 in
theorem dorder_calls {kn kc : Nat} {kA : Option Addr} {kl : List Bool} (nn ss : Int) (w : World) (hk : BoR w 0 w.heap.size kA kn kl) (n0 : 0 ≤ nn) (n1 : nn ≤ 255) (s0 : 0 ≤ ss) (s1 : ss ≤ 255) : Calls Try.prog 11 #[.int .u8 nn, .slice kA kn kc, .int .u8 ss] w fun e w' => e = .returned (.bool true) ∧ Below w.heap.size w w' := by
  obtain ⟨K, hK⟩ : ∃ K : Nat, (K : Int) = 1 + nn % 20 := ⟨(1 + nn % 20).toNat, Int.toNat_of_nonneg (by omega)⟩
  have a1 : IntKind.i64.wrap nn = nn := IntWalk.i64_in _ (by omega)
  have a2 : Int.tmod nn 20 = nn % 20 := Int.tmod_eq_emod_of_nonneg n0
  have a3 : IntKind.i64.wrap (1 + nn % 20) = (K : Int) := by rw [← hK]; exact IntWalk.i64_in _ (by omega)
  have hK20 : K ≤ 20 := by omega
  have hK' := Lib.hid hK
  clear hK
  go_enter Try.func11, Try.ntmps11
  go_wp2_with fail
  refine (dawake_calls w).mono ?_
  rintro e w1 ⟨rfl, hb1⟩
  go_wp2_with fail
  refine (new_calls 1 (by omega) (by omega) w1).mono ?_
  rintro e w2 ⟨d, lb, rfl, hd0, hb2, hdd, hlb⟩
  have hs1 := hb1.size
  have hD2 : DskB w2 w.heap.size d lb none 0 0 (newD 1) := ⟨hd0, by omega, by omega, fun b hb => by cases hb⟩
  have hB2 := below_keep hb2 hb1
  have hdw : w.heap.size ≤ d := by omega
  have hlw : w.heap.size ≤ lb := by omega
  clear hd0 hb2 hb1
  go_upto_region 8 with (fail)
  clear a1 a2 a3
  go_loopw [10, 11, 12] (fun v10 v11 v12 wr => ∃ (j f : Nat) (want : Int) (pA : Option Addr) (m mc : Nat) (D : Dk), j ≤ K ∧ f ≤ j ∧ v12 = .int .i64 j ∧ v11 = .int .i64 f ∧ v10 = .int .u8 want ∧ 0 ≤ want ∧ want ≤ 255 ∧ DskB wr w.heap.size d lb pA m mc D ∧ Ord1 D f j want ∧ Below w.heap.size w wr) (fun _ _ v12 _ => K - (intOf v12).toNat)
  case atStart => exact ⟨0, 0, 0, none, 0, 0, newD 1, by omega, by omega, rfl, rfl, rfl, by omega, by omega, hD2, Ord1.start, hB2⟩
  case round =>
    clear hD2 hB2
    obtain ⟨j, f, want, pA, m, mc, D, hj, hf, rfl, rfl, rfl, hw0, hw1, hD, hO, hB⟩ := hrel
    have hm := hD.k.wl
    rw [hO.wayLen] at hm
    have hops := hO.ops
    by_cases hlt : j < K
    · obtain ⟨J, hJ⟩ : ∃ J, J = j + 1 := ⟨_, rfl⟩
      have b1 : IntKind.i64.wrap ((j : Int) + 1) = (J : Int) := by rw [hJ]; exact IntWalk.i64_in _ (by omega)
      have b2 : IntKind.u8.wrap (J : Int) = (J : Int) := IntWalk.u8_in _ (by omega)
      have hj0 : (0 : Int) ≤ j := by omega
      have hj1 : (j : Int) < K := by omega
      have hJ1 : (J : Int) ≤ 20 := by omega
      have hwr := Lib.hid (hO.wr hf)
      rw [← hJ] at hwr
      have hJ' := Lib.hid hJ
      have hm' := Lib.hid hm
      have hO' := Lib.hid hO
      clear hm hO hJ
      go_wp2_with fail
      refine (full_calls 1 _ (BsR.of_at (l := [(J : Int)]) (At.new wr _ _) rfl (Byt.cons (by omega) (by omega) Byt.nil)) (Nat.le_of_eq (by simp))).mono ?_
      rintro e w3 ⟨b3, rfl, ho3, hb3, -⟩
      have hD3 := (hD.later (below_new wr _)).later hb3
      have hB3 := below_keep hb3 (below_al hB)
      clear hD hB hb3
      go_wp2_with fail
      refine (wri_own 0 w3 hD3 (by rw [hO'.out.l1]; omega) hO'.out.off (by omega) (by have := hm'.out; omega) ho3 hB3.size).mono ?_
      rintro e w4 ⟨rfl, ⟨pA4, mc4, hD4⟩, hb4, -, -⟩
      rw [hwr.out.2.1]
      have hB4 := below_tr hB3 hb4
      have hbd := hwr.out.1
      have hO4 := Lib.hid (hwr.out.2.2 (by have := hJ'.out; omega))
      have c1 : IntKind.i64.wrap ss = ss := IntWalk.i64_in _ (by omega)
      have c2 : Int.tmod ss 40 = ss % 40 := Int.tmod_eq_emod_of_nonneg s0
      clear ho3 hD3 hB3 hb4
      generalize hD4e : wrD D 0 (fullL [(J : Int)]) = D4 at *
      clear hD4e
      by_cases hs : (j : Int) = ss % 40
      · have hop4 := hO4.out.op
        go_wp2_with fail
        refine (sync_calls w4 hD4.k hO4.out.off (by omega) hop4.2.1).mono ?_
        rintro e w5 ⟨rfl, hd5, hm5⟩
        have hB5 := below_tr hB4 (hm5.below hB4.size hD4.footL)
        have hO5 := Lib.hid (show Ord1 (syncD D4) J J (J : Int) from by
          have h4 := hO4.out
          rw [hJ'.out] at h4 ⊢
          exact h4.sync hf (by rw [hop4.2.2]; have := hJ'.out; omega))
        go_wp2_with fail
        refine (pending_calls w5 hd5).mono ?_
        rintro e w5' ⟨rfl, rfl⟩
        go_wp2
        go_roundw
        case rel => exact ⟨J, J, (J : Int), none, 0, 0, syncD D4, by have := hJ'.out; omega, Nat.le_refl _, by first | rfl | (have := hJ'.out; subst this; go_num), by first | rfl | (have := hJ'.out; subst this; go_num), by first | rfl | (have := hJ'.out; subst this; go_num), by omega, by omega, ⟨hd5, hdw, hlw, fun b hb => by cases hb⟩, hO5.out, hB5⟩
        case measure => have := hJ'.out; simp [intOf]; omega
      · go_wp2
        go_roundw
        case rel => exact ⟨J, f, want, pA4, m + 1, mc4, D4, by have := hJ'.out; omega, by have := hJ'.out; omega, by first | rfl | (have := hJ'.out; subst this; go_num), rfl, rfl, hw0, hw1, hD4, hO4.out, hB4⟩
        case measure => have := hJ'.out; simp [intOf]; omega
    · obtain rfl : j = K := by omega
      obtain ⟨wA, hwA⟩ : ∃ wA, wA = wr := ⟨_, rfl⟩
      subst hwA
      have hO' := Lib.hid hO
      have hm' := Lib.hid hm
      have hkr := Lib.hid (fun t (ht : t < kn) => (hk.2 (by omega)))
      have hW := Lib.hid (wantTo_bd hO (by omega) ⟨hw0, hw1⟩ (keepF kn kl))
      have hWy := Lib.hid (fun t => wantTo_yes (t := t) hO (keepF kn kl))
      have hW0 := Lib.hid (wantTo_zero hO (keepF kn kl))
      have hWn := Lib.hid (fun t => wantTo_no (D := D) (t := t) (keepF kn kl))
      have hrd := Lib.hid (hO.read kn kl)
      clear hO hm hlt
      go_upto_region 18 with (fail)
      go_loopw [10, 13] (fun v10 v13 wr => ∃ (t I : Nat), I = f + t ∧ I ≤ j ∧ v13 = .int .i64 I ∧ v10 = .int .u8 (wantTo D (keepF kn kl) t) ∧ wr = wA) (fun _ v13 _ => j - (intOf v13).toNat)
      case atStart => exact ⟨0, f, rfl, hf, rfl, by rw [hW0.out], by first | rfl | trivial⟩
      case round =>
        obtain ⟨t, I, hI, hIj, rfl, rfl, rfl⟩ := hrel
        have hI' := Lib.hid hI
        by_cases hlt : I < j
        · have d1 : IntKind.i64.wrap ((I : Int) - f) = (t : Int) := by rw [show (I : Int) - f = t by omega]; exact IntWalk.i64_in _ (by omega)
          obtain ⟨J, hJ⟩ : ∃ J, J = I + 1 := ⟨_, rfl⟩
          have b1 : IntKind.i64.wrap ((I : Int) + 1) = (J : Int) := by rw [hJ]; exact IntWalk.i64_in _ (by omega)
          have b2 : IntKind.u8.wrap (J : Int) = (J : Int) := IntWalk.u8_in _ (by omega)
          have hi1 : (I : Int) < j := by omega
          have ht0 : (0 : Int) ≤ t := by omega
          have hJ' := Lib.hid hJ
          clear hJ hI
          by_cases hkt : t < kn
          · have ht1 : (t : Int) < kn := by omega
            obtain ⟨gb, go', rfl, -, g2, hc⟩ := hkr.out t hkt
            have hct := (hB.cell (p := ⟨gb, go' + t, none⟩) g2).trans (hc t hkt)
            cases hkb : kl.getD t false
            · rw [hkb] at hct
              have hkf : keepF kn kl t = false := by unfold keepF; rw [hkb]; simp
              have hnw := hWn.out t hkf
              go_wp2
              go_roundw
              case rel => exact ⟨t + 1, J, by have := hJ'.out; have := hI'.out; omega, by have := hJ'.out; omega, by first | rfl | (have := hJ'.out; subst this; go_num), by rw [hnw], by first | rfl | trivial⟩
              case measure => have := hJ'.out; simp [intOf]; omega
            · rw [hkb] at hct
              have hkf : keepF kn kl t = true := by unfold keepF; rw [hkb]; simp [hkt]
              have hyw := Lib.hid (hWy.out t (by have := hI'.out; omega) hkf)
              go_wp2
              go_roundw
              case rel => exact ⟨t + 1, J, by have := hJ'.out; have := hI'.out; omega, by have := hJ'.out; omega, by first | rfl | (have := hJ'.out; subst this; go_num), by rw [hyw.out, ← hI'.out, ← hJ'.out], by first | rfl | trivial⟩
              case measure => have := hJ'.out; simp [intOf]; omega
          · have ht1 : ¬ (t : Int) < kn := by omega
            have hkf : keepF kn kl t = false := by unfold keepF; simp [hkt]
            have hnw := hWn.out t hkf
            go_wp2
            go_roundw
            case rel => exact ⟨t + 1, J, by have := hJ'.out; have := hI'.out; omega, by have := hJ'.out; omega, by first | rfl | (have := hJ'.out; subst this; go_num), by rw [hnw], by first | rfl | trivial⟩
            case measure => have := hJ'.out; simp [intOf]; omega
        · obtain rfl : I = j := by omega
          have ht : t = I - f := by omega
          have hwb := hW.out t (by omega)
          rw [← ht] at hrd
          have hm2 : m = t := by have := hm'.out; omega
          subst hm2
          have e1 : IntKind.i64.wrap ((I : Int) - f) = (m : Int) := by rw [show (I : Int) - f = m by omega]; exact IntWalk.i64_in _ (by omega)
          clear hI ht
          generalize wantTo D (keepF kn kl) m = W at *
          go_wp2_with fail
          refine (pending_calls wr hD.k).mono ?_
          rintro e wr' ⟨rfl, rfl⟩
          go_wp2_with fail
          refine (rest_calls (n := kn) (kl := kl) wr hD.k ⟨hk.1, (hk.2.below hB (Nat.le_refl _)).more hB.size⟩ (fun hpos b hb => ?_)).mono ?_
          · obtain ⟨gb, go', hA, -, g2, -⟩ := hk.2 hpos
            rw [hA] at hb
            injection hb with hb
            have hgb : gb = b := hb
            omega
          rintro e w8 ⟨rfl, hd8, hm8⟩
          have hB8 := below_tr hB (hm8.below hB.size hD.footL)
          go_wp2_with fail
          refine (read_calls 0 w8 hd8 (by show 0 < List.length (setTo _ _ _); rw [setTo_len, hO'.out.l1]; omega) rfl).mono ?_
          rintro e w9 ⟨b9, rfl, hs9, hb9, -⟩
          have hc9 := hs9.first
          rw [hrd.out] at hc9
          go_wp2
          go_ret
          exact ⟨by first | rfl | simp, below_keep hb9 hB8⟩
end Go.Proofs.Ytjgomebnlekddaa
