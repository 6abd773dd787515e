/- The reference's Sum by its contract: the same number. -/
import Derived.Test.YtjgomebnlekddaaCrc
import Derived.Test.YtjgomebnlekddaaEnc
import Derived.Deep.LoopGhost
namespace Go.Proofs.Ytjgomebnlekddaa
set_option linter.unusedVariables false
set_option linter.unusedSimpArgs false
open Go.RowKit
theorem low_eq (D X : Nat) (hD : D < 4294967296) (hX : X < 4294967296) : bits .xor .u32 (bits .and .u32 (D : Int) 1) (bits .and .u32 (X : Int) 1) = (((D % 2 + X % 2) % 2 : Nat) : Int) := by
  have h1 := u32_and_nat D 1 hD (by omega)
  have h2 := u32_and_nat X 1 hX (by omega)
  rw [Nat.and_one_is_mod] at h1 h2
  rw [show bits .and .u32 (D : Int) 1 = ((D % 2 : Nat) : Int) from h1, show bits .and .u32 (X : Int) 1 = ((X % 2 : Nat) : Int) from h2, u32_xor_nat _ _ (by omega) (by omega)]
  have ha : D % 2 = 0 ∨ D % 2 = 1 := by omega
  have hb : X % 2 = 0 ∨ X % 2 = 1 := by omega
  generalize D % 2 = x at *
  generalize X % 2 = y at *
  rcases ha with rfl | rfl <;> rcases hb with rfl | rfl <;> rfl
theorem rbN_yes {D t : Nat} (hD : D < 4294967296) (h : (D % 2 + t) % 2 = 1) : bits .xor .u32 ((D : Int) / 2) 3988292384 = (rbN D t : Int) := by
  unfold rbN
  rw [if_pos h, show (D : Int) / 2 = ((D / 2 : Nat) : Int) by omega]
  exact u32_xor_nat (D / 2) 3988292384 (by omega) (by omega)
theorem rbN_no {D t : Nat} (h : ¬ (D % 2 + t) % 2 = 1) : ((D : Int) / 2) = (rbN D t : Int) := by
  unfold rbN
  rw [if_neg h, Nat.xor_zero]; omega
theorem sum_rest (C : Nat) (h : C < 4294967296) : bits .xor .u32 IntKind.u32.max (C : Int) = 4294967295 - (C : Int) := by
  rw [show (IntKind.u32.max : Int) = ((4294967295 : Nat) : Int) by decide, u32_xor_nat _ _ (by omega) h]
  have : 4294967295 ^^^ C = 4294967295 - C := by
    have h1 : (~~~ (BitVec.ofNat 32 C)).toNat = (BitVec.allOnes 32 ^^^ BitVec.ofNat 32 C).toNat := by rw [BitVec.not_def]
    rw [BitVec.toNat_not, BitVec.toNat_xor, BitVec.toNat_ofNat, Nat.mod_eq_of_lt (by omega : C < 2 ^ 32)] at h1
    exact h1.symm
  rw [this]; omega
set_option maxRecDepth 100000 in
set_option maxHeartbeats 4000000 in
theorem rsum_calls (A : Option Addr) (n cap : Nat) (l : List Int) (w : World) (hl : Bs w A n l) (hn : n ≤ 140737488355328) :
    Calls Try.prog 79 #[.slice A n cap] w fun e w' => e = .returned (.int .u32 (sumL l)) ∧ w = w' := by
  have hln := hl.1
  go_enter Try.func79, Try.ntmps79
  have hln' := Lib.hid hln
  clear hln
  go_upto_region 3 with (fail)
  go_loop [3, 4] (fun v3 v4 => ∃ (k C : Nat), k ≤ n ∧ v4 = .int .i64 k ∧ v3 = .int .u32 C ∧ crcL (l.take k) = C ∧ C < 4294967296) (fun _ v4 => n - (intOf v4).toNat)
  case atStart => exact ⟨0, 4294967295, by omega, rfl, rfl, rfl, by omega⟩
  case round =>
    obtain ⟨k, C, hk, rfl, rfl, hC, hCl⟩ := hrel
    have hC' := Lib.hid hC
    clear hC
    by_cases hlt : k < n
    · obtain ⟨b0, b255, gb, go', rfl, hgb, hc⟩ := hl.2 k hlt
      have hsn := Lib.hid (crcL_snoc l k (by rw [hln'.out]; exact hlt))
      generalize hbb : l.getD k 0 = b at *
      obtain ⟨B, rfl⟩ := Int.eq_ofNat_of_zero_le b0
      have hB : B < 256 := by omega
      have hfin := Lib.hid (rbNs_all hCl hB)
      have hbb' := Lib.hid hbb
      have k0 : (0 : Int) ≤ k := by omega
      have k1 : (k : Int) < n := by omega
      clear hbb b0 b255
      go_upto_region 6 with (fail)
      go_loop [3, 5] (fun v3 v5 => ∃ j : Nat, j ≤ 8 ∧ v5 = .int .i64 j ∧ v3 = .int .u32 (rbNs C B j : Nat)) (fun _ v5 => 8 - (intOf v5).toNat)
      case atStart => exact ⟨0, by omega, rfl, rfl⟩
      case round =>
        obtain ⟨j, hj, rfl, rfl⟩ := hrel
        have hr2 := rbNs_lt (c := C) (b := B) hCl j
        by_cases hlt2 : j < 8
        · have hstep : rbNs C B (j + 1) = rbN (rbNs C B j) (B / 2 ^ j % 2) := rfl
          have hst := Lib.hid hstep
          clear hstep
          generalize rbNs C B j = D at *
          have hcs : j = 0 ∨ j = 1 ∨ j = 2 ∨ j = 3 ∨ j = 4 ∨ j = 5 ∨ j = 6 ∨ j = 7 := by omega
          rcases hcs with rfl | rfl | rfl | rfl | rfl | rfl | rfl | rfl
          · have hlow : bits .xor .u32 (bits .and .u32 (D : Int) 1) (bits .and .u32 (B : Int) 1) = (((D % 2 + B % 2) % 2 : Nat) : Int) := by
              have := low_eq D B hr2 (by omega)
              exact this
            have ht : B / 2 ^ 0 % 2 = B % 2 := by first | rfl | (simp; done) | omega
            by_cases hp : (D % 2 + B % 2) % 2 = 1
            · have hy := rbN_yes hr2 hp
              rw [hp] at hlow
              have hy' := Lib.hid hy
              have ht' := Lib.hid ht
              clear hy ht hp
              go_wp2
              go_round
              case rel => exact ⟨0 + 1, by omega, by go_num, by rw [hst.out, ht'.out, ← hy'.out]⟩
              case measure => simp [intOf]
            · have hy := rbN_no hp
              have hp0 : (D % 2 + B % 2) % 2 = 0 := by omega
              rw [hp0] at hlow
              have hy' := Lib.hid hy
              have ht' := Lib.hid ht
              clear hy ht hp hp0
              go_wp2
              go_round
              case rel => exact ⟨0 + 1, by omega, by go_num, by rw [hst.out, ht'.out, ← hy'.out]⟩
              case measure => simp [intOf]
          · have hlow : bits .xor .u32 (bits .and .u32 (D : Int) 1) (bits .and .u32 ((B : Int) / 2) 1) = (((D % 2 + (B / 2) % 2) % 2 : Nat) : Int) := by
              have := low_eq D (B / 2) hr2 (by omega)
              exact this
            have ht : B / 2 ^ 1 % 2 = (B / 2) % 2 := by first | rfl | (simp; done) | omega
            by_cases hp : (D % 2 + (B / 2) % 2) % 2 = 1
            · have hy := rbN_yes hr2 hp
              rw [hp] at hlow
              have hy' := Lib.hid hy
              have ht' := Lib.hid ht
              clear hy ht hp
              go_wp2
              go_round
              case rel => exact ⟨1 + 1, by omega, by go_num, by rw [hst.out, ht'.out, ← hy'.out]⟩
              case measure => simp [intOf]
            · have hy := rbN_no hp
              have hp0 : (D % 2 + (B / 2) % 2) % 2 = 0 := by omega
              rw [hp0] at hlow
              have hy' := Lib.hid hy
              have ht' := Lib.hid ht
              clear hy ht hp hp0
              go_wp2
              go_round
              case rel => exact ⟨1 + 1, by omega, by go_num, by rw [hst.out, ht'.out, ← hy'.out]⟩
              case measure => simp [intOf]
          · have hlow : bits .xor .u32 (bits .and .u32 (D : Int) 1) (bits .and .u32 ((B : Int) / 4) 1) = (((D % 2 + (B / 4) % 2) % 2 : Nat) : Int) := by
              have := low_eq D (B / 4) hr2 (by omega)
              exact this
            have ht : B / 2 ^ 2 % 2 = (B / 4) % 2 := by first | rfl | (simp; done) | omega
            by_cases hp : (D % 2 + (B / 4) % 2) % 2 = 1
            · have hy := rbN_yes hr2 hp
              rw [hp] at hlow
              have hy' := Lib.hid hy
              have ht' := Lib.hid ht
              clear hy ht hp
              go_wp2
              go_round
              case rel => exact ⟨2 + 1, by omega, by go_num, by rw [hst.out, ht'.out, ← hy'.out]⟩
              case measure => simp [intOf]
            · have hy := rbN_no hp
              have hp0 : (D % 2 + (B / 4) % 2) % 2 = 0 := by omega
              rw [hp0] at hlow
              have hy' := Lib.hid hy
              have ht' := Lib.hid ht
              clear hy ht hp hp0
              go_wp2
              go_round
              case rel => exact ⟨2 + 1, by omega, by go_num, by rw [hst.out, ht'.out, ← hy'.out]⟩
              case measure => simp [intOf]
          · have hlow : bits .xor .u32 (bits .and .u32 (D : Int) 1) (bits .and .u32 ((B : Int) / 8) 1) = (((D % 2 + (B / 8) % 2) % 2 : Nat) : Int) := by
              have := low_eq D (B / 8) hr2 (by omega)
              exact this
            have ht : B / 2 ^ 3 % 2 = (B / 8) % 2 := by first | rfl | (simp; done) | omega
            by_cases hp : (D % 2 + (B / 8) % 2) % 2 = 1
            · have hy := rbN_yes hr2 hp
              rw [hp] at hlow
              have hy' := Lib.hid hy
              have ht' := Lib.hid ht
              clear hy ht hp
              go_wp2
              go_round
              case rel => exact ⟨3 + 1, by omega, by go_num, by rw [hst.out, ht'.out, ← hy'.out]⟩
              case measure => simp [intOf]
            · have hy := rbN_no hp
              have hp0 : (D % 2 + (B / 8) % 2) % 2 = 0 := by omega
              rw [hp0] at hlow
              have hy' := Lib.hid hy
              have ht' := Lib.hid ht
              clear hy ht hp hp0
              go_wp2
              go_round
              case rel => exact ⟨3 + 1, by omega, by go_num, by rw [hst.out, ht'.out, ← hy'.out]⟩
              case measure => simp [intOf]
          · have hlow : bits .xor .u32 (bits .and .u32 (D : Int) 1) (bits .and .u32 ((B : Int) / 16) 1) = (((D % 2 + (B / 16) % 2) % 2 : Nat) : Int) := by
              have := low_eq D (B / 16) hr2 (by omega)
              exact this
            have ht : B / 2 ^ 4 % 2 = (B / 16) % 2 := by first | rfl | (simp; done) | omega
            by_cases hp : (D % 2 + (B / 16) % 2) % 2 = 1
            · have hy := rbN_yes hr2 hp
              rw [hp] at hlow
              have hy' := Lib.hid hy
              have ht' := Lib.hid ht
              clear hy ht hp
              go_wp2
              go_round
              case rel => exact ⟨4 + 1, by omega, by go_num, by rw [hst.out, ht'.out, ← hy'.out]⟩
              case measure => simp [intOf]
            · have hy := rbN_no hp
              have hp0 : (D % 2 + (B / 16) % 2) % 2 = 0 := by omega
              rw [hp0] at hlow
              have hy' := Lib.hid hy
              have ht' := Lib.hid ht
              clear hy ht hp hp0
              go_wp2
              go_round
              case rel => exact ⟨4 + 1, by omega, by go_num, by rw [hst.out, ht'.out, ← hy'.out]⟩
              case measure => simp [intOf]
          · have hlow : bits .xor .u32 (bits .and .u32 (D : Int) 1) (bits .and .u32 ((B : Int) / 32) 1) = (((D % 2 + (B / 32) % 2) % 2 : Nat) : Int) := by
              have := low_eq D (B / 32) hr2 (by omega)
              exact this
            have ht : B / 2 ^ 5 % 2 = (B / 32) % 2 := by first | rfl | (simp; done) | omega
            by_cases hp : (D % 2 + (B / 32) % 2) % 2 = 1
            · have hy := rbN_yes hr2 hp
              rw [hp] at hlow
              have hy' := Lib.hid hy
              have ht' := Lib.hid ht
              clear hy ht hp
              go_wp2
              go_round
              case rel => exact ⟨5 + 1, by omega, by go_num, by rw [hst.out, ht'.out, ← hy'.out]⟩
              case measure => simp [intOf]
            · have hy := rbN_no hp
              have hp0 : (D % 2 + (B / 32) % 2) % 2 = 0 := by omega
              rw [hp0] at hlow
              have hy' := Lib.hid hy
              have ht' := Lib.hid ht
              clear hy ht hp hp0
              go_wp2
              go_round
              case rel => exact ⟨5 + 1, by omega, by go_num, by rw [hst.out, ht'.out, ← hy'.out]⟩
              case measure => simp [intOf]
          · have hlow : bits .xor .u32 (bits .and .u32 (D : Int) 1) (bits .and .u32 ((B : Int) / 64) 1) = (((D % 2 + (B / 64) % 2) % 2 : Nat) : Int) := by
              have := low_eq D (B / 64) hr2 (by omega)
              exact this
            have ht : B / 2 ^ 6 % 2 = (B / 64) % 2 := by first | rfl | (simp; done) | omega
            by_cases hp : (D % 2 + (B / 64) % 2) % 2 = 1
            · have hy := rbN_yes hr2 hp
              rw [hp] at hlow
              have hy' := Lib.hid hy
              have ht' := Lib.hid ht
              clear hy ht hp
              go_wp2
              go_round
              case rel => exact ⟨6 + 1, by omega, by go_num, by rw [hst.out, ht'.out, ← hy'.out]⟩
              case measure => simp [intOf]
            · have hy := rbN_no hp
              have hp0 : (D % 2 + (B / 64) % 2) % 2 = 0 := by omega
              rw [hp0] at hlow
              have hy' := Lib.hid hy
              have ht' := Lib.hid ht
              clear hy ht hp hp0
              go_wp2
              go_round
              case rel => exact ⟨6 + 1, by omega, by go_num, by rw [hst.out, ht'.out, ← hy'.out]⟩
              case measure => simp [intOf]
          · have hlow : bits .xor .u32 (bits .and .u32 (D : Int) 1) (bits .and .u32 ((B : Int) / 128) 1) = (((D % 2 + (B / 128) % 2) % 2 : Nat) : Int) := by
              have := low_eq D (B / 128) hr2 (by omega)
              exact this
            have ht : B / 2 ^ 7 % 2 = (B / 128) % 2 := by first | rfl | (simp; done) | omega
            by_cases hp : (D % 2 + (B / 128) % 2) % 2 = 1
            · have hy := rbN_yes hr2 hp
              rw [hp] at hlow
              have hy' := Lib.hid hy
              have ht' := Lib.hid ht
              clear hy ht hp
              go_wp2
              go_round
              case rel => exact ⟨7 + 1, by omega, by go_num, by rw [hst.out, ht'.out, ← hy'.out]⟩
              case measure => simp [intOf]
            · have hy := rbN_no hp
              have hp0 : (D % 2 + (B / 128) % 2) % 2 = 0 := by omega
              rw [hp0] at hlow
              have hy' := Lib.hid hy
              have ht' := Lib.hid ht
              clear hy ht hp hp0
              go_wp2
              go_round
              case rel => exact ⟨7 + 1, by omega, by go_num, by rw [hst.out, ht'.out, ← hy'.out]⟩
              case measure => simp [intOf]
        · obtain rfl : j = 8 := by omega
          generalize hE : rbNs C B 8 = E at *
          have hE' := Lib.hid hE
          clear hE
          go_wp2
          go_round
          case rel => exact ⟨k + 1, E, by omega, by go_num, rfl, by rw [hsn.out, hC'.out, hfin.out], hr2⟩
          case measure => simp [intOf]; omega
    · obtain rfl : k = n := by omega
      have hC'' : crcL l = C := by
        have := hC'.out
        rw [List.take_of_length_le (by rw [hln'.out]; exact Nat.le_refl _)] at this
        exact this
      have hs : sumL l = 4294967295 - (C : Int) := by unfold sumL; rw [hC'', sum_rest C hCl]
      have hs' := Lib.hid hs
      clear hs hC''
      go_wp2
      go_ret
      exact ⟨by rw [hs'.out]; first | rfl | simp, rfl⟩
end Go.Proofs.Ytjgomebnlekddaa
