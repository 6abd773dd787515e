/- octet.ReadUint by its contract. -/
import Derived.Test.YtnehppeoffemlaaNum
import Derived.Test.YtnehppeoffemlaaBits
import Derived.Test.YtnehppeoffemlaaByt
namespace Go.Proofs.Ytnehppeoffemlaa
set_option linter.unusedVariables false
set_option linter.unusedSimpArgs false
open Go.RowKit
theorem or_u64 (a b : Int) (h0 : 0 ≤ a) (h1 : a ≤ 255) (b0 : 0 ≤ b) (hb : b < 72057594037927936) : bits .or .u64 (b * 256) a = b * 256 + a := by
  obtain ⟨a, rfl⟩ := Int.eq_ofNat_of_zero_le h0
  obtain ⟨b, rfl⟩ := Int.eq_ofNat_of_zero_le b0
  have e : ((b : Int) * 256) = ((b * 256 : Nat) : Int) := by simp
  have hx : (b * 256) ||| a < 2 ^ 64 := Nat.or_lt_two_pow (by omega) (by omega)
  have h1 : (BitVec.ofInt 64 ((b * 256 : Nat) : Int)).toNat = b * 256 := by
    rw [BitVec.ofInt_natCast, BitVec.toNat_ofNat]; exact Nat.mod_eq_of_lt (by omega)
  have h2 : (BitVec.ofInt 64 (a : Int)).toNat = a := by
    rw [BitVec.ofInt_natCast, BitVec.toNat_ofNat]; exact Nat.mod_eq_of_lt (by omega)
  rw [e]
  show IntKind.u64.wrap ((BitVec.ofInt 64 ((b * 256 : Nat) : Int) ||| BitVec.ofInt 64 (a : Int)).toNat : Int) = _
  rw [BitVec.toNat_or, h1, h2, or_mul a b 8 256 (by decide) (by omega)]
  rw [IntKind.wrap_u64]
  omega
theorem num_take (l : List Int) (k : Nat) (h : k < l.length) : num (l.take (k + 1)) = num (l.take k) * 256 + l.getD k 0 := by
  rw [List.take_succ_eq_append_getElem h, num_snoc]
  simp [h]
theorem num_small : ∀ (l : List Int) (k : Nat), Byt l → k ≤ 7 → 0 ≤ num (l.take k) ∧ num (l.take k) < 72057594037927936 := by
  have gen : ∀ (k : Nat) (l : List Int), Byt l → 0 ≤ num (l.take k) ∧ num (l.take k) < 256 ^ k := by
    intro k
    induction k with
    | zero => intro l _; simp [num]
    | succ k ih =>
      intro l hb
      have h1 := ih l hb
      rw [Int.pow_succ]
      rcases Nat.lt_or_ge k l.length with h | h
      · rw [num_take l k h]
        have := hb.getD k
        omega
      · rw [List.take_of_length_le (by omega)]
        rw [List.take_of_length_le h] at h1
        omega
  intro l k hb hk
  have h1 := gen k l hb
  have h2 : k = 0 ∨ k = 1 ∨ k = 2 ∨ k = 3 ∨ k = 4 ∨ k = 5 ∨ k = 6 ∨ k = 7 := by omega
  rcases h2 with rfl | rfl | rfl | rfl | rfl | rfl | rfl | rfl <;> exact ⟨h1.1, Int.lt_of_lt_of_le h1.2 (by decide)⟩
theorem drop_getD (l : List Int) (i k : Nat) : (l.drop i).getD k 0 = l.getD (i + k) 0 := by simp [List.getD_eq_getElem?_getD]
set_option maxRecDepth 100000 in
set_option maxHeartbeats 1000000 in
theorem readuint_calls {lo hi n : Nat} (i c : Nat) {A : Option Addr} {l : List Int} (w : World) (h : BsR w lo hi A n l) (hi8 : i + 8 ≤ n) (hnc : n ≤ c) (hn : n ≤ 140737488355328) :
    Calls Try.prog 65 #[.slice A n c, .int .i64 i] w fun e w' => e = .returned (.tuple #[.int .u64 (num ((l.drop i).take 8)), .int .i64 ((i : Int) + 8), .int .i64 0]) ∧ w = w' := by
  obtain ⟨gb, go', rfl, -, -, hc⟩ := h.2.2 (by omega)
  have hby := Lib.hid h.2.1
  have hln := Lib.hid h.1
  have hlen : (l.drop i).length = n - i := by rw [List.length_drop, h.1]
  have i1 : (0 : Int) ≤ i := by omega
  have i2 : (i : Int) + 8 ≤ n := by omega
  have i3 : (n : Int) ≤ 140737488355328 := by omega
  have i4 : (n : Int) ≤ c := by omega
  have hlen' := Lib.hid hlen
  clear h hlen
  go_enter Try.func65, Try.ntmps65
  go_upto_region 7 with (fail)
  go_loop [7, 29] (fun v7 v29 => ∃ k : Nat, k ≤ 8 ∧ v29 = .int .i64 k ∧ v7 = .int .u64 (num ((l.drop i).take k))) (fun _ v29 => 8 - (intOf v29).toNat)
  case atStart => exact ⟨0, by omega, rfl, rfl⟩
  case round =>
    obtain ⟨k, hk, rfl, rfl⟩ := hrel
    by_cases hlt : k < 8
    · have hs := num_small (l.drop i) k (hby.out.drop i) (by omega)
      have hsn := Lib.hid (num_take (l.drop i) k (by rw [hlen'.out]; omega))
      have hcell := hc (i + k) (by omega)
      have hb := hby.out.getD (i + k)
      rw [drop_getD] at hsn
      unfold bsF at hcell
      rw [← Nat.add_assoc] at hcell
      generalize l.getD (i + k) 0 = x at *
      generalize num ((l.drop i).take k) = u at *
      have hor := or_u64 x u hb.1 hb.2 hs.1 hs.2
      have k0 : (0 : Int) ≤ k := by omega
      have k8 : (k : Int) < 8 := by omega
      go_wp2
      go_round
      case rel => exact ⟨k + 1, by omega, by go_num, by rw [hsn.out]⟩
      case measure => simp [intOf]; omega
    · obtain rfl : k = 8 := by omega
      go_wp2
      go_ret3
      exact ⟨by first | rfl | simp, rfl⟩
end Go.Proofs.Ytnehppeoffemlaa
