/- Joined texts: LogK, Num, Bits, RdU. -/
import Derived.Test.YtggeepihkeocmaaJPlays10
import Derived.Test.YtggeepihkeocmaaJPlays01
import Derived.Test.YtggeepihkeocmaaJPlays00
import Derived.Laws.BitsAllLaws
import Derived.Test.YtggeepihkeocmaaJPlays03
/- The log's Format by its contract. -/
namespace Go.Proofs.Ytggeepihkeocmaa
set_option linter.unusedVariables false
set_option linter.unusedSimpArgs false
open Go.RowKit
def fmtL (a c : Int) : Lg := ⟨a, c, 1, 480, 0, 0, 0, 0, []⟩
theorem look_facts {D : Dk} {a c : Int} (h : llookE D a c = 0) : 0 ≤ a ∧ 4 ≤ c ∧ c ≤ 4096 ∧ a ≤ D.l.length - 1 - c := by
  unfold llookE at h
  by_cases h2 : a < 0 ∨ c < 4 ∨ 4096 < c ∨ D.l.length - 1 - c < a
  · rw [if_pos h2] at h; omega
  · omega
theorem llookE_range (D : Dk) (a c : Int) : llookE D a c = 0 ∨ llookE D a c = 1 := by
  unfold llookE; by_cases h2 : a < 0 ∨ c < 4 ∨ 4096 < c ∨ D.l.length - 1 - c < a
  · rw [if_pos h2]; exact .inr rfl
  · rw [if_neg h2]; exact .inl rfl
set_option maxRecDepth 100000 in
theorem lformat_no {base d lb : Nat} {F : Nat → Prop} {D : Dk} (a c : Int) (w : World) (h : DD w base d lb F D) (hno : llookE D a c = 1) :
    Calls Try.prog 62 #[.pointer (some ⟨d, 0, none⟩), .int .i64 a, .int .i64 c] w fun e w' => e = .returned (.int .i64 1) ∧ w = w' := by
  go_enter Try.func62, Try.ntmps62
  go_wp2_with fail
  refine (llook_calls a c w h).mono ?_
  rintro e w' ⟨rfl, rfl⟩
  rw [hno]
  go_wp2
  go_ret
  exact ⟨by first | rfl | simp, rfl⟩
set_option maxRecDepth 100000 in
theorem lformat_ok {base d lb : Nat} {F : Nat → Prop} {D : Dk} (a c : Int) (i : Nat) (w : World) (h : DD w base d lb F D) (hok : llookE D a c = 0) (hi : (i : Int) = a) (h9 : D.ops + 1 < 1000000000) (hm9 : D.way.length < 1000000000) :
    Calls Try.prog 62 #[.pointer (some ⟨d, 0, none⟩), .int .i64 a, .int .i64 c] w fun e w' => e = .returned (.int .i64 (mkE D i (masterL (fmtL a c)))) ∧ (∃ F', DD w' base d lb F' (mkD D i (masterL (fmtL a c))) ∧ Grew F F' w.heap.size) ∧ Mod F w w' := by
  have hf := look_facts hok
  have hl := h.ok.len
  have hbw : base ≤ w.heap.size := by have := h.lts d h.d; omega
  go_enter Try.func62, Try.ntmps62
  go_wp2_with fail
  refine (llook_calls a c w h).mono ?_
  rintro e w' ⟨rfl, rfl⟩
  rw [hok]
  go_wp2_with fail
  have hb1 := below_new w (.cells #[.pointer (some ⟨d, 0, none⟩), .int .i64 a, .int .i64 c, .int .u64 1, .int .u64 480, .int .u64 0, .int .u64 0, .int .i64 0, .int .u64 0, .slice none 0 0] 113)
  have k1 : LgW (w.alloc (.cells #[.pointer (some ⟨d, 0, none⟩), .int .i64 a, .int .i64 c, .int .u64 1, .int .u64 480, .int .u64 0, .int .u64 0, .int .i64 0, .int .u64 0, .slice none 0 0] 113)) base d w.heap.size none 0 (fmtL a c) :=
    ⟨At.new w _ _, hbw, by show 0 ≤ a ∧ a ≤ 4096; omega, by show 4 ≤ c ∧ c ≤ 4096; omega, by show (0 : Int) ≤ 1 ∧ (1 : Int) < 18446744073709551616; omega, by show (0 : Int) ≤ 480 ∧ (480 : Int) < 18446744073709551616; omega, by show (0 : Int) ≤ 0 ∧ (0 : Int) < 18446744073709551616; omega⟩
  generalize (w.alloc (.cells #[.pointer (some ⟨d, 0, none⟩), .int .i64 a, .int .i64 c, .int .u64 1, .int .u64 480, .int .u64 0, .int .u64 0, .int .i64 0, .int .u64 0, .slice none 0 0] 113)) = w1 at *
  refine (lmark_w i w1 k1 (h.later hb1) hi (by omega) h9 hm9).mono ?_
  rintro e w2 ⟨rfl, ⟨F2, hD2, hg2⟩, hm2⟩
  go_wp2
  go_ret
  exact ⟨by first | rfl | simp, ⟨F2, hD2, fun b hb => (hg2 b hb).imp id (fun h => Nat.le_trans hb1.size h)⟩, (Mod.of_below hb1).trans hm2 (fun _ _ h => h)⟩
end Go.Proofs.Ytggeepihkeocmaa
/- Numbers of bytes, the highest first (plain). -/
namespace Go.Proofs.Ytggeepihkeocmaa
set_option linter.unusedVariables false
set_option linter.unusedSimpArgs false
open Go.RowKit
/-- The number of some bytes, the highest first. -/
def num (l : List Int) : Int := l.foldl (fun a b => a * 256 + b) 0
theorem num_snoc (l : List Int) (x : Int) : num (l ++ [x]) = num l * 256 + x := by simp [num, List.foldl_append]
theorem num_two (a b : Int) : num [a, b] = a * 256 + b := by simp [num]
theorem two_num {l : List Int} (h : l.length = 2) (hb : Byt l) : twoL (num l) = l := by
  match l, h with
  | [a, b], _ =>
    have h0 := hb a (by simp)
    have h1 := hb b (by simp)
    rw [num_two]; unfold twoL
    rw [show (a * 256 + b) / 256 = a by omega, show (a * 256 + b) % 256 = b by omega]
theorem num_twoL {n : Int} (h0 : 0 ≤ n) : num (twoL n) = n := by
  unfold twoL; rw [num_two]; omega
theorem num_eight (a b c d e f g h : Int) : num [a, b, c, d, e, f, g, h] = ((((((a * 256 + b) * 256 + c) * 256 + d) * 256 + e) * 256 + f) * 256 + g) * 256 + h := by simp [num]
theorem u8L_eq (u : Int) : u8L u = [u / 72057594037927936 % 256, u / 281474976710656 % 256, u / 1099511627776 % 256, u / 4294967296 % 256, u / 16777216 % 256, u / 65536 % 256, u / 256 % 256, u / 1 % 256] := rfl
theorem u8_num {l : List Int} (h : l.length = 8) (hb : Byt l) : u8L (num l) = l := by
  match l, h with
  | [a, b, c, d, e, f, g, i], _ =>
    have h0 := hb a (by simp)
    have h1 := hb b (by simp)
    have h2 := hb c (by simp)
    have h3 := hb d (by simp)
    have h4 := hb e (by simp)
    have h5 := hb f (by simp)
    have h6 := hb g (by simp)
    have h7 := hb i (by simp)
    rw [num_eight, u8L_eq]
    simp only [List.cons.injEq, and_true]
    refine ⟨?_, ?_, ?_, ?_, ?_, ?_, ?_, ?_⟩ <;> omega
theorem num_u8L {u : Int} (h0 : 0 ≤ u) (h1 : u < 18446744073709551616) : num (u8L u) = u := by
  rw [u8L_eq, num_eight]; omega
theorem num_r8 {l : List Int} (h : l.length = 8) (hb : Byt l) : 0 ≤ num l ∧ num l < 18446744073709551616 := by
  match l, h with
  | [a, b, c, d, e, f, g, i], _ =>
    have h0 := hb a (by simp)
    have h1 := hb b (by simp)
    have h2 := hb c (by simp)
    have h3 := hb d (by simp)
    have h4 := hb e (by simp)
    have h5 := hb f (by simp)
    have h6 := hb g (by simp)
    have h7 := hb i (by simp)
    rw [num_eight]; omega
theorem num_r2 {l : List Int} (h : l.length = 2) (hb : Byt l) : 0 ≤ num l ∧ num l < 65536 := by
  match l, h with
  | [a, b], _ =>
    have h0 := hb a (by simp)
    have h1 := hb b (by simp)
    rw [num_two]; omega
end Go.Proofs.Ytggeepihkeocmaa
/- Bits of whole numbers: sums of bytes. -/
namespace Go.Proofs.Ytggeepihkeocmaa
set_option linter.unusedVariables false
set_option linter.unusedSimpArgs false
open Go.RowKit
theorem i64_or_nat (a b : Nat) (ha : a < 4611686018427387904) (hb : b < 4611686018427387904) : bits .or .i64 (a : Int) (b : Int) = ((a ||| b : Nat) : Int) := by
  have hx : a ||| b < 2 ^ 62 := Nat.or_lt_two_pow (by omega) (by omega)
  have h1 : (BitVec.ofInt 64 (a : Int)).toNat = a := by
    rw [BitVec.ofInt_natCast, BitVec.toNat_ofNat]; exact Nat.mod_eq_of_lt (by omega)
  have h2 : (BitVec.ofInt 64 (b : Int)).toNat = b := by
    rw [BitVec.ofInt_natCast, BitVec.toNat_ofNat]; exact Nat.mod_eq_of_lt (by omega)
  show IntKind.i64.wrap ((BitVec.ofInt 64 (a : Int) ||| BitVec.ofInt 64 (b : Int)).toNat : Int) = _
  rw [BitVec.toNat_or, h1, h2, IntKind.wrap_i64]
  omega
theorem or_mul (a b i m : Nat) (hm : m = 2 ^ i) (h : a < m) : b * m ||| a = b * m + a := by
  subst hm
  rw [← Nat.shiftLeft_eq, Nat.shiftLeft_add_eq_or_of_lt h]
theorem or_i64 (a b : Int) (i m : Nat) (hm : m = 2 ^ i) (h0 : 0 ≤ a) (h1 : a < m) (b0 : 0 ≤ b) (hb : b * m < 4611686018427387904) (hm9 : m < 4611686018427387904) : bits .or .i64 (b * m) a = b * m + a := by
  obtain ⟨a, rfl⟩ := Int.eq_ofNat_of_zero_le h0
  obtain ⟨b, rfl⟩ := Int.eq_ofNat_of_zero_le b0
  have e : ((b : Int) * (m : Int)) = ((b * m : Nat) : Int) := by simp
  have hbm : b * m < 4611686018427387904 := by omega
  rw [e, i64_or_nat (b * m) a hbm (by omega), or_mul a b i m hm (by omega)]; omega
/-- Three bytes of a number. -/
theorem be24 {a b c : Int} (a0 : 0 ≤ a) (a1 : a ≤ 255) (b0 : 0 ≤ b) (b1 : b ≤ 255) (c0 : 0 ≤ c) (c1 : c ≤ 255) : bits .or .i64 (bits .or .i64 (a * 65536) (b * 256)) c = a * 65536 + b * 256 + c := by
  have h1 := or_i64 (b * 256) a 16 65536 (by decide) (by omega) (by omega) a0 (by omega) (by omega)
  have h2 := or_i64 c (a * 256 + b) 8 256 (by decide) c0 (by omega) (by omega) (by omega) (by omega)
  rw [show a * 65536 = a * ((65536 : Nat) : Int) from rfl, h1]
  rw [show (a * 256 + b) * ((256 : Nat) : Int) = a * ((65536 : Nat) : Int) + b * 256 by omega] at h2
  exact h2
/-- Two bytes of a number. -/
theorem be16 {a b : Int} (a0 : 0 ≤ a) (a1 : a ≤ 255) (b0 : 0 ≤ b) (b1 : b ≤ 255) : bits .or .i64 (a * 256) b = a * 256 + b := by
  have h1 := or_i64 b a 8 256 (by decide) b0 (by omega) a0 (by omega) (by omega)
  exact h1
end Go.Proofs.Ytggeepihkeocmaa
/- octet.ReadUint by its contract. -/
namespace Go.Proofs.Ytggeepihkeocmaa
set_option linter.unusedVariables false
set_option linter.unusedSimpArgs false
open Go.RowKit
theorem or_u64 (a b : Int) (h0 : 0 ≤ a) (h1 : a ≤ 255) (b0 : 0 ≤ b) (hb : b < 72057594037927936) : bits .or .u64 (b * 256) a = b * 256 + a := by
  obtain ⟨a, rfl⟩ := Int.eq_ofNat_of_zero_le h0
  obtain ⟨b, rfl⟩ := Int.eq_ofNat_of_zero_le b0
  have e : ((b : Int) * 256) = ((b * 256 : Nat) : Int) := by simp
  have hx : (b * 256) ||| a < 2 ^ 64 := Nat.or_lt_two_pow (by omega) (by omega)
  have h1 : (BitVec.ofInt 64 ((b * 256 : Nat) : Int)).toNat = b * 256 := by
    rw [BitVec.ofInt_natCast, BitVec.toNat_ofNat]; exact Nat.mod_eq_of_lt (by omega)
  have h2 : (BitVec.ofInt 64 (a : Int)).toNat = a := by
    rw [BitVec.ofInt_natCast, BitVec.toNat_ofNat]; exact Nat.mod_eq_of_lt (by omega)
  rw [e]
  show IntKind.u64.wrap ((BitVec.ofInt 64 ((b * 256 : Nat) : Int) ||| BitVec.ofInt 64 (a : Int)).toNat : Int) = _
  rw [BitVec.toNat_or, h1, h2, or_mul a b 8 256 (by decide) (by omega)]
  rw [IntKind.wrap_u64]
  omega
theorem num_take (l : List Int) (k : Nat) (h : k < l.length) : num (l.take (k + 1)) = num (l.take k) * 256 + l.getD k 0 := by
  rw [List.take_succ_eq_append_getElem h, num_snoc]
  simp [h]
theorem num_small : ∀ (l : List Int) (k : Nat), Byt l → k ≤ 7 → 0 ≤ num (l.take k) ∧ num (l.take k) < 72057594037927936 := by
  have gen : ∀ (k : Nat) (l : List Int), Byt l → 0 ≤ num (l.take k) ∧ num (l.take k) < 256 ^ k := by
    intro k
    induction k with
    | zero => intro l _; simp [num]
    | succ k ih =>
      intro l hb
      have h1 := ih l hb
      rw [Int.pow_succ]
      rcases Nat.lt_or_ge k l.length with h | h
      · rw [num_take l k h]
        have := hb.getD k
        omega
      · rw [List.take_of_length_le (by omega)]
        rw [List.take_of_length_le h] at h1
        omega
  intro l k hb hk
  have h1 := gen k l hb
  have h2 : k = 0 ∨ k = 1 ∨ k = 2 ∨ k = 3 ∨ k = 4 ∨ k = 5 ∨ k = 6 ∨ k = 7 := by omega
  rcases h2 with rfl | rfl | rfl | rfl | rfl | rfl | rfl | rfl <;> exact ⟨h1.1, Int.lt_of_lt_of_le h1.2 (by decide)⟩
theorem drop_getD (l : List Int) (i k : Nat) : (l.drop i).getD k 0 = l.getD (i + k) 0 := by simp [List.getD_eq_getElem?_getD]
set_option maxRecDepth 100000 in
set_option maxHeartbeats 1000000 in
theorem readuint_calls {lo hi n : Nat} (i c : Nat) {A : Option Addr} {l : List Int} (w : World) (h : BsR w lo hi A n l) (hi8 : i + 8 ≤ n) (hnc : n ≤ c) (hn : n ≤ 140737488355328) :
    Calls Try.prog 65 #[.slice A n c, .int .i64 i] w fun e w' => e = .returned (.tuple #[.int .u64 (num ((l.drop i).take 8)), .int .i64 ((i : Int) + 8), .int .i64 0]) ∧ w = w' := by
  obtain ⟨gb, go', rfl, -, -, hc⟩ := h.2.2 (by omega)
  have hby := Lib.hid h.2.1
  have hln := Lib.hid h.1
  have hlen : (l.drop i).length = n - i := by rw [List.length_drop, h.1]
  have i1 : (0 : Int) ≤ i := by omega
  have i2 : (i : Int) + 8 ≤ n := by omega
  have i3 : (n : Int) ≤ 140737488355328 := by omega
  have i4 : (n : Int) ≤ c := by omega
  have hlen' := Lib.hid hlen
  clear h hlen
  go_enter Try.func65, Try.ntmps65
  go_upto_region 7 with (fail)
  go_loop [7, 29] (fun v7 v29 => ∃ k : Nat, k ≤ 8 ∧ v29 = .int .i64 k ∧ v7 = .int .u64 (num ((l.drop i).take k))) (fun _ v29 => 8 - (intOf v29).toNat)
  case atStart => exact ⟨0, by omega, rfl, rfl⟩
  case round =>
    obtain ⟨k, hk, rfl, rfl⟩ := hrel
    by_cases hlt : k < 8
    · have hs := num_small (l.drop i) k (hby.out.drop i) (by omega)
      have hsn := Lib.hid (num_take (l.drop i) k (by rw [hlen'.out]; omega))
      have hcell := hc (i + k) (by omega)
      have hb := hby.out.getD (i + k)
      rw [drop_getD] at hsn
      unfold bsF at hcell
      rw [← Nat.add_assoc] at hcell
      generalize l.getD (i + k) 0 = x at *
      generalize num ((l.drop i).take k) = u at *
      have hor := or_u64 x u hb.1 hb.2 hs.1 hs.2
      have k0 : (0 : Int) ≤ k := by omega
      have k8 : (k : Int) < 8 := by omega
      go_wp2
      go_round
      case rel => exact ⟨k + 1, by omega, by go_num, by rw [hsn.out]⟩
      case measure => simp [intOf]; omega
    · obtain rfl : k = 8 := by omega
      go_wp2
      go_ret3
      exact ⟨by first | rfl | simp, rfl⟩
end Go.Proofs.Ytggeepihkeocmaa
