/- RolesWords: the walks of roles.Word, roles.Parse and the law. -/
import Derived.Test.YtbpdjcjhdjkinaaMayLaw
import Derived.Deep.LoopGhost
namespace Go.Proofs.Ytbpdjcjhdjkinaa
open Go.RowKit
theorem word_calls (r : Int) (h0 : 0 ≤ r) (w : World) : Calls Try.prog 22 #[.int .u8 r] w fun e w' => e = .returned (.string (wordS r)) ∧ Below w.heap.size w w' := by
  have h4 : r = 0 ∨ r = 1 ∨ r = 2 ∨ r = 3 ∨ 3 < r := by omega
  rcases h4 with rfl | rfl | rfl | rfl | h4
  · have ix : ∀ w, (Instr.index 51 (.agg #[.string ⟨#[]⟩, .string ⟨#[117, 115, 101, 114]⟩, .string ⟨#[99, 108, 101, 114, 107]⟩, .string ⟨#[97, 100, 109, 105, 110]⟩]) (.int .u8 0)).run Try.prog w = .ok (.string ⟨#[]⟩) w := fun _ => by kernel_rfl
    go_enter Try.func22, Try.ntmps22
    go_wp2
    go_ret
    exact ⟨rfl, Below.refl _ _⟩
  · have ix : ∀ w, (Instr.index 51 (.agg #[.string ⟨#[]⟩, .string ⟨#[117, 115, 101, 114]⟩, .string ⟨#[99, 108, 101, 114, 107]⟩, .string ⟨#[97, 100, 109, 105, 110]⟩]) (.int .u8 1)).run Try.prog w = .ok (.string ⟨#[117, 115, 101, 114]⟩) w := fun _ => by kernel_rfl
    go_enter Try.func22, Try.ntmps22
    go_wp2
    go_ret
    exact ⟨rfl, Below.refl _ _⟩
  · have ix : ∀ w, (Instr.index 51 (.agg #[.string ⟨#[]⟩, .string ⟨#[117, 115, 101, 114]⟩, .string ⟨#[99, 108, 101, 114, 107]⟩, .string ⟨#[97, 100, 109, 105, 110]⟩]) (.int .u8 2)).run Try.prog w = .ok (.string ⟨#[99, 108, 101, 114, 107]⟩) w := fun _ => by kernel_rfl
    go_enter Try.func22, Try.ntmps22
    go_wp2
    go_ret
    exact ⟨rfl, Below.refl _ _⟩
  · have ix : ∀ w, (Instr.index 51 (.agg #[.string ⟨#[]⟩, .string ⟨#[117, 115, 101, 114]⟩, .string ⟨#[99, 108, 101, 114, 107]⟩, .string ⟨#[97, 100, 109, 105, 110]⟩]) (.int .u8 3)).run Try.prog w = .ok (.string ⟨#[97, 100, 109, 105, 110]⟩) w := fun _ => by kernel_rfl
    go_enter Try.func22, Try.ntmps22
    go_wp2
    go_ret
    exact ⟨rfl, Below.refl _ _⟩
  · have hw : wordS r = ⟨#[]⟩ := by unfold wordS wordB; rw [if_neg (by omega), if_neg (by omega), if_neg (by omega)]
    rw [hw]
    clear hw
    go_enter Try.func22, Try.ntmps22
    go_wp2
    go_ret
    exact ⟨rfl, Below.refl _ _⟩
theorem rword_at (r : Int) (s : ByteArray) (h : wordS r = s) (w : World) : Calls Try.prog 23 #[.int .u8 r] w fun e w' => e = .returned (.string s) ∧ Below w.heap.size w w' := h ▸ rword_calls r w
theorem parse_1 (s : ByteArray) (e1 : (s.toList == [117, 115, 101, 114]) = true) (w : World) : Calls Try.prog 24 #[.string s] w fun e w' => e = .returned (.tuple #[.int .u8 1, .int .i64 0]) ∧ Below w.heap.size w w' := by
  go_enter Try.func24, Try.ntmps24
  go_wp2
  go_ret2
  exact ⟨rfl, Below.refl _ _⟩
theorem parse_2 (s : ByteArray) (e1 : (s.toList == [117, 115, 101, 114]) = false) (e2 : (s.toList == [99, 108, 101, 114, 107]) = true) (w : World) : Calls Try.prog 24 #[.string s] w fun e w' => e = .returned (.tuple #[.int .u8 2, .int .i64 0]) ∧ Below w.heap.size w w' := by
  go_enter Try.func24, Try.ntmps24
  go_wp2
  go_ret2
  exact ⟨rfl, Below.refl _ _⟩
theorem parse_3 (s : ByteArray) (e1 : (s.toList == [117, 115, 101, 114]) = false) (e2 : (s.toList == [99, 108, 101, 114, 107]) = false) (e3 : (s.toList == [97, 100, 109, 105, 110]) = true) (w : World) : Calls Try.prog 24 #[.string s] w fun e w' => e = .returned (.tuple #[.int .u8 3, .int .i64 0]) ∧ Below w.heap.size w w' := by
  go_enter Try.func24, Try.ntmps24
  go_wp2
  go_ret2
  exact ⟨rfl, Below.refl _ _⟩
theorem parse_4 (s : ByteArray) (e1 : (s.toList == [117, 115, 101, 114]) = false) (e2 : (s.toList == [99, 108, 101, 114, 107]) = false) (e3 : (s.toList == [97, 100, 109, 105, 110]) = false) (w : World) : Calls Try.prog 24 #[.string s] w fun e w' => e = .returned (.tuple #[.int .u8 0, .int .i64 4]) ∧ Below w.heap.size w w' := by
  go_enter Try.func24, Try.ntmps24
  go_wp2
  go_ret2
  exact ⟨rfl, Below.refl _ _⟩
set_option maxHeartbeats 1000000 in
theorem words_1 (r : Int) (h0 : 0 ≤ r) (s : ByteArray) (e1 : (s.toList == [117, 115, 101, 114]) = true) (w : World) :
    Calls Try.prog 11 #[.int .u8 r, .string s] w fun e w' => e = .returned (.bool true) ∧ Below w.heap.size w w' := by
  have f1 : ([117, 115, 101, 114] == s.toList) = true := by rw [BEq.comm]; exact e1
  have E1 := Lib.hid e1
  clear e1
  go_enter Try.func11, Try.ntmps11
  go_wp2_with fail
  refine (mawake_calls _).mono ?_
  rintro e w1 ⟨rfl, hb1⟩
  go_wp2_with fail
  refine (word_calls r h0 _).mono ?_
  rintro e w2 ⟨rfl, hb2⟩
  go_wp2_with fail
  refine (rword_calls r _).mono ?_
  rintro e w3 ⟨rfl, hb3⟩
  have hB := below_keep hb3 (below_keep hb2 hb1)
  clear hb1 hb2 hb3
  go_wp2_with fail
  refine (parse_1 s E1.out _).mono ?_
  rintro e w4 ⟨rfl, hb4⟩
  have hB1 := below_keep hb4 hB
  clear hb4 hB
  go_wp2
  go_loopw [7] (fun v7 wr => ∃ k : Nat, 1 ≤ k ∧ k ≤ 1 ∧ v7 = .int .i64 k ∧ Below w.heap.size w wr) (fun v7 _ => 5 - (intOf v7).toNat)
  case atStart => exact ⟨1, by omega, by omega, rfl, hB1⟩
  case round =>
    clear hB1
    obtain ⟨k, k1, k2, rfl, hB⟩ := hrel
    have hk : k = 1 := by omega
    rcases hk with rfl
    · go_wp2_with fail
      refine (rword_at 1 ⟨#[117, 115, 101, 114]⟩ rfl _).mono ?_
      rintro e w5 ⟨rfl, hb5⟩
      have hB2 := below_keep hb5 hB
      go_wp2
      go_ret
      exact ⟨by first | rfl | simp, hB2⟩
set_option maxHeartbeats 1000000 in
theorem words_2 (r : Int) (h0 : 0 ≤ r) (s : ByteArray) (e1 : (s.toList == [117, 115, 101, 114]) = false) (e2 : (s.toList == [99, 108, 101, 114, 107]) = true) (w : World) :
    Calls Try.prog 11 #[.int .u8 r, .string s] w fun e w' => e = .returned (.bool true) ∧ Below w.heap.size w w' := by
  have f1 : ([117, 115, 101, 114] == s.toList) = false := by rw [BEq.comm]; exact e1
  have f2 : ([99, 108, 101, 114, 107] == s.toList) = true := by rw [BEq.comm]; exact e2
  have E1 := Lib.hid e1
  have E2 := Lib.hid e2
  clear e1 e2
  go_enter Try.func11, Try.ntmps11
  go_wp2_with fail
  refine (mawake_calls _).mono ?_
  rintro e w1 ⟨rfl, hb1⟩
  go_wp2_with fail
  refine (word_calls r h0 _).mono ?_
  rintro e w2 ⟨rfl, hb2⟩
  go_wp2_with fail
  refine (rword_calls r _).mono ?_
  rintro e w3 ⟨rfl, hb3⟩
  have hB := below_keep hb3 (below_keep hb2 hb1)
  clear hb1 hb2 hb3
  go_wp2_with fail
  refine (parse_2 s E1.out E2.out _).mono ?_
  rintro e w4 ⟨rfl, hb4⟩
  have hB1 := below_keep hb4 hB
  clear hb4 hB
  go_wp2
  go_loopw [7] (fun v7 wr => ∃ k : Nat, 1 ≤ k ∧ k ≤ 2 ∧ v7 = .int .i64 k ∧ Below w.heap.size w wr) (fun v7 _ => 5 - (intOf v7).toNat)
  case atStart => exact ⟨1, by omega, by omega, rfl, hB1⟩
  case round =>
    clear hB1
    obtain ⟨k, k1, k2, rfl, hB⟩ := hrel
    have hk : k = 1 ∨ k = 2 := by omega
    rcases hk with rfl | rfl
    · go_wp2_with fail
      refine (rword_at 1 ⟨#[117, 115, 101, 114]⟩ rfl _).mono ?_
      rintro e w5 ⟨rfl, hb5⟩
      have hB2 := below_keep hb5 hB
      go_wp2
      go_roundw
      case rel => exact ⟨2, by omega, by omega, by first | rfl | simp, hB2⟩
      case measure => simp [intOf]
    · go_wp2_with fail
      refine (rword_at 2 ⟨#[99, 108, 101, 114, 107]⟩ rfl _).mono ?_
      rintro e w5 ⟨rfl, hb5⟩
      have hB2 := below_keep hb5 hB
      go_wp2
      go_ret
      exact ⟨by first | rfl | simp, hB2⟩
set_option maxHeartbeats 1000000 in
theorem words_3 (r : Int) (h0 : 0 ≤ r) (s : ByteArray) (e1 : (s.toList == [117, 115, 101, 114]) = false) (e2 : (s.toList == [99, 108, 101, 114, 107]) = false) (e3 : (s.toList == [97, 100, 109, 105, 110]) = true) (w : World) :
    Calls Try.prog 11 #[.int .u8 r, .string s] w fun e w' => e = .returned (.bool true) ∧ Below w.heap.size w w' := by
  have f1 : ([117, 115, 101, 114] == s.toList) = false := by rw [BEq.comm]; exact e1
  have f2 : ([99, 108, 101, 114, 107] == s.toList) = false := by rw [BEq.comm]; exact e2
  have f3 : ([97, 100, 109, 105, 110] == s.toList) = true := by rw [BEq.comm]; exact e3
  have E1 := Lib.hid e1
  have E2 := Lib.hid e2
  have E3 := Lib.hid e3
  clear e1 e2 e3
  go_enter Try.func11, Try.ntmps11
  go_wp2_with fail
  refine (mawake_calls _).mono ?_
  rintro e w1 ⟨rfl, hb1⟩
  go_wp2_with fail
  refine (word_calls r h0 _).mono ?_
  rintro e w2 ⟨rfl, hb2⟩
  go_wp2_with fail
  refine (rword_calls r _).mono ?_
  rintro e w3 ⟨rfl, hb3⟩
  have hB := below_keep hb3 (below_keep hb2 hb1)
  clear hb1 hb2 hb3
  go_wp2_with fail
  refine (parse_3 s E1.out E2.out E3.out _).mono ?_
  rintro e w4 ⟨rfl, hb4⟩
  have hB1 := below_keep hb4 hB
  clear hb4 hB
  go_wp2
  go_loopw [7] (fun v7 wr => ∃ k : Nat, 1 ≤ k ∧ k ≤ 3 ∧ v7 = .int .i64 k ∧ Below w.heap.size w wr) (fun v7 _ => 5 - (intOf v7).toNat)
  case atStart => exact ⟨1, by omega, by omega, rfl, hB1⟩
  case round =>
    clear hB1
    obtain ⟨k, k1, k2, rfl, hB⟩ := hrel
    have hk : k = 1 ∨ k = 2 ∨ k = 3 := by omega
    rcases hk with rfl | rfl | rfl
    · go_wp2_with fail
      refine (rword_at 1 ⟨#[117, 115, 101, 114]⟩ rfl _).mono ?_
      rintro e w5 ⟨rfl, hb5⟩
      have hB2 := below_keep hb5 hB
      go_wp2
      go_roundw
      case rel => exact ⟨2, by omega, by omega, by first | rfl | simp, hB2⟩
      case measure => simp [intOf]
    · go_wp2_with fail
      refine (rword_at 2 ⟨#[99, 108, 101, 114, 107]⟩ rfl _).mono ?_
      rintro e w5 ⟨rfl, hb5⟩
      have hB2 := below_keep hb5 hB
      go_wp2
      go_roundw
      case rel => exact ⟨3, by omega, by omega, by first | rfl | simp, hB2⟩
      case measure => simp [intOf]
    · go_wp2_with fail
      refine (rword_at 3 ⟨#[97, 100, 109, 105, 110]⟩ rfl _).mono ?_
      rintro e w5 ⟨rfl, hb5⟩
      have hB2 := below_keep hb5 hB
      go_wp2
      go_ret
      exact ⟨by first | rfl | simp, hB2⟩
set_option maxHeartbeats 1000000 in
theorem words_4 (r : Int) (h0 : 0 ≤ r) (s : ByteArray) (e1 : (s.toList == [117, 115, 101, 114]) = false) (e2 : (s.toList == [99, 108, 101, 114, 107]) = false) (e3 : (s.toList == [97, 100, 109, 105, 110]) = false) (w : World) :
    Calls Try.prog 11 #[.int .u8 r, .string s] w fun e w' => e = .returned (.bool true) ∧ Below w.heap.size w w' := by
  have f1 : ([117, 115, 101, 114] == s.toList) = false := by rw [BEq.comm]; exact e1
  have f2 : ([99, 108, 101, 114, 107] == s.toList) = false := by rw [BEq.comm]; exact e2
  have f3 : ([97, 100, 109, 105, 110] == s.toList) = false := by rw [BEq.comm]; exact e3
  have E1 := Lib.hid e1
  have E2 := Lib.hid e2
  have E3 := Lib.hid e3
  clear e1 e2 e3
  go_enter Try.func11, Try.ntmps11
  go_wp2_with fail
  refine (mawake_calls _).mono ?_
  rintro e w1 ⟨rfl, hb1⟩
  go_wp2_with fail
  refine (word_calls r h0 _).mono ?_
  rintro e w2 ⟨rfl, hb2⟩
  go_wp2_with fail
  refine (rword_calls r _).mono ?_
  rintro e w3 ⟨rfl, hb3⟩
  have hB := below_keep hb3 (below_keep hb2 hb1)
  clear hb1 hb2 hb3
  go_wp2_with fail
  refine (parse_4 s E1.out E2.out E3.out _).mono ?_
  rintro e w4 ⟨rfl, hb4⟩
  have hB1 := below_keep hb4 hB
  clear hb4 hB
  go_wp2
  go_loopw [7] (fun v7 wr => ∃ k : Nat, 1 ≤ k ∧ k ≤ 4 ∧ v7 = .int .i64 k ∧ Below w.heap.size w wr) (fun v7 _ => 5 - (intOf v7).toNat)
  case atStart => exact ⟨1, by omega, by omega, rfl, hB1⟩
  case round =>
    clear hB1
    obtain ⟨k, k1, k2, rfl, hB⟩ := hrel
    have hk : k = 1 ∨ k = 2 ∨ k = 3 ∨ k = 4 := by omega
    rcases hk with rfl | rfl | rfl | rfl
    · go_wp2_with fail
      refine (rword_at 1 ⟨#[117, 115, 101, 114]⟩ rfl _).mono ?_
      rintro e w5 ⟨rfl, hb5⟩
      have hB2 := below_keep hb5 hB
      go_wp2
      go_roundw
      case rel => exact ⟨2, by omega, by omega, by first | rfl | simp, hB2⟩
      case measure => simp [intOf]
    · go_wp2_with fail
      refine (rword_at 2 ⟨#[99, 108, 101, 114, 107]⟩ rfl _).mono ?_
      rintro e w5 ⟨rfl, hb5⟩
      have hB2 := below_keep hb5 hB
      go_wp2
      go_roundw
      case rel => exact ⟨3, by omega, by omega, by first | rfl | simp, hB2⟩
      case measure => simp [intOf]
    · go_wp2_with fail
      refine (rword_at 3 ⟨#[97, 100, 109, 105, 110]⟩ rfl _).mono ?_
      rintro e w5 ⟨rfl, hb5⟩
      have hB2 := below_keep hb5 hB
      go_wp2
      go_roundw
      case rel => exact ⟨4, by omega, by omega, by first | rfl | simp, hB2⟩
      case measure => simp [intOf]
    · go_wp2
      go_ret
      exact ⟨by first | rfl | simp, hB⟩
theorem words_calls (r : Int) (h0 : 0 ≤ r) (s : ByteArray) (w : World) :
    Calls Try.prog 11 #[.int .u8 r, .string s] w fun e w' => e = .returned (.bool true) ∧ Below w.heap.size w w' := by
  cases e1 : (s.toList == [117, 115, 101, 114])
  · cases e2 : (s.toList == [99, 108, 101, 114, 107])
    · cases e3 : (s.toList == [97, 100, 109, 105, 110])
      · exact words_4 r h0 s e1 e2 e3 w
      · exact words_3 r h0 s e1 e2 e3 w
    · exact words_2 r h0 s e1 e2 w
  · exact words_1 r h0 s e1 w
end Go.Proofs.Ytbpdjcjhdjkinaa
