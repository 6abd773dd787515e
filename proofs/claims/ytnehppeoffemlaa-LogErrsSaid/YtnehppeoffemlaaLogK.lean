/- The log's Format by its contract. -/
import Derived.Test.YtnehppeoffemlaaLogJ
namespace Go.Proofs.Ytnehppeoffemlaa
set_option linter.unusedVariables false
set_option linter.unusedSimpArgs false
open Go.RowKit
def fmtL (a c : Int) : Lg := ⟨a, c, 1, 480, 0, 0, 0, 0, []⟩
theorem look_facts {D : Dk} {a c : Int} (h : llookE D a c = 0) : 0 ≤ a ∧ 4 ≤ c ∧ c ≤ 4096 ∧ a ≤ D.l.length - 1 - c := by
  unfold llookE at h
  by_cases h2 : a < 0 ∨ c < 4 ∨ 4096 < c ∨ D.l.length - 1 - c < a
  · rw [if_pos h2] at h; omega
  · omega
theorem llookE_range (D : Dk) (a c : Int) : llookE D a c = 0 ∨ llookE D a c = 1 := by
  unfold llookE; by_cases h2 : a < 0 ∨ c < 4 ∨ 4096 < c ∨ D.l.length - 1 - c < a
  · rw [if_pos h2]; exact .inr rfl
  · rw [if_neg h2]; exact .inl rfl
set_option maxRecDepth 100000 in
theorem lformat_no {base d lb : Nat} {F : Nat → Prop} {D : Dk} (a c : Int) (w : World) (h : DD w base d lb F D) (hno : llookE D a c = 1) :
    Calls Try.prog 27 #[.pointer (some ⟨d, 0, none⟩), .int .i64 a, .int .i64 c] w fun e w' => e = .returned (.int .i64 1) ∧ w = w' := by
  go_enter Try.func27, Try.ntmps27
  go_wp2_with fail
  refine (llook_calls a c w h).mono ?_
  rintro e w' ⟨rfl, rfl⟩
  rw [hno]
  go_wp2
  go_ret
  exact ⟨by first | rfl | simp, rfl⟩
set_option maxRecDepth 100000 in
theorem lformat_ok {base d lb : Nat} {F : Nat → Prop} {D : Dk} (a c : Int) (i : Nat) (w : World) (h : DD w base d lb F D) (hok : llookE D a c = 0) (hi : (i : Int) = a) (h9 : D.ops + 1 < 1000000000) (hm9 : D.way.length < 1000000000) :
    Calls Try.prog 27 #[.pointer (some ⟨d, 0, none⟩), .int .i64 a, .int .i64 c] w fun e w' => e = .returned (.int .i64 (mkE D i (masterL (fmtL a c)))) ∧ (∃ F', DD w' base d lb F' (mkD D i (masterL (fmtL a c))) ∧ Grew F F' w.heap.size) ∧ Mod F w w' := by
  have hf := look_facts hok
  have hl := h.ok.len
  have hbw : base ≤ w.heap.size := by have := h.lts d h.d; omega
  go_enter Try.func27, Try.ntmps27
  go_wp2_with fail
  refine (llook_calls a c w h).mono ?_
  rintro e w' ⟨rfl, rfl⟩
  rw [hok]
  go_wp2_with fail
  have hb1 := below_new w (.cells #[.pointer (some ⟨d, 0, none⟩), .int .i64 a, .int .i64 c, .int .u64 1, .int .u64 480, .int .u64 0, .int .u64 0, .int .i64 0, .int .u64 0, .slice none 0 0] 95)
  have k1 : LgW (w.alloc (.cells #[.pointer (some ⟨d, 0, none⟩), .int .i64 a, .int .i64 c, .int .u64 1, .int .u64 480, .int .u64 0, .int .u64 0, .int .i64 0, .int .u64 0, .slice none 0 0] 95)) base d w.heap.size none 0 (fmtL a c) :=
    ⟨At.new w _ _, hbw, by show 0 ≤ a ∧ a ≤ 4096; omega, by show 4 ≤ c ∧ c ≤ 4096; omega, by show (0 : Int) ≤ 1 ∧ (1 : Int) < 18446744073709551616; omega, by show (0 : Int) ≤ 480 ∧ (480 : Int) < 18446744073709551616; omega, by show (0 : Int) ≤ 0 ∧ (0 : Int) < 18446744073709551616; omega⟩
  generalize (w.alloc (.cells #[.pointer (some ⟨d, 0, none⟩), .int .i64 a, .int .i64 c, .int .u64 1, .int .u64 480, .int .u64 0, .int .u64 0, .int .i64 0, .int .u64 0, .slice none 0 0] 95)) = w1 at *
  refine (lmark_w i w1 k1 (h.later hb1) hi (by omega) h9 hm9).mono ?_
  rintro e w2 ⟨rfl, ⟨F2, hD2, hg2⟩, hm2⟩
  go_wp2
  go_ret
  exact ⟨by first | rfl | simp, ⟨F2, hD2, fun b hb => (hg2 b hb).imp id (fun h => Nat.le_trans hb1.size h)⟩, (Mod.of_below hb1).trans hm2 (fun _ _ h => h)⟩
end Go.Proofs.Ytnehppeoffemlaa
