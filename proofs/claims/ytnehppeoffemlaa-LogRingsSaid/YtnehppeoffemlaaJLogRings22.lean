/- Joined texts: LogJ, LogK. -/
import Derived.Test.YtnehppeoffemlaaJLogRings21
/- The log's mark and look by their contracts. -/
namespace Go.Proofs.Ytnehppeoffemlaa
set_option linter.unusedVariables false
set_option linter.unusedSimpArgs false
open Go.RowKit
/-- What mark leaves of the disk, and its answer. -/
def mkD (D : Dk) (i : Nat) (p : List Int) : Dk := if wr1E D = 0 then sy1 (wr1 D i p) else wr1 D i p
def mkE (D : Dk) (i : Nat) (p : List Int) : Int := if wr1E D = 0 then sy1E (wr1 D i p) else wr1E D
theorem wr1_len (D : Dk) (i : Nat) (p : List Int) : (wr1 D i p).l.length = D.l.length := by
  unfold wr1; by_cases h : D.off = true
  · rw [if_pos h]
  · rw [if_neg h]; rfl
theorem wr1_ops (D : Dk) (i : Nat) (p : List Int) : (wr1 D i p).ops ≤ D.ops + 1 := by
  unfold wr1; by_cases h : D.off = true
  · rw [if_pos h]; omega
  · rw [if_neg h]; show D.ops + 1 ≤ _; omega
theorem wr1E_range (D : Dk) : wr1E D = 0 ∨ wr1E D = 8 := by
  unfold wr1E wrE; by_cases h : D.off = true
  · rw [if_pos h]; exact .inr rfl
  · rw [if_neg h]; by_cases h2 : (opD D).off = true
    · rw [if_pos h2]; exact .inr rfl
    · rw [if_neg h2]; exact .inl rfl
theorem sy1E_range (D : Dk) : sy1E D = 0 ∨ sy1E D = 8 := by
  unfold sy1E; by_cases h : D.off = true
  · rw [if_pos h]; exact .inr rfl
  · rw [if_neg h]; by_cases h2 : (opD D).off = true
    · rw [if_pos h2]; exact .inr rfl
    · rw [if_neg h2]; exact .inl rfl
set_option maxRecDepth 100000 in
set_option maxHeartbeats 4000000 in
theorem lmark_w {base d lb g bc : Nat} {F : Nat → Prop} {bA : Option Addr} {L : Lg} {D : Dk} (i : Nat) (w : World) (hL : LgW w base d g bA bc L) (hD : DD w base d lb F D) (hi : (i : Int) = L.pos) (hil : i < D.l.length) (h9 : D.ops + 1 < 1000000000) (hm9 : D.way.length < 1000000000) :
    Calls Try.prog 62 #[.pointer (some ⟨g, 0, none⟩)] w fun e w' => e = .returned (.int .i64 (mkE D i (masterL L))) ∧ (∃ F', DD w' base d lb F' (mkD D i (masterL L)) ∧ Grew F F' w.heap.size) ∧ Mod F w w' := by
  have hLx := Lib.hid hL
  have k0 := hL.at_
  have hep := hL.epoch
  have hst := hL.start
  have hck := hL.check
  have d0 : Below w.heap.size w w.drew := below_dr (Below.refl _ _)
  obtain ⟨E, hE⟩ : ∃ E, mkE D i (masterL L) = E := ⟨_, rfl⟩
  obtain ⟨Dm, hDm⟩ : ∃ Dm, mkD D i (masterL L) = Dm := ⟨_, rfl⟩
  rw [hE, hDm]
  go_enter Try.func62, Try.ntmps62
  go_upto_region 1 with (fail)
  have f0 := (At.keep d0 k0).c
  refine wp_region_held_drew (S := fun w' => (∀ o, w'.cell? ⟨g, o, none⟩ = #[.pointer (some ⟨d, 0, none⟩), .int .i64 L.pos, .int .i64 L.count, .int .u64 L.epoch, .int .u64 L.start, .int .u64 L.check, .int .u64 L.sure, .int .i64 L.held, .int .u64 L.base, .slice bA L.buf.length bc][o]?)) (by kernel_rfl) f0 (fun hHeld => ?_)
  (refine wpAnyH_takeL (i := 0) (v := ?_) rfl (by kernel_rfl) (by kernel_rfl) (by kernel_rfl) (fun _ _ _ h => h) (by rfl) hHeld ?_ ?_; rotate_left; (focus (intro w hSw; (try dsimp only at hSw); go_simp; (try with_reducible rfl); done)); (try simp only [Act.put, List.setIfInBounds_toArray, List.set_cons_zero, List.set_cons_succ]))
  (refine wpAnyH_takeL (i := 1) (v := ?_) rfl (by kernel_rfl) (by kernel_rfl) (by kernel_rfl) (fun _ _ _ h => h) (by rfl) hHeld ?_ ?_; rotate_left; (focus (intro w hSw; (try dsimp only at hSw); go_simp; (try with_reducible rfl); done)); (try simp only [Act.put, List.setIfInBounds_toArray, List.set_cons_zero, List.set_cons_succ]))
  (refine wpAnyH_takeL (i := 2) (v := ?_) rfl (by kernel_rfl) (by kernel_rfl) (by kernel_rfl) (fun _ _ _ h => h) (by rfl) hHeld ?_ ?_; rotate_left; (focus (intro w hSw; (try dsimp only at hSw); go_simp; (try with_reducible rfl); done)); (try simp only [Act.put, List.setIfInBounds_toArray, List.set_cons_zero, List.set_cons_succ]))
  (refine wpAnyH_takeL (i := 3) (v := ?_) rfl (by kernel_rfl) (by kernel_rfl) (by kernel_rfl) (fun _ _ _ h => h) (by rfl) hHeld ?_ ?_; rotate_left; (focus (intro w hSw; (try dsimp only at hSw); go_simp; (try with_reducible rfl); done)); (try simp only [Act.put, List.setIfInBounds_toArray, List.set_cons_zero, List.set_cons_succ]))
  (refine wpAnyH_takeL (i := 4) (v := ?_) rfl (by kernel_rfl) (by kernel_rfl) (by kernel_rfl) (fun _ _ _ h => h) (by rfl) hHeld ?_ ?_; rotate_left; (focus (intro w hSw; (try dsimp only at hSw); go_simp; (try with_reducible rfl); done)); (try simp only [Act.put, List.setIfInBounds_toArray, List.set_cons_zero, List.set_cons_succ]))
  (refine wpAnyH_takeL (i := 5) (v := ?_) rfl (by kernel_rfl) (by kernel_rfl) (by kernel_rfl) (fun _ _ _ h => h) (by rfl) hHeld ?_ ?_; rotate_left; (focus (intro w hSw; (try dsimp only at hSw); go_simp; (try with_reducible rfl); done)); (try simp only [Act.put, List.setIfInBounds_toArray, List.set_cons_zero, List.set_cons_succ]))
  (refine wpAnyH_takeL (i := 6) (v := ?_) rfl (by kernel_rfl) (by kernel_rfl) (by kernel_rfl) (fun _ _ _ h => h) (by rfl) hHeld ?_ ?_; rotate_left; (focus (intro w hSw; (try dsimp only at hSw); go_simp; (try with_reducible rfl); done)); (try simp only [Act.put, List.setIfInBounds_toArray, List.set_cons_zero, List.set_cons_succ]))
  (refine wpAnyH_takeL (i := 7) (v := ?_) rfl (by kernel_rfl) (by kernel_rfl) (by kernel_rfl) (fun _ _ _ h => h) (by rfl) hHeld ?_ ?_; rotate_left; (focus (intro w hSw; (try dsimp only at hSw); go_simp; (try with_reducible rfl); done)); (try simp only [Act.put, List.setIfInBounds_toArray, List.set_cons_zero, List.set_cons_succ]))
  (refine wpAnyH_takeL (i := 8) (v := ?_) rfl (by kernel_rfl) (by kernel_rfl) (by kernel_rfl) (fun _ _ _ h => h) (by rfl) hHeld ?_ ?_; rotate_left; (focus (intro w hSw; (try dsimp only at hSw); go_simp; (try with_reducible rfl); done)); (try simp only [Act.put, List.setIfInBounds_toArray, List.set_cons_zero, List.set_cons_succ]))
  (refine wpAnyH_callL (i := 9) rfl (by kernel_rfl) (by rfl) (fun K hK => ?_); go_simp)
  go_at_call 82
  refine (lmaster_calls w.drew (At.keep d0 k0) hep hst hck).mono ?_
  rintro e w1 ⟨A, c, rfl, ho1, hb1⟩
  have hB1 : Below w.heap.size w w1 := below_keep hb1 d0
  have f1 := (At.below k0 hB1 k0.lt).c
  clear hHeld
  refine hK.out _ _ f1 (fun hHeld => ?_)
  (clear hK K; (try simp only [Act.put, List.setIfInBounds_toArray, List.set_cons_zero, List.set_cons_succ]))
  (refine wpAnyH_callL (i := 10) rfl (by kernel_rfl) (by rfl) (fun K hK => ?_); go_simp)
  rw [← hi]
  have hD1 := hD.later hB1
  go_at_call 28
  refine (wr_dd i w1 hD1 hil (by omega) hm9 ho1).mono ?_
  rintro e w2 ⟨rfl, ⟨F2, hD2, hg2⟩, hm2⟩
  have k2 := (LgW.mod (hLx.out.later hB1) hm2 ((hLx.out.later hB1).noF hD1)).at_
  have f2 := k2.c
  clear hHeld
  refine hK.out _ _ f2 (fun hHeld => ?_)
  (clear hK K; (try simp only [Act.put, List.setIfInBounds_toArray, List.set_cons_zero, List.set_cons_succ]))
  (refine wpAnyH_takeL (i := 11) (v := ?_) rfl (by kernel_rfl) (by kernel_rfl) (by kernel_rfl) (fun _ _ _ h => h) (by rfl) hHeld ?_ ?_; rotate_left; (focus (intro w hSw; (try dsimp only at hSw); go_simp; (try with_reducible rfl); done)); (try simp only [Act.put, List.setIfInBounds_toArray, List.set_cons_zero, List.set_cons_succ]))
  (refine wpAnyH_done (by kernel_rfl) ?_ _)
  have hm : Mod F w w2 := (Mod.of_below hB1).trans hm2 (fun _ _ h => h)
  have hg : Grew F F2 w.heap.size := fun b hb => (hg2 b hb).imp id (fun h => Nat.le_trans hB1.size h)
  clear hHeld f0 f1 f2 k0 hB1 hD1 hm2 hg2 ho1 hb1
  rcases wr1E_range D with he | he
  · have e1 : mkE D i (masterL L) = sy1E (wr1 D i (masterL L)) := if_pos he
    have e2 : mkD D i (masterL L) = sy1 (wr1 D i (masterL L)) := if_pos he
    rw [he]
    have k2c := k2.c; have k2f := k2.f; have k2l := k2.lt
    go_wp2_with fail
    refine (sy_dd w2 hD2 (by have := wr1_ops D i (masterL L); omega)).mono ?_
    rintro e w3 ⟨rfl, ⟨F3, hD3, hg3⟩, hm3⟩
    go_wp2
    go_ret
    rw [← hE, ← hDm, e1, e2]
    exact ⟨by first | rfl | simp, ⟨F3, hD3, hg.trans hg3 hm.size⟩, hm.trans hm3 (fun k hk h => (hg k h).elim id (fun h => by omega))⟩
  · have hne : ¬ (wr1E D = 0) := by omega
    have e1 : mkE D i (masterL L) = wr1E D := if_neg hne
    have e2 : mkD D i (masterL L) = wr1 D i (masterL L) := if_neg hne
    rw [he]
    go_wp2
    go_ret
    rw [← hE, ← hDm, e1, e2, he]
    exact ⟨by first | rfl | simp, ⟨F2, hD2, hg⟩, hm⟩
def llookE (D : Dk) (at_ count : Int) : Int := if at_ < 0 ∨ count < 4 ∨ 4096 < count ∨ D.l.length - 1 - count < at_ then 1 else 0
set_option maxRecDepth 100000 in
set_option maxHeartbeats 4000000 in
theorem llook_calls {base d lb : Nat} {F : Nat → Prop} {D : Dk} (a c : Int) (w : World) (h : DD w base d lb F D) :
    Calls Try.prog 64 #[.pointer (some ⟨d, 0, none⟩), .int .i64 a, .int .i64 c] w fun e w' => e = .returned (.int .i64 (llookE D a c)) ∧ w = w' := by
  obtain ⟨pA, mc, h1, h2⟩ := h
  have hl := h1.k.ok.len
  have hlen := fun w => len_calls (w := w) (D := D) (d := d) (lb := lb) (pA := pA) (m := D.way.length) (mc := mc)
  have h1x := Lib.hid h1.k
  clear h1 h2
  rcases Bool.eq_false_or_eq_true (decide (a < 0)) with c1 | c1
  · have e1 : llookE D a c = 1 := if_pos (.inl (by simpa using c1))
    rw [e1]
    go_enter Try.func64, Try.ntmps64
    go_wp2_with fail
    go_ret
    exact ⟨by first | rfl | simp, rfl⟩
  rcases Bool.eq_false_or_eq_true (decide (c < 4)) with c2 | c2
  · have e1 : llookE D a c = 1 := if_pos (.inr (.inl (by simpa using c2)))
    rw [e1]
    go_enter Try.func64, Try.ntmps64
    go_wp2_with fail
    go_ret
    exact ⟨by first | rfl | simp, rfl⟩
  rcases Bool.eq_false_or_eq_true (decide (4096 < c)) with c3 | c3
  · have e1 : llookE D a c = 1 := if_pos (.inr (.inr (.inl (by simpa using c3))))
    rw [e1]
    go_enter Try.func64, Try.ntmps64
    go_wp2_with fail
    go_ret
    exact ⟨by first | rfl | simp, rfl⟩
  have b1 : 0 ≤ a := by simpa using c1
  have b2 : 4 ≤ c := by simpa using c2
  have b3 : c ≤ 4096 := by simpa using c3
  have q1 : IntKind.i64.wrap ((D.l.length : Int) - 1) = D.l.length - 1 := IntWalk.i64_in _ (by omega)
  have q2 : IntKind.i64.wrap ((D.l.length : Int) - 1 - c) = D.l.length - 1 - c := IntWalk.i64_in _ (by omega)
  rcases Bool.eq_false_or_eq_true (decide ((D.l.length : Int) - 1 - c < a)) with c4 | c4
  · have e1 : llookE D a c = 1 := if_pos (.inr (.inr (.inr (by simpa using c4))))
    rw [e1]
    go_enter Try.func64, Try.ntmps64
    go_wp2_with fail
    refine (hlen w h1x.out).mono ?_
    rintro e w' ⟨rfl, rfl⟩
    go_wp2_with fail
    go_ret
    exact ⟨by first | rfl | simp, rfl⟩
  · have e1 : llookE D a c = 0 := if_neg (by simp at c4; omega)
    rw [e1]
    go_enter Try.func64, Try.ntmps64
    go_wp2_with fail
    refine (hlen w h1x.out).mono ?_
    rintro e w' ⟨rfl, rfl⟩
    go_wp2_with fail
    go_ret
    exact ⟨by first | rfl | simp, rfl⟩
end Go.Proofs.Ytnehppeoffemlaa
/- The log's Format by its contract. -/
namespace Go.Proofs.Ytnehppeoffemlaa
set_option linter.unusedVariables false
set_option linter.unusedSimpArgs false
open Go.RowKit
def fmtL (a c : Int) : Lg := ⟨a, c, 1, 480, 0, 0, 0, 0, []⟩
theorem look_facts {D : Dk} {a c : Int} (h : llookE D a c = 0) : 0 ≤ a ∧ 4 ≤ c ∧ c ≤ 4096 ∧ a ≤ D.l.length - 1 - c := by
  unfold llookE at h
  by_cases h2 : a < 0 ∨ c < 4 ∨ 4096 < c ∨ D.l.length - 1 - c < a
  · rw [if_pos h2] at h; omega
  · omega
theorem llookE_range (D : Dk) (a c : Int) : llookE D a c = 0 ∨ llookE D a c = 1 := by
  unfold llookE; by_cases h2 : a < 0 ∨ c < 4 ∨ 4096 < c ∨ D.l.length - 1 - c < a
  · rw [if_pos h2]; exact .inr rfl
  · rw [if_neg h2]; exact .inl rfl
set_option maxRecDepth 100000 in
theorem lformat_no {base d lb : Nat} {F : Nat → Prop} {D : Dk} (a c : Int) (w : World) (h : DD w base d lb F D) (hno : llookE D a c = 1) :
    Calls Try.prog 27 #[.pointer (some ⟨d, 0, none⟩), .int .i64 a, .int .i64 c] w fun e w' => e = .returned (.int .i64 1) ∧ w = w' := by
  go_enter Try.func27, Try.ntmps27
  go_wp2_with fail
  refine (llook_calls a c w h).mono ?_
  rintro e w' ⟨rfl, rfl⟩
  rw [hno]
  go_wp2
  go_ret
  exact ⟨by first | rfl | simp, rfl⟩
set_option maxRecDepth 100000 in
theorem lformat_ok {base d lb : Nat} {F : Nat → Prop} {D : Dk} (a c : Int) (i : Nat) (w : World) (h : DD w base d lb F D) (hok : llookE D a c = 0) (hi : (i : Int) = a) (h9 : D.ops + 1 < 1000000000) (hm9 : D.way.length < 1000000000) :
    Calls Try.prog 27 #[.pointer (some ⟨d, 0, none⟩), .int .i64 a, .int .i64 c] w fun e w' => e = .returned (.int .i64 (mkE D i (masterL (fmtL a c)))) ∧ (∃ F', DD w' base d lb F' (mkD D i (masterL (fmtL a c))) ∧ Grew F F' w.heap.size) ∧ Mod F w w' := by
  have hf := look_facts hok
  have hl := h.ok.len
  have hbw : base ≤ w.heap.size := by have := h.lts d h.d; omega
  go_enter Try.func27, Try.ntmps27
  go_wp2_with fail
  refine (llook_calls a c w h).mono ?_
  rintro e w' ⟨rfl, rfl⟩
  rw [hok]
  go_wp2_with fail
  have hb1 := below_new w (.cells #[.pointer (some ⟨d, 0, none⟩), .int .i64 a, .int .i64 c, .int .u64 1, .int .u64 480, .int .u64 0, .int .u64 0, .int .i64 0, .int .u64 0, .slice none 0 0] 95)
  have k1 : LgW (w.alloc (.cells #[.pointer (some ⟨d, 0, none⟩), .int .i64 a, .int .i64 c, .int .u64 1, .int .u64 480, .int .u64 0, .int .u64 0, .int .i64 0, .int .u64 0, .slice none 0 0] 95)) base d w.heap.size none 0 (fmtL a c) :=
    ⟨At.new w _ _, hbw, by show 0 ≤ a ∧ a ≤ 4096; omega, by show 4 ≤ c ∧ c ≤ 4096; omega, by show (0 : Int) ≤ 1 ∧ (1 : Int) < 18446744073709551616; omega, by show (0 : Int) ≤ 480 ∧ (480 : Int) < 18446744073709551616; omega, by show (0 : Int) ≤ 0 ∧ (0 : Int) < 18446744073709551616; omega⟩
  generalize (w.alloc (.cells #[.pointer (some ⟨d, 0, none⟩), .int .i64 a, .int .i64 c, .int .u64 1, .int .u64 480, .int .u64 0, .int .u64 0, .int .i64 0, .int .u64 0, .slice none 0 0] 95)) = w1 at *
  refine (lmark_w i w1 k1 (h.later hb1) hi (by omega) h9 hm9).mono ?_
  rintro e w2 ⟨rfl, ⟨F2, hD2, hg2⟩, hm2⟩
  go_wp2
  go_ret
  exact ⟨by first | rfl | simp, ⟨F2, hD2, fun b hb => (hg2 b hb).imp id (fun h => Nat.le_trans hb1.size h)⟩, (Mod.of_below hb1).trans hm2 (fun _ _ h => h)⟩
end Go.Proofs.Ytnehppeoffemlaa
