/- Joined texts: LogD, LogU. -/
import Derived.Test.YtnehppeoffemlaaJLogRings31
/- The log's Append by its contract. -/
namespace Go.Proofs.Ytnehppeoffemlaa
set_option linter.unusedVariables false
set_option linter.unusedSimpArgs false
open Go.RowKit
def appL (L : Lg) (hold : Int) (p : List Int) : Lg := putL (heldL L (L.held + hold)) p
set_option maxRecDepth 100000 in
set_option maxHeartbeats 4000000 in
theorem lapp_arg {base d g bc n c : Nat} {bA A : Option Addr} {L : Lg} (hold : Int) (w : World) (h : LgH w base d g bA bc L) (hx : hold < 0 ∨ n = 0) :
    Calls Try.prog 15 #[.pointer (some ⟨g, 0, none⟩), .slice A n c, .int .i64 hold] w fun e w' => e = .returned (.tuple #[.int .u64 0, .int .i64 1]) ∧ ∃ k, w' = w.drewN k := by
  clear h
  rcases Bool.eq_false_or_eq_true (decide (hold < 0)) with c1 | c1
  · clear hx
    go_enter Try.func15, Try.ntmps15
    go_wp2_with fail
    go_ret2
    exact ⟨by first | rfl | simp, 0, rfl⟩
  · have hn : n = 0 := by simp at c1; omega
    subst hn
    clear hx
    go_enter Try.func15, Try.ntmps15
    go_wp2_with fail
    go_ret2
    exact ⟨by first | rfl | simp, 0, rfl⟩
set_option maxRecDepth 100000 in
set_option maxHeartbeats 4000000 in
theorem lapp_long {base d g bc n c : Nat} {bA A : Option Addr} {L : Lg} (hold : Int) (w : World) (h : LgH w base d g bA bc L) (h0 : 0 ≤ hold) (hn : 1200 < n) :
    Calls Try.prog 15 #[.pointer (some ⟨g, 0, none⟩), .slice A n c, .int .i64 hold] w fun e w' => e = .returned (.tuple #[.int .u64 0, .int .i64 2]) ∧ ∃ k, w' = w.drewN k := by
  clear h
  have c0 : decide (hold < 0) = false := by simp; omega
  have c1 : decide ((n : Int) = 0) = false := by simp; omega
  have c2 : decide ((1200 : Int) < n) = true := by simp; omega
  go_enter Try.func15, Try.ntmps15
  go_wp2_with fail
  go_ret2
  exact ⟨by first | rfl | simp, 0, rfl⟩
set_option maxRecDepth 100000 in
set_option maxHeartbeats 4000000 in
theorem lapp_full {base d g bc n c : Nat} {bA A : Option Addr} {L : Lg} (hold : Int) (w : World) (h : LgH w base d g bA bc L) (h0 : 0 ≤ hold) (hn0 : 0 < n) (hn : n ≤ 1200) (hf : roomL L < hold ∨ roomL L - hold < n + 2) :
    Calls Try.prog 15 #[.pointer (some ⟨g, 0, none⟩), .slice A n c, .int .i64 hold] w fun e w' => e = .returned (.tuple #[.int .u64 0, .int .i64 9]) ∧ ∃ k, w' = w.drewN k := by
  obtain ⟨rm, hrm⟩ : ∃ rm, roomL L = rm := ⟨_, rfl⟩
  rw [hrm] at hf
  have hhx := Lib.hid h
  have hrx := Lib.hid hrm
  clear h hrm
  have c0 : decide (hold < 0) = false := by simp; omega
  have c1 : decide ((n : Int) = 0) = false := by simp; omega
  have c2 : decide ((1200 : Int) < n) = false := by simp; omega
  have hz : IntKind.i64.wrap ((n : Int) + 2) = n + 2 := IntWalk.i64_in _ (by omega)
  rcases Bool.eq_false_or_eq_true (decide (rm < hold)) with c3 | c3
  · clear hf
    go_enter Try.func15, Try.ntmps15
    go_wp2_with fail
    refine (lroom_q w rm hhx.out hrx.out).mono ?_
    rintro e w1 ⟨rfl, kd, rfl⟩
    go_wp2_with fail
    go_ret2
    exact ⟨by first | rfl | simp, kd, rfl⟩
  · have hlo : (-4611686018427387904 : Int) ≤ rm ∧ rm ≤ 4611686018427387904 := by
      rw [← hrx.out]; have h9 := hhx.out.ok; have h1 := h9.start; have h2 := h9.count; have h3 := h9.held; have h4 := h9.room; have h5 := h9.sure; have h6 := h9.base; have h7 := h9.buf
      unfold roomL; unfold endL at *; omega
    have hz2 : IntKind.i64.wrap (rm - hold) = rm - hold := IntWalk.i64_in _ (by simp at c3; omega)
    have c4 : decide (rm - hold < (n : Int) + 2) = true := by simp at c3 ⊢; omega
    clear hf
    go_enter Try.func15, Try.ntmps15
    go_wp2_with fail
    refine (lroom_q w rm hhx.out hrx.out).mono ?_
    rintro e w1 ⟨rfl, kd, rfl⟩
    go_wp2_with fail
    refine (lroom_q _ rm (hhx.out.drewN _) hrx.out).mono ?_
    rintro e w2 ⟨rfl, ke, rfl⟩
    go_wp2_with fail
    go_ret2
    exact ⟨by first | rfl | simp, kd + ke, rfl⟩
set_option maxRecDepth 100000 in
set_option maxHeartbeats 4000000 in
theorem lapp_ok {base d g bc n c : Nat} {bA A : Option Addr} {L : Lg} {p : List Int} (hold : Int) (w : World) (h : LgH w base d g bA bc L) (hbw : base ≤ w.heap.size) (hp : BsR w 0 w.heap.size A n p) (hpd : 0 < n → ∀ b, ownBlk A = some b → ¬ LFoot g bA b) (h0 : 0 ≤ hold) (hn0 : 0 < n) (hn : n ≤ 1200) (hf : (n : Int) + 2 ≤ roomL L - hold) (hok1 : LgOk (heldL L (L.held + hold))) (hok : LgOk (appL L hold p)) :
    Calls Try.prog 15 #[.pointer (some ⟨g, 0, none⟩), .slice A n c, .int .i64 hold] w fun e w' => e = .returned (.tuple #[.int .u64 (endL L), .int .i64 0]) ∧ (∃ bA' bc', LgH w' base d g bA' bc' (appL L hold p) ∧ ∀ b, ownBlk bA' = some b → ownBlk bA = some b ∨ w.heap.size ≤ b) ∧ Mod (LFoot g bA) w w' := by
  obtain ⟨rm, hrm⟩ : ∃ rm, roomL L = rm := ⟨_, rfl⟩
  rw [hrm] at hf
  have hhx := Lib.hid h
  have hrx := Lib.hid hrm
  have hh := hok1.held
  have hh2 := h.ok.held
  have hkeep : ∀ k, At (w.drewN k) g #[.pointer (some ⟨d, 0, none⟩), .int .i64 L.pos, .int .i64 L.count, .int .u64 L.epoch, .int .u64 L.start, .int .u64 L.check, .int .u64 L.sure, .int .i64 L.held, .int .u64 L.base, .slice bA L.buf.length bc] 95 := fun k => (hhx.out.drewN k).at_
  have hx : ∀ k w1, w1 = (w.drewN k).setCell ⟨g, 7, none⟩ (.int .i64 (L.held + hold)) → LgH w1 base d g bA bc (heldL L (L.held + hold)) ∧ Mod (LFoot g bA) w w1 ∧ BsR w1 0 w.heap.size A n p := by
    rintro k _ rfl
    have m := ((Mod.refl (LFoot g bA) w).drewN k).set (k := g) (o := 7) (.inl (.inl rfl)) (.int .i64 (L.held + hold))
    refine ⟨(hhx.out.drewN k).held hok1, m, hp.apart (row := some g) (((Mod.refl (fun k => k = g) w).drewN k).set (.inl rfl) (.int .i64 (L.held + hold)) |> fun m => ⟨m.os, m.tape, m.output, m.size, fun k hk hn => m.block k hk (fun e => hn (by rw [e]))⟩) (fun hm b hb e => hpd hm b hb (.inl (by injection e with e; exact e.symm))) (Nat.le_refl _)⟩
  have hlo : (-4611686018427387904 : Int) ≤ rm ∧ rm ≤ 4611686018427387904 := by
    rw [← hrm]; have h9 := h.ok; have h1 := h9.start; have h2 := h9.count; have h3 := h9.held; have h4 := h9.room; have h5 := h9.sure; have h6 := h9.base; have h7 := h9.buf
    unfold roomL; unfold endL at *; omega
  have c0 : decide (hold < 0) = false := by simp; omega
  have c1 : decide ((n : Int) = 0) = false := by simp; omega
  have c2 : decide ((1200 : Int) < n) = false := by simp; omega
  have hz : IntKind.i64.wrap ((n : Int) + 2) = n + 2 := IntWalk.i64_in _ (by omega)
  have c3 : decide (rm < hold) = false := by simp; omega
  have hz2 : IntKind.i64.wrap (rm - hold) = rm - hold := IntWalk.i64_in _ (by omega)
  have c4 : decide (rm - hold < (n : Int) + 2) = false := by simp; omega
  have hz3 : IntKind.i64.wrap (L.held + hold) = L.held + hold := IntWalk.i64_in _ (by have h1 : L.held + hold ≤ 1099511627776 := hh.2; omega)
  clear h hrm
  go_enter Try.func15, Try.ntmps15
  go_wp2_with fail
  refine (lroom_q w rm hhx.out hrx.out).mono ?_
  rintro e w1 ⟨rfl, kd, rfl⟩
  go_wp2_with fail
  refine (lroom_q _ rm (hhx.out.drewN _) hrx.out).mono ?_
  rintro e w2 ⟨rfl, ke, rfl⟩
  have k0 := hkeep (kd + ke)
  have k0c := k0.c; have k0f := k0.f; have k0l := k0.lt
  go_upto_region 10 with (fail)
  generalize hw1 : (w.drewN (kd + ke)).setCell ⟨g, 7, none⟩ (.int .i64 (L.held + hold)) = w1
  obtain ⟨f1, f2, f3⟩ := hx _ w1 hw1.symm
  clear hx hw1 k0 k0c k0f k0l hkeep
  go_wp2_with fail
  refine (lput_calls w1 f1 (Nat.le_trans hbw f2.size) (f3.more f2.size) hpd hn hok).mono ?_
  rintro e wK ⟨rfl, ⟨bA', bc', g1, g2⟩, g3⟩
  go_wp2_with fail
  go_ret2
  exact ⟨by first | rfl | simp [endL, heldL], ⟨bA', bc', g1, fun b hb => (g2 b hb).imp id (fun x => Nat.le_trans f2.size x)⟩, f2.trans g3 (fun _ _ h => h)⟩
end Go.Proofs.Ytnehppeoffemlaa
/- What the log keeps true of its numbers (plain). -/
namespace Go.Proofs.Ytnehppeoffemlaa
set_option linter.unusedVariables false
set_option linter.unusedSimpArgs false
open Go.RowKit
structure LgI (L : Lg) : Prop where
  ok : LgOk L
  mul : L.base % 480 = 0
  lo : L.base ≤ L.sure
  hi : L.sure < L.base + 480
theorem newL_I {a c : Int} (ha : 0 ≤ a) (ha2 : a ≤ 4096) (hc : 4 ≤ c) (hc2 : c ≤ 4096) : LgI (newL a c) :=
  ⟨newL_ok ha ha2 hc hc2, rfl, by show (480 : Int) ≤ 480; omega, by show (480 : Int) < 480 + 480; omega⟩
theorem appL_buf (L : Lg) (hold : Int) (p : List Int) : (appL L hold p).buf.length = L.buf.length + 2 + p.length := putL_len _ _
theorem appL_end (L : Lg) (hold : Int) (p : List Int) : endL (appL L hold p) = endL L + 2 + p.length := by
  unfold endL
  rw [appL_buf]
  show L.base + _ = _
  omega
theorem app_ok {L : Lg} {hold : Int} {p : List Int} (h : LgI L) (h0 : 0 ≤ hold) (hf : (p.length : Int) + 2 ≤ roomL L - hold) : LgOk (heldL L (L.held + hold)) ∧ LgI (appL L hold p) := by
  have h1 := h.ok.base; have h2 := h.ok.buf; have h3 := h.ok.start; have h4 := h.ok.count; have h5 := h.ok.held; have h6 := h.ok.room; have h7 := h.ok.sure; have h8 := h.lo; have h9 := h.hi
  have hb := appL_buf L hold p
  have he := appL_end L hold p
  have hee : endL L = L.base + L.buf.length := rfl
  unfold roomL at hf
  have hq := h.ok.check
  refine ⟨⟨h.ok.pos, h4, h.ok.epoch, h3, hq, h7, ?_, h1, h2, ?_⟩, ⟨h.ok.pos, h4, h.ok.epoch, h3, hq, ?_, ?_, h1, ?_, ?_⟩, h.mul, h8, h9⟩
  · show 0 ≤ L.held + hold ∧ L.held + hold ≤ _
    omega
  · show endL L + (L.held + hold) ≤ (L.start / 480 + L.count) * 480
    omega
  · show L.sure ≤ endL (appL L hold p)
    omega
  · show 0 ≤ L.held + hold ∧ L.held + hold ≤ _
    omega
  · rw [hb]; omega
  · show endL (appL L hold p) + (L.held + hold) ≤ (L.start / 480 + L.count) * 480
    omega
theorem spendL_buf (L : Lg) (p : List Int) : (spendL L p).buf.length = L.buf.length + 2 + p.length := putL_len _ _
theorem spendL_end (L : Lg) (p : List Int) : endL (spendL L p) = endL L + 2 + p.length := by
  unfold endL
  rw [spendL_buf]
  show L.base + _ = _
  omega
theorem spend_ok {L : Lg} {p : List Int} (h : LgI L) (hf : (p.length : Int) + 2 ≤ L.held) : LgOk (heldL L (L.held - (p.length + 2))) ∧ LgI (spendL L p) := by
  have h1 := h.ok.base; have h2 := h.ok.buf; have h3 := h.ok.start; have h4 := h.ok.count; have h5 := h.ok.held; have h6 := h.ok.room; have h7 := h.ok.sure; have h8 := h.lo; have h9 := h.hi
  have hb := spendL_buf L p
  have he := spendL_end L p
  have hee : endL L = L.base + L.buf.length := rfl
  have hq := h.ok.check
  refine ⟨⟨h.ok.pos, h4, h.ok.epoch, h3, hq, h7, ?_, h1, h2, ?_⟩, ⟨h.ok.pos, h4, h.ok.epoch, h3, hq, ?_, ?_, h1, ?_, ?_⟩, h.mul, h8, h9⟩
  · show 0 ≤ L.held - (p.length + 2) ∧ L.held - (p.length + 2) ≤ _
    omega
  · show endL L + (L.held - (p.length + 2)) ≤ (L.start / 480 + L.count) * 480
    omega
  · show L.sure ≤ endL (spendL L p)
    omega
  · show 0 ≤ L.held - (p.length + 2) ∧ L.held - (p.length + 2) ≤ _
    omega
  · rw [hb]; omega
  · show endL (spendL L p) + (L.held - (p.length + 2)) ≤ (L.start / 480 + L.count) * 480
    omega
theorem flL_end {L : Lg} (h : LgI L) : endL (flL L) = endL L := by
  have h1 := h.ok.base; have h7 := h.ok.sure; have h8 := h.lo; have h9 := h.hi; have hm := h.mul
  have hee : endL L = L.base + L.buf.length := rfl
  show endL L / 480 * 480 + ((L.buf.drop (endL L / 480 * 480 - L.base).toNat).length : Int) = endL L
  rw [List.length_drop]
  omega
theorem fl_ok {L : Lg} (h : LgI L) (hb : endL L ≤ 1099511627776) : LgI (flL L) := by
  have h1 := h.ok.base; have h2 := h.ok.buf; have h3 := h.ok.start; have h4 := h.ok.count; have h5 := h.ok.held; have h6 := h.ok.room; have h7 := h.ok.sure; have h8 := h.lo; have h9 := h.hi
  have he := flL_end h
  have hq := h.ok.check
  refine ⟨⟨h.ok.pos, h4, h.ok.epoch, ?_, ?_, ?_, h5, ?_, ?_, ?_⟩, ?_, ?_, ?_⟩
  · show 0 ≤ L.start ∧ L.start ≤ endL L
    omega
  · show 0 ≤ L.check ∧ L.check ≤ endL L
    omega
  · rw [he]; show endL L ≤ endL L; omega
  · show 0 ≤ endL L / 480 * 480 ∧ endL L / 480 * 480 ≤ _
    omega
  · show (L.buf.drop _).length ≤ _
    rw [List.length_drop]; omega
  · rw [he]; exact h6
  · show endL L / 480 * 480 % 480 = 0
    omega
  · show endL L / 480 * 480 ≤ endL L
    omega
  · show endL L < endL L / 480 * 480 + 480
    omega
end Go.Proofs.Ytnehppeoffemlaa
