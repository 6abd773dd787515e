/- The log's Release by its contract. -/
import Derived.Test.YtnehppeoffemlaaLogB
namespace Go.Proofs.Ytnehppeoffemlaa
set_option linter.unusedVariables false
set_option linter.unusedSimpArgs false
open Go.RowKit
def heldL (L : Lg) (k : Int) : Lg := { L with held := k }
theorem LgH.held {w : World} {base d g bc : Nat} {bA : Option Addr} {L : Lg} (h : LgH w base d g bA bc L) {k : Int} (hok : LgOk (heldL L k)) : LgH (w.setCell ⟨g, 7, none⟩ (.int .i64 k)) base d g bA bc (heldL L k) :=
  ⟨At.set (o := 7) (v := .int .i64 k) h.at_, ownBlk_set h.buf (Ne.symm h.neb), h.hg, hok⟩
set_option maxRecDepth 100000 in
set_option maxHeartbeats 1000000 in
theorem lrel_arg {base d g bc : Nat} {bA : Option Addr} {L : Lg} (n : Int) (w : World) (h : LgH w base d g bA bc L) (hn : n < 0 ∨ L.held < n) :
    Calls Try.prog 29 #[.pointer (some ⟨g, 0, none⟩), .int .i64 n] w fun e w' => e = .returned (.int .i64 1) ∧ ∃ k, w' = w.drewN k := by
  have k0 := h.at_
  have k0c := k0.c; have k0f := k0.f; have k0l := k0.lt
  generalize L.held = hl at *
  clear h
  rcases Bool.eq_false_or_eq_true (decide (n < 0)) with c1 | c1
  · clear hn
    go_enter Try.func29, Try.ntmps29
    go_wp2_with fail
    go_ret
    exact ⟨by first | rfl | simp, 0, rfl⟩
  · have c2 : decide (hl < n) = true := by simp at c1 ⊢; omega
    clear hn
    go_enter Try.func29, Try.ntmps29
    go_wp2_with fail
    go_ret
    exact ⟨by first | rfl | simp, 0, rfl⟩
set_option maxRecDepth 100000 in
set_option maxHeartbeats 1000000 in
theorem lrel_ok {base d g bc : Nat} {bA : Option Addr} {L : Lg} (n : Int) (w : World) (h : LgH w base d g bA bc L) (h0 : 0 ≤ n) (h1 : n ≤ L.held) (hok : LgOk (heldL L (L.held - n))) :
    Calls Try.prog 29 #[.pointer (some ⟨g, 0, none⟩), .int .i64 n] w fun e w' => e = .returned (.int .i64 0) ∧ LgH w' base d g bA bc (heldL L (L.held - n)) ∧ Mod (fun k => k = g) w w' := by
  have k0 := h.at_
  have hh := h.ok.held
  have c1 : decide (n < 0) = false := by simp; omega
  have c2 : decide (L.held < n) = false := by simp; omega
  have hz : IntKind.i64.wrap (L.held - n) = L.held - n := IntWalk.i64_in _ (by omega)
  have k0c := k0.c; have k0f := k0.f; have k0l := k0.lt
  go_enter Try.func29, Try.ntmps29
  go_wp2_with fail
  go_ret
  exact ⟨by first | rfl | simp, h.held hok, (Mod.refl (fun k => k = g) w).set (.inl rfl) _⟩
set_option maxRecDepth 100000 in
set_option maxHeartbeats 4000000 in
/-- Spend's refusals: an empty record, a long one, one longer than what is held. -/
theorem lspend_arg {base d g bc c : Nat} {bA A : Option Addr} {L : Lg} (w : World) (h : LgH w base d g bA bc L) :
    Calls Try.prog 18 #[.pointer (some ⟨g, 0, none⟩), .slice A 0 c] w fun e w' => e = .returned (.tuple #[.int .u64 0, .int .i64 1]) ∧ ∃ k, w' = w.drewN k := by
  have k0 := h.at_
  have k0c := k0.c; have k0f := k0.f; have k0l := k0.lt
  clear h
  go_enter Try.func18, Try.ntmps18
  go_wp2_with fail
  go_ret2
  exact ⟨by first | rfl | simp, 0, rfl⟩
set_option maxRecDepth 100000 in
set_option maxHeartbeats 4000000 in
theorem lspend_long {base d g bc n c : Nat} {bA A : Option Addr} {L : Lg} (w : World) (h : LgH w base d g bA bc L) (hn : 1200 < n) :
    Calls Try.prog 18 #[.pointer (some ⟨g, 0, none⟩), .slice A n c] w fun e w' => e = .returned (.tuple #[.int .u64 0, .int .i64 2]) ∧ ∃ k, w' = w.drewN k := by
  have k0 := h.at_
  have k0c := k0.c; have k0f := k0.f; have k0l := k0.lt
  clear h
  have c1 : decide ((n : Int) = 0) = false := by simp; omega
  have c2 : decide ((1200 : Int) < n) = true := by simp; omega
  go_enter Try.func18, Try.ntmps18
  go_wp2_with fail
  go_ret2
  exact ⟨by first | rfl | simp, 0, rfl⟩
set_option maxRecDepth 100000 in
set_option maxHeartbeats 4000000 in
theorem lspend_full {base d g bc n c : Nat} {bA A : Option Addr} {L : Lg} (w : World) (h : LgH w base d g bA bc L) (h0 : 0 < n) (hn : n ≤ 1200) (hf : L.held < n + 2) :
    Calls Try.prog 18 #[.pointer (some ⟨g, 0, none⟩), .slice A n c] w fun e w' => e = .returned (.tuple #[.int .u64 0, .int .i64 9]) ∧ ∃ k, w' = w.drewN k := by
  have k0 := h.at_
  have k0c := k0.c; have k0f := k0.f; have k0l := k0.lt
  clear h
  have c1 : decide ((n : Int) = 0) = false := by simp; omega
  have c2 : decide ((1200 : Int) < n) = false := by simp; omega
  have hz : IntKind.i64.wrap ((n : Int) + 2) = n + 2 := IntWalk.i64_in _ (by omega)
  have c3 : decide (L.held < (n : Int) + 2) = true := by simp; omega
  go_enter Try.func18, Try.ntmps18
  go_wp2_with fail
  go_ret2
  exact ⟨by first | rfl | simp, 0, rfl⟩
/-- What Spend leaves. -/
def spendL (L : Lg) (p : List Int) : Lg := putL (heldL L (L.held - (p.length + 2))) p
set_option maxRecDepth 100000 in
set_option maxHeartbeats 4000000 in
theorem lspend_ok {base d g bc n c : Nat} {bA A : Option Addr} {L : Lg} {p : List Int} (w : World) (h : LgH w base d g bA bc L) (hbw : base ≤ w.heap.size) (hp : BsR w 0 w.heap.size A n p) (hpd : 0 < n → ∀ b, ownBlk A = some b → ¬ LFoot g bA b) (h0 : 0 < n) (hn : n ≤ 1200) (hf : (n : Int) + 2 ≤ L.held) (hok1 : LgOk (heldL L (L.held - (n + 2)))) (hok : LgOk (spendL L p)) :
    Calls Try.prog 18 #[.pointer (some ⟨g, 0, none⟩), .slice A n c] w fun e w' => e = .returned (.tuple #[.int .u64 (endL L), .int .i64 0]) ∧ (∃ bA' bc', LgH w' base d g bA' bc' (spendL L p) ∧ ∀ b, ownBlk bA' = some b → ownBlk bA = some b ∨ w.heap.size ≤ b) ∧ Mod (LFoot g bA) w w' := by
  have k0 := h.at_
  have hh := h.ok.held
  have hln := hp.1
  have hsp : spendL L p = putL (heldL L (L.held - (n + 2))) p := by unfold spendL; rw [hln]
  rw [hsp] at hok ⊢
  have k0c := k0.c; have k0f := k0.f; have k0l := k0.lt
  have hx : ∀ w1, w1 = w.setCell ⟨g, 7, none⟩ (.int .i64 (L.held - (n + 2))) → LgH w1 base d g bA bc (heldL L (L.held - (n + 2))) ∧ Mod (LFoot g bA) w w1 ∧ BsR w1 0 w.heap.size A n p := by
    rintro _ rfl
    have m := (Mod.refl (LFoot g bA) w).set (k := g) (o := 7) (.inl (.inl rfl)) (.int .i64 (L.held - (n + 2)))
    refine ⟨h.held hok1, m, hp.apart (row := some g) ((Mod.refl (fun k => k = g) w).set (.inl rfl) (.int .i64 (L.held - (n + 2))) |> fun m => ⟨m.os, m.tape, m.output, m.size, fun k hk hn => m.block k hk (fun e => hn (by rw [e]))⟩) (fun hm b hb e => hpd hm b hb (.inl (by injection e with e; exact e.symm))) (Nat.le_refl _)⟩
  have c1 : decide ((n : Int) = 0) = false := by simp; omega
  have c2 : decide ((1200 : Int) < n) = false := by simp; omega
  have hz : IntKind.i64.wrap ((n : Int) + 2) = n + 2 := IntWalk.i64_in _ (by omega)
  have hz2 : IntKind.i64.wrap (L.held - ((n : Int) + 2)) = L.held - (n + 2) := IntWalk.i64_in _ (by omega)
  have c3 : decide (L.held < (n : Int) + 2) = false := by simp; omega
  go_enter Try.func18, Try.ntmps18
  go_upto_region 10 with (fail)
  generalize hw1 : w.setCell ⟨g, 7, none⟩ (.int .i64 (L.held - (n + 2))) = w1
  obtain ⟨f1, f2, f3⟩ := hx w1 hw1.symm
  clear hx hw1 k0 k0c k0f k0l h
  go_wp2_with fail
  refine (lput_calls w1 f1 (Nat.le_trans hbw f2.size) (f3.more f2.size) hpd hn hok).mono ?_
  rintro e wK ⟨rfl, ⟨bA', bc', g1, g2⟩, g3⟩
  go_wp2_with fail
  go_ret2
  exact ⟨by first | rfl | simp [endL, heldL], ⟨bA', bc', g1, fun b hb => (g2 b hb).imp id (fun x => Nat.le_trans f2.size x)⟩, f2.trans g3 (fun _ _ h => h)⟩
end Go.Proofs.Ytnehppeoffemlaa
