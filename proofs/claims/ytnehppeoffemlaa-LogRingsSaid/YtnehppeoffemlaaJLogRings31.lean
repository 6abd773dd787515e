/- Joined texts: LogT, LogC. -/
import Derived.Test.YtnehppeoffemlaaJLogRings30
import Derived.Test.YtnehppeoffemlaaJLogRings03
/- The log laws' fresh. -/
namespace Go.Proofs.Ytnehppeoffemlaa
set_option linter.unusedVariables false
set_option linter.unusedSimpArgs false
open Go.RowKit
/-- Open on a disk that was just formatted. -/
theorem lopen_fm {base d lb n : Nat} {F : Nat → Prop} (a c : Int) (i : Nat) (w : World) (h : DD w base d lb F (fmD n a c)) (hi : (i : Int) = a) (hc : 4 ≤ c) (hc2 : c ≤ 4096) (hn : a ≤ n - 1 - c) (hn2 : n ≤ 4096) :
    Calls Try.prog 23 #[.pointer (some ⟨d, 0, none⟩), .int .i64 a, .int .i64 c] w fun e w' =>
      ∃ F' g bA bc, e = .returned (.tuple #[.pointer (some ⟨g, 0, none⟩), .int .i64 0]) ∧ DD w' base d lb F' (opnD n a c) ∧ Grew F F' w.heap.size ∧ Mod F w w' ∧ w.heap.size ≤ g ∧ LgH w' base d g bA bc (newL a c) ∧ (∀ b, ownBlk bA = some b → w.heap.size ≤ b) := by
  have hbw : base ≤ w.heap.size := by have := h.lts d h.d; omega
  have hin : a.toNat = i := by omega
  have hlk : llookE (fmD n a c) a c = 0 := by unfold llookE; rw [fmD_len]; exact if_neg (by omega)
  have hm := fm_mas (n := n) (a := a) (c := c) (by omega) (by omega)
  rw [hin] at hm
  have hmL := mas_L (fmtL a c) a c (by show (0 : Int) ≤ 1 ∧ (1 : Int) < _; omega) (by show (0 : Int) ≤ 480 ∧ (480 : Int) < _; omega) (by show (0 : Int) ≤ 0 ∧ (0 : Int) < _; omega)
  have hpt := mas_parts (fmtL a c)
  refine (lopen_w a c i w h hlk hi (fmD_qt n a c).2 (by rw [fmD_ops]; omega) (by rw [fmD_way]; simp) (fun _ => ?_)).mono ?_
  · rw [hm, hpt.2.1, hpt.2.2.1, num_u8L (by show (0 : Int) ≤ 1; omega) (by show (1 : Int) < _; omega), num_u8L (by show (0 : Int) ≤ 480; omega) (by show (480 : Int) < _; omega)]
    exact ⟨by show (1 : Int) < _; omega, by show (480 : Int) < _; omega⟩
  · rintro e w' (⟨hno, -⟩ | ⟨-, hsh, -⟩ | ⟨-, -, ⟨F', hD', hg'⟩, hm', (⟨hne, -⟩ | ⟨-, g, bA, bc, rfl, hgw, hW, hO⟩)⟩)
    · exact absurd (by rw [hm]; exact mas_yes _) hno
    · rw [hm, hmL] at hsh
      exact absurd hsh (by show ¬ (_ < ((480 : Int) % 480).toNat); simp)
    · exact absurd fm_E hne
    · rw [fm_opL (by omega) hc hn] at hW hO
      exact ⟨F', g, bA, bc, rfl, hD', hg', hm', hgw, ⟨hW.at_, hO.less hbw, Nat.le_trans hbw hgw, newL_ok (by omega) (by omega) hc hc2⟩, fun b hb => (hO.lt b hb).1⟩
set_option maxRecDepth 100000 in
set_option maxHeartbeats 2000000 in
theorem fresh_calls (c : Nat) (hc : 4 ≤ c) (hc2 : c ≤ 4093) (w : World) :
    Calls Try.prog 14 #[.int .i64 c] w fun e w' =>
      ∃ d lb g bA bc F, e = .returned (.tuple #[.pointer (some ⟨d, 0, none⟩), .pointer (some ⟨g, 0, none⟩)]) ∧ DD w' w.heap.size d lb F (opnD (c + 3) 1 c) ∧ LgH w' w.heap.size d g bA bc (newL 1 c) ∧ Below w.heap.size w w' := by
  have hw : IntKind.i64.wrap ((c : Int) + 3) = ((c + 3 : Nat) : Int) := by rw [IntWalk.i64_in _ (by omega)]; omega
  have hlk : llookE (newD (c + 3)) 1 c = 0 := by
    unfold llookE
    refine if_neg ?_
    have : (newD (c + 3)).l.length = c + 3 := List.length_replicate
    rw [this]
    omega
  have hmk : mkD (newD (c + 3)) 1 (masterL (fmtL 1 c)) = fmD (c + 3) 1 c := rfl
  have hmE : mkE (newD (c + 3)) 1 (masterL (fmtL 1 c)) = 0 := (newD_qt (c + 3)).mkE _ _
  have hmkx := Lib.hid hmk
  have hmEx := Lib.hid hmE
  clear hmk hmE
  go_enter Try.func14, Try.ntmps14
  go_wp2_with fail
  refine (new_calls (c + 3) (by omega) (by omega) w).mono ?_
  rintro e w1 ⟨d, lb, rfl, hd0, hb1, hdd, hlb⟩
  have hD1 : DD w1 w.heap.size d lb (Foot d lb none) (newD (c + 3)) := DD.of ⟨hd0, hdd, hlb, fun b hb => by cases hb⟩
  clear hd0
  go_wp2_with fail
  refine (lformat_ok 1 c 1 w1 hD1 hlk rfl (by show (0 : Int) + 1 < _; omega) (by show 0 < _; omega)).mono ?_
  rw [hmkx.out, hmEx.out]
  rintro e w2 ⟨rfl, ⟨F2, hD2, hg2⟩, hm2⟩
  have hB2 : Below w.heap.size w w2 := below_tr hb1 (hm2.below hb1.size (fun k hk => (hD1.lts k hk).1))
  go_wp2_with fail
  refine (lopen_fm 1 c 1 w2 hD2 rfl (by omega) (by omega) (by omega) (by omega)).mono ?_
  rintro e w3 ⟨F3, g, bA, bc, rfl, hD3, hg3, hm3, hgw, hL3, -⟩
  have hB3 : Below w.heap.size w w3 := below_tr hB2 (hm3.below hB2.size (fun k hk => (hD2.lts k hk).1))
  go_wp2
  go_ret2
  exact ⟨d, lb, g, bA, bc, F3, by first | rfl | simp, hD3, hL3, hB3⟩
end Go.Proofs.Ytnehppeoffemlaa
/- The log's Release by its contract. -/
namespace Go.Proofs.Ytnehppeoffemlaa
set_option linter.unusedVariables false
set_option linter.unusedSimpArgs false
open Go.RowKit
def heldL (L : Lg) (k : Int) : Lg := { L with held := k }
theorem LgH.held {w : World} {base d g bc : Nat} {bA : Option Addr} {L : Lg} (h : LgH w base d g bA bc L) {k : Int} (hok : LgOk (heldL L k)) : LgH (w.setCell ⟨g, 7, none⟩ (.int .i64 k)) base d g bA bc (heldL L k) :=
  ⟨At.set (o := 7) (v := .int .i64 k) h.at_, ownBlk_set h.buf (Ne.symm h.neb), h.hg, hok⟩
set_option maxRecDepth 100000 in
set_option maxHeartbeats 1000000 in
theorem lrel_arg {base d g bc : Nat} {bA : Option Addr} {L : Lg} (n : Int) (w : World) (h : LgH w base d g bA bc L) (hn : n < 0 ∨ L.held < n) :
    Calls Try.prog 29 #[.pointer (some ⟨g, 0, none⟩), .int .i64 n] w fun e w' => e = .returned (.int .i64 1) ∧ ∃ k, w' = w.drewN k := by
  have k0 := h.at_
  have k0c := k0.c; have k0f := k0.f; have k0l := k0.lt
  generalize L.held = hl at *
  clear h
  rcases Bool.eq_false_or_eq_true (decide (n < 0)) with c1 | c1
  · clear hn
    go_enter Try.func29, Try.ntmps29
    go_wp2_with fail
    go_ret
    exact ⟨by first | rfl | simp, 0, rfl⟩
  · have c2 : decide (hl < n) = true := by simp at c1 ⊢; omega
    clear hn
    go_enter Try.func29, Try.ntmps29
    go_wp2_with fail
    go_ret
    exact ⟨by first | rfl | simp, 0, rfl⟩
set_option maxRecDepth 100000 in
set_option maxHeartbeats 1000000 in
theorem lrel_ok {base d g bc : Nat} {bA : Option Addr} {L : Lg} (n : Int) (w : World) (h : LgH w base d g bA bc L) (h0 : 0 ≤ n) (h1 : n ≤ L.held) (hok : LgOk (heldL L (L.held - n))) :
    Calls Try.prog 29 #[.pointer (some ⟨g, 0, none⟩), .int .i64 n] w fun e w' => e = .returned (.int .i64 0) ∧ LgH w' base d g bA bc (heldL L (L.held - n)) ∧ Mod (fun k => k = g) w w' := by
  have k0 := h.at_
  have hh := h.ok.held
  have c1 : decide (n < 0) = false := by simp; omega
  have c2 : decide (L.held < n) = false := by simp; omega
  have hz : IntKind.i64.wrap (L.held - n) = L.held - n := IntWalk.i64_in _ (by omega)
  have k0c := k0.c; have k0f := k0.f; have k0l := k0.lt
  go_enter Try.func29, Try.ntmps29
  go_wp2_with fail
  go_ret
  exact ⟨by first | rfl | simp, h.held hok, (Mod.refl (fun k => k = g) w).set (.inl rfl) _⟩
set_option maxRecDepth 100000 in
set_option maxHeartbeats 4000000 in
/-- Spend's refusals: an empty record, a long one, one longer than what is held. -/
theorem lspend_arg {base d g bc c : Nat} {bA A : Option Addr} {L : Lg} (w : World) (h : LgH w base d g bA bc L) :
    Calls Try.prog 18 #[.pointer (some ⟨g, 0, none⟩), .slice A 0 c] w fun e w' => e = .returned (.tuple #[.int .u64 0, .int .i64 1]) ∧ ∃ k, w' = w.drewN k := by
  have k0 := h.at_
  have k0c := k0.c; have k0f := k0.f; have k0l := k0.lt
  clear h
  go_enter Try.func18, Try.ntmps18
  go_wp2_with fail
  go_ret2
  exact ⟨by first | rfl | simp, 0, rfl⟩
set_option maxRecDepth 100000 in
set_option maxHeartbeats 4000000 in
theorem lspend_long {base d g bc n c : Nat} {bA A : Option Addr} {L : Lg} (w : World) (h : LgH w base d g bA bc L) (hn : 1200 < n) :
    Calls Try.prog 18 #[.pointer (some ⟨g, 0, none⟩), .slice A n c] w fun e w' => e = .returned (.tuple #[.int .u64 0, .int .i64 2]) ∧ ∃ k, w' = w.drewN k := by
  have k0 := h.at_
  have k0c := k0.c; have k0f := k0.f; have k0l := k0.lt
  clear h
  have c1 : decide ((n : Int) = 0) = false := by simp; omega
  have c2 : decide ((1200 : Int) < n) = true := by simp; omega
  go_enter Try.func18, Try.ntmps18
  go_wp2_with fail
  go_ret2
  exact ⟨by first | rfl | simp, 0, rfl⟩
set_option maxRecDepth 100000 in
set_option maxHeartbeats 4000000 in
theorem lspend_full {base d g bc n c : Nat} {bA A : Option Addr} {L : Lg} (w : World) (h : LgH w base d g bA bc L) (h0 : 0 < n) (hn : n ≤ 1200) (hf : L.held < n + 2) :
    Calls Try.prog 18 #[.pointer (some ⟨g, 0, none⟩), .slice A n c] w fun e w' => e = .returned (.tuple #[.int .u64 0, .int .i64 9]) ∧ ∃ k, w' = w.drewN k := by
  have k0 := h.at_
  have k0c := k0.c; have k0f := k0.f; have k0l := k0.lt
  clear h
  have c1 : decide ((n : Int) = 0) = false := by simp; omega
  have c2 : decide ((1200 : Int) < n) = false := by simp; omega
  have hz : IntKind.i64.wrap ((n : Int) + 2) = n + 2 := IntWalk.i64_in _ (by omega)
  have c3 : decide (L.held < (n : Int) + 2) = true := by simp; omega
  go_enter Try.func18, Try.ntmps18
  go_wp2_with fail
  go_ret2
  exact ⟨by first | rfl | simp, 0, rfl⟩
/-- What Spend leaves. -/
def spendL (L : Lg) (p : List Int) : Lg := putL (heldL L (L.held - (p.length + 2))) p
set_option maxRecDepth 100000 in
set_option maxHeartbeats 4000000 in
theorem lspend_ok {base d g bc n c : Nat} {bA A : Option Addr} {L : Lg} {p : List Int} (w : World) (h : LgH w base d g bA bc L) (hbw : base ≤ w.heap.size) (hp : BsR w 0 w.heap.size A n p) (hpd : 0 < n → ∀ b, ownBlk A = some b → ¬ LFoot g bA b) (h0 : 0 < n) (hn : n ≤ 1200) (hf : (n : Int) + 2 ≤ L.held) (hok1 : LgOk (heldL L (L.held - (n + 2)))) (hok : LgOk (spendL L p)) :
    Calls Try.prog 18 #[.pointer (some ⟨g, 0, none⟩), .slice A n c] w fun e w' => e = .returned (.tuple #[.int .u64 (endL L), .int .i64 0]) ∧ (∃ bA' bc', LgH w' base d g bA' bc' (spendL L p) ∧ ∀ b, ownBlk bA' = some b → ownBlk bA = some b ∨ w.heap.size ≤ b) ∧ Mod (LFoot g bA) w w' := by
  have k0 := h.at_
  have hh := h.ok.held
  have hln := hp.1
  have hsp : spendL L p = putL (heldL L (L.held - (n + 2))) p := by unfold spendL; rw [hln]
  rw [hsp] at hok ⊢
  have k0c := k0.c; have k0f := k0.f; have k0l := k0.lt
  have hx : ∀ w1, w1 = w.setCell ⟨g, 7, none⟩ (.int .i64 (L.held - (n + 2))) → LgH w1 base d g bA bc (heldL L (L.held - (n + 2))) ∧ Mod (LFoot g bA) w w1 ∧ BsR w1 0 w.heap.size A n p := by
    rintro _ rfl
    have m := (Mod.refl (LFoot g bA) w).set (k := g) (o := 7) (.inl (.inl rfl)) (.int .i64 (L.held - (n + 2)))
    refine ⟨h.held hok1, m, hp.apart (row := some g) ((Mod.refl (fun k => k = g) w).set (.inl rfl) (.int .i64 (L.held - (n + 2))) |> fun m => ⟨m.os, m.tape, m.output, m.size, fun k hk hn => m.block k hk (fun e => hn (by rw [e]))⟩) (fun hm b hb e => hpd hm b hb (.inl (by injection e with e; exact e.symm))) (Nat.le_refl _)⟩
  have c1 : decide ((n : Int) = 0) = false := by simp; omega
  have c2 : decide ((1200 : Int) < n) = false := by simp; omega
  have hz : IntKind.i64.wrap ((n : Int) + 2) = n + 2 := IntWalk.i64_in _ (by omega)
  have hz2 : IntKind.i64.wrap (L.held - ((n : Int) + 2)) = L.held - (n + 2) := IntWalk.i64_in _ (by omega)
  have c3 : decide (L.held < (n : Int) + 2) = false := by simp; omega
  go_enter Try.func18, Try.ntmps18
  go_upto_region 10 with (fail)
  generalize hw1 : w.setCell ⟨g, 7, none⟩ (.int .i64 (L.held - (n + 2))) = w1
  obtain ⟨f1, f2, f3⟩ := hx w1 hw1.symm
  clear hx hw1 k0 k0c k0f k0l h
  go_wp2_with fail
  refine (lput_calls w1 f1 (Nat.le_trans hbw f2.size) (f3.more f2.size) hpd hn hok).mono ?_
  rintro e wK ⟨rfl, ⟨bA', bc', g1, g2⟩, g3⟩
  go_wp2_with fail
  go_ret2
  exact ⟨by first | rfl | simp [endL, heldL], ⟨bA', bc', g1, fun b hb => (g2 b hb).imp id (fun x => Nat.le_trans f2.size x)⟩, f2.trans g3 (fun _ _ h => h)⟩
end Go.Proofs.Ytnehppeoffemlaa
