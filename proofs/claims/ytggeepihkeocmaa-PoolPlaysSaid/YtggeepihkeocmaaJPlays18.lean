/- Joined texts: LogU, LogV. -/
import Derived.Test.YtggeepihkeocmaaJPlays17
/- What the log keeps true of its numbers (plain). -/
namespace Go.Proofs.Ytggeepihkeocmaa
set_option linter.unusedVariables false
set_option linter.unusedSimpArgs false
open Go.RowKit
structure LgI (L : Lg) : Prop where
  ok : LgOk L
  mul : L.base % 480 = 0
  lo : L.base ≤ L.sure
  hi : L.sure < L.base + 480
theorem newL_I {a c : Int} (ha : 0 ≤ a) (ha2 : a ≤ 4096) (hc : 4 ≤ c) (hc2 : c ≤ 4096) : LgI (newL a c) :=
  ⟨newL_ok ha ha2 hc hc2, rfl, by show (480 : Int) ≤ 480; omega, by show (480 : Int) < 480 + 480; omega⟩
theorem appL_buf (L : Lg) (hold : Int) (p : List Int) : (appL L hold p).buf.length = L.buf.length + 2 + p.length := putL_len _ _
theorem appL_end (L : Lg) (hold : Int) (p : List Int) : endL (appL L hold p) = endL L + 2 + p.length := by
  unfold endL
  rw [appL_buf]
  show L.base + _ = _
  omega
theorem app_ok {L : Lg} {hold : Int} {p : List Int} (h : LgI L) (h0 : 0 ≤ hold) (hf : (p.length : Int) + 2 ≤ roomL L - hold) : LgOk (heldL L (L.held + hold)) ∧ LgI (appL L hold p) := by
  have h1 := h.ok.base; have h2 := h.ok.buf; have h3 := h.ok.start; have h4 := h.ok.count; have h5 := h.ok.held; have h6 := h.ok.room; have h7 := h.ok.sure; have h8 := h.lo; have h9 := h.hi
  have hb := appL_buf L hold p
  have he := appL_end L hold p
  have hee : endL L = L.base + L.buf.length := rfl
  unfold roomL at hf
  have hq := h.ok.check
  refine ⟨⟨h.ok.pos, h4, h.ok.epoch, h3, hq, h7, ?_, h1, h2, ?_⟩, ⟨h.ok.pos, h4, h.ok.epoch, h3, hq, ?_, ?_, h1, ?_, ?_⟩, h.mul, h8, h9⟩
  · show 0 ≤ L.held + hold ∧ L.held + hold ≤ _
    omega
  · show endL L + (L.held + hold) ≤ (L.start / 480 + L.count) * 480
    omega
  · show L.sure ≤ endL (appL L hold p)
    omega
  · show 0 ≤ L.held + hold ∧ L.held + hold ≤ _
    omega
  · rw [hb]; omega
  · show endL (appL L hold p) + (L.held + hold) ≤ (L.start / 480 + L.count) * 480
    omega
theorem spendL_buf (L : Lg) (p : List Int) : (spendL L p).buf.length = L.buf.length + 2 + p.length := putL_len _ _
theorem spendL_end (L : Lg) (p : List Int) : endL (spendL L p) = endL L + 2 + p.length := by
  unfold endL
  rw [spendL_buf]
  show L.base + _ = _
  omega
theorem spend_ok {L : Lg} {p : List Int} (h : LgI L) (hf : (p.length : Int) + 2 ≤ L.held) : LgOk (heldL L (L.held - (p.length + 2))) ∧ LgI (spendL L p) := by
  have h1 := h.ok.base; have h2 := h.ok.buf; have h3 := h.ok.start; have h4 := h.ok.count; have h5 := h.ok.held; have h6 := h.ok.room; have h7 := h.ok.sure; have h8 := h.lo; have h9 := h.hi
  have hb := spendL_buf L p
  have he := spendL_end L p
  have hee : endL L = L.base + L.buf.length := rfl
  have hq := h.ok.check
  refine ⟨⟨h.ok.pos, h4, h.ok.epoch, h3, hq, h7, ?_, h1, h2, ?_⟩, ⟨h.ok.pos, h4, h.ok.epoch, h3, hq, ?_, ?_, h1, ?_, ?_⟩, h.mul, h8, h9⟩
  · show 0 ≤ L.held - (p.length + 2) ∧ L.held - (p.length + 2) ≤ _
    omega
  · show endL L + (L.held - (p.length + 2)) ≤ (L.start / 480 + L.count) * 480
    omega
  · show L.sure ≤ endL (spendL L p)
    omega
  · show 0 ≤ L.held - (p.length + 2) ∧ L.held - (p.length + 2) ≤ _
    omega
  · rw [hb]; omega
  · show endL (spendL L p) + (L.held - (p.length + 2)) ≤ (L.start / 480 + L.count) * 480
    omega
theorem flL_end {L : Lg} (h : LgI L) : endL (flL L) = endL L := by
  have h1 := h.ok.base; have h7 := h.ok.sure; have h8 := h.lo; have h9 := h.hi; have hm := h.mul
  have hee : endL L = L.base + L.buf.length := rfl
  show endL L / 480 * 480 + ((L.buf.drop (endL L / 480 * 480 - L.base).toNat).length : Int) = endL L
  rw [List.length_drop]
  omega
theorem fl_ok {L : Lg} (h : LgI L) (hb : endL L ≤ 1099511627776) : LgI (flL L) := by
  have h1 := h.ok.base; have h2 := h.ok.buf; have h3 := h.ok.start; have h4 := h.ok.count; have h5 := h.ok.held; have h6 := h.ok.room; have h7 := h.ok.sure; have h8 := h.lo; have h9 := h.hi
  have he := flL_end h
  have hq := h.ok.check
  refine ⟨⟨h.ok.pos, h4, h.ok.epoch, ?_, ?_, ?_, h5, ?_, ?_, ?_⟩, ?_, ?_, ?_⟩
  · show 0 ≤ L.start ∧ L.start ≤ endL L
    omega
  · show 0 ≤ L.check ∧ L.check ≤ endL L
    omega
  · rw [he]; show endL L ≤ endL L; omega
  · show 0 ≤ endL L / 480 * 480 ∧ endL L / 480 * 480 ≤ _
    omega
  · show (L.buf.drop _).length ≤ _
    rw [List.length_drop]; omega
  · rw [he]; exact h6
  · show endL L / 480 * 480 % 480 = 0
    omega
  · show endL L / 480 * 480 ≤ endL L
    omega
  · show endL L < endL L / 480 * 480 + 480
    omega
end Go.Proofs.Ytggeepihkeocmaa
/- The log laws' awake. -/
namespace Go.Proofs.Ytggeepihkeocmaa
set_option linter.unusedVariables false
set_option linter.unusedSimpArgs false
open Go.RowKit
/-- What Append and Spend wrote is the log's own. -/
theorem foot_low {w : World} {base d lb g bc : Nat} {F : Nat → Prop} {bA : Option Addr} {L : Lg} {D : Dk} (hL : LgH w base d g bA bc L) (hD : DD w base d lb F D) : (∀ k, LFoot g bA k → base ≤ k ∧ k < w.heap.size) ∧ ∀ k, F k → ¬ LFoot g bA k := by
  refine ⟨fun k hk => ?_, fun k hk hf => ?_⟩
  · rcases hk with hk | hk
    · have h1 := hL.hg; have h2 := hL.at_.lt; omega
    · exact hL.buf.lt k hk
  · rcases hf with hf | hf
    · exact hL.w.noF hD (hf ▸ hk)
    · exact hD.noB hL.buf k hf hk
set_option maxRecDepth 100000 in
set_option maxHeartbeats 4000000 in
theorem log_awake (w : World) : Calls Try.prog 32 #[] w fun e w' => e = .returned (.bool true) ∧ Below w.heap.size w w' := by
  go_enter Try.func32, Try.ntmps32
  go_wp2_with fail
  refine (fresh_calls 8 (by omega) (by omega) w).mono ?_
  rintro e w1 ⟨d, lb, g, bA, bc, F, rfl, hD1, hL1, hB1⟩
  obtain ⟨L0, hL0⟩ : ∃ L0, newL 1 ((8 : Nat) : Int) = L0 := ⟨_, rfl⟩
  have hI0 : LgI (newL 1 ((8 : Nat) : Int)) := newL_I (by omega) (by omega) (by omega) (by omega)
  have hr0 : roomL (newL 1 ((8 : Nat) : Int)) = 3840 := rfl
  have hE0 : endL (newL 1 ((8 : Nat) : Int)) = 480 := rfl
  have hc0 : (newL 1 ((8 : Nat) : Int)).pos = 1 ∧ (newL 1 ((8 : Nat) : Int)).count = 8 ∧ (newL 1 ((8 : Nat) : Int)).base = 480 ∧ (newL 1 ((8 : Nat) : Int)).start = 480 ∧ (newL 1 ((8 : Nat) : Int)).buf = [] ∧ (newL 1 ((8 : Nat) : Int)).held = 0 := ⟨rfl, rfl, rfl, rfl, rfl, rfl⟩
  rw [hL0] at hI0 hr0 hE0 hc0 hL1
  have hln : (opnD (8 + 3) 1 ((8 : Nat) : Int)).l.length = 11 := opnD_len (by omega) (by omega) (by omega)
  have hof : (opnD (8 + 3) 1 ((8 : Nat) : Int)).off = false := (opnD_qt (by omega) (by omega) (by omega)).2
  generalize opnD (8 + 3) 1 ((8 : Nat) : Int) = D0 at *
  clear hL0
  obtain ⟨f1, e1, b1, l1, x1⟩ := litb_at w1 97
  have hA1 := app_ok (hold := 0) (p := [97]) hI0 (by omega) (by rw [hr0]; show (1 : Int) + 2 ≤ _; omega)
  have hr1 : roomL (appL L0 0 [97]) = 3837 := by
    have h1 : endL (appL L0 0 [97]) = endL L0 + 2 + 1 := appL_end L0 0 [97]
    unfold roomL
    rw [h1, hE0]
    show (L0.start / 480 + L0.count) * 480 - _ - (L0.held + 0) = _
    rw [hc0.2.2.2.1, hc0.2.1, hc0.2.2.2.2.2]
    omega
  have hA2 := app_ok (hold := 0) (p := [98, 99]) hA1.2 (by omega) (by rw [hr1]; show (2 : Int) + 2 ≤ _; omega)
  have hb2 : (appL (appL L0 0 [97]) 0 [98, 99]).buf = [0, 1, 97, 0, 2, 98, 99] := by
    show (L0.buf ++ two2 1 ++ [97]) ++ two2 2 ++ [98, 99] = _
    rw [hc0.2.2.2.2.1]; rfl
  have he1 : endL (appL L0 0 [97]) = 483 := by rw [appL_end, hE0]; rfl
  have he2 : endL (appL (appL L0 0 [97]) 0 [98, 99]) = 487 := by rw [appL_end, he1]; rfl
  have hs2 : (appL (appL L0 0 [97]) 0 [98, 99]).base = 480 ∧ (appL (appL L0 0 [97]) 0 [98, 99]).start = 480 ∧ (appL (appL L0 0 [97]) 0 [98, 99]).pos = 1 ∧ (appL (appL L0 0 [97]) 0 [98, 99]).count = 8 := ⟨hc0.2.2.1, hc0.2.2.2.1, hc0.1, hc0.2.1⟩
  go_wp2_with fail
  have hLf := hL1.later b1
  have hDf := hD1.later b1
  have hBf := below_keep b1 hB1
  have hft := foot_low hLf hDf
  have hft1 := foot_low hL1 hD1
  refine (lapp_ok 0 f1 hLf hBf.size (BsR.single x1 l1 (by omega) (by omega)) (fun _ b hb hf => by injection hb with hb; have h1 := (hft1.1 b hf).2; simp at hb; omega) (by omega) (by omega) (by omega) (by rw [hr0]; omega) hA1.1 hA1.2.ok).mono ?_
  rintro e w2 ⟨rfl, ⟨bA2, bc2, hL2, hat2⟩, hm2⟩
  rw [hE0]
  have hD2 := hDf.mod hm2 hft.2
  have hB2 : Below w.heap.size w w2 := below_tr hBf (hm2.below hBf.size (fun k hk => (hft.1 k hk).1))
  clear hLf hDf hBf hft hft1 hL1 hD1 hm2 e1 b1 hat2
  obtain ⟨f3, e3, b3, l3, x3⟩ := lits_gen 32 5 Try.underlying32 Try.underlying5 w2 #[.int .u8 98, .int .u8 99] 2 rfl
  have hlit : BsR f3 0 f3.heap.size (some ⟨w2.heap.size, 0, none⟩) 2 [98, 99] := ⟨rfl, Byt.cons (by omega) (by omega) (Byt.cons (by omega) (by omega) Byt.nil), fun _ => ⟨w2.heap.size, 0, rfl, Nat.zero_le _, l3, fun j hj => by
    rw [Nat.zero_add, x3]
    rcases j with _ | _ | j
    all_goals first | rfl | omega⟩⟩
  go_wp2_with fail
  have hLf := hL2.later b3
  have hDf := hD2.later b3
  have hBf := below_keep b3 hB2
  have hft := foot_low hLf hDf
  have hft1 := foot_low hL2 hD2
  refine (lapp_ok 0 f3 hLf hBf.size hlit (fun _ b hb hf => by injection hb with hb; have h1 := (hft1.1 b hf).2; simp at hb; omega) (by omega) (by omega) (by omega) (by rw [hr1]; omega) hA2.1 hA2.2.ok).mono ?_
  rintro e w4 ⟨rfl, ⟨bA4, bc4, hL4, hat4⟩, hm4⟩
  rw [he1]
  have hD4 := hDf.mod hm4 hft.2
  have hB4 : Below w.heap.size w w4 := below_tr hBf (hm4.below hBf.size (fun k hk => (hft.1 k hk).1))
  clear hLf hDf hBf hft hft1 hL2 hD2 hm4 e3 b3 hat4 hlit x3 x1
  generalize appL (appL L0 0 [97]) 0 [98, 99] = L4 at *
  have hq1 : bytR D0 L4 480 2 3 [] = some [0, 1] := by
    unfold bytR
    rw [if_pos (by show 0 < 2; omega), if_pos (by rw [hs2.1]; show (480 : Int) ≤ ((480 + 0 : Nat) : Int); omega), hb2, hs2.1]
    rfl
  have hq2 : bytR D0 L4 (480 + 2) 1 2 [] = some [97] := by
    unfold bytR
    rw [if_pos (by show 0 < 1; omega), if_pos (by rw [hs2.1]; show (480 : Int) ≤ ((480 + 2 + 0 : Nat) : Int); omega), hb2, hs2.1]
    rfl
  go_wp2_with fail
  refine (lread_ok 480 1 w4 hL4 hD4 (by rw [hs2.2.2.1, hs2.2.2.2, hln]; omega) hof (by rw [hs2.2.1]; omega) (by rw [he2]; omega) hq1 (by omega) (by omega) rfl (by omega) hq2).mono ?_
  rintro e w5 ⟨A5, c5, rfl, hO5, hb5⟩
  have hstr := run_str c5 w5 hO5.reads
  have hlit1 : (strL [97]).toList = ([97] : List UInt8) := by rw [strL_toList]; rfl
  have hL5 := hL4.later hb5
  have hB5 := below_keep hb5 hB4
  clear hq1 hq2 hL4 hD4
  go_wp2_with fail
  refine (lend_q w5 487 hL5 he2).mono ?_
  rintro e w6 ⟨rfl, kd, rfl⟩
  have hstr2 := run_str c5 (w5.drewN kd) (show BsR (w5.drewN kd) _ _ _ _ _ from hO5.reads)
  go_wp2
  go_ret
  exact ⟨by first | rfl | simp, below_drewN hB5 kd⟩
end Go.Proofs.Ytggeepihkeocmaa
