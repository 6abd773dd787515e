/- Joined texts: LogV, LogW, LogX. -/
import Derived.Test.YtnehppeoffemlaaJLogRings32
/- The log laws' awake. -/
namespace Go.Proofs.Ytnehppeoffemlaa
set_option linter.unusedVariables false
set_option linter.unusedSimpArgs false
open Go.RowKit
/-- What Append and Spend wrote is the log's own. -/
theorem foot_low {w : World} {base d lb g bc : Nat} {F : Nat → Prop} {bA : Option Addr} {L : Lg} {D : Dk} (hL : LgH w base d g bA bc L) (hD : DD w base d lb F D) : (∀ k, LFoot g bA k → base ≤ k ∧ k < w.heap.size) ∧ ∀ k, F k → ¬ LFoot g bA k := by
  refine ⟨fun k hk => ?_, fun k hk hf => ?_⟩
  · rcases hk with hk | hk
    · have h1 := hL.hg; have h2 := hL.at_.lt; omega
    · exact hL.buf.lt k hk
  · rcases hf with hf | hf
    · exact hL.w.noF hD (hf ▸ hk)
    · exact hD.noB hL.buf k hf hk
set_option maxRecDepth 100000 in
set_option maxHeartbeats 4000000 in
theorem log_awake (w : World) : Calls Try.prog 13 #[] w fun e w' => e = .returned (.bool true) ∧ Below w.heap.size w w' := by
  go_enter Try.func13, Try.ntmps13
  go_wp2_with fail
  refine (fresh_calls 8 (by omega) (by omega) w).mono ?_
  rintro e w1 ⟨d, lb, g, bA, bc, F, rfl, hD1, hL1, hB1⟩
  obtain ⟨L0, hL0⟩ : ∃ L0, newL 1 ((8 : Nat) : Int) = L0 := ⟨_, rfl⟩
  have hI0 : LgI (newL 1 ((8 : Nat) : Int)) := newL_I (by omega) (by omega) (by omega) (by omega)
  have hr0 : roomL (newL 1 ((8 : Nat) : Int)) = 3840 := rfl
  have hE0 : endL (newL 1 ((8 : Nat) : Int)) = 480 := rfl
  have hc0 : (newL 1 ((8 : Nat) : Int)).pos = 1 ∧ (newL 1 ((8 : Nat) : Int)).count = 8 ∧ (newL 1 ((8 : Nat) : Int)).base = 480 ∧ (newL 1 ((8 : Nat) : Int)).start = 480 ∧ (newL 1 ((8 : Nat) : Int)).buf = [] ∧ (newL 1 ((8 : Nat) : Int)).held = 0 := ⟨rfl, rfl, rfl, rfl, rfl, rfl⟩
  rw [hL0] at hI0 hr0 hE0 hc0 hL1
  have hln : (opnD (8 + 3) 1 ((8 : Nat) : Int)).l.length = 11 := opnD_len (by omega) (by omega) (by omega)
  have hof : (opnD (8 + 3) 1 ((8 : Nat) : Int)).off = false := (opnD_qt (by omega) (by omega) (by omega)).2
  generalize opnD (8 + 3) 1 ((8 : Nat) : Int) = D0 at *
  clear hL0
  obtain ⟨f1, e1, b1, l1, x1⟩ := litb_at w1 97
  have hA1 := app_ok (hold := 0) (p := [97]) hI0 (by omega) (by rw [hr0]; show (1 : Int) + 2 ≤ _; omega)
  have hr1 : roomL (appL L0 0 [97]) = 3837 := by
    have h1 : endL (appL L0 0 [97]) = endL L0 + 2 + 1 := appL_end L0 0 [97]
    unfold roomL
    rw [h1, hE0]
    show (L0.start / 480 + L0.count) * 480 - _ - (L0.held + 0) = _
    rw [hc0.2.2.2.1, hc0.2.1, hc0.2.2.2.2.2]
    omega
  have hA2 := app_ok (hold := 0) (p := [98, 99]) hA1.2 (by omega) (by rw [hr1]; show (2 : Int) + 2 ≤ _; omega)
  have hb2 : (appL (appL L0 0 [97]) 0 [98, 99]).buf = [0, 1, 97, 0, 2, 98, 99] := by
    show (L0.buf ++ two2 1 ++ [97]) ++ two2 2 ++ [98, 99] = _
    rw [hc0.2.2.2.2.1]; rfl
  have he1 : endL (appL L0 0 [97]) = 483 := by rw [appL_end, hE0]; rfl
  have he2 : endL (appL (appL L0 0 [97]) 0 [98, 99]) = 487 := by rw [appL_end, he1]; rfl
  have hs2 : (appL (appL L0 0 [97]) 0 [98, 99]).base = 480 ∧ (appL (appL L0 0 [97]) 0 [98, 99]).start = 480 ∧ (appL (appL L0 0 [97]) 0 [98, 99]).pos = 1 ∧ (appL (appL L0 0 [97]) 0 [98, 99]).count = 8 := ⟨hc0.2.2.1, hc0.2.2.2.1, hc0.1, hc0.2.1⟩
  go_wp2_with fail
  have hLf := hL1.later b1
  have hDf := hD1.later b1
  have hBf := below_keep b1 hB1
  have hft := foot_low hLf hDf
  have hft1 := foot_low hL1 hD1
  refine (lapp_ok 0 f1 hLf hBf.size (BsR.single x1 l1 (by omega) (by omega)) (fun _ b hb hf => by injection hb with hb; have h1 := (hft1.1 b hf).2; simp at hb; omega) (by omega) (by omega) (by omega) (by rw [hr0]; omega) hA1.1 hA1.2.ok).mono ?_
  rintro e w2 ⟨rfl, ⟨bA2, bc2, hL2, hat2⟩, hm2⟩
  rw [hE0]
  have hD2 := hDf.mod hm2 hft.2
  have hB2 : Below w.heap.size w w2 := below_tr hBf (hm2.below hBf.size (fun k hk => (hft.1 k hk).1))
  clear hLf hDf hBf hft hft1 hL1 hD1 hm2 e1 b1 hat2
  obtain ⟨f3, e3, b3, l3, x3⟩ := lits_gen 32 5 Try.underlying32 Try.underlying5 w2 #[.int .u8 98, .int .u8 99] 2 rfl
  have hlit : BsR f3 0 f3.heap.size (some ⟨w2.heap.size, 0, none⟩) 2 [98, 99] := ⟨rfl, Byt.cons (by omega) (by omega) (Byt.cons (by omega) (by omega) Byt.nil), fun _ => ⟨w2.heap.size, 0, rfl, Nat.zero_le _, l3, fun j hj => by
    rw [Nat.zero_add, x3]
    rcases j with _ | _ | j
    all_goals first | rfl | omega⟩⟩
  go_wp2_with fail
  have hLf := hL2.later b3
  have hDf := hD2.later b3
  have hBf := below_keep b3 hB2
  have hft := foot_low hLf hDf
  have hft1 := foot_low hL2 hD2
  refine (lapp_ok 0 f3 hLf hBf.size hlit (fun _ b hb hf => by injection hb with hb; have h1 := (hft1.1 b hf).2; simp at hb; omega) (by omega) (by omega) (by omega) (by rw [hr1]; omega) hA2.1 hA2.2.ok).mono ?_
  rintro e w4 ⟨rfl, ⟨bA4, bc4, hL4, hat4⟩, hm4⟩
  rw [he1]
  have hD4 := hDf.mod hm4 hft.2
  have hB4 : Below w.heap.size w w4 := below_tr hBf (hm4.below hBf.size (fun k hk => (hft.1 k hk).1))
  clear hLf hDf hBf hft hft1 hL2 hD2 hm4 e3 b3 hat4 hlit x3 x1
  generalize appL (appL L0 0 [97]) 0 [98, 99] = L4 at *
  have hq1 : bytR D0 L4 480 2 3 [] = some [0, 1] := by
    unfold bytR
    rw [if_pos (by show 0 < 2; omega), if_pos (by rw [hs2.1]; show (480 : Int) ≤ ((480 + 0 : Nat) : Int); omega), hb2, hs2.1]
    rfl
  have hq2 : bytR D0 L4 (480 + 2) 1 2 [] = some [97] := by
    unfold bytR
    rw [if_pos (by show 0 < 1; omega), if_pos (by rw [hs2.1]; show (480 : Int) ≤ ((480 + 2 + 0 : Nat) : Int); omega), hb2, hs2.1]
    rfl
  go_wp2_with fail
  refine (lread_ok 480 1 w4 hL4 hD4 (by rw [hs2.2.2.1, hs2.2.2.2, hln]; omega) hof (by rw [hs2.2.1]; omega) (by rw [he2]; omega) hq1 (by omega) (by omega) rfl (by omega) hq2).mono ?_
  rintro e w5 ⟨A5, c5, rfl, hO5, hb5⟩
  have hstr := run_str c5 w5 hO5.reads
  have hlit1 : (strL [97]).toList = ([97] : List UInt8) := by rw [strL_toList]; rfl
  have hL5 := hL4.later hb5
  have hB5 := below_keep hb5 hB4
  clear hq1 hq2 hL4 hD4
  go_wp2_with fail
  refine (lend_q w5 487 hL5 he2).mono ?_
  rintro e w6 ⟨rfl, kd, rfl⟩
  have hstr2 := run_str c5 (w5.drewN kd) (show BsR (w5.drewN kd) _ _ _ _ _ from hO5.reads)
  go_wp2
  go_ret
  exact ⟨by first | rfl | simp, below_drewN hB5 kd⟩
end Go.Proofs.Ytnehppeoffemlaa
/- The log's Mark by its contract, on a disk whose power stays on. -/
namespace Go.Proofs.Ytnehppeoffemlaa
set_option linter.unusedVariables false
set_option linter.unusedSimpArgs false
open Go.RowKit
def markL (L : Lg) (ck st : Int) : Lg := { L with check := ck, start := st }
theorem mark_ok {L : Lg} (h : LgI L) {ck st : Int} (h1 : L.start ≤ st) (h2 : st ≤ L.sure) (h3 : 0 ≤ ck) (h4 : ck ≤ L.sure) : LgI (markL L ck st) := by
  have a1 := h.ok.start; have a2 := h.ok.room
  refine ⟨⟨h.ok.pos, h.ok.count, h.ok.epoch, ⟨by show 0 ≤ st; omega, h2⟩, ⟨h3, h4⟩, h.ok.sure, h.ok.held, h.ok.base, h.ok.buf, ?_⟩, h.mul, h.lo, h.hi⟩
  show endL L + L.held ≤ (st / 480 + L.count) * 480
  omega
set_option maxRecDepth 100000 in
set_option maxHeartbeats 4000000 in
theorem lMark_calls {base d lb g bc : Nat} {F : Nat → Prop} {bA : Option Addr} {L : Lg} {D : Dk} (ck st : Int) (i : Nat) (w : World) (hL : LgH w base d g bA bc L) (hD : DD w base d lb F D) (hI : LgI L) (hq : Qt D) (hi : (i : Int) = L.pos) (hil : i < D.l.length) (h9 : D.ops + 1 < 1000000000) (hm9 : D.way.length < 1000000000) (h1 : L.start ≤ st) (h2 : st ≤ L.sure) (h3 : 0 ≤ ck) (h4 : ck ≤ L.sure) :
    Calls Try.prog 21 #[.pointer (some ⟨g, 0, none⟩), .int .u64 ck, .int .u64 st] w fun e w' => e = .returned (.int .i64 0) ∧ LogTo w w' base d lb g F bA (syncD (wrD D i (masterL (markL L ck st)))) (markL L ck st) := by
  have hLx := Lib.hid hL
  have hok := mark_ok hI h1 h2 h3 h4
  have k0 := hL.at_
  have c1 : decide (st < L.start) = false := by simp; omega
  have c2 : decide (L.sure < st) = false := by simp; omega
  have c3 : decide (L.sure < ck) = false := by simp; omega
  have hmE := hq.mkE i (masterL (markL L ck st))
  have hmD := hq.mkD i (masterL (markL L ck st))
  have hmEx := Lib.hid hmE
  have hmDx := Lib.hid hmD
  clear hmE hmD
  have k0c := k0.c; have k0f := k0.f; have k0l := k0.lt
  go_enter Try.func21, Try.ntmps21
  go_upto_region 5 with (fail)
  go_quiet (fail)
  have dq : Below w.heap.size w (w.drewN nq) := below_drewN (Below.refl _ _) nq
  have k1 := At.keep dq k0
  clear k0c k0f k0l
  have k1c := k1.c; have k1f := k1.f; have k1l := k1.lt
  go_upto_region 7 with (fail)
  have k2 := At.set (o := 4) (v := .int .u64 st) (At.set (o := 5) (v := .int .u64 ck) k1)
  simp only [List.setIfInBounds_toArray, List.set_cons_zero, List.set_cons_succ] at k2
  have m2 : Mod (fun j => j = g) w (((w.drewN nq).setCell ⟨g, 5, none⟩ (.int .u64 ck)).setCell ⟨g, 4, none⟩ (.int .u64 st)) := Mod.set (S := fun j => j = g) (Mod.set (S := fun j => j = g) ((Mod.refl (fun j => j = g) w).drewN nq) (k := g) (.inl rfl) _) (k := g) (.inl rfl) _
  have ho2 : OwB (((w.drewN nq).setCell ⟨g, 5, none⟩ (.int .u64 ck)).setCell ⟨g, 4, none⟩ (.int .u64 st)) base bA L.buf.length bc L.buf := ownBlk_set (ownBlk_set (hLx.out.buf.drewN nq) (Ne.symm hLx.out.neb)) (Ne.symm hLx.out.neb)
  clear k1 k1c k1f k1l
  generalize ((w.drewN nq).setCell ⟨g, 5, none⟩ (.int .u64 ck)).setCell ⟨g, 4, none⟩ (.int .u64 st) = w2 at *
  have hnF := hLx.out.w.noF hD
  have hD2 := hD.mod m2 (fun k hk e => hnF (e ▸ hk))
  have hL2 : LgH w2 base d g bA bc (markL L ck st) := ⟨k2, ho2, hLx.out.hg, hok.ok⟩
  go_wp2_with fail
  refine (lmark_w i w2 hL2.w hD2 hi hil h9 hm9).mono ?_
  rw [hmEx.out, hmDx.out]
  rintro e w3 ⟨rfl, ⟨F3, hD3, hg3⟩, hm3⟩
  have hL3 := hL2.mod hm3 (hL2.w.noF hD2) (hD2.noB hL2.buf)
  go_wp2
  go_ret
  exact ⟨by first | rfl | simp, LogTo.mk hD3 hL3 (fun b hb => (hg3 b hb).imp id (fun h => Nat.le_trans m2.size h)) (fun b hb => .inl hb) ((m2.mono (fun k hk => .inr (.inl hk))).trans hm3 (fun k hk h => .inl h))⟩
end Go.Proofs.Ytnehppeoffemlaa
/- The ring of sectors (plain): what a laid sector says; Open's scan reads what was laid. -/
namespace Go.Proofs.Ytnehppeoffemlaa
set_option linter.unusedVariables false
set_option linter.unusedSimpArgs false
open Go.RowKit
theorem lay_head (k e : Int) (p : List Int) : layL k e p = u8L k ++ (u8L e ++ (two2 p.length ++ (p ++ (List.replicate (486 - p.length) 0 ++ u8L (sumL (layB k e p)))))) := by
  show layB k e p ++ u8L (sumL (layB k e p)) = _
  generalize sumL (layB k e p) = s
  unfold layB layH
  simp only [List.append_assoc]
theorem u8c (u : Int) : u8L u = [ub u 0, ub u 1, ub u 2, ub u 3, ub u 4, ub u 5, ub u 6, ub u 7] := rfl
theorem lay_says {k e : Int} {p : List Int} (hk : 0 ≤ k ∧ k < 18446744073709551616) (he : 0 ≤ e ∧ e < 18446744073709551616) (hp : p.length ≤ 480) :
    numK (layL k e p) = k ∧ numE (layL k e p) = e ∧ usedS (layL k e p) = p.length ∧ numS (layL k e p) = sumL (((layL k e p).take 504).drop 0) ∧ secP (layL k e p) = p := by
  have hs := sumL_range (layB k e p)
  have h1 : numK (layL k e p) = k := by
    unfold numK
    rw [List.drop_zero, lay_head, List.take_left' (u8L_len k), num_u8L hk.1 hk.2]
  have h2 : numE (layL k e p) = e := by
    unfold numE
    rw [lay_head, List.drop_left' (u8L_len k), List.take_left' (u8L_len e), num_u8L he.1 he.2]
  have h3 : usedS (layL k e p) = p.length := by
    unfold usedS
    rw [lay_head, u8c k, u8c e]
    show (p.length : Int) / 256 * 256 + (p.length : Int) % 256 = _
    omega
  have h4 : numS (layL k e p) = sumL (((layL k e p).take 504).drop 0) := by
    have e1 : (layL k e p).drop 504 = u8L (sumL (layB k e p)) := by unfold layL; exact List.drop_left' (layB_len hp)
    have e2 : (layL k e p).take 504 = layB k e p := by unfold layL; exact List.take_left' (layB_len hp)
    unfold numS
    rw [e1, e2, List.drop_zero, List.take_of_length_le (by rw [u8L_len]; omega), num_u8L hs.1 (by omega)]
  refine ⟨h1, h2, h3, h4, ?_⟩
  unfold secP
  rw [h3, Int.toNat_natCast]
  have e3 : layL k e p = layH k e p ++ (List.replicate (486 - p.length) 0 ++ u8L (sumL (layB k e p))) := by
    show layB k e p ++ u8L (sumL (layB k e p)) = _
    generalize sumL (layB k e p) = s
    unfold layB
    rw [List.append_assoc]
  rw [e3, List.take_left' (layH_len k e p)]
  unfold layH
  exact List.drop_left' (by simp [u8L_len, two2])
theorem lay_yes {k e ep : Int} {p : List Int} (hk : 0 ≤ k ∧ k < 18446744073709551616) (he : 0 ≤ e ∧ e < 18446744073709551616) (hp : p.length ≤ 480) (hep : e ≤ ep) : SecYes (layL k e p) k ep := by
  obtain ⟨h1, h2, h3, h4, h5⟩ := lay_says hk he hp
  exact ⟨h1, by rw [h3]; omega, h4, by rw [h2]; exact hep⟩
theorem lay_no {k k' e : Int} {p : List Int} (hk : 0 ≤ k ∧ k < 18446744073709551616) (hne : k ≠ k') (ep : Int) : ¬ SecYes (layL k e p) k' ep := fun h => by
  have h1 := h.1
  unfold numK at h1
  rw [List.drop_zero, lay_head, List.take_left' (u8L_len k), num_u8L hk.1 hk.2] at h1
  exact hne h1
/-- Records one behind the other. -/
def recB (rs : List (List Int)) : List Int := rs.flatMap fun p => two2 p.length ++ p
theorem prs_all : ∀ (rs : List (List Int)) (pre : List Int) (f : Nat), (∀ p ∈ rs, 1 ≤ p.length ∧ p.length ≤ 1200) → (recB rs).length ≤ f → prs (pre ++ recB rs) f pre.length = (pre ++ recB rs).length
  | [], pre, f, _, _ => by
    have e : pre ++ recB [] = pre := List.append_nil pre
    rw [e]
    cases f with
    | zero => rfl
    | succ f => unfold prs; rw [if_neg (by omega)]
  | p :: rs, pre, f, h, hf => by
    have hp := h p (by simp)
    have e : recB (p :: rs) = (two2 p.length ++ p) ++ recB rs := rfl
    have hl : (two2 p.length ++ p).length = 2 + p.length := by rw [List.length_append]; rfl
    rw [e, List.length_append, hl] at hf
    obtain ⟨f, rfl⟩ : ∃ f', f = f' + 1 := ⟨f - 1, by omega⟩
    have e2 : pre ++ recB (p :: rs) = (pre ++ (two2 p.length ++ p)) ++ recB rs := by rw [e, ← List.append_assoc]
    have hlen : (pre ++ recB (p :: rs)).length = pre.length + (2 + p.length) + (recB rs).length := by rw [e2, List.length_append, List.length_append, hl]
    have g0 : (pre ++ recB (p :: rs)).getD pre.length 0 = (p.length : Int) / 256 := by
      rw [e, List.getD_eq_getElem?_getD, List.getElem?_append_right (Nat.le_refl _), Nat.sub_self]
      rfl
    have g1 : (pre ++ recB (p :: rs)).getD (pre.length + 1) 0 = (p.length : Int) % 256 := by
      rw [e, List.getD_eq_getElem?_getD, List.getElem?_append_right (by omega), show pre.length + 1 - pre.length = 1 by omega]
      rfl
    unfold prs
    rw [g0, g1, show (p.length : Int) / 256 * 256 + (p.length : Int) % 256 = p.length by omega, if_pos (by omega), if_neg (by omega), Int.toNat_natCast]
    have ih := prs_all rs (pre ++ (two2 p.length ++ p)) f (fun q hq => h q (by simp [hq])) (by omega)
    rw [List.length_append, hl] at ih
    rw [e2]
    exact ih
theorem recB_len (rs : List (List Int)) (p : List Int) : recB (rs ++ [p]) = recB rs ++ two2 p.length ++ p := by
  unfold recB
  rw [List.flatMap_append]
  simp
end Go.Proofs.Ytnehppeoffemlaa
