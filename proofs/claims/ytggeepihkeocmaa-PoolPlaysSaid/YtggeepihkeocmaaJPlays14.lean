/- Joined texts: LogO. -/
import Derived.Test.YtggeepihkeocmaaJPlays13
/- The log's Open by its contract. -/
namespace Go.Proofs.Ytggeepihkeocmaa
set_option linter.unusedVariables false
set_option linter.unusedSimpArgs false
open Go.RowKit
theorem BsR.modS {w w' : World} {lo hi n : Nat} {A : Option Addr} {l : List Int} {S : Nat → Prop} (h : BsR w lo hi A n l) (hm : Mod S w w') (hs : ∀ b, ownBlk A = some b → ¬ S b) (hh : hi ≤ w.heap.size) : BsR w' lo hi A n l :=
  ⟨h.1, h.2.1, fun h0 => by
    obtain ⟨b, o, hA, h1, h2, h3⟩ := h.2.2 h0
    refine ⟨b, o, hA, h1, h2, fun j hj => ?_⟩
    exact (World.cell?_of_block (a := ⟨b, o + j, none⟩) (hm.block b (Nat.lt_of_lt_of_le h2 hh) (hs b (by rw [hA]; rfl)))).trans (h3 j hj)⟩
theorem lit_iff {a : List Int} (ha : Byt a) (b : List Int) (hb : Byt b) : (strL a).toList = u8s b ↔ a = b := by
  rw [strL_toList]
  exact ⟨u8s_inj ha hb, fun h => by rw [h]⟩
/-- What a first sector says. -/
def MasYes (s : List Int) : Prop := (s.take 4).drop 0 = [77, 76, 79, 71] ∧ num ((s.drop 28).take 8) = sumL ((s.take 28).drop 0)
def masL (s : List Int) (a c : Int) : Lg := ⟨a, c, num ((s.drop 4).take 8), num ((s.drop 12).take 8), num ((s.drop 20).take 8), 0, 0, 0, []⟩
def nextL (L : Lg) : Lg := { L with epoch := L.epoch + 1 }
/-- The log that Open finds; what its three writes leave. -/
def opL (D : Dk) (a c : Int) : Lg := nextL (scanL D (masL (readD D a.toNat) a c))
def op1D (D : Dk) (a c : Int) : Dk := mkD D a.toNat (masterL (opL D a c))
def op1E (D : Dk) (a c : Int) : Int := mkE D a.toNat (masterL (opL D a c))
def op2D (D : Dk) (a c : Int) : Dk := if op1E D a c = 0 then wr1 (op1D D a c) (idxL (opL D a c) ((opL D a c).base / 480).toNat) (layL ((opL D a c).base / 480) (opL D a c).epoch (opL D a c).buf) else op1D D a c
def op2E (D : Dk) (a c : Int) : Int := if op1E D a c = 0 then wr1E (op1D D a c) else op1E D a c
def op3D (D : Dk) (a c : Int) : Dk := if op2E D a c = 0 then sy1 (op2D D a c) else op2D D a c
def op3E (D : Dk) (a c : Int) : Int := if op2E D a c = 0 then sy1E (op2D D a c) else op2E D a c
theorem mkD_len (D : Dk) (i : Nat) (p : List Int) : (mkD D i p).l.length = D.l.length := by
  have h1 := wr1_len D i p
  unfold mkD
  by_cases h : wr1E D = 0
  · rw [if_pos h]
    unfold sy1
    by_cases h2 : (wr1 D i p).off = true
    · rw [if_pos h2]; exact h1
    · rw [if_neg h2]
      by_cases h3 : (opD (wr1 D i p)).off = true
      · rw [if_pos h3]; exact h1
      · rw [if_neg h3]; show (setTo _ _ _).length = _; rw [setTo_len]; exact h1
  · rw [if_neg h]; exact h1
theorem mkE_range (D : Dk) (i : Nat) (p : List Int) : mkE D i p = 0 ∨ mkE D i p = 8 := by
  unfold mkE
  by_cases h : wr1E D = 0
  · rw [if_pos h]; exact sy1E_range _
  · rw [if_neg h]; exact wr1E_range D
theorem wr1_way (D : Dk) (i : Nat) (p : List Int) : (wr1 D i p).way.length ≤ D.way.length + 1 := by
  unfold wr1; by_cases h : D.off = true
  · rw [if_pos h]; omega
  · rw [if_neg h]; show (D.way ++ [(i, p)]).length ≤ _; simp
theorem sy1_ops (D : Dk) : (sy1 D).ops ≤ D.ops + 1 := by
  unfold sy1; by_cases h : D.off = true
  · rw [if_pos h]; omega
  · rw [if_neg h]; by_cases h2 : (opD D).off = true
    · rw [if_pos h2]; show D.ops + 1 ≤ _; omega
    · rw [if_neg h2]; show D.ops + 1 ≤ _; omega
theorem sy1_way (D : Dk) : (sy1 D).way.length ≤ D.way.length := by
  unfold sy1; by_cases h : D.off = true
  · rw [if_pos h]; omega
  · rw [if_neg h]; by_cases h2 : (opD D).off = true
    · rw [if_pos h2]; show D.way.length ≤ _; omega
    · rw [if_neg h2]; show 0 ≤ _; omega
theorem mkD_ops (D : Dk) (i : Nat) (p : List Int) : (mkD D i p).ops ≤ D.ops + 2 := by
  have h1 := wr1_ops D i p
  have h2 := sy1_ops (wr1 D i p)
  unfold mkD
  by_cases h : wr1E D = 0
  · rw [if_pos h]; omega
  · rw [if_neg h]; omega
theorem mkD_way (D : Dk) (i : Nat) (p : List Int) : (mkD D i p).way.length ≤ D.way.length + 1 := by
  have h1 := wr1_way D i p
  have h2 := sy1_way (wr1 D i p)
  unfold mkD
  by_cases h : wr1E D = 0
  · rw [if_pos h]; omega
  · rw [if_neg h]; omega
theorem scanG_len (D : Dk) (L : Lg) (h : 0 ≤ L.count) : ((scanG D L).length : Int) ≤ L.count * 480 := by
  have h1 := gath_len D L L.count.toNat (L.start / 480).toNat [] 0
  unfold scanG
  simp at h1
  omega
theorem scanP_le (D : Dk) (L : Lg) : min (L.start % 480).toNat (scanG D L).length ≤ scanP D L ∧ scanP D L ≤ (scanG D L).length := by
  unfold scanP
  exact prs_le _ _ _ (by omega)
theorem scanL_buf (D : Dk) (L : Lg) : (scanL D L).buf.length = scanP D L - scanP D L / 480 * 480 := by
  have := (scanP_le D L).2
  show (((scanG D L).take (scanP D L)).drop (scanP D L / 480 * 480)).length = _
  rw [List.length_drop, List.length_take]
  omega
theorem scanL_base (D : Dk) (L : Lg) (h : 0 ≤ L.start) : (scanL D L).base = L.start / 480 * 480 + (scanP D L / 480 * 480 : Nat) := by
  show (L.start / 480 * 480 + scanP D L) / 480 * 480 = _
  omega
theorem lopen_no {base d lb : Nat} {F : Nat → Prop} {D : Dk} (a c : Int) (w : World) (h : DD w base d lb F D) (hno : llookE D a c = 1) :
    Calls Try.prog 63 #[.pointer (some ⟨d, 0, none⟩), .int .i64 a, .int .i64 c] w fun e w' => e = .returned (.tuple #[.pointer none, .int .i64 1]) ∧ w = w' := by
  go_enter Try.func63, Try.ntmps63
  go_wp2_with fail
  refine (llook_calls a c w h).mono ?_
  rintro e w' ⟨rfl, rfl⟩
  rw [hno]
  go_wp2
  go_ret2
  exact ⟨by first | rfl | simp, rfl⟩
theorem lopen_off {base d lb : Nat} {F : Nat → Prop} {D : Dk} (a c : Int) (i : Nat) (w : World) (h : DD w base d lb F D) (hok : llookE D a c = 0) (hi : (i : Int) = a) (hoff : D.off = true) :
    Calls Try.prog 63 #[.pointer (some ⟨d, 0, none⟩), .int .i64 a, .int .i64 c] w fun e w' => e = .returned (.tuple #[.pointer none, .int .i64 8]) ∧ w = w' := by
  have hf := look_facts hok
  subst hi
  go_enter Try.func63, Try.ntmps63
  go_wp2_with fail
  refine (llook_calls i c w h).mono ?_
  rintro e w' ⟨rfl, rfl⟩
  rw [hok]
  go_wp2_with fail
  refine (rdo_dd i w h (by omega) hoff).mono ?_
  rintro e w' ⟨rfl, rfl⟩
  go_wp2
  go_ret2
  exact ⟨by first | rfl | simp, rfl⟩
set_option maxRecDepth 100000 in
set_option maxHeartbeats 8000000 in
theorem lopen_w {base d lb : Nat} {F : Nat → Prop} {D : Dk} (a c : Int) (i : Nat) (w : World) (h : DD w base d lb F D) (hok : llookE D a c = 0) (hi : (i : Int) = a) (hoff : D.off = false) (h9 : D.ops + 3 < 1000000000) (hm9 : D.way.length + 2 < 1000000000)
    (hb : MasYes (readD D i) → num (((readD D i).drop 4).take 8) < 1099511627776 ∧ num (((readD D i).drop 12).take 8) < 2305843009213693952) :
    Calls Try.prog 63 #[.pointer (some ⟨d, 0, none⟩), .int .i64 a, .int .i64 c] w fun e w' =>
      (¬ MasYes (readD D i) ∧ e = .returned (.tuple #[.pointer none, .int .i64 15]) ∧ Below w.heap.size w w') ∨
      (MasYes (readD D i) ∧ (scanG D (masL (readD D i) a c)).length < ((masL (readD D i) a c).start % 480).toNat ∧ e = .returned (.tuple #[.pointer none, .int .i64 3]) ∧ Below w.heap.size w w') ∨
      (MasYes (readD D i) ∧ ((masL (readD D i) a c).start % 480).toNat ≤ (scanG D (masL (readD D i) a c)).length ∧
        (∃ F', DD w' base d lb F' (op3D D a c) ∧ Grew F F' w.heap.size) ∧ Mod F w w' ∧
        ((op3E D a c ≠ 0 ∧ e = .returned (.tuple #[.pointer none, .int .i64 (op3E D a c)])) ∨
         (op3E D a c = 0 ∧ ∃ g bA bc, e = .returned (.tuple #[.pointer (some ⟨g, 0, none⟩), .int .i64 0]) ∧ w.heap.size ≤ g ∧ LgW w' base d g bA bc (opL D a c) ∧ OwB w' w.heap.size bA (opL D a c).buf.length bc (opL D a c).buf))) := by
  have hf := look_facts hok
  have hl := h.ok.len
  have hbw : base ≤ w.heap.size := by have := h.lts d h.d; omega
  subst hi
  have hin : ((i : Int)).toNat = i := Int.toNat_natCast i
  have hop : opL D i c = nextL (scanL D (masL (readD D i) i c)) := by unfold opL; rw [hin]
  have e1D : op1D D i c = mkD D i (masterL (opL D i c)) := by unfold op1D; rw [hin]
  have e1E : op1E D i c = mkE D i (masterL (opL D i c)) := by unfold op1E; rw [hin]
  obtain ⟨s, hsD⟩ : ∃ s, readD D i = s := ⟨_, rfl⟩
  rw [hsD] at hb hop ⊢
  obtain ⟨D3, hD3⟩ : ∃ D3, op3D D i c = D3 := ⟨_, rfl⟩
  obtain ⟨E3, hE3⟩ : ∃ E3, op3E D i c = E3 := ⟨_, rfl⟩
  obtain ⟨L2, hL2⟩ : ∃ L2, opL D i c = L2 := ⟨_, rfl⟩
  obtain ⟨L0, hL0⟩ : ∃ L0, masL s i c = L0 := ⟨_, rfl⟩
  rw [hL0] at hop ⊢
  rw [hD3, hE3, hL2]
  go_enter Try.func63, Try.ntmps63
  go_wp2_with fail
  refine (llook_calls i c w h).mono ?_
  rintro e w' ⟨rfl, rfl⟩
  rw [hok]
  go_wp2_with fail
  refine (rd_dd i w h (by omega) hoff).mono ?_
  rintro e w1 ⟨b, rfl, hs, hb1, hbs⟩
  rw [hsD] at hs
  have hby := hs.2.2
  have hsl := hs.2.1
  have hbl := hs.1.lt
  go_wp2_with fail
  have k1 := At.new w1 #[.pointer (some ⟨d, 0, none⟩), .int .i64 i, .int .i64 c, .int .u64 0, .int .u64 0, .int .u64 0, .int .u64 0, .int .i64 0, .int .u64 0, .slice none 0 0] 113
  have hb2 := below_new w1 (.cells #[.pointer (some ⟨d, 0, none⟩), .int .i64 i, .int .i64 c, .int .u64 0, .int .u64 0, .int .u64 0, .int .u64 0, .int .i64 0, .int .u64 0, .slice none 0 0] 113)
  generalize (w1.alloc (.cells #[.pointer (some ⟨d, 0, none⟩), .int .i64 i, .int .i64 c, .int .u64 0, .int .u64 0, .int .u64 0, .int .u64 0, .int .i64 0, .int .u64 0, .slice none 0 0] 113)) = w2 at *
  have hgw := hb1.size
  obtain ⟨g, hg⟩ : ∃ g, g = w1.heap.size := ⟨_, rfl⟩
  rw [← hg] at k1 ⊢
  have hgb : b < g := by omega
  have hgg : w.heap.size ≤ g := by omega
  clear hg
  have hs2 := hs.keep hb2
  have hB2 := below_keep hb2 hb1
  have hfull := hs2.cutB 0 512 (Nat.le_refl _)
  have hs512 : (s.take 512).drop 0 = s := by rw [List.drop_zero, List.take_of_length_le (by omega)]
  rw [hs512] at hfull
  refine (readuint_calls 28 512 w2 hfull (by omega) (by omega) (by omega)).mono ?_
  rintro e w' ⟨rfl, rfl⟩
  have n28 := num8_range hby 28 (by omega)
  have n4 := num8_range hby 4 (by omega)
  have n12 := num8_range hby 12 (by omega)
  have n20 := num8_range hby 20 (by omega)
  have hc4 := hs2.cutB 0 4 (by omega)
  have hc28 := hs2.cutB 0 28 (by omega)
  have hstr := run_str 512 w2 hc4
  have hbs28 := hc28.bs (by have := k1.lt; omega)
  have hstx := lit_iff hc4.2.1 [77, 76, 79, 71] (show Byt [77, 76, 79, 71] from Byt.cons (by omega) (by omega) (Byt.cons (by omega) (by omega) (Byt.cons (by omega) (by omega) (Byt.cons (by omega) (by omega) Byt.nil))))
  have hsr := sumL_range ((s.take 28).drop 0)
  have hsz : IntKind.u64.wrap (sumL ((s.take 28).drop 0)) = sumL ((s.take 28).drop 0) := IntWalk.u64_in _ (by omega)
  have hMx : Hid (MasYes s ↔ (s.take 4).drop 0 = [77, 76, 79, 71] ∧ num ((s.drop 28).take 8) = sumL ((s.take 28).drop 0)) := Lib.hid Iff.rfl
  clear hs512
  generalize num ((s.drop 28).take 8) = n28v at *
  generalize (s.take 4).drop 0 = s4 at *
  obtain ⟨sm, hsm⟩ : ∃ sm, sumL ((s.take 28).drop 0) = sm := ⟨_, rfl⟩
  have hsmx := Lib.hid hsm
  rw [hsm] at hsr hsz
  clear hsm
  go_upto_region 9 with (fail)
  by_cases c1 : s4 = [77, 76, 79, 71]
  · have c1e : (strL s4).toList = ([77, 76, 79, 71] : List UInt8) := hstx.2 c1
    have c1x := Lib.hid c1
    clear hstx c1
    go_wp2_with fail
    refine (sum_calls (some ⟨b, 0, none⟩) 28 512 _ w2 hbs28 (by omega)).mono ?_
    rintro e _ ⟨rfl, rfl⟩
    rw [hsmx.out]
    by_cases c2 : n28v = sm
    · go_wp2_with fail
      refine (readuint_calls 4 512 w2 hfull (by omega) (by omega) (by omega)).mono ?_
      rintro e w' ⟨rfl, rfl⟩
      have hMy : MasYes s := hMx.out.2 ⟨c1x.out, by rw [hsmx.out]; exact c2⟩
      have hrange := hb hMy
      obtain ⟨v4, hv4⟩ : ∃ v, num ((s.drop 4).take 8) = v := ⟨_, rfl⟩
      obtain ⟨v12, hv12⟩ : ∃ v, num ((s.drop 12).take 8) = v := ⟨_, rfl⟩
      obtain ⟨v20, hv20⟩ : ∃ v, num ((s.drop 20).take 8) = v := ⟨_, rfl⟩
      have hmas : L0 = ⟨i, c, v4, v12, v20, 0, 0, 0, []⟩ := by rw [← hL0]; unfold masL; rw [hv4, hv12, hv20]
      rw [hv4, hv12] at hrange
      rw [hv4] at n4 ⊢
      rw [hv12] at n12
      rw [hv20] at n20
      have hmasx := Lib.hid hmas
      clear hmas hL0
      have k1c := k1.c; have k1f := k1.f; have k1l := k1.lt
      clear hstr c1e hMx hsr hsz n28 hbs28 hc4 hc28
      go_upto_region 12 with (fail)
      have k2 := At.set (o := 3) (v := .int .u64 v4) k1
      have m2 := (Mod.refl (fun j => j = g) w2).set (k := g) (.inl rfl) (o := 3) (.int .u64 v4)
      have hf2 := BsR.modS hfull m2 (fun b' hb' e => by subst e; injection hb' with hb'; exact absurd hb' (by simp; omega)) (by have := hs2.1.lt; omega)
      simp only [List.setIfInBounds_toArray, List.set_cons_zero, List.set_cons_succ] at k2
      clear k1 k1c k1f k1l hfull
      generalize (w2.setCell ⟨g, 3, none⟩ (.int .u64 v4)) = w3 at *
      go_wp2_with fail
      refine (readuint_calls 12 512 w3 hf2 (by omega) (by omega) (by omega)).mono ?_
      rintro e w' ⟨rfl, rfl⟩
      rw [hv12]
      have k2c := k2.c; have k2f := k2.f; have k2l := k2.lt
      go_upto_region 13 with (fail)
      have k3 := At.set (o := 4) (v := .int .u64 v12) k2
      have m3 := Mod.set (S := fun j => j = g) m2 (k := g) (.inl rfl) (o := 4) (.int .u64 v12)
      have hf3 := BsR.modS hf2 ((Mod.refl (fun j => j = g) w3).set (k := g) (.inl rfl) (o := 4) (.int .u64 v12)) (fun b' hb' e => by subst e; injection hb' with hb'; exact absurd hb' (by simp; omega)) (by have := k2l; omega)
      simp only [List.setIfInBounds_toArray, List.set_cons_zero, List.set_cons_succ] at k3
      clear k2 k2c k2f k2l hf2 m2
      generalize (w3.setCell ⟨g, 4, none⟩ (.int .u64 v12)) = w4 at *
      go_wp2_with fail
      refine (readuint_calls 20 512 w4 hf3 (by omega) (by omega) (by omega)).mono ?_
      rintro e w' ⟨rfl, rfl⟩
      rw [hv20]
      have k3c := k3.c; have k3f := k3.f; have k3l := k3.lt
      go_upto_region 14 with (fail)
      have k4 := At.set (o := 5) (v := .int .u64 v20) k3
      have m4 := Mod.set (S := fun j => j = g) m3 (k := g) (.inl rfl) (o := 5) (.int .u64 v20)
      simp only [List.setIfInBounds_toArray, List.set_cons_zero, List.set_cons_succ] at k4
      clear k3 k3c k3f k3l hf3 m3
      generalize (w4.setCell ⟨g, 5, none⟩ (.int .u64 v20)) = w5 at *
      have hB5 : Below w.heap.size w w5 := below_tr hB2 (m4.below hB2.size (fun j hj => by omega))
      have hLW : LgW w5 base d g none 0 L0 := by
        rw [hmasx.out]
        exact ⟨k4, by omega, by show 0 ≤ (i : Int) ∧ (i : Int) ≤ 4096; omega, by show 4 ≤ c ∧ c ≤ 4096; omega, n4, n12, n20⟩
      have hD5 := h.later hB5
      go_wp2_with fail
      refine (lscan_w w5 hLW hD5 (by rw [hmasx.out]; show (i : Int) + 1 + c ≤ _; omega) (by rw [hmasx.out]; exact hrange.2) (by rw [hmasx.out]) (by rw [hmasx.out]) hoff).mono ?_
      rintro e w6 (⟨hsh, rfl, hb6⟩ | ⟨hge, rfl, ⟨bA, bc, hW6, hO6⟩, hm6⟩)
      · go_wp2_with fail
        go_ret2
        exact .inr (.inl ⟨hMy, hsh, by first | rfl | simp, below_keep hb6 hB5⟩)
      · have hPl := scanP_le D L0
        have hGl := scanG_len D L0 (by rw [hmasx.out]; show 0 ≤ c; omega)
        have hc0 : L0.count = c := by rw [hmasx.out]
        have hs0 : 0 ≤ L0.start ∧ L0.start < 2305843009213693952 := by rw [hmasx.out]; exact ⟨n12.1, hrange.2⟩
        have hbl1 := scanL_buf D L0
        have hba1 := scanL_base D L0 hs0.1
        have hep1 : (scanL D L0).epoch = v4 := by show L0.epoch = v4; rw [hmasx.out]
        have hpo1 : (scanL D L0).pos = i := by show L0.pos = i; rw [hmasx.out]
        have hct1 : (scanL D L0).count = c := by show L0.count = c; rw [hmasx.out]
        rw [hc0] at hGl
        obtain ⟨L1, hL1⟩ : ∃ L1, scanL D L0 = L1 := ⟨_, rfl⟩
        rw [hL1] at hW6 hO6 hbl1 hba1 hep1 hpo1 hct1
        have hL2n : L2 = nextL L1 := by rw [← hL2, hop, hL1]
        have hbn : L1.buf.length < 480 := by omega
        have hb0 : 0 ≤ L1.base ∧ L1.base < 2305843009220000000 := by omega
        have hgx := Lib.hid hge
        have hep9 : 0 ≤ L1.epoch ∧ L1.epoch < 1099511627776 := by omega
        have hpo1x := Lib.hid hpo1
        have hct1x := Lib.hid hct1
        clear hep1 hpo1 hct1 hc0 hL1 hbl1 hba1 hPl hGl hge hs0
        have k6 := hW6.at_
        have hew : IntKind.u64.wrap (L1.epoch + 1) = L1.epoch + 1 := IntWalk.u64_in _ (by omega)
        clear hv4 hv12 hv20
        have k6c := k6.c; have k6f := k6.f; have k6l := k6.lt
        go_upto_region 18 with (fail)
        have k7 := At.set (o := 3) (v := .int .u64 (L1.epoch + 1)) k6
        have m7 := Mod.set (S := fun j => j = g) hm6 (k := g) (.inl rfl) (o := 3) (.int .u64 (L1.epoch + 1))
        simp only [List.setIfInBounds_toArray, List.set_cons_zero, List.set_cons_succ] at k7
        have hg5 : g < w5.heap.size := hLW.at_.lt
        have hO7 : OwB (w6.setCell ⟨g, 3, none⟩ (.int .u64 (L1.epoch + 1))) w5.heap.size bA L1.buf.length bc L1.buf := ownBlk_set hO6 (fun e => by have := (hO6.lt g e.symm).1; omega)
        clear k6 k6c k6f k6l
        generalize (w6.setCell ⟨g, 3, none⟩ (.int .u64 (L1.epoch + 1))) = w7 at *
        have hW7 : LgW w7 base d g bA bc L2 := by
          rw [hL2n]
          exact ⟨k7, hW6.hg, hW6.pos, hW6.count, by show 0 ≤ L1.epoch + 1 ∧ L1.epoch + 1 < _; omega, hW6.start, hW6.check⟩
        have hnF := hLW.noF hD5
        have hD7 := hD5.mod m7 (fun k hk e => hnF (e ▸ hk))
        have h2p : L2.pos = i := by rw [hL2n]; exact hpo1x.out
        have h2c : L2.count = c := by rw [hL2n]; exact hct1x.out
        have h2b : L2.buf = L1.buf := by rw [hL2n]; rfl
        have h2e : L2.base = L1.base := by rw [hL2n]; rfl
        rw [← h2b] at hO7 hbn
        rw [← h2e] at hb0
        rw [hL2] at e1D e1E
        have hB7 : Below w.heap.size w w7 := below_tr hB5 (m7.below hB5.size (fun j hj => by omega))
        have h2px := Lib.hid h2p
        have h2cx := Lib.hid h2c
        clear hW6 hO6 k7 hew h2b h2e hL2n h2p h2c hpo1x hct1x
        go_wp2_with fail
        refine (lmark_w i w7 hW7 hD7 h2px.out.symm (by omega) (by omega) (by omega)).mono ?_
        rintro e w8 ⟨rfl, ⟨F8, hD8, hg8⟩, hm8⟩
        rw [← e1D] at hD8
        rw [← e1E]
        have hW8 := hW7.mod hm8 (hW7.noF hD7)
        have hO8 := hO7.mod hm8 (hD7.noB hO7)
        have hG8 : Grew F F8 w.heap.size := fun k hk => (hg8 k hk).imp id (fun h => Nat.le_trans hB7.size h)
        have hM8 : Mod F w w8 := (Mod.of_below hB7).trans hm8 (fun _ _ h => h)
        have hr1 : op1E D i c = 0 ∨ op1E D i c = 8 := by rw [e1E]; exact mkE_range _ _ _
        have hln1 : (op1D D i c).l.length = D.l.length := by rw [e1D]; exact mkD_len _ _ _
        have hop1 : (op1D D i c).ops ≤ D.ops + 2 := by rw [e1D]; exact mkD_ops _ _ _
        have hwy1 : (op1D D i c).way.length ≤ D.way.length + 1 := by rw [e1D]; exact mkD_way _ _ _
        rcases hr1 with hr1 | hr1
        · have e2D : op2D D i c = wr1 (op1D D i c) (idxL L2 (L2.base / 480).toNat) (layL (L2.base / 480) L2.epoch L2.buf) := by unfold op2D; rw [if_pos hr1, hL2]
          have e2E : op2E D i c = wr1E (op1D D i c) := by unfold op2E; rw [if_pos hr1]
          obtain ⟨kq, hkq⟩ : ∃ kq : Nat, (kq : Int) = L2.base / 480 := ⟨(L2.base / 480).toNat, by omega⟩
          have hkq2 : (L2.base / 480).toNat = kq := by omega
          have hkq9 : kq < 4611686018427387904 := by omega
          rw [hkq2, ← hkq] at e2D
          have hqd : L2.base.tdiv 480 = (kq : Int) := by rw [Int.tdiv_eq_ediv_of_nonneg hb0.1, hkq]
          have hkw : IntKind.u64.wrap (kq : Int) = (kq : Int) := IntWalk.u64_in _ (by omega)
          have hjm := Int.emod_nonneg (kq : Int) (show L2.count ≠ 0 by rw [h2cx.out]; omega)
          have hjl := Int.emod_lt_of_pos (kq : Int) (show (0 : Int) < L2.count by rw [h2cx.out]; omega)
          have hj1 : ((idxL L2 kq : Nat) : Int) = L2.pos + 1 + kq % L2.count := by unfold idxL; rw [h2px.out]; omega
          have hj2 : idxL L2 kq < (op1D D i c).l.length := by rw [hln1]; rw [h2px.out] at hj1; rw [h2cx.out] at hj1 hjl; omega
          have hkqx := Lib.hid hkq
          rw [hr1]
          have e2Dx := Lib.hid e2D
          have e2Ex := Lib.hid e2E
          have hD3x := Lib.hid hD3
          have hE3x := Lib.hid hE3
          have hj1x := Lib.hid hj1
          clear hkq hkq2 hjm hjl hkqx e2D e2E hD3 hE3 e1D e1E hL2 hop hr1 hj1 hsD hin
          have k8 := hW8.at_
          have d8 : Below w8.heap.size w8 w8.drew := below_dr (Below.refl _ _)
          go_upto_region 20 with (fail)
          have f0 := (At.keep d8 k8).c
          refine wp_region_held_drew (S := fun w' => (∀ o, w'.cell? ⟨g, o, none⟩ = #[.pointer (some ⟨d, 0, none⟩), .int .i64 L2.pos, .int .i64 L2.count, .int .u64 L2.epoch, .int .u64 L2.start, .int .u64 L2.check, .int .u64 L2.sure, .int .i64 L2.held, .int .u64 L2.base, .slice bA L2.buf.length bc][o]?)) (by kernel_rfl) f0 (fun hHeld => ?_)
          (refine wpAnyH_takeL (i := 0) (v := ?_) rfl (by kernel_rfl) (by kernel_rfl) (by kernel_rfl) (fun _ _ _ h => h) (by rfl) hHeld ?_ ?_; rotate_left; (focus (intro w hSw; (try dsimp only at hSw); go_simp; (try with_reducible rfl); done)); (try simp only [Act.put, List.setIfInBounds_toArray, List.set_cons_zero, List.set_cons_succ]))
          (refine wpAnyH_takeL (i := 1) (v := ?_) rfl (by kernel_rfl) (by kernel_rfl) (by kernel_rfl) (fun _ _ _ h => h) (by rfl) hHeld ?_ ?_; rotate_left; (focus (intro w hSw; (try dsimp only at hSw); go_simp; (try with_reducible rfl); done)); (try simp only [Act.put, List.setIfInBounds_toArray, List.set_cons_zero, List.set_cons_succ]))
          (refine wpAnyH_takeL (i := 2) (v := ?_) rfl (by kernel_rfl) (by kernel_rfl) (by kernel_rfl) (fun _ _ _ h => h) (by rfl) hHeld ?_ ?_; rotate_left; (focus (intro w hSw; (try dsimp only at hSw); go_simp; (try with_reducible rfl); done)); (try simp only [Act.put, List.setIfInBounds_toArray, List.set_cons_zero, List.set_cons_succ]))
          (refine wpAnyH_takeL (i := 3) (v := ?_) rfl (by kernel_rfl) (by kernel_rfl) (by kernel_rfl) (fun _ _ _ h => h) (by rfl) hHeld ?_ ?_; rotate_left; (focus (intro w hSw; (try dsimp only at hSw); go_simp; (try with_reducible rfl); done)); (try simp only [Act.put, List.setIfInBounds_toArray, List.set_cons_zero, List.set_cons_succ]))
          (refine wpAnyH_takeL (i := 4) (v := ?_) rfl (by kernel_rfl) (by kernel_rfl) (by kernel_rfl) (fun _ _ _ h => h) (by rfl) hHeld ?_ ?_; rotate_left; (focus (intro w hSw; (try dsimp only at hSw); go_simp; (try with_reducible rfl); done)); (try simp only [Act.put, List.setIfInBounds_toArray, List.set_cons_zero, List.set_cons_succ]))
          (refine wpAnyH_takeL (i := 5) (v := ?_) rfl (by kernel_rfl) (by kernel_rfl) (by kernel_rfl) (fun _ _ _ h => h) (by rfl) hHeld ?_ ?_; rotate_left; (focus (intro w hSw; (try dsimp only at hSw); go_simp; (try with_reducible rfl); done)); (try simp only [Act.put, List.setIfInBounds_toArray, List.set_cons_zero, List.set_cons_succ]))
          (refine wpAnyH_takeL (i := 6) (v := ?_) rfl (by kernel_rfl) (by kernel_rfl) (by kernel_rfl) (fun _ _ _ h => h) (by rfl) hHeld ?_ ?_; rotate_left; (focus (intro w hSw; (try dsimp only at hSw); go_simp; (try with_reducible rfl); done)); (try simp only [Act.put, List.setIfInBounds_toArray, List.set_cons_zero, List.set_cons_succ]))
          (refine wpAnyH_takeL (i := 7) (v := ?_) rfl (by kernel_rfl) (by kernel_rfl) (by kernel_rfl) (fun _ _ _ h => h) (by rfl) hHeld ?_ ?_; rotate_left; (focus (intro w hSw; (try dsimp only at hSw); go_simp; (try with_reducible rfl); done)); (try simp only [Act.put, List.setIfInBounds_toArray, List.set_cons_zero, List.set_cons_succ]))
          (refine wpAnyH_takeL (i := 8) (v := ?_) rfl (by kernel_rfl) (by kernel_rfl) (by kernel_rfl) (fun _ _ _ h => h) (by rfl) hHeld ?_ ?_; rotate_left; (focus (intro w hSw; (try dsimp only at hSw); go_simp; (try with_reducible rfl); done)); (try simp only [Act.put, List.setIfInBounds_toArray, List.set_cons_zero, List.set_cons_succ]))
          (refine wpAnyH_takeL (i := 9) (v := ?_) rfl (by kernel_rfl) (by kernel_rfl) (by kernel_rfl) (fun _ _ _ h => h) (by rfl) hHeld ?_ ?_; rotate_left; (focus (intro w hSw; (try dsimp only at hSw); go_simp; (try with_reducible rfl); done)); (try simp only [Act.put, List.setIfInBounds_toArray, List.set_cons_zero, List.set_cons_succ]))
          (refine wpAnyH_callL (i := 10) rfl (by kernel_rfl) (by rfl) (fun K hK => ?_); go_simp)
          go_at_call 79
          have hOd := hO8.later d8
          have q1 : L2.buf.length ≤ 480 := by omega
          have q2 : (op1D D i c).ops < 1000000000 := by omega
          have q3 : (op1D D i c).way.length < 1000000000 := by omega
          refine (llay_w kq (idxL L2 kq) w8.drew (hW8.later d8) (hD8.later d8) (hOd.reads.less (Nat.zero_le _)) q1 hkq9 hj1x.out hj2 q2 q3).mono ?_
          rintro e w9 ⟨rfl, ⟨F9, hD9, hg9⟩, hm9'⟩
          rw [← e2Dx.out] at hD9
          rw [← e2Ex.out]
          have hW9 := (hW8.later d8).mod hm9' ((hW8.later d8).noF (hD8.later d8))
          have hO9 := hOd.mod hm9' ((hD8.later d8).noB hOd)
          have hG9 : Grew F F9 w.heap.size := hG8.trans hg9 hM8.size
          have hM9 : Mod F w w9 := (hM8.drew).trans hm9' (fun k hk h => (hG8 k h).elim id (fun h => by omega))
          have f9 := hW9.at_.c
          clear hHeld
          refine hK.out _ _ f9 (fun hHeld => ?_)
          (clear hK K; (try simp only [Act.put, List.setIfInBounds_toArray, List.set_cons_zero, List.set_cons_succ]))
          (refine wpAnyH_takeL (i := 11) (v := ?_) rfl (by kernel_rfl) (by kernel_rfl) (by kernel_rfl) (fun _ _ _ h => h) (by rfl) hHeld ?_ ?_; rotate_left; (focus (intro w hSw; (try dsimp only at hSw); go_simp; (try with_reducible rfl); done)); (try simp only [Act.put, List.setIfInBounds_toArray, List.set_cons_zero, List.set_cons_succ]))
          (refine wpAnyH_done (by kernel_rfl) ?_ _)
          clear hHeld f0 f9 k8 hOd d8
          have hr2 : op2E D i c = 0 ∨ op2E D i c = 8 := by rw [e2Ex.out]; exact wr1E_range _
          rcases hr2 with hr2 | hr2
          · have e3D : D3 = sy1 (op2D D i c) := by rw [← hD3x.out]; unfold op3D; rw [if_pos hr2]
            have e3E : E3 = sy1E (op2D D i c) := by rw [← hE3x.out]; unfold op3E; rw [if_pos hr2]
            have hop2 : (op2D D i c).ops ≤ D.ops + 3 := by rw [e2Dx.out]; have := wr1_ops (op1D D i c) (idxL L2 kq) (layL kq L2.epoch L2.buf); omega
            rw [hr2]
            go_wp2_with fail
            refine (sy_dd w9 hD9 (by omega)).mono ?_
            rintro e wA ⟨rfl, ⟨FA, hDA, hgA⟩, hmA⟩
            rw [← e3D] at hDA
            rw [← e3E]
            have hWA := hW9.mod hmA (hW9.noF hD9)
            have hOA := hO9.mod hmA (hD9.noB hO9)
            have hGA : Grew F FA w.heap.size := hG9.trans hgA hM9.size
            have hMA : Mod F w wA := hM9.trans hmA (fun k hk h => (hG9 k h).elim id (fun h => by omega))
            have hr3 : E3 = 0 ∨ E3 = 8 := by rw [e3E]; exact sy1E_range _
            rcases hr3 with hr3 | hr3
            · rw [hr3]
              have hr3x := Lib.hid hr3
              clear hr3
              go_wp2
              go_ret2
              exact .inr (.inr ⟨hMy, hgx.out, ⟨FA, hDA, hGA⟩, hMA, .inr ⟨hr3x.out, g, bA, bc, by first | rfl | simp, hgg, hWA, hOA.less (by have := hB5.size; omega)⟩⟩)
            · rw [hr3]
              have hr3x := Lib.hid hr3
              clear hr3
              go_wp2
              go_ret2
              exact .inr (.inr ⟨hMy, hgx.out, ⟨FA, hDA, hGA⟩, hMA, .inl ⟨by rw [hr3x.out]; decide, by rw [hr3x.out]; first | rfl | simp⟩⟩)
          · have hn2 : ¬ (op2E D i c = 0) := by omega
            have e3D : D3 = op2D D i c := by rw [← hD3x.out]; unfold op3D; rw [if_neg hn2]
            have e3E : Hid (E3 = 8) := Lib.hid (by rw [← hE3x.out]; unfold op3E; rw [if_neg hn2, hr2])
            rw [hr2]
            rw [← e3D] at hD9
            clear hn2
            go_wp2
            go_ret2
            exact .inr (.inr ⟨hMy, hgx.out, ⟨F9, hD9, hG9⟩, hM9, .inl ⟨by rw [e3E.out]; decide, by rw [e3E.out]; first | rfl | simp⟩⟩)
        · have hn1 : ¬ (op1E D i c = 0) := by omega
          have e2D : op2D D i c = op1D D i c := by unfold op2D; rw [if_neg hn1]
          have e2E : op2E D i c = 8 := by unfold op2E; rw [if_neg hn1, hr1]
          have hn2 : ¬ (op2E D i c = 0) := by omega
          have e3D : D3 = op1D D i c := by rw [← hD3, ← e2D]; unfold op3D; rw [if_neg hn2]
          have e3E : Hid (E3 = 8) := Lib.hid (by rw [← hE3]; unfold op3E; rw [if_neg hn2, e2E])
          rw [hr1]
          rw [← e3D] at hD8
          clear hn1 hn2 e2D e2E
          go_wp2
          go_ret2
          exact .inr (.inr ⟨hMy, hgx.out, ⟨F8, hD8, hG8⟩, hM8, .inl ⟨by rw [e3E.out]; decide, by rw [e3E.out]; first | rfl | simp⟩⟩)
    · go_wp2_with fail
      go_ret2
      exact .inl ⟨fun h => c2 (by have := (hMx.out.1 h).2; rw [hsmx.out] at this; exact this), by first | rfl | simp, hB2⟩
  · have c1e : ¬ (strL s4).toList = ([77, 76, 79, 71] : List UInt8) := fun h => c1 (hstx.1 h)
    clear hstx
    go_wp2_with fail
    go_ret2
    exact .inl ⟨fun h => c1 (hMx.out.1 h).1, by first | rfl | simp, hB2⟩
end Go.Proofs.Ytggeepihkeocmaa
