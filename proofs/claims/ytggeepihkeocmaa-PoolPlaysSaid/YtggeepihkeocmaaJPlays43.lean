/- Joined texts: PpV, OpenU. -/
import Derived.Test.YtggeepihkeocmaaJPlays42
import Derived.Test.YtggeepihkeocmaaJPlays40
/- PoolPlays: the walk of the law. -/
namespace Go.Proofs.Ytggeepihkeocmaa
set_option linter.unusedVariables false
set_option linter.unusedSimpArgs false
open Go.RowKit Go.Maps
theorem ws_most {w : World} {base x d lb g pp b n i : Nat} {mo : Int} {s : St} {C : Int → List Int} {pins : Int → Int} {q : Mq} (h : LS w base x d lb g pp b n i mo s C pins q) : decide ((s.P.ks.length : Int) > mo) = false ∧ decide (mo < (s.P.ks.length : Int)) = false ∧ ¬ (mo < (s.P.ks.length : Int)) := by
  obtain ⟨F, bA, bc, o, -, hP, -⟩ := h.ws
  have h1 := hP.ok.len
  rw [h.pv.ms] at h1
  exact ⟨by simp; omega, by simp; omega, by omega⟩
theorem ls_sure {w : World} {base x d lb g pp b n i : Nat} {mo : Int} {s : St} {C : Int → List Int} {pins : Int → Int} {q : Mq} (h : LS w base x d lb g pp b n i mo s C pins q) (hn : n ≤ 8) :
    Calls Try.prog 23 #[.pointer (some ⟨x, 0, none⟩), .int .i64 (n : Int)] w fun e w' => e = .returned (.bool true) ∧ Below w.heap.size w w' :=
  sure_calls w (by omega) h.ws.wx h.pv.inv.q (by have := h.pv.dn; omega) (fun k hk => by
    have h1 := h.pv.dl (k : Int) (by omega) (by omega)
    have e : pgI (k : Int) = 41 + k := by unfold pgI; omega
    rw [e] at h1
    exact h1)
set_option maxRecDepth 100000 in
set_option maxHeartbeats 32000000 in
theorem poolplays_calls {sn sc : Nat} {sA : Option Addr} (pgs frs : Int) (w : World) (h1 : 0 ≤ pgs ∧ pgs ≤ 255) (h2 : 0 ≤ frs ∧ frs ≤ 255) (h : AcP w sA sn) :
    Calls Try.prog 6 #[.int .u8 pgs, .int .u8 frs, .slice sA sn sc] w fun e w' => e = .returned (.bool true) ∧ Below w.heap.size w w' := by
  obtain ⟨n, hn⟩ : ∃ n : Nat, (n : Int) = 1 + pgs % 8 := ⟨(1 + pgs % 8).toNat, by omega⟩
  obtain ⟨mo, hmo⟩ : ∃ x : Int, x = 1 + frs % 5 := ⟨_, rfl⟩
  have hn8 : 1 ≤ n ∧ n ≤ 8 := by omega
  have hm5 : 1 ≤ mo ∧ mo ≤ 5 := by omega
  have t0 : IntKind.i64.wrap pgs = pgs := IntWalk.i64_in _ (by omega)
  have t1 : IntKind.i64.wrap frs = frs := IntWalk.i64_in _ (by omega)
  have t2 : IntKind.i64.wrap (1 + pgs.tmod 8) = (n : Int) := by rw [Int.tmod_eq_emod_of_nonneg h1.1, ← hn]; exact IntWalk.i64_in _ (by omega)
  have t3 : IntKind.i64.wrap (1 + frs.tmod 5) = mo := by rw [Int.tmod_eq_emod_of_nonneg h2.1, ← hmo]; exact IntWalk.i64_in _ (by omega)
  have hn8x := Lib.hid hn8
  have hm5x := Lib.hid hm5
  have hhx := Lib.hid h
  have hnn : (0 : Int) ≤ n := by omega
  clear hn hmo hn8 hm5 h1 h2 h
  go_enter Try.func6, Try.ntmps6
  go_wp2_with fail
  refine (plawake_calls w).mono ?_
  rintro e w1 ⟨rfl, hb1⟩
  go_wp2_with fail
  have kb := At.new w1 #[.slice none 0 0, .slice none 0 0, .slice none 0 0, .slice none 0 0, .int .i64 mo] 60
  have hbn := below_new w1 (.cells #[.slice none 0 0, .slice none 0 0, .slice none 0 0, .slice none 0 0, .int .i64 mo] 60)
  have hsz : (w1.alloc (.cells #[.slice none 0 0, .slice none 0 0, .slice none 0 0, .slice none 0 0, .int .i64 mo] 60)).heap.size = w1.heap.size + 1 := by simp
  generalize (w1.alloc (.cells #[.slice none 0 0, .slice none 0 0, .slice none 0 0, .slice none 0 0, .int .i64 mo] 60)) = w2 at *
  refine (pfresh_calls n mo w2 (by have := hn8x.out; omega) (by have := hm5x.out; omega)).mono ?_
  rintro e w3 ⟨x, d, lb, g, pp, F, bA, bc, o, rfl, kx, hP, hx, hxl, hb3⟩
  have hB3 : Below w.heap.size w w3 := below_keep hb3 (below_keep hbn hb1)
  obtain ⟨b, hb⟩ : ∃ b, w1.heap.size = b := ⟨_, rfl⟩
  have hw1 : w.heap.size ≤ b := by have := hb1.size; omega
  have kb3 := At.keep hb3 kb
  rw [hb] at kb3 ⊢
  have hWB : WB w3 b x d lb g pp b 0 (freshS n mo) mo :=
    ⟨fun _ => 0, none, none, none, none, 0, 0, 0, 0, ⟨kb3, World.ownsRow_nil _ _ _ _, World.ownsRow_nil _ _ _ _, World.ownsRow_nil _ _ _ _, World.ownsRow_nil _ _ _ _, fun _ h => (by cases h), fun _ h => (by omega), Nat.le_refl _⟩, ⟨F, bA, bc, o, kx, hP.less (by omega), hx, fun k hk => by
      rcases hk with rfl | hk | hk | hk | hk | ⟨j, hj, -⟩
      · exact ⟨fun hf => by have := (hP.lts k hf).1; omega, kb3.lt, by omega⟩
      · cases hk
      · cases hk
      · cases hk
      · cases hk
      · omega⟩⟩
  have hWBx := Lib.hid hWB
  clear hWB kx hP hx hxl hb3 kb hbn hsz kb3 hb hb1
  go_wp2_with fail
  go_loopw [10] (fun v10 wr => ∃ i : Nat, v10 = .int .i64 (i : Int) ∧ i ≤ n ∧ WB wr b x d lb g pp b i (freshS n mo) mo ∧ Below w.heap.size w wr) (fun v10 _ => n - (intOf v10).toNat)
  case atStart => exact ⟨0, rfl, Nat.zero_le _, hWBx.out, hB3⟩
  case round =>
    obtain ⟨i, rfl, hi, ⟨pa, lA, sA9, pA, dA, lc, sc9, pc, dc, hM, hW⟩, hB⟩ := hrel
    have k0 := hM.at_
    have hMx := Lib.hid hM
    have hWx := Lib.hid hW
    by_cases hlt : i < n
    · have hlti : (i : Int) < n := by omega
      have hi0 : (0 : Int) ≤ i := by omega
      have e1 : IntKind.i64.wrap ((i : Int) + 1) = (i : Int) + 1 := IntWalk.i64_in _ (by have := hn8x.out; omega)
      have hq := hn8x.out
      have q1 : i + 1 ≤ maxLen := by unfold maxLen; omega
      have q2 : (i + 1) * 24 ≤ 140737488355328 := by omega
      have q3 : (i + 1) * 8 ≤ 140737488355328 := by omega
      have hbw := hW.bw
      obtain ⟨i8, hi8, hz8, hs8, hbt8⟩ := info_parts info8
      obtain ⟨wm, hmk, hom, hgm⟩ := run_make_full (P := Try.prog) wr.drew wr.heap.size 32 5 i8 (.int .u8 0) 1 Try.underlying32 hi8 hz8 hs8 .i64 .i64 504 (by rw [hbt8]; omega) (by unfold maxLen; omega) (Nat.le_refl _)
      have hmk : ∀ v, v = 504 → (Instr.makeSlice 32 (.int .i64 v) (.int .i64 v)).run Try.prog wr.drew = .ok (.slice (some ⟨wr.heap.size, 0, none⟩) 504 504) wm := fun v hv => by subst hv; exact hmk
      have hmk9 := hmk 504 rfl
      have hd0 : Below wr.heap.size wr wr.drew := below_dr (Below.refl _ _)
      have hbm : Below wr.heap.size wr wm := below_keep (grown_none9 hgm) hd0
      have hba : Below wr.heap.size wr (wm.alloc (.cells #[.slice (some ⟨wr.heap.size, 0, none⟩) 504 504] 32)) := below_al hbm
      have hpg := zeros_own9 hom
      have kdc := (At.keep hd0 k0).c
      have kdf := (At.keep hd0 k0).f
      have kmc := (At.keep hbm k0).c
      have kmf := (At.keep hbm k0).f
      have ka := At.keep hba k0
      have kac := ka.c
      have kaf := ka.f
      have hne := at_ne k0 hM.rl (by decide)
      have hrl := owns_later hM.rl hba
      have hpgx := Lib.hid hpg
      have hrlx := Lib.hid hrl
      have hgmx := Lib.hid hgm
      have hbax := Lib.hid hba
      clear hom hgm hpg hrl hmk hi8 hz8 hs8 hbt8 hM hW
      go_upto_region 11 with (fail)
      go_region_law
        (first
          | (refine step_appG sliceElt (by rfl) (.tmp 41) (.tmp 43) (by rfl) b i lc lA _ (by rfl) hrlx.out 1 1 (some ⟨wm.heap.size, 0, none⟩) [.slice (some ⟨wr.heap.size, 0, none⟩) 504 504] (by rfl) (Src.of_at (At.new wm #[.slice (some ⟨wr.heap.size, 0, none⟩) 504 504] 32) rfl (one_sl _ _ _)) q1 q2 (Nat.le_trans hbw hba.size) ?_; intro A7 c7 w7 ho7 hg7 hb7 hat7
             have k7 := At.grown ka hg7 (fun e => hne e.symm)
             have k7c := k7.c
             have k7f := k7.f))
      all_goals
        have h8 := wm_L ⟨hMx.out, hWx.out⟩ hbax.out hg7 ho7 hat7 (hpgx.out.later (below_new wm _)) (Nat.le_refl _)
        have hB8 : Below w.heap.size w _ := below_tr hB ((wm_below (o := 0) (v := .slice A7 (i + 1) c7) ⟨hMx.out, hWx.out⟩ (fun k hk => (hMx.out.lts k (.inr (.inl hk))).1) hbax.out hg7).mono hw1)
        generalize (w7.setCell ⟨b, 0, none⟩ (.slice A7 (i + 1) c7)) = w8 at *
        have k8 := h8.1.at_
        have h8x := Lib.hid h8
        clear ho7 hg7 hb7 hat7 k7 k7c k7f ka kac kaf kdc kdf kmc kmf hba hbm hd0 hmk9 k0
        have k8c := k8.c; have k8f := k8.f; have k8l := k8.lt
        clear h8
        have k8b := h8x.out.2.bw
        have k8n := at_ne k8 h8x.out.1.rs (by decide)
        have k8o := Lib.hid (owns_later h8x.out.1.rs (below_new w8 (.cells #[.int .u64 0] 33)))
        have k8a := At.keep (below_new w8 (.cells #[.int .u64 0] 33)) k8
        go_upto_region 13 with (first
          | (at_builtin; refine wpList_appG u64Elt rfl (.tmp 51) (.tmp 52) rfl b i sc9 sA9 _ rfl k8o.out 1 1 (some ⟨w8.heap.size, 0, none⟩) [.int .u64 0] rfl (Src.of_at (At.new w8 #[.int .u64 0] 33) rfl (one_int _ _)) q1 q3 (Nat.le_trans k8b (ge_new w8 (.cells #[.int .u64 0] 33))) ?_; intro AS cS vS hoS hgS hbS hatS
             have jS := At.grown k8a hgS (fun e => k8n e.symm)
             have jSc := jS.c
             have jSf := jS.f
             have jSl := jS.lt)
          | fail)
        have h9 := wm_S h8x.out (below_new w8 (.cells #[.int .u64 0] 33)) hgS hoS hatS
        have hB9 : Below w.heap.size w _ := below_tr hB8 ((wm_below (o := 1) (v := .slice AS (i + 1) cS) h8x.out (fun k hk => (h8x.out.1.lts k (.inr (.inr (.inl hk)))).1) (below_new w8 (.cells #[.int .u64 0] 33)) hgS).mono hw1)
        generalize (vS.setCell ⟨b, 1, none⟩ (.slice AS (i + 1) cS)) = w9 at *
        have k9 := h9.1.at_
        have h9x := Lib.hid h9
        clear h9 hoS hgS hbS hatS jS jSc jSf jSl k8 k8c k8f k8l k8b k8n k8o k8a
        have k9c := k9.c; have k9f := k9.f; have k9l := k9.lt
        have k9b := h9x.out.2.bw
        have k9n := at_ne k9 h9x.out.1.rp (by decide)
        have k9o := Lib.hid (owns_later h9x.out.1.rp (below_new w9 (.cells #[.int .i64 0] 3)))
        have k9a := At.keep (below_new w9 (.cells #[.int .i64 0] 3)) k9
        go_upto_region 14 with (first
          | (at_builtin; refine wpList_appG intElt rfl (.tmp 60) (.tmp 61) rfl b i pc pA _ rfl k9o.out 1 1 (some ⟨w9.heap.size, 0, none⟩) [.int .i64 0] rfl (Src.of_at (At.new w9 #[.int .i64 0] 3) rfl (one_int _ _)) q1 q3 (Nat.le_trans k9b (ge_new w9 (.cells #[.int .i64 0] 3))) ?_; intro AP cP vP hoP hgP hbP hatP
             have jP := At.grown k9a hgP (fun e => k9n e.symm)
             have jPc := jP.c
             have jPf := jP.f
             have jPl := jP.lt)
          | fail)
        have h10 := wm_P h9x.out (below_new w9 (.cells #[.int .i64 0] 3)) hgP hoP hatP
        have hB10 : Below w.heap.size w _ := below_tr hB9 ((wm_below (o := 2) (v := .slice AP (i + 1) cP) h9x.out (fun k hk => (h9x.out.1.lts k (.inr (.inr (.inr (.inl hk))))).1) (below_new w9 (.cells #[.int .i64 0] 3)) hgP).mono hw1)
        generalize (vP.setCell ⟨b, 2, none⟩ (.slice AP (i + 1) cP)) = w10 at *
        have k10 := h10.1.at_
        have h10x := Lib.hid h10
        clear h10 hoP hgP hbP hatP jP jPc jPf jPl k9 k9c k9f k9l k9b k9n k9o k9a
        have k10c := k10.c; have k10f := k10.f; have k10l := k10.lt
        have k10b := h10x.out.2.bw
        have k10n := at_ne k10 h10x.out.1.rd (by decide)
        have k10o := Lib.hid (owns_later h10x.out.1.rd (below_new w10 (.cells #[.int .u64 0] 33)))
        have k10a := At.keep (below_new w10 (.cells #[.int .u64 0] 33)) k10
        go_upto_region 10 with (first
          | (at_builtin; refine wpList_appG u64Elt rfl (.tmp 69) (.tmp 70) rfl b i dc dA _ rfl k10o.out 1 1 (some ⟨w10.heap.size, 0, none⟩) [.int .u64 0] rfl (Src.of_at (At.new w10 #[.int .u64 0] 33) rfl (one_int _ _)) q1 q3 (Nat.le_trans k10b (ge_new w10 (.cells #[.int .u64 0] 33))) ?_; intro AD cD vD hoD hgD hbD hatD
             have jD := At.grown k10a hgD (fun e => k10n e.symm)
             have jDc := jD.c
             have jDf := jD.f
             have jDl := jD.lt)
          | fail)
        have h11 := wm_D h10x.out (below_new w10 (.cells #[.int .u64 0] 33)) hgD hoD hatD
        have hB11 : Below w.heap.size w _ := below_tr hB10 ((wm_below (o := 3) (v := .slice AD (i + 1) cD) h10x.out (fun k hk => (h10x.out.1.lts k (.inr (.inr (.inr (.inr (.inl hk)))))).1) (below_new w10 (.cells #[.int .u64 0] 33)) hgD).mono hw1)
        generalize (vD.setCell ⟨b, 3, none⟩ (.slice AD (i + 1) cD)) = w11 at *
        have k11 := h11.1.at_
        have h11x := Lib.hid h11
        clear h11 hoD hgD hbD hatD jD jDc jDf jDl k10 k10c k10f k10l k10b k10n k10o k10a
        have k11c := k11.c; have k11f := k11.f; have k11l := k11.lt
        go_wp2
        go_roundw
        case rel => exact ⟨i + 1, by go_num, by omega, ⟨_, _, _, _, _, _, _, _, _, h11x.out.1, h11x.out.2⟩, hB11⟩
        case measure => simp [intOf]; omega
    · have hlti : ¬ ((i : Int) < n) := by omega
      have hin : i = n := by omega
      subst hin
      obtain ⟨q0, hmd0, hq0⟩ := hM.mdh hn8x.out.1
      obtain ⟨v0, bq0⟩ := fresh_pv (mo := mo) hn8x.out
      have hL0 : LS wr b x d lb g pp b i 0 mo (freshS i mo) (fun _ => zeroS) (fun _ => 0) q0 := ⟨hW.less hq0, hmd0, v0, bq0⟩
      have hL0x := Lib.hid hL0
      obtain ⟨wA, hwA⟩ : ∃ wA, wA = wr := ⟨_, rfl⟩
      subst hwA
      clear hM hW hMx hWx hmd0 hq0 v0 bq0 hL0 k0 hWBx
      go_wp2_with fail
      go_loopw [11] (fun v11 wr => ∃ (k : Nat) (s : St) (C : Int → List Int) (pins : Int → Int) (q : Mq), v11 = .int .i64 (k : Int) ∧ k ≤ 50 ∧ k ≤ sn ∧ LS wr b x d lb g pp b i k mo s C pins q ∧ Below w.heap.size w wr) (fun v11 _ => 100 - (intOf v11).toNat)
      case atStart => exact ⟨0, _, _, _, _, rfl, by omega, by omega, hL0x.out, hB⟩
      case round =>
        obtain ⟨k, s, C, pins, q, rfl, hk50, hks, hL, hBr⟩ := hrel
        have hLx := Lib.hid hL
        have kx := hL.ws.wx.at_
        have kmo := hL.md.at_.c 4
        have hbwr := hL.ws.bw
        by_cases hgo : k < sn ∧ k < 50
        · obtain ⟨hg1, hg2⟩ := hgo
          obtain ⟨sb, so, kd, pg, ofs, aA, an, ac, p, rfl, hsb, c0, c1, c2, c3, b0, b1, b2, hp, han⟩ := hhx.out.below hBr k hg1
          have hg1i : (k : Int) < sn := by omega
          have hg2i : (k : Int) < 50 := by omega
          have hk0 : (0 : Int) ≤ k := by omega
          have y1 : IntKind.i64.wrap ((k : Int) + 1) = (k : Int) + 1 := IntWalk.i64_in _ (by omega)
          have hd0 : Below wr.heap.size wr wr.drew := below_dr (Below.refl _ _)
          have hdo := Lib.hid (mdo_calls (ac := ac) kd pg ofs wr.drew (hL.later hd0) hg2 b0 b1 b2 (show BsR wr.drew 0 b aA an p from ⟨hp.1, hp.2.1, (hp.2.2.more hw1)⟩) han)
          have kmo2 : wr.cell? ⟨b, 4, none⟩ = some (.int .i64 mo) := kmo
          have S0 : (∀ o9, wr.drew.cell? ⟨x, o9, none⟩ = #[.pointer (some ⟨d, 0, none⟩), .pointer (some ⟨g, 0, none⟩), .pointer (some ⟨pp, 0, none⟩)][o9]?) ∧ (wr.drew.cell? ⟨sb, so + k * 4, none⟩ = some (.int .u8 kd) ∧ wr.drew.cell? ⟨sb, so + k * 4 + 1, none⟩ = some (.int .u8 pg) ∧ wr.drew.cell? ⟨sb, so + k * 4 + 2, none⟩ = some (.int .u16 ofs) ∧ wr.drew.cell? ⟨sb, so + k * 4 + 3, none⟩ = some (.slice aA an ac)) ∧ wr.drew.cell? ⟨b, 4, none⟩ = some (.int .i64 mo) := ⟨kx.c, ⟨c0, c1, c2, c3⟩, kmo2⟩
          have SBx : Hid (∀ W, Below w.heap.size w W → W.cell? ⟨sb, so + k * 4, none⟩ = some (.int .u8 kd) ∧ W.cell? ⟨sb, so + k * 4 + 1, none⟩ = some (.int .u8 pg) ∧ W.cell? ⟨sb, so + k * 4 + 2, none⟩ = some (.int .u16 ofs) ∧ W.cell? ⟨sb, so + k * 4 + 3, none⟩ = some (.slice aA an ac)) := Lib.hid (fun W hb => by
            have e : ∀ o, W.cell? ⟨sb, o, none⟩ = wr.cell? ⟨sb, o, none⟩ := fun o => (hb.cell (p := ⟨sb, o, none⟩) hsb).trans (hBr.cell (p := ⟨sb, o, none⟩) hsb).symm
            exact ⟨(e _).trans c0, (e _).trans c1, (e _).trans c2, (e _).trans c3⟩)
          clear kx kmo kmo2 c0 c1 c2 c3 hp hL
          go_upto_region 18 with (fail)
          go_region_held3 (fun w' => (∀ o9, w'.cell? ⟨x, o9, none⟩ = #[.pointer (some ⟨d, 0, none⟩), .pointer (some ⟨g, 0, none⟩), .pointer (some ⟨pp, 0, none⟩)][o9]?) ∧ (w'.cell? ⟨sb, so + k * 4, none⟩ = some (.int .u8 kd) ∧ w'.cell? ⟨sb, so + k * 4 + 1, none⟩ = some (.int .u8 pg) ∧ w'.cell? ⟨sb, so + k * 4 + 2, none⟩ = some (.int .u16 ofs) ∧ w'.cell? ⟨sb, so + k * 4 + 3, none⟩ = some (.slice aA an ac)) ∧ w'.cell? ⟨b, 4, none⟩ = some (.int .i64 mo))
            (first
              | (exact S0)
              | (exact f4)
              | (exact f5)
              | (exact f7))
            (first
              | (go_at_call 29; refine hdo.out.mono ?_; rintro e w4 ⟨rfl, s4, C4, p4, q4, hL4, hb4⟩
                 have hB4 : Below w.heap.size w w4 := below_tr (below_dr hBr) (hb4.mono hw1)
                 have f4 := And.intro hL4.ws.wx.at_.c (And.intro (SBx.out w4 hB4) (show w4.cell? ⟨b, 4, none⟩ = some (.int .i64 mo) from hL4.md.at_.c 4))
                 have hlen4 := ws_most hL4)
              | (go_at_call 23; with_reducible refine (ls_sure hL4 hn8x.out.2).mono ?_; rintro e w5 ⟨rfl, hb5⟩
                 have hB5 := below_keep hb5 hB4
                 have hL5 := hL4.later hb5
                 have f5 := And.intro hL5.ws.wx.at_.c (And.intro (SBx.out w5 hB5) (show w5.cell? ⟨b, 4, none⟩ = some (.int .i64 mo) from hL5.md.at_.c 4)))
              | (go_at_call 19; with_reducible refine (ws_len hL5.ws).mono ?_; rintro e w6 ⟨rfl, hw6⟩; subst hw6)
              | (go_at_call 30; with_reducible refine (mdirty_calls w5 hL5).mono ?_; rintro e w7 ⟨rfl, sn7, hL7, hb7⟩
                 have hB7 := below_tr hB5 (hb7.mono hw1)
                 have f7 := And.intro hL7.ws.wx.at_.c (And.intro (SBx.out w7 hB7) (show w7.cell? ⟨b, 4, none⟩ = some (.int .i64 mo) from hL7.md.at_.c 4)))
              | fail)
          have hfin : ∃ (k' : Nat) (s' : St) (C' : Int → List Int) (pins' : Int → Int) (q' : Mq), ((k : Int) + 1) = (k' : Int) ∧ k' ≤ 50 ∧ k' ≤ sn ∧ LS w7 b x d lb g pp b i k' mo s' C' pins' q' ∧ Below w.heap.size w w7 ∧ k' = k + 1 := ⟨k + 1, s4, C4, p4, _, by omega, by omega, by omega, hL7, hB7, rfl⟩
          have hfinx := Lib.hid hfin
          clear hfin hL4 hL5 hL7 f4 f5 f7 S0 hlen4
          go_wp2
          go_roundw
          case rel =>
            obtain ⟨k', s', C', p', q', e1, f1, f2, f3, f4, -⟩ := hfinx.out
            exact ⟨k', s', C', p', q', by rw [← e1], f1, f2, f3, f4⟩
          case measure => simp [intOf]; omega
        · have hway : (decide ((k : Int) < sn) = true ∧ decide ((k : Int) < 50) = false ∧ k < sn ∧ ¬ k < 50) ∨ (decide ((k : Int) < sn) = false ∧ True ∧ True ∧ ¬ k < sn) := by
            by_cases h2 : k < sn
            · exact .inl ⟨by simp; omega, by simp; omega, h2, fun h => hgo ⟨h2, h⟩⟩
            · exact .inr ⟨by simp; omega, trivial, trivial, h2⟩
          obtain ⟨a1, a2, a3, a4⟩ := all_plain hL hk50
          have hcall := Lib.hid (ws_all hL.ws a1)
          have a2x := Lib.hid a2
          have a4x := Lib.hid a4
          have hmdx := Lib.hid hL.md
          clear a1 a2 a3 a4 hgo hL kmo
          have kxc := kx.c; have kxf := kx.f; have kxl := kx.lt
          rcases hway with ⟨z1, z2, z3, z4⟩ | ⟨z1, z2, z3, z4⟩
          all_goals
            go_wp2_with fail
            refine hcall.out.mono ?_
            rintro e w3 ⟨rfl, hT3⟩
            have hgone := hT3.1.gone (allS_gs s)
            have hno := dirty_no a4x.out hgone
            have hl : ∀ j : Nat, j < i → (allS s).D.l.getD (41 + j) [] = C j := fun j hj => by
              have e1 := a2x.out.gn (j : Int) (by omega) (by omega) (hgone j)
              have e2 := a2x.out.told (k := (j : Int)) (by omega) (by omega) (hno j)
              have e : pgI (j : Int) = 41 + j := by unfold pgI; omega
              rw [e] at e1 e2
              rw [e1, e2]
            have hlen : (allS s).D.l.length = 41 + i := by have := a2x.out.dn; omega
            have kx3 := hT3.1.wx.at_
            have hmd3 := hmdx.out.mod hT3.2.1 (fun k hk hn => hn hk)
            have hB3' := below_tr hBr (hT3.2.2.mono hw1)
            have hws3x := Lib.hid hT3.1
            have hmd3x := Lib.hid hmd3
            have hnox := Lib.hid hno
            have hlx := Lib.hid hl
            have hlenx := Lib.hid hlen
            clear hT3 hmd3 hno hl hlen hgone
            have kx3c := kx3.c; have kx3f := kx3.f; have kx3l := kx3.lt
            go_wp2_with fail
            refine (ws_dirty hws3x.out).mono ?_
            rintro e w4 ⟨A4, c4, ks, rfl, -, -, hmem, hb4⟩
            rw [no_ks hmem hnox.out]
            have hB4 := below_keep hb4 hB3'
            have hws4x := Lib.hid (hws3x.out.later hb4)
            have hmd4x := Lib.hid (hmd3x.out.later hb4)
            clear hmem
            go_wp2_with fail
            refine (mlasts_calls w4 hws4x.out hmd4x.out hn8x.out.2 hlenx.out hlx.out).mono ?_
            rintro e w5 ⟨rfl, hb5⟩
            have hB5 := below_tr hB4 (hb5.mono hw1)
            go_wp2
            go_ret
            exact ⟨by first | rfl | simp, hB5⟩
end Go.Proofs.Ytggeepihkeocmaa
/- Arguments opened: a byte, a number of two bytes. -/
namespace Go.Proofs.Ytggeepihkeocmaa
set_option linter.unusedVariables false
set_option linter.unusedSimpArgs false
open Go.ChangeShapes Go.WideShapes Go.ChangeAt Go.RowKit Go.Joins
section
variable {H : Type} {enc : TypeId × Value → H} {w : World} {held : Bool}
set_option maxRecDepth 100000 in
theorem open_n8 {r : Reach} {b0 : Nat} {v : Value} {d : DataW H} {p : List MemPlace} {spare : Nat → Bool} (hv : Value.okWide Try.prog w r b0 5 v) (h : DataW.Trod enc Try.prog w 0 spare held 5 v d p) : ∃ x : Int, v = .int .u8 x ∧ 0 ≤ x ∧ x ≤ 255 := by
  obtain ⟨x, rfl⟩ := okWide_int Try.underlying5 hv
  obtain ⟨f, hf⟩ := h
  obtain ⟨a, q, -, z⟩ := DataW.trod_int Try.underlying5 hf
  have e : [Value.int .u8 x] = [Value.int .u8 a] := q
  injection e with e _
  injection e with _ e
  subst e
  have := bounds_u8 z
  exact ⟨x, rfl, by omega, by omega⟩
set_option maxRecDepth 100000 in
theorem open_n16 {r : Reach} {b0 : Nat} {v : Value} {d : DataW H} {p : List MemPlace} {spare : Nat → Bool} (hv : Value.okWide Try.prog w r b0 62 v) (h : DataW.Trod enc Try.prog w 0 spare held 62 v d p) : ∃ x : Int, v = .int .u16 x ∧ 0 ≤ x ∧ x ≤ 65535 := by
  obtain ⟨x, rfl⟩ := okWide_int Try.underlying62 hv
  obtain ⟨f, hf⟩ := h
  obtain ⟨a, q, -, z⟩ := DataW.trod_int Try.underlying62 hf
  have e : [Value.int .u16 x] = [Value.int .u16 a] := q
  injection e with e _
  injection e with _ e
  subst e
  have := bounds_u16 z
  exact ⟨x, rfl, by omega, by omega⟩
end
end Go.Proofs.Ytggeepihkeocmaa
