/- Joined texts: PpQ. -/
import Derived.Test.YtggeepihkeocmaaJPlays38
/- PoolPlays: the model's do, by kinds: Flush. -/
namespace Go.Proofs.Ytggeepihkeocmaa
set_option linter.unusedVariables false
set_option linter.unusedSimpArgs false
open Go.RowKit Go.Maps
theorem WS.gone {w : World} {base x d lb g pp : Nat} {s : St} {S : Nat → Prop} (h : WS w base x d lb g pp s S) (hg : s.P.gs = []) (k : Int) : s.P.gone k = none := by
  obtain ⟨F, bA, bc, o, kx, hP, -⟩ := h
  obtain ⟨D, -, -, -, -, h5, -⟩ := hP.p.gm
  cases e : s.P.gone k with
  | none => rfl
  | some v =>
    have := (h5 k).2 (by rw [e]; rfl)
    rw [hg] at this
    cases this
theorem all_plain {w : World} {base x d lb g pp b n i0 : Nat} {mo : Int} {s : St} {C : Int → List Int} {pins : Int → Int} {q : Mq} (h : LS w base x d lb g pp b n i0 mo s C pins q) (h50 : i0 ≤ 50) :
    (∀ j, j ≤ s.P.ks.length → Inv (cleanAll s (s.P.ks.take j))) ∧ Pv (allS s) n mo C pins ∧ Bq (allS s) pins (i0 + 1) ∧ (∀ k f, (allS s).P.fr k = some f → f.dirty = false) := by
  have hq := h.bq
  have hen := hq.en
  have hop := hq.op
  have hwy := hq.wy
  obtain ⟨a1, a2, a3, a4, a5, a6, a7, a8, a9⟩ := h.pv.all h.keys hq.su (by omega) (by omega) (by omega)
  exact ⟨a1, a2, hq.next (t := allS s) (.inl a8) (by omega) (by omega) (by omega) a5 pins (fun k => by have := (hq.pn k).1; omega), a3⟩
theorem no_ks {P : Pl} {ks : List Int} (hmem : ∀ k, k ∈ ks ↔ (dirtyV P k).isSome = true) (h : ∀ k, dirtyV P k = none) : ks.length = 0 := by
  cases ks with
  | nil => rfl
  | cons k l =>
    have := (hmem k).1 (by simp)
    rw [h k] at this; cases this
set_option maxRecDepth 100000 in
set_option maxHeartbeats 16000000 in
theorem mdo_flush {base x d lb g pp b n i0 an ac : Nat} {mo : Int} {s : St} {C : Int → List Int} {pins : Int → Int} {q : Mq} {p : List Int} {aA : Option Addr} (kd pg ofs : Int) (w : World) (h : LS w base x d lb g pp b n i0 mo s C pins q) (h50 : i0 < 50) (hkd : kd.tmod 7 = 4) (hpg : 0 ≤ pg ∧ pg ≤ 255) (hofs : 0 ≤ ofs ∧ ofs ≤ 65535) (hp : BsR w 0 base aA an p) (han : an ≤ maxLen) :
    Calls Try.prog 29 #[.pointer (some ⟨b, 0, none⟩), .pointer (some ⟨x, 0, none⟩), .agg #[.int .u8 kd, .int .u8 pg, .int .u16 ofs, .slice aA an ac], .int .i64 (n : Int)] w fun e w' => e = .returned (.bool true) ∧ LTo w w' base x d lb g pp b n (i0 + 1) mo := by
  have hn := h.pv.hn
  obtain ⟨i, hi⟩ : ∃ o : Nat, (o : Int) = pg % ((n : Int) + 1) := ⟨(pg % ((n : Int) + 1)).toNat, by have := Int.emod_nonneg pg (show (n : Int) + 1 ≠ 0 by omega); omega⟩
  have hin : i ≤ n := by have := Int.emod_lt_of_pos pg (show (0 : Int) < (n : Int) + 1 by omega); omega
  have t1 : IntKind.i64.wrap pg = pg := IntWalk.i64_in _ (by omega)
  have t2 : IntKind.i64.wrap ((n : Int) + 1) = (n : Int) + 1 := IntWalk.i64_in _ (by omega)
  have t3 : pg.tmod ((n : Int) + 1) = (i : Int) := by rw [Int.tmod_eq_emod_of_nonneg hpg.1, hi]
  have t4 : IntKind.i64.wrap (i : Int) = i := IntWalk.i64_in _ (by omega)
  have t5 : (n : Int) + 1 ≠ 0 := by omega
  have t6 : ¬ ((n : Int) + 1 = 0) := by omega
  have hi0 : (0 : Int) ≤ i := by omega
  have hbw := h.ws.bw
  have hB1 : Below base w (w.alloc (.cells #[.int .u8 kd, .int .u8 pg, .int .u16 ofs, .slice aA an ac] 64)) := (Below.refl base w).alloc hbw _
  have kb := At.new w #[.int .u8 kd, .int .u8 pg, .int .u16 ofs, .slice aA an ac] 64
  have hbn := below_new w (.cells #[.int .u8 kd, .int .u8 pg, .int .u16 ofs, .slice aA an ac] 64)
  have hws1 : WS (w.alloc (.cells #[.int .u8 kd, .int .u8 pg, .int .u16 ofs, .slice aA an ac] 64)) base x d lb g pp s (fun k => MdF b n q k ∨ k = w.heap.size) := h.ws.own (S2 := Nob) (Mod.of_below hbn) (fun _ h => h.elim) (fun k hk => hk.imp id (fun e => by subst e; exact ⟨Nat.le_refl _, by simp⟩))
  have hmd1 := h.md.later hbn
  have hpx := Lib.hid hp
  have hhx := Lib.hid h
  have hofx := Lib.hid hofs
  have hway : (i = n ∧ Wnt i n mo pins false 1) ∨ (i < n ∧ ((mayB pins n mo i ∧ Wnt i n mo pins true 0) ∨ (¬ mayB pins n mo i ∧ Wnt i n mo pins true 9))) := by
    by_cases e : i = n
    · exact .inl ⟨e, .inl ⟨e, rfl, rfl⟩⟩
    · have e2 : i < n := by omega
      by_cases hm : mayB pins n mo i
      · exact .inr ⟨e2, .inl ⟨hm, .inr (.inl ⟨e2, rfl, rfl, hm⟩)⟩⟩
      · exact .inr ⟨e2, .inr ⟨hm, .inr (.inr ⟨e2, rfl, rfl⟩)⟩⟩
  clear h hp hofs hi hpg
  go_enter Try.func29, Try.ntmps29
  go_upto_region 1 with (fail)
  generalize (w.alloc (.cells #[.int .u8 kd, .int .u8 pg, .int .u16 ofs, .slice aA an ac] 64)) = w1 at *
  obtain ⟨ab, hab⟩ : ∃ ab, w.heap.size = ab := ⟨_, rfl⟩
  rw [hab] at kb hws1 ⊢
  have hws1x := Lib.hid hws1
  have hmd1x := Lib.hid hmd1
  clear hws1 hmd1 hab
  have kbc := kb.c; have kbf := kb.f; have kbl := kb.lt
  rcases hway with ⟨hn1, hW⟩ | ⟨hn1, hW⟩
  · have g1 : ¬ ((i : Int) < n) := by omega
    have g2 : decide ((i : Int) < n) = false := by simp; omega
    have hn1x := Lib.hid hn1
    clear hn1
    obtain ⟨w2, hw2⟩ : ∃ w2, w2 = w1 := ⟨_, rfl⟩
    subst hw2
    have hB2 := hB1
    have hws2x := hws1x
    have hmd2x := hmd1x
    have kb2 := kb
    have hWx := Lib.hid hW
    have kx2 := hws2x.out.wx.at_
    clear hW hws1x hmd1x hB1 hbn kb
    have kb2c := kb2.c; have kb2f := kb2.f; have kb2l := kb2.lt
    have kx2c := kx2.c; have kx2f := kx2.f; have kx2l := kx2.lt
    obtain ⟨a1, a2, a3, a4⟩ := all_plain hhx.out (by omega)
    have hcall := Lib.hid (ws_all hws2x.out a1)
    have a2x := Lib.hid a2
    have a3x := Lib.hid a3
    have a4x := Lib.hid a4
    clear a1 a2 a3 a4
    go_wp2_with fail
    refine hcall.out.mono ?_
    rintro e w3 ⟨rfl, hT3⟩
    have hno := dirty_no a4x.out (hT3.1.gone (allS_gs s))
    have kx3 := hT3.1.wx.at_
    have hmd3 := hmd2x.out.mod hT3.2.1 (fun k hk hn => hn (.inl hk))
    have hB3 := below_tr hB2 hT3.2.2
    have hws3 := hT3.1.less (fun k (hk : MdF b n q k) => .inl hk)
    have hws3x := Lib.hid hws3
    have hmd3x := Lib.hid hmd3
    have hnox := Lib.hid hno
    clear hT3 hmd3 hws3 hno hcall kx2 kx2c kx2f kx2l
    have kx3c := kx3.c; have kx3f := kx3.f; have kx3l := kx3.lt
    go_wp2_with fail
    refine (ws_dirty hws3x.out).mono ?_
    rintro e w4 ⟨A4, c4, ks, rfl, -, -, hmem, hb4⟩
    rw [no_ks hmem hnox.out]
    have hB4 := below_tr hB3 (hb4.mono hws3x.out.bw)
    have hws4x := Lib.hid (hws3x.out.later hb4)
    have hmd4x := Lib.hid (hmd3x.out.later hb4)
    clear hmem hws3x hmd3x kx3 kx3c kx3f kx3l hnox
    go_wp2_with fail
    go_loopw [18] (fun v18 wr => ∃ (j : Nat) (sn : Nat → Int), v18 = .int .i64 (j : Int) ∧ j ≤ n ∧ WS wr base x d lb g pp (allS s) (MdF b n q) ∧ MdH wr base b n mo C pins { q with sn := sn } ∧ Below base w wr) (fun v18 _ => n - (intOf v18).toNat)
    case atStart => exact ⟨0, q.sn, rfl, Nat.zero_le _, hws4x.out, hmd4x.out, hB4⟩
    case round =>
      obtain ⟨j, sn, rfl, hj, hW5, hM5, hB5⟩ := hrel
      have k5 := hM5.at_
      have hW5x := Lib.hid hW5
      have hM5x := Lib.hid hM5
      by_cases hlt : j < n
      · have hlti : (j : Int) < n := by omega
        have hj0 : (0 : Int) ≤ j := by omega
        have e1 : IntKind.i64.wrap ((j : Int) + 1) = (j : Int) + 1 := IntWalk.i64_in _ (by omega)
        have hcd := hM5.rd.cell hlt
        have hcf := hM5.rd.fz
        have hcg := hM5.rd.lt
        obtain ⟨sv, hsv⟩ : ∃ y, sn j = y := ⟨_, rfl⟩
        have hcd2 : wr.cell? ⟨q.gd, j, none⟩ = some (.int .u64 sv) := by rw [← hsv]; exact hcd
        have m5 := (Mod.refl (fun k => k = q.gd) wr).set (k := q.gd) (.inl rfl) (o := j) (.int .u64 0)
        have hnext : ∃ (j' : Nat) (sn' : Nat → Int), ((j : Int) + 1) = (j' : Int) ∧ j' ≤ n ∧ WS (wr.setCell ⟨q.gd, j, none⟩ (.int .u64 0)) base x d lb g pp (allS s) (MdF b n q) ∧ MdH (wr.setCell ⟨q.gd, j, none⟩ (.int .u64 0)) base b n mo C pins { q with sn := sn' } ∧ Below base w (wr.setCell ⟨q.gd, j, none⟩ (.int .u64 0)) :=
          ⟨j + 1, _, by omega, by omega, hW5.own m5 (fun k hk => .inl (hk ▸ .inr (.inr (.inr (.inr (.inl rfl)))))) (fun _ h => .inl h), hM5.setSn j 0, below_tr hB5 (m5.below hW5.bw (fun k hk => by have h : base ≤ q.gd := hM5.hb.2.2.2.2; omega))⟩
        have hnextx := Lib.hid hnext
        clear hnext m5 hcd hsv hW5 hM5
        have k5c := k5.c; have k5f := k5.f; have k5l := k5.lt
        go_wp2
        go_roundw
        case rel =>
          obtain ⟨j', sn', e1, e2⟩ := hnextx.out
          exact ⟨j', sn', by rw [← e1], e2⟩
        case measure => simp [intOf]; omega
      · have hlti : ¬ ((j : Int) < n) := by omega
        have hfin : LTo w wr base x d lb g pp b n (i0 + 1) mo := ⟨allS s, C, pins, { q with sn := sn }, ⟨hW5, hM5, a2x.out, a3x.out⟩, hB5⟩
        have hfinx := Lib.hid hfin
        clear hfin hW5 hM5
        have k5c := k5.c; have k5f := k5.f; have k5l := k5.lt
        go_wp2
        go_ret
        exact ⟨by first | rfl | simp, hfinx.out⟩
  · have g1 : (i : Int) < n := by omega
    have g2 : decide ((i : Int) < n) = true := by simp; omega
    rcases hW with ⟨hm, hW⟩ | ⟨hm, hW⟩
    all_goals
      go_wp2_with fail
      first
        | refine (may_calls i true w1 hmd1x.out (by omega) hn1 ⟨fun _ => hm, fun _ => rfl⟩).mono ?_
        | refine (may_calls i false w1 hmd1x.out (by omega) hn1 ⟨fun h => (by cases h), fun h => absurd h hm⟩).mono ?_
      rintro e wd ⟨rfl, kq, hwd⟩
      have hbd : Below w1.heap.size w1 wd := by rw [hwd]; exact below_drewN (Below.refl _ _) kq
      clear hwd
      have hB2 := below_tr hB1 (hbd.mono hws1x.out.bw)
      have hws2x := Lib.hid (hws1x.out.later hbd)
      have hmd2x := Lib.hid (hmd1x.out.later hbd)
      have kb2 := At.keep hbd kb
      obtain ⟨w2, hw2⟩ : ∃ w2, w2 = wd := ⟨_, rfl⟩
      subst hw2
      have hWx := Lib.hid hW
      have kx2 := hws2x.out.wx.at_
      clear hW hws1x hmd1x hB1 hbn kb kbc kbf kbl hbd hm
      have kb2c := kb2.c; have kb2f := kb2.f; have kb2l := kb2.lt
      have kx2c := kx2.c; have kx2f := kx2.f; have kx2l := kx2.lt
      obtain ⟨a1, a2, a3, a4⟩ := all_plain hhx.out (by omega)
      have hcall := Lib.hid (ws_all hws2x.out a1)
      have a2x := Lib.hid a2
      have a3x := Lib.hid a3
      have a4x := Lib.hid a4
      clear a1 a2 a3 a4
      go_wp2_with fail
      refine hcall.out.mono ?_
      rintro e w3 ⟨rfl, hT3⟩
      have hno := dirty_no a4x.out (hT3.1.gone (allS_gs s))
      have kx3 := hT3.1.wx.at_
      have hmd3 := hmd2x.out.mod hT3.2.1 (fun k hk hn => hn (.inl hk))
      have hB3 := below_tr hB2 hT3.2.2
      have hws3 := hT3.1.less (fun k (hk : MdF b n q k) => .inl hk)
      have hws3x := Lib.hid hws3
      have hmd3x := Lib.hid hmd3
      have hnox := Lib.hid hno
      clear hT3 hmd3 hws3 hno hcall kx2 kx2c kx2f kx2l
      have kx3c := kx3.c; have kx3f := kx3.f; have kx3l := kx3.lt
      go_wp2_with fail
      refine (ws_dirty hws3x.out).mono ?_
      rintro e w4 ⟨A4, c4, ks, rfl, -, -, hmem, hb4⟩
      rw [no_ks hmem hnox.out]
      have hB4 := below_tr hB3 (hb4.mono hws3x.out.bw)
      have hws4x := Lib.hid (hws3x.out.later hb4)
      have hmd4x := Lib.hid (hmd3x.out.later hb4)
      clear hmem hws3x hmd3x kx3 kx3c kx3f kx3l hnox
      go_wp2_with fail
      go_loopw [18] (fun v18 wr => ∃ (j : Nat) (sn : Nat → Int), v18 = .int .i64 (j : Int) ∧ j ≤ n ∧ WS wr base x d lb g pp (allS s) (MdF b n q) ∧ MdH wr base b n mo C pins { q with sn := sn } ∧ Below base w wr) (fun v18 _ => n - (intOf v18).toNat)
      case atStart => exact ⟨0, q.sn, rfl, Nat.zero_le _, hws4x.out, hmd4x.out, hB4⟩
      case round =>
        obtain ⟨j, sn, rfl, hj, hW5, hM5, hB5⟩ := hrel
        have k5 := hM5.at_
        have hW5x := Lib.hid hW5
        have hM5x := Lib.hid hM5
        by_cases hlt : j < n
        · have hlti : (j : Int) < n := by omega
          have hj0 : (0 : Int) ≤ j := by omega
          have e1 : IntKind.i64.wrap ((j : Int) + 1) = (j : Int) + 1 := IntWalk.i64_in _ (by omega)
          have hcd := hM5.rd.cell hlt
          have hcf := hM5.rd.fz
          have hcg := hM5.rd.lt
          obtain ⟨sv, hsv⟩ : ∃ y, sn j = y := ⟨_, rfl⟩
          have hcd2 : wr.cell? ⟨q.gd, j, none⟩ = some (.int .u64 sv) := by rw [← hsv]; exact hcd
          have m5 := (Mod.refl (fun k => k = q.gd) wr).set (k := q.gd) (.inl rfl) (o := j) (.int .u64 0)
          have hnext : ∃ (j' : Nat) (sn' : Nat → Int), ((j : Int) + 1) = (j' : Int) ∧ j' ≤ n ∧ WS (wr.setCell ⟨q.gd, j, none⟩ (.int .u64 0)) base x d lb g pp (allS s) (MdF b n q) ∧ MdH (wr.setCell ⟨q.gd, j, none⟩ (.int .u64 0)) base b n mo C pins { q with sn := sn' } ∧ Below base w (wr.setCell ⟨q.gd, j, none⟩ (.int .u64 0)) :=
            ⟨j + 1, _, by omega, by omega, hW5.own m5 (fun k hk => .inl (hk ▸ .inr (.inr (.inr (.inr (.inl rfl)))))) (fun _ h => .inl h), hM5.setSn j 0, below_tr hB5 (m5.below hW5.bw (fun k hk => by have h : base ≤ q.gd := hM5.hb.2.2.2.2; omega))⟩
          have hnextx := Lib.hid hnext
          clear hnext m5 hcd hsv hW5 hM5
          have k5c := k5.c; have k5f := k5.f; have k5l := k5.lt
          go_wp2
          go_roundw
          case rel =>
            obtain ⟨j', sn', e1, e2⟩ := hnextx.out
            exact ⟨j', sn', by rw [← e1], e2⟩
          case measure => simp [intOf]; omega
        · have hlti : ¬ ((j : Int) < n) := by omega
          have hfin : LTo w wr base x d lb g pp b n (i0 + 1) mo := ⟨allS s, C, pins, { q with sn := sn }, ⟨hW5, hM5, a2x.out, a3x.out⟩, hB5⟩
          have hfinx := Lib.hid hfin
          clear hfin hW5 hM5
          have k5c := k5.c; have k5f := k5.f; have k5l := k5.lt
          go_wp2
          go_ret
          exact ⟨by first | rfl | simp, hfinx.out⟩
end Go.Proofs.Ytggeepihkeocmaa
