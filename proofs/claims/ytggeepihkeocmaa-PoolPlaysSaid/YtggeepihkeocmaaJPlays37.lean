/- Joined texts: PpL. -/
import Derived.Test.YtggeepihkeocmaaJPlays36
/- PoolPlays: the model's do, by kinds: put, the log's Flush. -/
namespace Go.Proofs.Ytggeepihkeocmaa
set_option linter.unusedVariables false
set_option linter.unusedSimpArgs false
open Go.RowKit Go.Maps
/-- A page is had, or it is not. -/
theorem get_plain {w : World} {base x d lb g pp b n i0 i : Nat} {mo W : Int} {s : St} {C : Int → List Int} {pins : Int → Int} {q : Mq} {inb : Bool} (h : LS w base x d lb g pp b n i0 mo s C pins q) (h50 : i0 < 50) (hW : Wnt i n mo pins inb W) :
    Inv s ∧ s.P.clock + 1 ≤ 1000000 ∧ Pv (getS s i) n mo C pins ∧ Bq (getS s i) pins (i0 + 1) ∧ (getE s i = W ∧ W ≠ 0 ∨ getE s i = 0 ∧ inb = true ∧ (W = 0 ∨ W = 9) ∧ i < n) := by
  have hp := h.pv
  have hq := h.bq
  have hk := h.keys
  have hck := hq.ck
  have h0 : ∀ k, 0 ≤ pins k := fun k => (hq.pn k).1
  have hpp : ∀ k, 0 ≤ pins k ∧ pins k ≤ pins k + 1 := fun k => by have := h0 k; omega
  have hgk := getS_ck (s := s) (i := (i : Int))
  refine ⟨hp.inv, by omega, ?_⟩
  rcases hW with ⟨e1, e2, e3⟩ | ⟨e1, e2, e3, e4⟩ | ⟨e1, e2, e3⟩
  · obtain ⟨g1, g2⟩ := getNone (i := (i : Int)) s (.inr (by rw [hp.pg]; omega))
    rw [g2]
    exact ⟨hp, hq.keep, .inl ⟨by rw [g1, e3], by omega⟩⟩
  · obtain ⟨g1, g2, g3⟩ := hp.get (hq.fits h50) hk (i := (i : Int)) ⟨by omega, by omega⟩ (may_room hp hk h0 e4)
    exact ⟨g2, hq.near hgk g3 pins hpp, .inr ⟨g1, e2, .inl e3, e1⟩⟩
  · by_cases hr : HasRoom s i mo pins
    · obtain ⟨g1, g2, g3⟩ := hp.get (hq.fits h50) hk (i := (i : Int)) ⟨by omega, by omega⟩ hr
      exact ⟨g2, hq.near hgk g3 pins hpp, .inr ⟨g1, e2, .inr e3, e1⟩⟩
    · obtain ⟨g1, g2, g3⟩ := hp.getNo hk (i := (i : Int)) ⟨by omega, by omega⟩ hr
      exact ⟨g2, hq.near hgk g3 pins hpp, .inl ⟨by rw [g1, e3], by omega⟩⟩
theorem lfl_plain {w : World} {base x d lb g pp b n i0 : Nat} {mo : Int} {s : St} {C : Int → List Int} {pins : Int → Int} {q : Mq} (h : LS w base x d lb g pp b n i0 mo s C pins q) (h50 : i0 < 50) : Pv (lflS s) n mo C pins ∧ Bq (lflS s) pins (i0 + 1) := by
  have hp := h.pv
  have hq := h.bq
  have hpp : ∀ k, 0 ≤ pins k ∧ pins k ≤ pins k + 1 := fun k => by have := (hq.pn k).1; omega
  by_cases hs : s.L.sure = endL s.L
  · have e : lflS s = s := by
      have e1 : flD s.D s.L = s.D := by unfold flD; rw [if_pos hs]
      have e2 : flZ s.D s.L = s.L := by rw [(fl_q s.L hp.inv.q).2.2.2.2.2.2, if_pos hs]
      unfold lflS
      rw [e1, e2]
    rw [e]
    exact ⟨hp, hq.keep⟩
  · obtain ⟨f1, f2, f3, f4, f5, f6, f7, f8⟩ := hp.lfl hs (hq.fits h50)
    have e : lflS s = ⟨s.P, flD s.D s.L, flL s.L⟩ := by unfold lflS; rw [f7]
    have hsu := hq.su
    have hso := hp.inv.li.ok.sure
    rw [e]
    exact ⟨f1, hq.next (t := ⟨s.P, flD s.D s.L, flL s.L⟩) (.inl rfl) (by show (flD s.D s.L).ops ≤ _; omega) (by show (flD s.D s.L).way.length ≤ _; rw [f4]; simp) (by show endL (flL s.L) ≤ _; rw [f5]; omega) (by show 480 ≤ (flL s.L).sure; rw [f6]; omega) pins hpp⟩
set_option maxRecDepth 100000 in
set_option maxHeartbeats 16000000 in
theorem mdo_put0 {base x d lb g pp b n i0 an ac : Nat} {mo : Int} {s : St} {C : Int → List Int} {pins : Int → Int} {q : Mq} {p : List Int} {aA : Option Addr} (kd pg ofs : Int) (w : World) (h : LS w base x d lb g pp b n i0 mo s C pins q) (h50 : i0 < 50) (hkd : kd.tmod 7 = 0) (hpg : 0 ≤ pg ∧ pg ≤ 255) (hofs : 0 ≤ ofs ∧ ofs ≤ 65535) (hp : BsR w 0 base aA an p) (han : an ≤ maxLen) :
    Calls Try.prog 29 #[.pointer (some ⟨b, 0, none⟩), .pointer (some ⟨x, 0, none⟩), .agg #[.int .u8 kd, .int .u8 pg, .int .u16 ofs, .slice aA an ac], .int .i64 (n : Int)] w fun e w' => e = .returned (.bool true) ∧ LTo w w' base x d lb g pp b n (i0 + 1) mo := by
  have hn := h.pv.hn
  obtain ⟨i, hi⟩ : ∃ o : Nat, (o : Int) = pg % ((n : Int) + 1) := ⟨(pg % ((n : Int) + 1)).toNat, by have := Int.emod_nonneg pg (show (n : Int) + 1 ≠ 0 by omega); omega⟩
  have hin : i ≤ n := by have := Int.emod_lt_of_pos pg (show (0 : Int) < (n : Int) + 1 by omega); omega
  have t1 : IntKind.i64.wrap pg = pg := IntWalk.i64_in _ (by omega)
  have t2 : IntKind.i64.wrap ((n : Int) + 1) = (n : Int) + 1 := IntWalk.i64_in _ (by omega)
  have t3 : pg.tmod ((n : Int) + 1) = (i : Int) := by rw [Int.tmod_eq_emod_of_nonneg hpg.1, hi]
  have t4 : IntKind.i64.wrap (i : Int) = i := IntWalk.i64_in _ (by omega)
  have t5 : (n : Int) + 1 ≠ 0 := by omega
  have t6 : ¬ ((n : Int) + 1 = 0) := by omega
  have hi0 : (0 : Int) ≤ i := by omega
  have hbw := h.ws.bw
  have hB1 : Below base w (w.alloc (.cells #[.int .u8 kd, .int .u8 pg, .int .u16 ofs, .slice aA an ac] 64)) := (Below.refl base w).alloc hbw _
  have kb := At.new w #[.int .u8 kd, .int .u8 pg, .int .u16 ofs, .slice aA an ac] 64
  have hbn := below_new w (.cells #[.int .u8 kd, .int .u8 pg, .int .u16 ofs, .slice aA an ac] 64)
  have hws1 : WS (w.alloc (.cells #[.int .u8 kd, .int .u8 pg, .int .u16 ofs, .slice aA an ac] 64)) base x d lb g pp s (fun k => MdF b n q k ∨ k = w.heap.size) := h.ws.own (S2 := Nob) (Mod.of_below hbn) (fun _ h => h.elim) (fun k hk => hk.imp id (fun e => by subst e; exact ⟨Nat.le_refl _, by simp⟩))
  have hmd1 := h.md.later hbn
  have hpx := Lib.hid hp
  have hhx := Lib.hid h
  have hofx := Lib.hid hofs
  have hway : (i = n ∧ Wnt i n mo pins false 1) ∨ (i < n ∧ ((mayB pins n mo i ∧ Wnt i n mo pins true 0) ∨ (¬ mayB pins n mo i ∧ Wnt i n mo pins true 9))) := by
    by_cases e : i = n
    · exact .inl ⟨e, .inl ⟨e, rfl, rfl⟩⟩
    · have e2 : i < n := by omega
      by_cases hm : mayB pins n mo i
      · exact .inr ⟨e2, .inl ⟨hm, .inr (.inl ⟨e2, rfl, rfl, hm⟩)⟩⟩
      · exact .inr ⟨e2, .inr ⟨hm, .inr (.inr ⟨e2, rfl, rfl⟩)⟩⟩
  clear h hp hofs hi hpg
  go_enter Try.func29, Try.ntmps29
  go_upto_region 1 with (fail)
  generalize (w.alloc (.cells #[.int .u8 kd, .int .u8 pg, .int .u16 ofs, .slice aA an ac] 64)) = w1 at *
  obtain ⟨ab, hab⟩ : ∃ ab, w.heap.size = ab := ⟨_, rfl⟩
  rw [hab] at kb hws1 ⊢
  have hws1x := Lib.hid hws1
  have hmd1x := Lib.hid hmd1
  clear hws1 hmd1 hab
  have kbc := kb.c; have kbf := kb.f; have kbl := kb.lt
  rcases hway with ⟨hn1, hW⟩ | ⟨hn1, hW⟩
  · have g1 : ¬ ((i : Int) < n) := by omega
    have g2 : decide ((i : Int) < n) = false := by simp; omega
    have hn1x := Lib.hid hn1
    clear hn1
    obtain ⟨w2, hw2⟩ : ∃ w2, w2 = w1 := ⟨_, rfl⟩
    subst hw2
    have hB2 := hB1
    have hws2x := hws1x
    have hmd2x := hmd1x
    have kb2 := kb
    have hWx := Lib.hid hW
    have kx2 := hws2x.out.wx.at_
    clear hW hws1x hmd1x hB1 hbn kb
    have kb2c := kb2.c; have kb2f := kb2.f; have kb2l := kb2.lt
    have kx2c := kx2.c; have kx2f := kx2.f; have kx2l := kx2.lt
    have hL2 : LS w2 base x d lb g pp b n i0 mo s C pins q := ⟨hws2x.out.less (fun k (hk : MdF b n q k) => .inl hk), hmd2x.out, hhx.out.pv, hhx.out.bq⟩
    have hL2x := Lib.hid hL2
    clear hL2
    go_wp2_with fail
    refine (mput_calls (ac := ac) kd pg ofs w2 hL2x.out h50 hWx.out hofx.out (hpx.out.below hB2 (Nat.le_refl _)) han).mono ?_
    rintro e w3 ⟨rfl, hT⟩
    have hfin : LTo w w3 base x d lb g pp b n (i0 + 1) mo := by
      obtain ⟨s', C', p', q', h1, h2⟩ := hT
      exact ⟨s', C', p', q', h1, below_tr hB2 h2⟩
    have hfinx := Lib.hid hfin
    clear hfin hT
    go_wp2
    go_ret
    exact ⟨by first | rfl | simp, hfinx.out⟩
  · have g1 : (i : Int) < n := by omega
    have g2 : decide ((i : Int) < n) = true := by simp; omega
    rcases hW with ⟨hm, hW⟩ | ⟨hm, hW⟩
    all_goals
      go_wp2_with fail
      first
        | refine (may_calls i true w1 hmd1x.out (by omega) hn1 ⟨fun _ => hm, fun _ => rfl⟩).mono ?_
        | refine (may_calls i false w1 hmd1x.out (by omega) hn1 ⟨fun h => (by cases h), fun h => absurd h hm⟩).mono ?_
      rintro e wd ⟨rfl, kq, hwd⟩
      have hbd : Below w1.heap.size w1 wd := by rw [hwd]; exact below_drewN (Below.refl _ _) kq
      clear hwd
      have hB2 := below_tr hB1 (hbd.mono hws1x.out.bw)
      have hws2x := Lib.hid (hws1x.out.later hbd)
      have hmd2x := Lib.hid (hmd1x.out.later hbd)
      have kb2 := At.keep hbd kb
      obtain ⟨w2, hw2⟩ : ∃ w2, w2 = wd := ⟨_, rfl⟩
      subst hw2
      have hWx := Lib.hid hW
      have kx2 := hws2x.out.wx.at_
      clear hW hws1x hmd1x hB1 hbn kb kbc kbf kbl hbd hm
      have kb2c := kb2.c; have kb2f := kb2.f; have kb2l := kb2.lt
      have kx2c := kx2.c; have kx2f := kx2.f; have kx2l := kx2.lt
      have hL2 : LS w2 base x d lb g pp b n i0 mo s C pins q := ⟨hws2x.out.less (fun k (hk : MdF b n q k) => .inl hk), hmd2x.out, hhx.out.pv, hhx.out.bq⟩
      have hL2x := Lib.hid hL2
      clear hL2
      go_wp2_with fail
      refine (mput_calls (ac := ac) kd pg ofs w2 hL2x.out h50 hWx.out hofx.out (hpx.out.below hB2 (Nat.le_refl _)) han).mono ?_
      rintro e w3 ⟨rfl, hT⟩
      have hfin : LTo w w3 base x d lb g pp b n (i0 + 1) mo := by
        obtain ⟨s', C', p', q', h1, h2⟩ := hT
        exact ⟨s', C', p', q', h1, below_tr hB2 h2⟩
      have hfinx := Lib.hid hfin
      clear hfin hT
      go_wp2
      go_ret
      exact ⟨by first | rfl | simp, hfinx.out⟩
set_option maxRecDepth 100000 in
set_option maxHeartbeats 16000000 in
theorem mdo_put5 {base x d lb g pp b n i0 an ac : Nat} {mo : Int} {s : St} {C : Int → List Int} {pins : Int → Int} {q : Mq} {p : List Int} {aA : Option Addr} (kd pg ofs : Int) (w : World) (h : LS w base x d lb g pp b n i0 mo s C pins q) (h50 : i0 < 50) (hkd : kd.tmod 7 = 5) (hpg : 0 ≤ pg ∧ pg ≤ 255) (hofs : 0 ≤ ofs ∧ ofs ≤ 65535) (hp : BsR w 0 base aA an p) (han : an ≤ maxLen) :
    Calls Try.prog 29 #[.pointer (some ⟨b, 0, none⟩), .pointer (some ⟨x, 0, none⟩), .agg #[.int .u8 kd, .int .u8 pg, .int .u16 ofs, .slice aA an ac], .int .i64 (n : Int)] w fun e w' => e = .returned (.bool true) ∧ LTo w w' base x d lb g pp b n (i0 + 1) mo := by
  have hn := h.pv.hn
  obtain ⟨i, hi⟩ : ∃ o : Nat, (o : Int) = pg % ((n : Int) + 1) := ⟨(pg % ((n : Int) + 1)).toNat, by have := Int.emod_nonneg pg (show (n : Int) + 1 ≠ 0 by omega); omega⟩
  have hin : i ≤ n := by have := Int.emod_lt_of_pos pg (show (0 : Int) < (n : Int) + 1 by omega); omega
  have t1 : IntKind.i64.wrap pg = pg := IntWalk.i64_in _ (by omega)
  have t2 : IntKind.i64.wrap ((n : Int) + 1) = (n : Int) + 1 := IntWalk.i64_in _ (by omega)
  have t3 : pg.tmod ((n : Int) + 1) = (i : Int) := by rw [Int.tmod_eq_emod_of_nonneg hpg.1, hi]
  have t4 : IntKind.i64.wrap (i : Int) = i := IntWalk.i64_in _ (by omega)
  have t5 : (n : Int) + 1 ≠ 0 := by omega
  have t6 : ¬ ((n : Int) + 1 = 0) := by omega
  have hi0 : (0 : Int) ≤ i := by omega
  have hbw := h.ws.bw
  have hB1 : Below base w (w.alloc (.cells #[.int .u8 kd, .int .u8 pg, .int .u16 ofs, .slice aA an ac] 64)) := (Below.refl base w).alloc hbw _
  have kb := At.new w #[.int .u8 kd, .int .u8 pg, .int .u16 ofs, .slice aA an ac] 64
  have hbn := below_new w (.cells #[.int .u8 kd, .int .u8 pg, .int .u16 ofs, .slice aA an ac] 64)
  have hws1 : WS (w.alloc (.cells #[.int .u8 kd, .int .u8 pg, .int .u16 ofs, .slice aA an ac] 64)) base x d lb g pp s (fun k => MdF b n q k ∨ k = w.heap.size) := h.ws.own (S2 := Nob) (Mod.of_below hbn) (fun _ h => h.elim) (fun k hk => hk.imp id (fun e => by subst e; exact ⟨Nat.le_refl _, by simp⟩))
  have hmd1 := h.md.later hbn
  have hpx := Lib.hid hp
  have hhx := Lib.hid h
  have hofx := Lib.hid hofs
  have hway : (i = n ∧ Wnt i n mo pins false 1) ∨ (i < n ∧ ((mayB pins n mo i ∧ Wnt i n mo pins true 0) ∨ (¬ mayB pins n mo i ∧ Wnt i n mo pins true 9))) := by
    by_cases e : i = n
    · exact .inl ⟨e, .inl ⟨e, rfl, rfl⟩⟩
    · have e2 : i < n := by omega
      by_cases hm : mayB pins n mo i
      · exact .inr ⟨e2, .inl ⟨hm, .inr (.inl ⟨e2, rfl, rfl, hm⟩)⟩⟩
      · exact .inr ⟨e2, .inr ⟨hm, .inr (.inr ⟨e2, rfl, rfl⟩)⟩⟩
  clear h hp hofs hi hpg
  go_enter Try.func29, Try.ntmps29
  go_upto_region 1 with (fail)
  generalize (w.alloc (.cells #[.int .u8 kd, .int .u8 pg, .int .u16 ofs, .slice aA an ac] 64)) = w1 at *
  obtain ⟨ab, hab⟩ : ∃ ab, w.heap.size = ab := ⟨_, rfl⟩
  rw [hab] at kb hws1 ⊢
  have hws1x := Lib.hid hws1
  have hmd1x := Lib.hid hmd1
  clear hws1 hmd1 hab
  have kbc := kb.c; have kbf := kb.f; have kbl := kb.lt
  rcases hway with ⟨hn1, hW⟩ | ⟨hn1, hW⟩
  · have g1 : ¬ ((i : Int) < n) := by omega
    have g2 : decide ((i : Int) < n) = false := by simp; omega
    have hn1x := Lib.hid hn1
    clear hn1
    obtain ⟨w2, hw2⟩ : ∃ w2, w2 = w1 := ⟨_, rfl⟩
    subst hw2
    have hB2 := hB1
    have hws2x := hws1x
    have hmd2x := hmd1x
    have kb2 := kb
    have hWx := Lib.hid hW
    have kx2 := hws2x.out.wx.at_
    clear hW hws1x hmd1x hB1 hbn kb
    have kb2c := kb2.c; have kb2f := kb2.f; have kb2l := kb2.lt
    have kx2c := kx2.c; have kx2f := kx2.f; have kx2l := kx2.lt
    have hL2 : LS w2 base x d lb g pp b n i0 mo s C pins q := ⟨hws2x.out.less (fun k (hk : MdF b n q k) => .inl hk), hmd2x.out, hhx.out.pv, hhx.out.bq⟩
    have hL2x := Lib.hid hL2
    clear hL2
    go_wp2_with fail
    refine (mput_calls (ac := ac) kd pg ofs w2 hL2x.out h50 hWx.out hofx.out (hpx.out.below hB2 (Nat.le_refl _)) han).mono ?_
    rintro e w3 ⟨rfl, hT⟩
    have hfin : LTo w w3 base x d lb g pp b n (i0 + 1) mo := by
      obtain ⟨s', C', p', q', h1, h2⟩ := hT
      exact ⟨s', C', p', q', h1, below_tr hB2 h2⟩
    have hfinx := Lib.hid hfin
    clear hfin hT
    go_wp2
    go_ret
    exact ⟨by first | rfl | simp, hfinx.out⟩
  · have g1 : (i : Int) < n := by omega
    have g2 : decide ((i : Int) < n) = true := by simp; omega
    rcases hW with ⟨hm, hW⟩ | ⟨hm, hW⟩
    all_goals
      go_wp2_with fail
      first
        | refine (may_calls i true w1 hmd1x.out (by omega) hn1 ⟨fun _ => hm, fun _ => rfl⟩).mono ?_
        | refine (may_calls i false w1 hmd1x.out (by omega) hn1 ⟨fun h => (by cases h), fun h => absurd h hm⟩).mono ?_
      rintro e wd ⟨rfl, kq, hwd⟩
      have hbd : Below w1.heap.size w1 wd := by rw [hwd]; exact below_drewN (Below.refl _ _) kq
      clear hwd
      have hB2 := below_tr hB1 (hbd.mono hws1x.out.bw)
      have hws2x := Lib.hid (hws1x.out.later hbd)
      have hmd2x := Lib.hid (hmd1x.out.later hbd)
      have kb2 := At.keep hbd kb
      obtain ⟨w2, hw2⟩ : ∃ w2, w2 = wd := ⟨_, rfl⟩
      subst hw2
      have hWx := Lib.hid hW
      have kx2 := hws2x.out.wx.at_
      clear hW hws1x hmd1x hB1 hbn kb kbc kbf kbl hbd hm
      have kb2c := kb2.c; have kb2f := kb2.f; have kb2l := kb2.lt
      have kx2c := kx2.c; have kx2f := kx2.f; have kx2l := kx2.lt
      have hL2 : LS w2 base x d lb g pp b n i0 mo s C pins q := ⟨hws2x.out.less (fun k (hk : MdF b n q k) => .inl hk), hmd2x.out, hhx.out.pv, hhx.out.bq⟩
      have hL2x := Lib.hid hL2
      clear hL2
      go_wp2_with fail
      refine (mput_calls (ac := ac) kd pg ofs w2 hL2x.out h50 hWx.out hofx.out (hpx.out.below hB2 (Nat.le_refl _)) han).mono ?_
      rintro e w3 ⟨rfl, hT⟩
      have hfin : LTo w w3 base x d lb g pp b n (i0 + 1) mo := by
        obtain ⟨s', C', p', q', h1, h2⟩ := hT
        exact ⟨s', C', p', q', h1, below_tr hB2 h2⟩
      have hfinx := Lib.hid hfin
      clear hfin hT
      go_wp2
      go_ret
      exact ⟨by first | rfl | simp, hfinx.out⟩
set_option maxRecDepth 100000 in
set_option maxHeartbeats 16000000 in
theorem mdo_lfl {base x d lb g pp b n i0 an ac : Nat} {mo : Int} {s : St} {C : Int → List Int} {pins : Int → Int} {q : Mq} {p : List Int} {aA : Option Addr} (kd pg ofs : Int) (w : World) (h : LS w base x d lb g pp b n i0 mo s C pins q) (h50 : i0 < 50) (hkd : kd.tmod 7 = 6) (hpg : 0 ≤ pg ∧ pg ≤ 255) (hofs : 0 ≤ ofs ∧ ofs ≤ 65535) (hp : BsR w 0 base aA an p) (han : an ≤ maxLen) :
    Calls Try.prog 29 #[.pointer (some ⟨b, 0, none⟩), .pointer (some ⟨x, 0, none⟩), .agg #[.int .u8 kd, .int .u8 pg, .int .u16 ofs, .slice aA an ac], .int .i64 (n : Int)] w fun e w' => e = .returned (.bool true) ∧ LTo w w' base x d lb g pp b n (i0 + 1) mo := by
  have hn := h.pv.hn
  obtain ⟨i, hi⟩ : ∃ o : Nat, (o : Int) = pg % ((n : Int) + 1) := ⟨(pg % ((n : Int) + 1)).toNat, by have := Int.emod_nonneg pg (show (n : Int) + 1 ≠ 0 by omega); omega⟩
  have hin : i ≤ n := by have := Int.emod_lt_of_pos pg (show (0 : Int) < (n : Int) + 1 by omega); omega
  have t1 : IntKind.i64.wrap pg = pg := IntWalk.i64_in _ (by omega)
  have t2 : IntKind.i64.wrap ((n : Int) + 1) = (n : Int) + 1 := IntWalk.i64_in _ (by omega)
  have t3 : pg.tmod ((n : Int) + 1) = (i : Int) := by rw [Int.tmod_eq_emod_of_nonneg hpg.1, hi]
  have t4 : IntKind.i64.wrap (i : Int) = i := IntWalk.i64_in _ (by omega)
  have t5 : (n : Int) + 1 ≠ 0 := by omega
  have t6 : ¬ ((n : Int) + 1 = 0) := by omega
  have hi0 : (0 : Int) ≤ i := by omega
  have hbw := h.ws.bw
  have hB1 : Below base w (w.alloc (.cells #[.int .u8 kd, .int .u8 pg, .int .u16 ofs, .slice aA an ac] 64)) := (Below.refl base w).alloc hbw _
  have kb := At.new w #[.int .u8 kd, .int .u8 pg, .int .u16 ofs, .slice aA an ac] 64
  have hbn := below_new w (.cells #[.int .u8 kd, .int .u8 pg, .int .u16 ofs, .slice aA an ac] 64)
  have hws1 : WS (w.alloc (.cells #[.int .u8 kd, .int .u8 pg, .int .u16 ofs, .slice aA an ac] 64)) base x d lb g pp s (fun k => MdF b n q k ∨ k = w.heap.size) := h.ws.own (S2 := Nob) (Mod.of_below hbn) (fun _ h => h.elim) (fun k hk => hk.imp id (fun e => by subst e; exact ⟨Nat.le_refl _, by simp⟩))
  have hmd1 := h.md.later hbn
  have hpx := Lib.hid hp
  have hhx := Lib.hid h
  have hofx := Lib.hid hofs
  have hway : (i = n ∧ Wnt i n mo pins false 1) ∨ (i < n ∧ ((mayB pins n mo i ∧ Wnt i n mo pins true 0) ∨ (¬ mayB pins n mo i ∧ Wnt i n mo pins true 9))) := by
    by_cases e : i = n
    · exact .inl ⟨e, .inl ⟨e, rfl, rfl⟩⟩
    · have e2 : i < n := by omega
      by_cases hm : mayB pins n mo i
      · exact .inr ⟨e2, .inl ⟨hm, .inr (.inl ⟨e2, rfl, rfl, hm⟩)⟩⟩
      · exact .inr ⟨e2, .inr ⟨hm, .inr (.inr ⟨e2, rfl, rfl⟩)⟩⟩
  clear h hp hofs hi hpg
  go_enter Try.func29, Try.ntmps29
  go_upto_region 1 with (fail)
  generalize (w.alloc (.cells #[.int .u8 kd, .int .u8 pg, .int .u16 ofs, .slice aA an ac] 64)) = w1 at *
  obtain ⟨ab, hab⟩ : ∃ ab, w.heap.size = ab := ⟨_, rfl⟩
  rw [hab] at kb hws1 ⊢
  have hws1x := Lib.hid hws1
  have hmd1x := Lib.hid hmd1
  clear hws1 hmd1 hab
  have kbc := kb.c; have kbf := kb.f; have kbl := kb.lt
  rcases hway with ⟨hn1, hW⟩ | ⟨hn1, hW⟩
  · have g1 : ¬ ((i : Int) < n) := by omega
    have g2 : decide ((i : Int) < n) = false := by simp; omega
    have hn1x := Lib.hid hn1
    clear hn1
    obtain ⟨w2, hw2⟩ : ∃ w2, w2 = w1 := ⟨_, rfl⟩
    subst hw2
    have hB2 := hB1
    have hws2x := hws1x
    have hmd2x := hmd1x
    have kb2 := kb
    have hWx := Lib.hid hW
    have kx2 := hws2x.out.wx.at_
    clear hW hws1x hmd1x hB1 hbn kb
    have kb2c := kb2.c; have kb2f := kb2.f; have kb2l := kb2.lt
    have kx2c := kx2.c; have kx2f := kx2.f; have kx2l := kx2.lt
    obtain ⟨l1, l2⟩ := lfl_plain hhx.out h50
    have l1x := Lib.hid l1
    have l2x := Lib.hid l2
    clear l1 l2
    go_wp2_with fail
    refine (ws_lfl hws2x.out hhx.out.pv.inv).mono ?_
    rintro e w3 ⟨rfl, hT3⟩
    have hfin : LTo w w3 base x d lb g pp b n (i0 + 1) mo := ⟨_, C, pins, q, ⟨hT3.1.less (fun k hk => .inl hk), hmd2x.out.mod hT3.2.1 (fun k hk hn => hn (.inl hk)), l1x.out, l2x.out⟩, below_tr hB2 hT3.2.2⟩
    have hfinx := Lib.hid hfin
    clear hfin hT3
    go_wp2
    go_ret
    exact ⟨by first | rfl | simp, hfinx.out⟩
  · have g1 : (i : Int) < n := by omega
    have g2 : decide ((i : Int) < n) = true := by simp; omega
    rcases hW with ⟨hm, hW⟩ | ⟨hm, hW⟩
    all_goals
      go_wp2_with fail
      first
        | refine (may_calls i true w1 hmd1x.out (by omega) hn1 ⟨fun _ => hm, fun _ => rfl⟩).mono ?_
        | refine (may_calls i false w1 hmd1x.out (by omega) hn1 ⟨fun h => (by cases h), fun h => absurd h hm⟩).mono ?_
      rintro e wd ⟨rfl, kq, hwd⟩
      have hbd : Below w1.heap.size w1 wd := by rw [hwd]; exact below_drewN (Below.refl _ _) kq
      clear hwd
      have hB2 := below_tr hB1 (hbd.mono hws1x.out.bw)
      have hws2x := Lib.hid (hws1x.out.later hbd)
      have hmd2x := Lib.hid (hmd1x.out.later hbd)
      have kb2 := At.keep hbd kb
      obtain ⟨w2, hw2⟩ : ∃ w2, w2 = wd := ⟨_, rfl⟩
      subst hw2
      have hWx := Lib.hid hW
      have kx2 := hws2x.out.wx.at_
      clear hW hws1x hmd1x hB1 hbn kb kbc kbf kbl hbd hm
      have kb2c := kb2.c; have kb2f := kb2.f; have kb2l := kb2.lt
      have kx2c := kx2.c; have kx2f := kx2.f; have kx2l := kx2.lt
      obtain ⟨l1, l2⟩ := lfl_plain hhx.out h50
      have l1x := Lib.hid l1
      have l2x := Lib.hid l2
      clear l1 l2
      go_wp2_with fail
      refine (ws_lfl hws2x.out hhx.out.pv.inv).mono ?_
      rintro e w3 ⟨rfl, hT3⟩
      have hfin : LTo w w3 base x d lb g pp b n (i0 + 1) mo := ⟨_, C, pins, q, ⟨hT3.1.less (fun k hk => .inl hk), hmd2x.out.mod hT3.2.1 (fun k hk hn => hn (.inl hk)), l1x.out, l2x.out⟩, below_tr hB2 hT3.2.2⟩
      have hfinx := Lib.hid hfin
      clear hfin hT3
      go_wp2
      go_ret
      exact ⟨by first | rfl | simp, hfinx.out⟩
end Go.Proofs.Ytggeepihkeocmaa
