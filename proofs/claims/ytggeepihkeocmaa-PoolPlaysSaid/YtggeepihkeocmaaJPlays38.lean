/- Joined texts: PpN, PpO, PpP. -/
import Derived.Test.YtggeepihkeocmaaJPlays37
/- PoolPlays: the model's do, by kinds: Read. -/
namespace Go.Proofs.Ytggeepihkeocmaa
set_option linter.unusedVariables false
set_option linter.unusedSimpArgs false
open Go.RowKit Go.Maps
theorem LTo.drewN {w w' : World} {base x d lb g pp b n i : Nat} {mo : Int} (h : LTo w w' base x d lb g pp b n i mo) (k : Nat) : LTo w (w'.drewN k) base x d lb g pp b n i mo := by
  obtain ⟨s, C, pins, q, h1, h2⟩ := h
  exact ⟨s, C, pins, q, h1.later (below_drewN (Below.refl _ _) k), below_drewN h2 k⟩
set_option maxRecDepth 100000 in
set_option maxHeartbeats 16000000 in
theorem mdo_read {base x d lb g pp b n i0 an ac : Nat} {mo : Int} {s : St} {C : Int → List Int} {pins : Int → Int} {q : Mq} {p : List Int} {aA : Option Addr} (kd pg ofs : Int) (w : World) (h : LS w base x d lb g pp b n i0 mo s C pins q) (h50 : i0 < 50) (hkd : kd.tmod 7 = 1) (hpg : 0 ≤ pg ∧ pg ≤ 255) (hofs : 0 ≤ ofs ∧ ofs ≤ 65535) (hp : BsR w 0 base aA an p) (han : an ≤ maxLen) :
    Calls Try.prog 29 #[.pointer (some ⟨b, 0, none⟩), .pointer (some ⟨x, 0, none⟩), .agg #[.int .u8 kd, .int .u8 pg, .int .u16 ofs, .slice aA an ac], .int .i64 (n : Int)] w fun e w' => e = .returned (.bool true) ∧ LTo w w' base x d lb g pp b n (i0 + 1) mo := by
  have hn := h.pv.hn
  obtain ⟨i, hi⟩ : ∃ o : Nat, (o : Int) = pg % ((n : Int) + 1) := ⟨(pg % ((n : Int) + 1)).toNat, by have := Int.emod_nonneg pg (show (n : Int) + 1 ≠ 0 by omega); omega⟩
  have hin : i ≤ n := by have := Int.emod_lt_of_pos pg (show (0 : Int) < (n : Int) + 1 by omega); omega
  have t1 : IntKind.i64.wrap pg = pg := IntWalk.i64_in _ (by omega)
  have t2 : IntKind.i64.wrap ((n : Int) + 1) = (n : Int) + 1 := IntWalk.i64_in _ (by omega)
  have t3 : pg.tmod ((n : Int) + 1) = (i : Int) := by rw [Int.tmod_eq_emod_of_nonneg hpg.1, hi]
  have t4 : IntKind.i64.wrap (i : Int) = i := IntWalk.i64_in _ (by omega)
  have t5 : (n : Int) + 1 ≠ 0 := by omega
  have t6 : ¬ ((n : Int) + 1 = 0) := by omega
  have hi0 : (0 : Int) ≤ i := by omega
  have hbw := h.ws.bw
  have hB1 : Below base w (w.alloc (.cells #[.int .u8 kd, .int .u8 pg, .int .u16 ofs, .slice aA an ac] 64)) := (Below.refl base w).alloc hbw _
  have kb := At.new w #[.int .u8 kd, .int .u8 pg, .int .u16 ofs, .slice aA an ac] 64
  have hbn := below_new w (.cells #[.int .u8 kd, .int .u8 pg, .int .u16 ofs, .slice aA an ac] 64)
  have hws1 : WS (w.alloc (.cells #[.int .u8 kd, .int .u8 pg, .int .u16 ofs, .slice aA an ac] 64)) base x d lb g pp s (fun k => MdF b n q k ∨ k = w.heap.size) := h.ws.own (S2 := Nob) (Mod.of_below hbn) (fun _ h => h.elim) (fun k hk => hk.imp id (fun e => by subst e; exact ⟨Nat.le_refl _, by simp⟩))
  have hmd1 := h.md.later hbn
  have hpx := Lib.hid hp
  have hhx := Lib.hid h
  have hofx := Lib.hid hofs
  have hway : (i = n ∧ Wnt i n mo pins false 1) ∨ (i < n ∧ ((mayB pins n mo i ∧ Wnt i n mo pins true 0) ∨ (¬ mayB pins n mo i ∧ Wnt i n mo pins true 9))) := by
    by_cases e : i = n
    · exact .inl ⟨e, .inl ⟨e, rfl, rfl⟩⟩
    · have e2 : i < n := by omega
      by_cases hm : mayB pins n mo i
      · exact .inr ⟨e2, .inl ⟨hm, .inr (.inl ⟨e2, rfl, rfl, hm⟩)⟩⟩
      · exact .inr ⟨e2, .inr ⟨hm, .inr (.inr ⟨e2, rfl, rfl⟩)⟩⟩
  clear h hp hofs hi hpg
  go_enter Try.func29, Try.ntmps29
  go_upto_region 1 with (fail)
  generalize (w.alloc (.cells #[.int .u8 kd, .int .u8 pg, .int .u16 ofs, .slice aA an ac] 64)) = w1 at *
  obtain ⟨ab, hab⟩ : ∃ ab, w.heap.size = ab := ⟨_, rfl⟩
  rw [hab] at kb hws1 ⊢
  have hws1x := Lib.hid hws1
  have hmd1x := Lib.hid hmd1
  clear hws1 hmd1 hab
  have kbc := kb.c; have kbf := kb.f; have kbl := kb.lt
  rcases hway with ⟨hn1, hW⟩ | ⟨hn1, hW⟩
  · have g1 : ¬ ((i : Int) < n) := by omega
    have g2 : decide ((i : Int) < n) = false := by simp; omega
    have hn1x := Lib.hid hn1
    clear hn1
    obtain ⟨w2, hw2⟩ : ∃ w2, w2 = w1 := ⟨_, rfl⟩
    subst hw2
    have hB2 := hB1
    have hws2x := hws1x
    have hmd2x := hmd1x
    have kb2 := kb
    have hWx := Lib.hid hW
    have kx2 := hws2x.out.wx.at_
    clear hW hws1x hmd1x hB1 hbn kb
    have kb2c := kb2.c; have kb2f := kb2.f; have kb2l := kb2.lt
    have kx2c := kx2.c; have kx2f := kx2.f; have kx2l := kx2.lt
    obtain ⟨p1, p2, p3, p4, p5⟩ := get_plain hhx.out h50 hWx.out
    rcases p5 with ⟨hE, hne⟩ | ⟨-, hin9, -⟩
    · have hrd := ws_readE (i : Int) hws2x.out p1 p2 (by rw [hE]; exact hne)
      rw [hE] at hrd
      have hrdx := Lib.hid hrd
      have p3x := Lib.hid p3
      have p4x := Lib.hid p4
      clear hrd p1 p2 p3 p4 hE
      go_wp2_with fail
      refine hrdx.out.mono ?_
      rintro e w3 ⟨rfl, hT3⟩
      have hmd3 := hmd2x.out.mod hT3.2.1 (fun k hk hn => hn (.inl hk))
      have k3 := hmd3.at_
      have hfin : LTo w w3 base x d lb g pp b n (i0 + 1) mo := ⟨_, C, pins, q, ⟨hT3.1.less (fun k hk => .inl hk), hmd3, p3x.out, p4x.out⟩, below_tr hB2 hT3.2.2⟩
      have hfinx := Lib.hid hfin
      clear hfin hT3 hmd3 hrdx
      have k3c := k3.c; have k3f := k3.f; have k3l := k3.lt
      go_upto_region 17 with (fail)
      go_quiet (fail)
      go_wp2
      go_ret
      exact ⟨by first | rfl | simp, hfinx.out.drewN _⟩
    · cases hin9
  · have g1 : (i : Int) < n := by omega
    have g2 : decide ((i : Int) < n) = true := by simp; omega
    rcases hW with ⟨hm, hW⟩ | ⟨hm, hW⟩
    all_goals
      go_wp2_with fail
      first
        | refine (may_calls i true w1 hmd1x.out (by omega) hn1 ⟨fun _ => hm, fun _ => rfl⟩).mono ?_
        | refine (may_calls i false w1 hmd1x.out (by omega) hn1 ⟨fun h => (by cases h), fun h => absurd h hm⟩).mono ?_
      rintro e wd ⟨rfl, kq, hwd⟩
      have hbd : Below w1.heap.size w1 wd := by rw [hwd]; exact below_drewN (Below.refl _ _) kq
      clear hwd
      have hB2 := below_tr hB1 (hbd.mono hws1x.out.bw)
      have hws2x := Lib.hid (hws1x.out.later hbd)
      have hmd2x := Lib.hid (hmd1x.out.later hbd)
      have kb2 := At.keep hbd kb
      obtain ⟨w2, hw2⟩ : ∃ w2, w2 = wd := ⟨_, rfl⟩
      subst hw2
      have hWx := Lib.hid hW
      have kx2 := hws2x.out.wx.at_
      clear hW hws1x hmd1x hB1 hbn kb kbc kbf kbl hbd hm
      have kb2c := kb2.c; have kb2f := kb2.f; have kb2l := kb2.lt
      have kx2c := kx2.c; have kx2f := kx2.f; have kx2l := kx2.lt
      obtain ⟨p1, p2, p3, p4, p5⟩ := get_plain hhx.out h50 hWx.out
      rcases p5 with ⟨hE, hne⟩ | ⟨hE, -, hw, hlt⟩
      · (try exact absurd rfl hne)
        all_goals
          have hrd := ws_readE (i : Int) hws2x.out p1 p2 (by rw [hE]; exact hne)
          rw [hE] at hrd
          have hrdx := Lib.hid hrd
          have p3x := Lib.hid p3
          have p4x := Lib.hid p4
          clear hrd p1 p2 p3 p4 hE
          go_wp2_with fail
          refine hrdx.out.mono ?_
          rintro e w3 ⟨rfl, hT3⟩
          have hmd3 := hmd2x.out.mod hT3.2.1 (fun k hk hn => hn (.inl hk))
          have k3 := hmd3.at_
          have hfin : LTo w w3 base x d lb g pp b n (i0 + 1) mo := ⟨_, C, pins, q, ⟨hT3.1.less (fun k hk => .inl hk), hmd3, p3x.out, p4x.out⟩, below_tr hB2 hT3.2.2⟩
          have hfinx := Lib.hid hfin
          clear hfin hT3 hmd3 hrdx
          have k3c := k3.c; have k3f := k3.f; have k3l := k3.lt
          go_upto_region 17 with (fail)
          go_quiet (fail)
          go_wp2
          go_ret
          exact ⟨by first | rfl | simp, hfinx.out.drewN _⟩
      · have hrd := Lib.hid (ws_read (i : Int) hws2x.out p1 p2 hE)
        have p3x := Lib.hid p3
        have p4x := Lib.hid p4
        clear p1 p2 p3 p4 hE
        go_wp2_with fail
        refine hrd.out.mono ?_
        rintro e w3 ⟨f, A3, c3, hf, rfl, how, hT3⟩
        have hmd3 := hmd2x.out.mod hT3.2.1 (fun k hk hn => hn (.inl hk))
        have k3 := hmd3.at_
        have hfin : LTo w w3 base x d lb g pp b n (i0 + 1) mo := ⟨_, C, pins, q, ⟨hT3.1.less (fun k hk => .inl hk), hmd3, p3x.out, p4x.out⟩, below_tr hB2 hT3.2.2⟩
        have hfinx := Lib.hid hfin
        have hfp := p3x.out.contOf hf
        have hcl := hmd3.rl.cell hlt
        have hcs := hmd3.rs.cell hlt
        have hpgb := (hmd3.pg i hlt).reads
        have hrb := how.reads
        have hls : lsnP f = num ((C i).take 8) := by unfold lsnP; rw [hfp]
        rw [hfp] at hrb
        rw [hls]
        have r1 := fun j => run_str c3 (w3.drewN j) (show BsR (w3.drewN j) w2.heap.size w3.heap.size A3 504 ((C i).drop 8) from hrb)
        have r2 := fun j => run_str (q.pc i) (w3.drewN j) (show BsR (w3.drewN j) base w3.heap.size (some ⟨q.pa i, 0, none⟩) 504 ((C i).drop 8) from hpgb)
        obtain ⟨sl, hsl⟩ : ∃ y, strL ((C i).drop 8) = y := ⟨_, rfl⟩
        rw [hsl] at r1 r2
        obtain ⟨ls, hls2⟩ : ∃ y, num ((C i).take 8) = y := ⟨_, rfl⟩
        rw [hls2] at hcs
        rw [hls2]
        clear hfin hT3 hmd3 hrd how hrb hpgb hsl hls hls2 hfp hf
        have k3c := k3.c; have k3f := k3.f; have k3l := k3.lt
        go_upto_region 17 with (fail)
        go_quiet (fail)
        go_wp2
        go_ret
        exact ⟨by first | rfl | simp, hfinx.out.drewN _⟩
end Go.Proofs.Ytggeepihkeocmaa
/- PoolPlays: the model's do, by kinds: Pin. -/
namespace Go.Proofs.Ytggeepihkeocmaa
set_option linter.unusedVariables false
set_option linter.unusedSimpArgs false
open Go.RowKit Go.Maps
set_option maxRecDepth 100000 in
set_option maxHeartbeats 16000000 in
theorem mdo_pin {base x d lb g pp b n i0 an ac : Nat} {mo : Int} {s : St} {C : Int → List Int} {pins : Int → Int} {q : Mq} {p : List Int} {aA : Option Addr} (kd pg ofs : Int) (w : World) (h : LS w base x d lb g pp b n i0 mo s C pins q) (h50 : i0 < 50) (hkd : kd.tmod 7 = 2) (hpg : 0 ≤ pg ∧ pg ≤ 255) (hofs : 0 ≤ ofs ∧ ofs ≤ 65535) (hp : BsR w 0 base aA an p) (han : an ≤ maxLen) :
    Calls Try.prog 29 #[.pointer (some ⟨b, 0, none⟩), .pointer (some ⟨x, 0, none⟩), .agg #[.int .u8 kd, .int .u8 pg, .int .u16 ofs, .slice aA an ac], .int .i64 (n : Int)] w fun e w' => e = .returned (.bool true) ∧ LTo w w' base x d lb g pp b n (i0 + 1) mo := by
  have hn := h.pv.hn
  obtain ⟨i, hi⟩ : ∃ o : Nat, (o : Int) = pg % ((n : Int) + 1) := ⟨(pg % ((n : Int) + 1)).toNat, by have := Int.emod_nonneg pg (show (n : Int) + 1 ≠ 0 by omega); omega⟩
  have hin : i ≤ n := by have := Int.emod_lt_of_pos pg (show (0 : Int) < (n : Int) + 1 by omega); omega
  have t1 : IntKind.i64.wrap pg = pg := IntWalk.i64_in _ (by omega)
  have t2 : IntKind.i64.wrap ((n : Int) + 1) = (n : Int) + 1 := IntWalk.i64_in _ (by omega)
  have t3 : pg.tmod ((n : Int) + 1) = (i : Int) := by rw [Int.tmod_eq_emod_of_nonneg hpg.1, hi]
  have t4 : IntKind.i64.wrap (i : Int) = i := IntWalk.i64_in _ (by omega)
  have t5 : (n : Int) + 1 ≠ 0 := by omega
  have t6 : ¬ ((n : Int) + 1 = 0) := by omega
  have hi0 : (0 : Int) ≤ i := by omega
  have hbw := h.ws.bw
  have hB1 : Below base w (w.alloc (.cells #[.int .u8 kd, .int .u8 pg, .int .u16 ofs, .slice aA an ac] 64)) := (Below.refl base w).alloc hbw _
  have kb := At.new w #[.int .u8 kd, .int .u8 pg, .int .u16 ofs, .slice aA an ac] 64
  have hbn := below_new w (.cells #[.int .u8 kd, .int .u8 pg, .int .u16 ofs, .slice aA an ac] 64)
  have hws1 : WS (w.alloc (.cells #[.int .u8 kd, .int .u8 pg, .int .u16 ofs, .slice aA an ac] 64)) base x d lb g pp s (fun k => MdF b n q k ∨ k = w.heap.size) := h.ws.own (S2 := Nob) (Mod.of_below hbn) (fun _ h => h.elim) (fun k hk => hk.imp id (fun e => by subst e; exact ⟨Nat.le_refl _, by simp⟩))
  have hmd1 := h.md.later hbn
  have hpx := Lib.hid hp
  have hhx := Lib.hid h
  have hofx := Lib.hid hofs
  have hway : (i = n ∧ Wnt i n mo pins false 1) ∨ (i < n ∧ ((mayB pins n mo i ∧ Wnt i n mo pins true 0) ∨ (¬ mayB pins n mo i ∧ Wnt i n mo pins true 9))) := by
    by_cases e : i = n
    · exact .inl ⟨e, .inl ⟨e, rfl, rfl⟩⟩
    · have e2 : i < n := by omega
      by_cases hm : mayB pins n mo i
      · exact .inr ⟨e2, .inl ⟨hm, .inr (.inl ⟨e2, rfl, rfl, hm⟩)⟩⟩
      · exact .inr ⟨e2, .inr ⟨hm, .inr (.inr ⟨e2, rfl, rfl⟩)⟩⟩
  clear h hp hofs hi hpg
  go_enter Try.func29, Try.ntmps29
  go_upto_region 1 with (fail)
  generalize (w.alloc (.cells #[.int .u8 kd, .int .u8 pg, .int .u16 ofs, .slice aA an ac] 64)) = w1 at *
  obtain ⟨ab, hab⟩ : ∃ ab, w.heap.size = ab := ⟨_, rfl⟩
  rw [hab] at kb hws1 ⊢
  have hws1x := Lib.hid hws1
  have hmd1x := Lib.hid hmd1
  clear hws1 hmd1 hab
  have kbc := kb.c; have kbf := kb.f; have kbl := kb.lt
  rcases hway with ⟨hn1, hW⟩ | ⟨hn1, hW⟩
  · have g1 : ¬ ((i : Int) < n) := by omega
    have g2 : decide ((i : Int) < n) = false := by simp; omega
    have hn1x := Lib.hid hn1
    clear hn1
    obtain ⟨w2, hw2⟩ : ∃ w2, w2 = w1 := ⟨_, rfl⟩
    subst hw2
    have hB2 := hB1
    have hws2x := hws1x
    have hmd2x := hmd1x
    have kb2 := kb
    have hWx := Lib.hid hW
    have kx2 := hws2x.out.wx.at_
    clear hW hws1x hmd1x hB1 hbn kb
    have kb2c := kb2.c; have kb2f := kb2.f; have kb2l := kb2.lt
    have kx2c := kx2.c; have kx2f := kx2.f; have kx2l := kx2.lt
    obtain ⟨p1, p2, p3, p4, p5⟩ := get_plain hhx.out h50 hWx.out
    rcases p5 with ⟨hE, hne⟩ | ⟨-, hin9, -⟩
    · have hrd := ws_pin (i : Int) hws2x.out p1 p2 (fun f hf => by have h1 := p3.pinOf hf; have h2 := (hhx.out.bq.pn i).2; omega)
      have eT : pinT s i = getS s i := by unfold pinT; rw [if_neg (by rw [hE]; exact hne)]
      rw [hE, eT] at hrd
      have hrdx := Lib.hid hrd
      have p3x := Lib.hid p3
      have p4x := Lib.hid p4
      clear hrd p1 p2 p3 p4 hE eT
      go_wp2_with fail
      refine hrdx.out.mono ?_
      rintro e w3 ⟨rfl, hT3⟩
      have hmd3 := hmd2x.out.mod hT3.2.1 (fun k hk hn => hn (.inl hk))
      have hfin : LTo w w3 base x d lb g pp b n (i0 + 1) mo := ⟨_, C, pins, q, ⟨hT3.1.less (fun k hk => .inl hk), hmd3, p3x.out, p4x.out⟩, below_tr hB2 hT3.2.2⟩
      have hfinx := Lib.hid hfin
      clear hfin hT3 hmd3 hrdx
      go_wp2
      go_ret
      exact ⟨by first | rfl | simp, hfinx.out⟩
    · cases hin9
  · have g1 : (i : Int) < n := by omega
    have g2 : decide ((i : Int) < n) = true := by simp; omega
    rcases hW with ⟨hm, hW⟩ | ⟨hm, hW⟩
    all_goals
      go_wp2_with fail
      first
        | refine (may_calls i true w1 hmd1x.out (by omega) hn1 ⟨fun _ => hm, fun _ => rfl⟩).mono ?_
        | refine (may_calls i false w1 hmd1x.out (by omega) hn1 ⟨fun h => (by cases h), fun h => absurd h hm⟩).mono ?_
      rintro e wd ⟨rfl, kq, hwd⟩
      have hbd : Below w1.heap.size w1 wd := by rw [hwd]; exact below_drewN (Below.refl _ _) kq
      clear hwd
      have hB2 := below_tr hB1 (hbd.mono hws1x.out.bw)
      have hws2x := Lib.hid (hws1x.out.later hbd)
      have hmd2x := Lib.hid (hmd1x.out.later hbd)
      have kb2 := At.keep hbd kb
      obtain ⟨w2, hw2⟩ : ∃ w2, w2 = wd := ⟨_, rfl⟩
      subst hw2
      have hWx := Lib.hid hW
      have kx2 := hws2x.out.wx.at_
      clear hW hws1x hmd1x hB1 hbn kb kbc kbf kbl hbd hm
      have kb2c := kb2.c; have kb2f := kb2.f; have kb2l := kb2.lt
      have kx2c := kx2.c; have kx2f := kx2.f; have kx2l := kx2.lt
      obtain ⟨p1, p2, p3, p4, p5⟩ := get_plain hhx.out h50 hWx.out
      rcases p5 with ⟨hE, hne⟩ | ⟨hE, -, hw, hlt⟩
      · (try exact absurd rfl hne)
        all_goals
          have hrd := ws_pin (i : Int) hws2x.out p1 p2 (fun f hf => by have h1 := p3.pinOf hf; have h2 := (hhx.out.bq.pn i).2; omega)
          have eT : pinT s i = getS s i := by unfold pinT; rw [if_neg (by rw [hE]; exact hne)]
          rw [hE, eT] at hrd
          have hrdx := Lib.hid hrd
          have p3x := Lib.hid p3
          have p4x := Lib.hid p4
          clear hrd p1 p2 p3 p4 hE eT
          go_wp2_with fail
          refine hrdx.out.mono ?_
          rintro e w3 ⟨rfl, hT3⟩
          have hmd3 := hmd2x.out.mod hT3.2.1 (fun k hk hn => hn (.inl hk))
          have hfin : LTo w w3 base x d lb g pp b n (i0 + 1) mo := ⟨_, C, pins, q, ⟨hT3.1.less (fun k hk => .inl hk), hmd3, p3x.out, p4x.out⟩, below_tr hB2 hT3.2.2⟩
          have hfinx := Lib.hid hfin
          clear hfin hT3 hmd3 hrdx
          go_wp2
          go_ret
          exact ⟨by first | rfl | simp, hfinx.out⟩
      · have hrd := ws_pin (i : Int) hws2x.out p1 p2 (fun f hf => by have h1 := p3.pinOf hf; have h2 := (hhx.out.bq.pn i).2; omega)
        obtain ⟨f, hf⟩ := getS_fr s i hE
        have eT : pinT s i = ⟨setFr (getS s i).P i (pinF f 1), (getS s i).D, (getS s i).L⟩ := by
          unfold pinT pinS
          rw [if_pos hE, hf]
        rw [hE, eT] at hrd
        have hv : Pv ⟨setFr (getS s i).P i (pinF f 1), (getS s i).D, (getS s i).L⟩ n mo C (fun k => if k = (i : Int) then pins i + 1 else pins k) := by
          have h1 := p3.pin hf 1
          have e : (fun k : Int => if k = (i : Int) then pins k + 1 else pins k) = (fun k => if k = (i : Int) then pins i + 1 else pins k) := by
            funext k
            by_cases e : k = (i : Int)
            · rw [if_pos e, if_pos e, e]
            · rw [if_neg e, if_neg e]
          rw [e] at h1
          exact h1
        have hpi := hhx.out.bq.pn i
        have hv2 : Bq ⟨setFr (getS s i).P i (pinF f 1), (getS s i).D, (getS s i).L⟩ (fun k => if k = (i : Int) then pins i + 1 else pins k) (i0 + 1) := ⟨p4.ck, p4.op, p4.wy, p4.en, p4.su, fun k => by
          have h1 := hhx.out.bq.pn k
          by_cases e : k = (i : Int)
          · rw [if_pos e]; omega
          · rw [if_neg e]; omega⟩
        have hrdx := Lib.hid hrd
        have hvx := Lib.hid hv
        have hv2x := Lib.hid hv2
        clear hrd p1 p2 p3 p4 hE eT hv hv2 hf
        go_wp2_with fail
        refine hrdx.out.mono ?_
        rintro e w3 ⟨rfl, hT3⟩
        have hmd3 := hmd2x.out.mod hT3.2.1 (fun k hk hn => hn (.inl hk))
        have k3 := hmd3.at_
        have hcp := hmd3.rp.cell hlt
        have hcf := hmd3.rp.fz
        have hcg := hmd3.rp.lt
        obtain ⟨pv, hpv⟩ : ∃ y, pins i = y := ⟨_, rfl⟩
        have hpvx := Lib.hid hpv
        rw [hpv] at hcp hpi
        have hw1 : IntKind.i64.wrap (pv + 1) = pv + 1 := IntWalk.i64_in _ (by omega)
        have hws3 := hT3.1.less (fun k (hk : MdF b n q k) => .inl hk)
        have hB3 := below_tr hB2 hT3.2.2
        have m5 := (Mod.refl (fun k => k = q.gp) w3).set (k := q.gp) (.inl rfl) (o := i) (.int .i64 (pv + 1))
        have hmd5 := hmd3.setPin i (pv + 1)
        have hfin : LTo w (w3.setCell ⟨q.gp, i, none⟩ (.int .i64 (pv + 1))) base x d lb g pp b n (i0 + 1) mo := by
          have e1 := hvx.out
          have e2 := hv2x.out
          rw [hpvx.out] at e1 e2
          exact ⟨_, C, _, q, ⟨hws3.own m5 (fun k hk => .inl (hk ▸ .inr (.inr (.inr (.inl rfl))))) (fun _ h => .inl h), hmd5, e1, e2⟩, below_tr hB3 (m5.below hws3.bw (fun k hk => by have h := hmd3.hb.2.2.2.1; omega))⟩
        have hfinx := Lib.hid hfin
        clear hfin hT3 hmd3 hmd5 m5 hws3 hrdx hpv
        have k3c := k3.c; have k3f := k3.f; have k3l := k3.lt
        go_wp2
        go_ret
        exact ⟨by first | rfl | simp, hfinx.out⟩
end Go.Proofs.Ytggeepihkeocmaa
/- PoolPlays: the model's do, by kinds: Unpin. -/
namespace Go.Proofs.Ytggeepihkeocmaa
set_option linter.unusedVariables false
set_option linter.unusedSimpArgs false
open Go.RowKit Go.Maps
set_option maxRecDepth 100000 in
set_option maxHeartbeats 16000000 in
theorem mdo_unpin {base x d lb g pp b n i0 an ac : Nat} {mo : Int} {s : St} {C : Int → List Int} {pins : Int → Int} {q : Mq} {p : List Int} {aA : Option Addr} (kd pg ofs : Int) (w : World) (h : LS w base x d lb g pp b n i0 mo s C pins q) (h50 : i0 < 50) (hkd : kd.tmod 7 = 3) (hpg : 0 ≤ pg ∧ pg ≤ 255) (hofs : 0 ≤ ofs ∧ ofs ≤ 65535) (hp : BsR w 0 base aA an p) (han : an ≤ maxLen) :
    Calls Try.prog 29 #[.pointer (some ⟨b, 0, none⟩), .pointer (some ⟨x, 0, none⟩), .agg #[.int .u8 kd, .int .u8 pg, .int .u16 ofs, .slice aA an ac], .int .i64 (n : Int)] w fun e w' => e = .returned (.bool true) ∧ LTo w w' base x d lb g pp b n (i0 + 1) mo := by
  have hn := h.pv.hn
  obtain ⟨i, hi⟩ : ∃ o : Nat, (o : Int) = pg % ((n : Int) + 1) := ⟨(pg % ((n : Int) + 1)).toNat, by have := Int.emod_nonneg pg (show (n : Int) + 1 ≠ 0 by omega); omega⟩
  have hin : i ≤ n := by have := Int.emod_lt_of_pos pg (show (0 : Int) < (n : Int) + 1 by omega); omega
  have t1 : IntKind.i64.wrap pg = pg := IntWalk.i64_in _ (by omega)
  have t2 : IntKind.i64.wrap ((n : Int) + 1) = (n : Int) + 1 := IntWalk.i64_in _ (by omega)
  have t3 : pg.tmod ((n : Int) + 1) = (i : Int) := by rw [Int.tmod_eq_emod_of_nonneg hpg.1, hi]
  have t4 : IntKind.i64.wrap (i : Int) = i := IntWalk.i64_in _ (by omega)
  have t5 : (n : Int) + 1 ≠ 0 := by omega
  have t6 : ¬ ((n : Int) + 1 = 0) := by omega
  have hi0 : (0 : Int) ≤ i := by omega
  have hbw := h.ws.bw
  have hB1 : Below base w (w.alloc (.cells #[.int .u8 kd, .int .u8 pg, .int .u16 ofs, .slice aA an ac] 64)) := (Below.refl base w).alloc hbw _
  have kb := At.new w #[.int .u8 kd, .int .u8 pg, .int .u16 ofs, .slice aA an ac] 64
  have hbn := below_new w (.cells #[.int .u8 kd, .int .u8 pg, .int .u16 ofs, .slice aA an ac] 64)
  have hws1 : WS (w.alloc (.cells #[.int .u8 kd, .int .u8 pg, .int .u16 ofs, .slice aA an ac] 64)) base x d lb g pp s (fun k => MdF b n q k ∨ k = w.heap.size) := h.ws.own (S2 := Nob) (Mod.of_below hbn) (fun _ h => h.elim) (fun k hk => hk.imp id (fun e => by subst e; exact ⟨Nat.le_refl _, by simp⟩))
  have hmd1 := h.md.later hbn
  have hpx := Lib.hid hp
  have hhx := Lib.hid h
  have hofx := Lib.hid hofs
  have hway : (i = n ∧ Wnt i n mo pins false 1) ∨ (i < n ∧ ((mayB pins n mo i ∧ Wnt i n mo pins true 0) ∨ (¬ mayB pins n mo i ∧ Wnt i n mo pins true 9))) := by
    by_cases e : i = n
    · exact .inl ⟨e, .inl ⟨e, rfl, rfl⟩⟩
    · have e2 : i < n := by omega
      by_cases hm : mayB pins n mo i
      · exact .inr ⟨e2, .inl ⟨hm, .inr (.inl ⟨e2, rfl, rfl, hm⟩)⟩⟩
      · exact .inr ⟨e2, .inr ⟨hm, .inr (.inr ⟨e2, rfl, rfl⟩)⟩⟩
  clear h hp hofs hi hpg
  go_enter Try.func29, Try.ntmps29
  go_upto_region 1 with (fail)
  generalize (w.alloc (.cells #[.int .u8 kd, .int .u8 pg, .int .u16 ofs, .slice aA an ac] 64)) = w1 at *
  obtain ⟨ab, hab⟩ : ∃ ab, w.heap.size = ab := ⟨_, rfl⟩
  rw [hab] at kb hws1 ⊢
  have hws1x := Lib.hid hws1
  have hmd1x := Lib.hid hmd1
  clear hws1 hmd1 hab
  have kbc := kb.c; have kbf := kb.f; have kbl := kb.lt
  rcases hway with ⟨hn1, hW⟩ | ⟨hn1, hW⟩
  · have g1 : ¬ ((i : Int) < n) := by omega
    have g2 : decide ((i : Int) < n) = false := by simp; omega
    have hn1x := Lib.hid hn1
    clear hn1
    obtain ⟨w2, hw2⟩ : ∃ w2, w2 = w1 := ⟨_, rfl⟩
    subst hw2
    have hB2 := hB1
    have hws2x := hws1x
    have hmd2x := hmd1x
    have kb2 := kb
    have hWx := Lib.hid hW
    have kx2 := hws2x.out.wx.at_
    clear hW hws1x hmd1x hB1 hbn kb
    have kb2c := kb2.c; have kb2f := kb2.f; have kb2l := kb2.lt
    have kx2c := kx2.c; have kx2f := kx2.f; have kx2l := kx2.lt
    have hi9 := hn1x.out
    have hcall := Lib.hid (ws_unpinA (i : Int) hws2x.out hi0 (by rw [hhx.out.pv.pg]; omega))
    have hfin : LTo w w2 base x d lb g pp b n (i0 + 1) mo := ⟨s, C, pins, q, ⟨hws2x.out.less (fun k (hk : MdF b n q k) => .inl hk), hmd2x.out, hhx.out.pv, hhx.out.bq.keep⟩, hB2⟩
    have hfinx := Lib.hid hfin
    clear hfin hi9
    go_wp2_with fail
    refine hcall.out.mono ?_
    rintro e w3 ⟨rfl, rfl⟩
    go_wp2
    go_ret
    exact ⟨by first | rfl | simp, hfinx.out⟩
  · have g1 : (i : Int) < n := by omega
    have g2 : decide ((i : Int) < n) = true := by simp; omega
    rcases hW with ⟨hm, hW⟩ | ⟨hm, hW⟩
    all_goals
      go_wp2_with fail
      first
        | refine (may_calls i true w1 hmd1x.out (by omega) hn1 ⟨fun _ => hm, fun _ => rfl⟩).mono ?_
        | refine (may_calls i false w1 hmd1x.out (by omega) hn1 ⟨fun h => (by cases h), fun h => absurd h hm⟩).mono ?_
      rintro e wd ⟨rfl, kq, hwd⟩
      have hbd : Below w1.heap.size w1 wd := by rw [hwd]; exact below_drewN (Below.refl _ _) kq
      clear hwd
      have hB2 := below_tr hB1 (hbd.mono hws1x.out.bw)
      have hws2x := Lib.hid (hws1x.out.later hbd)
      have hmd2x := Lib.hid (hmd1x.out.later hbd)
      have kb2 := At.keep hbd kb
      obtain ⟨w2, hw2⟩ : ∃ w2, w2 = wd := ⟨_, rfl⟩
      subst hw2
      have hWx := Lib.hid hW
      have kx2 := hws2x.out.wx.at_
      clear hW hws1x hmd1x hB1 hbn kb kbc kbf kbl hbd hm
      have kb2c := kb2.c; have kb2f := kb2.f; have kb2l := kb2.lt
      have kx2c := kx2.c; have kx2f := kx2.f; have kx2l := kx2.lt
      have hpi := hhx.out.bq.pn i
      have hpn := hhx.out.pv.pn i
      have hcp := hmd2x.out.rp.cell hn1
      have hcf := hmd2x.out.rp.fz
      have hcg := hmd2x.out.rp.lt
      have k3 := hmd2x.out.at_
      by_cases hz : pins i = 0
      · have hcall := Lib.hid (ws_unpin0 (i : Int) hws2x.out hi0 (by rw [hhx.out.pv.pg]; omega) (by rw [hpn, hz]))
        rw [hz] at hcp
        have hfin : LTo w w2 base x d lb g pp b n (i0 + 1) mo := ⟨s, C, pins, q, ⟨hws2x.out.less (fun k (hk : MdF b n q k) => .inl hk), hmd2x.out, hhx.out.pv, hhx.out.bq.keep⟩, hB2⟩
        have hfinx := Lib.hid hfin
        clear hfin hz hpi hpn
        go_wp2_with fail
        refine hcall.out.mono ?_
        rintro e w3 ⟨rfl, rfl⟩
        have k3c := k3.c; have k3f := k3.f; have k3l := k3.lt
        go_wp2
        go_ret
        exact ⟨by first | rfl | simp, hfinx.out⟩
      · obtain ⟨f, hf⟩ : ∃ f, s.P.fr i = some f := by
          cases e : s.P.fr i with
          | some f => exact ⟨f, rfl⟩
          | none => exact absurd (hhx.out.pv.pinNo e) hz
        have hfp := hhx.out.pv.pinOf hf
        have hcall := Lib.hid (ws_unpin (i : Int) f hws2x.out hf (by omega))
        have hv : Pv ⟨setFr s.P i (pinF f (-1)), s.D, s.L⟩ n mo C (fun k => if k = (i : Int) then pins i - 1 else pins k) := by
          have h1 := hhx.out.pv.pin hf (-1)
          have e : (fun k : Int => if k = (i : Int) then pins k + (-1) else pins k) = (fun k => if k = (i : Int) then pins i - 1 else pins k) := by
            funext k
            by_cases e : k = (i : Int)
            · rw [if_pos e, if_pos e, e]; rfl
            · rw [if_neg e, if_neg e]
          rw [e] at h1
          exact h1
        have hv2 : Bq ⟨setFr s.P i (pinF f (-1)), s.D, s.L⟩ (fun k => if k = (i : Int) then pins i - 1 else pins k) (i0 + 1) := hhx.out.bq.next (t := ⟨setFr s.P i (pinF f (-1)), s.D, s.L⟩) (.inl rfl) (by show s.D.ops ≤ _; omega) (by show s.D.way.length ≤ _; omega) (by show endL s.L ≤ _; omega) hhx.out.bq.su _ (fun k => by
          have h1 := hhx.out.bq.pn k
          by_cases e : k = (i : Int)
          · rw [if_pos e, e]; omega
          · rw [if_neg e]; omega)
        have hvx := Lib.hid hv
        have hv2x := Lib.hid hv2
        obtain ⟨pv, hpv⟩ : ∃ y, pins i = y := ⟨_, rfl⟩
        have hpvx := Lib.hid hpv
        rw [hpv] at hpi hz
        have hzb : decide (pv = 0) = false := by simpa using hz
        have hzb2 : (pv == 0) = false := by simpa using hz
        have hw1 : IntKind.i64.wrap (pv - 1) = pv - 1 := IntWalk.i64_in _ (by omega)
        clear hv hv2 hf hfp hpn hpv hcp hcf hcg k3
        go_wp2_with fail
        refine hcall.out.mono ?_
        rintro e w3 ⟨rfl, hT3⟩
        have hmd3 := hmd2x.out.mod hT3.2.1 (fun k hk hn => hn (.inl hk))
        have k3 := hmd3.at_
        have hcp := hmd3.rp.cell hn1
        rw [hpvx.out] at hcp
        have hcf := hmd3.rp.fz
        have hcg := hmd3.rp.lt
        have hws3 := hT3.1.less (fun k (hk : MdF b n q k) => .inl hk)
        have hB3 := below_tr hB2 hT3.2.2
        have m5 := (Mod.refl (fun k => k = q.gp) w3).set (k := q.gp) (.inl rfl) (o := i) (.int .i64 (pv - 1))
        have hmd5 := hmd3.setPin i (pv - 1)
        have hfin : LTo w (w3.setCell ⟨q.gp, i, none⟩ (.int .i64 (pv - 1))) base x d lb g pp b n (i0 + 1) mo := by
          have e1 := hvx.out
          have e2 := hv2x.out
          rw [hpvx.out] at e1 e2
          exact ⟨_, C, _, q, ⟨hws3.own m5 (fun k hk => .inl (hk ▸ .inr (.inr (.inr (.inl rfl))))) (fun _ h => .inl h), hmd5, e1, e2⟩, below_tr hB3 (m5.below hws3.bw (fun k hk => by have h := hmd3.hb.2.2.2.1; omega))⟩
        have hfinx := Lib.hid hfin
        clear hfin hT3 hmd3 hmd5 m5 hws3
        have k3c := k3.c; have k3f := k3.f; have k3l := k3.lt
        go_wp2
        go_ret
        exact ⟨by first | rfl | simp, hfinx.out⟩
end Go.Proofs.Ytggeepihkeocmaa
