/- Joined texts: PpI, PpLay, PpM. -/
import Derived.Test.YtggeepihkeocmaaJPlays33
import Derived.Shelf.SlIterI.Nil
import Derived.Shelf.SlMaps.Clone
import Derived.Test.YtggeepihkeocmaaProg
import Derived.Test.YtggeepihkeocmaaJPlays20
/- PoolPlays: the model's put. -/
namespace Go.Proofs.Ytggeepihkeocmaa
set_option linter.unusedVariables false
set_option linter.unusedSimpArgs false
open Go.RowKit Go.Maps
/-- What put's Write makes of it. -/
theorem put_plain {w : World} {base x d lb g pp b n i0 i off : Nat} {mo W : Int} {s : St} {C : Int → List Int} {pins : Int → Int} {q : Mq} {inb : Bool} {p : List Int} (h : LS w base x d lb g pp b n i0 mo s C pins q) (h50 : i0 < 50) (hW : Wnt i n mo pins inb W) (ho : off + p.length ≤ 504) :
    ((1 : Nat) : Int) + 2 ≤ roomL s.L ∧ LgI s.L ∧ (appL s.L 0 [114]).sure = s.L.sure ∧ Pv ⟨s.P, s.D, appL s.L 0 [114]⟩ n mo C pins ∧ 480 ≤ endL s.L ∧ endL s.L < 1000 ∧ Inv ⟨s.P, s.D, appL s.L 0 [114]⟩ ∧ s.P.clock + 1 ≤ 1000000 ∧
      (getE ⟨s.P, s.D, appL s.L 0 [114]⟩ i = W ∧ W ≠ 0 ∨ getE ⟨s.P, s.D, appL s.L 0 [114]⟩ i = 0 ∧ inb = true ∧ (W = 0 ∨ W = 9)) ∧
      (getE ⟨s.P, s.D, appL s.L 0 [114]⟩ i ≠ 0 → Pv (getS ⟨s.P, s.D, appL s.L 0 [114]⟩ i) n mo C pins ∧ Bq (getS ⟨s.P, s.D, appL s.L 0 [114]⟩ i) pins (i0 + 1)) ∧
      (getE ⟨s.P, s.D, appL s.L 0 [114]⟩ i = 0 → Pv (wrS ⟨s.P, s.D, appL s.L 0 [114]⟩ i off p (endL s.L)) n mo (fun k => if k = (i : Int) then wrB (C k) off p (endL s.L) else C k) pins ∧ Bq (wrS ⟨s.P, s.D, appL s.L 0 [114]⟩ i off p (endL s.L)) pins (i0 + 1)) ∧
      Bq ⟨s.P, s.D, appL s.L 0 [114]⟩ pins (i0 + 1) := by
  have hp := h.pv
  have hq := h.bq
  have hk := h.keys
  have hen := hq.en
  have hsu := hq.su
  have hso := hp.inv.li.ok.sure
  have hck := hq.ck
  have hap := appL_end s.L 0 [114]
  have hap2 : endL (appL s.L 0 [114]) = endL s.L + 3 := by rw [hap]; show endL s.L + 2 + ((1 : Nat) : Int) = _; omega
  have hroom : ((1 : Nat) : Int) + 2 ≤ roomL s.L := by
    unfold roomL
    rw [hp.ll.2.1, hp.ll.2.2.1, hp.ll.2.2.2]
    omega
  have hA := app_ok (hold := 0) (p := [114]) hp.inv.li (by omega) (by show ((1 : Nat) : Int) + 2 ≤ _; omega)
  have hp1 := hp.app (p := [114]) hA.2 (by rw [hap2]; omega)
  have hk1 : KeyOk ⟨s.P, s.D, appL s.L 0 [114]⟩ := ⟨hk.1, hk.2.1, hk.2.2⟩
  have hF1 : Fits ⟨s.P, s.D, appL s.L 0 [114]⟩ := ⟨hsu, by show endL (appL s.L 0 [114]) ≤ _; omega, by have := hq.op; show s.D.ops ≤ _; omega, by have := hq.wy; show s.D.way.length ≤ _; omega⟩
  have h0 : ∀ k, 0 ≤ pins k := fun k => (hq.pn k).1
  have hpp : ∀ k, 0 ≤ pins k ∧ pins k ≤ pins k + 1 := fun k => by have := h0 k; omega
  have hbq : ∀ t : St, (t.P.clock = s.P.clock ∨ t.P.clock = s.P.clock + 1) → Near ⟨s.P, s.D, appL s.L 0 [114]⟩ t → Bq t pins (i0 + 1) := fun t hc hn => hq.next hc (by have : t.D.ops ≤ s.D.ops + 4 := hn.ops; omega) (by have : t.D.way.length ≤ s.D.way.length + 4 := hn.way; omega) (by have : endL t.L = endL (appL s.L 0 [114]) := hn.en; omega) (by have : s.L.sure ≤ t.L.sure := hn.su; omega) pins hpp
  have hgk := getS_ck (s := ⟨s.P, s.D, appL s.L 0 [114]⟩) (i := (i : Int))
  have hno : getE ⟨s.P, s.D, appL s.L 0 [114]⟩ i ≠ 0 → Near ⟨s.P, s.D, appL s.L 0 [114]⟩ (getS ⟨s.P, s.D, appL s.L 0 [114]⟩ i) → Pv (getS ⟨s.P, s.D, appL s.L 0 [114]⟩ i) n mo C pins → Pv (getS ⟨s.P, s.D, appL s.L 0 [114]⟩ i) n mo C pins ∧ Bq (getS ⟨s.P, s.D, appL s.L 0 [114]⟩ i) pins (i0 + 1) := fun _ hn hv => ⟨hv, hbq _ hgk hn⟩
  refine ⟨hroom, hp.inv.li, rfl, hp1, by omega, by omega, hp1.inv, by omega, ?_⟩
  have hlast : Bq ⟨s.P, s.D, appL s.L 0 [114]⟩ pins (i0 + 1) := hbq _ (.inl rfl) (Near.refl _)
  have hyes : i < n → HasRoom ⟨s.P, s.D, appL s.L 0 [114]⟩ i mo pins → getE ⟨s.P, s.D, appL s.L 0 [114]⟩ i = 0 ∧ Pv (wrS ⟨s.P, s.D, appL s.L 0 [114]⟩ i off p (endL s.L)) n mo (fun k => if k = (i : Int) then wrB (C k) off p (endL s.L) else C k) pins ∧ Bq (wrS ⟨s.P, s.D, appL s.L 0 [114]⟩ i off p (endL s.L)) pins (i0 + 1) := fun hin hr => by
    obtain ⟨g1, g2, g3⟩ := hp1.get hF1 hk1 (i := (i : Int)) ⟨by omega, by omega⟩ hr
    obtain ⟨f, hf⟩ := getS_fr _ _ g1
    have e5 : wrS ⟨s.P, s.D, appL s.L 0 [114]⟩ i off p (endL s.L) = ⟨setFr (getS ⟨s.P, s.D, appL s.L 0 [114]⟩ i).P i (wrF f off p (endL s.L)), (getS ⟨s.P, s.D, appL s.L 0 [114]⟩ i).D, (getS ⟨s.P, s.D, appL s.L 0 [114]⟩ i).L⟩ := by unfold wrS; rw [hf]
    have hge : endL (getS ⟨s.P, s.D, appL s.L 0 [114]⟩ i).L = endL s.L + 3 := g3.en.trans hap2
    have hls := hp.lsn (k := (i : Int)) (by omega) (by omega)
    refine ⟨g1, ?_, ?_⟩
    · rw [e5]; exact g2.put hf ⟨by omega, by omega⟩ (by omega) ho
    · rw [e5]; exact hbq _ hgk ⟨g3.ops, g3.way, g3.en, g3.su⟩
  rcases hW with ⟨e1, e2, e3⟩ | ⟨e1, e2, e3, e4⟩ | ⟨e1, e2, e3⟩
  · obtain ⟨g1, g2⟩ := getNone (i := (i : Int)) ⟨s.P, s.D, appL s.L 0 [114]⟩ (.inr (by rw [hp1.pg]; omega))
    refine ⟨.inl ⟨by rw [g1, e3], by omega⟩, fun _ => by rw [g2]; exact ⟨hp1, hlast⟩, fun h => by rw [g1] at h; omega, hlast⟩
  · obtain ⟨g1, g2, g3⟩ := hyes e1 (may_room hp1 hk1 h0 e4)
    exact ⟨.inr ⟨g1, e2, .inl e3⟩, fun h => absurd g1 h, fun _ => ⟨g2, g3⟩, hlast⟩
  · by_cases hr : HasRoom ⟨s.P, s.D, appL s.L 0 [114]⟩ i mo pins
    · obtain ⟨g1, g2, g3⟩ := hyes e1 hr
      exact ⟨.inr ⟨g1, e2, .inr e3⟩, fun h => absurd g1 h, fun _ => ⟨g2, g3⟩, hlast⟩
    · obtain ⟨g1, g2, g3⟩ := hp1.getNo hk1 (i := (i : Int)) ⟨by omega, by omega⟩ hr
      exact ⟨.inl ⟨by rw [g1, e3], by omega⟩, fun _ => ⟨g2, hbq _ hgk g3⟩, fun h => by rw [g1] at h; omega, hlast⟩
theorem WS.less {w : World} {base x d lb g pp : Nat} {s : St} {S S' : Nat → Prop} (h : WS w base x d lb g pp s S) (hs : ∀ k, S' k → S k) : WS w base x d lb g pp s S' :=
  h.own (S2 := Nob) (Mod.refl _ _) (fun _ h => h.elim) (fun k hk => .inl (hs k hk))
set_option maxRecDepth 100000 in
set_option maxHeartbeats 16000000 in
theorem mput_calls {base x d lb g pp b n i0 i an ac : Nat} {mo W : Int} {s : St} {C : Int → List Int} {pins : Int → Int} {q : Mq} {inb : Bool} {p : List Int} {aA : Option Addr} (kd pg ofs : Int) (w : World) (h : LS w base x d lb g pp b n i0 mo s C pins q) (h50 : i0 < 50) (hW : Wnt i n mo pins inb W) (hofs : 0 ≤ ofs ∧ ofs ≤ 65535) (hp : BsR w 0 base aA an p) (han : an ≤ maxLen) :
    Calls Try.prog 77 #[.pointer (some ⟨b, 0, none⟩), .pointer (some ⟨x, 0, none⟩), .agg #[.int .u8 kd, .int .u8 pg, .int .u16 ofs, .slice aA an ac], .int .i64 (i : Int), .bool inb, .int .i64 W] w fun e w' => e = .returned (.bool true) ∧ LTo w w' base x d lb g pp b n (i0 + 1) mo := by
  obtain ⟨off, hoff⟩ : ∃ o : Nat, (o : Int) = ofs % 510 := ⟨(ofs % 510).toNat, by omega⟩
  have hoff9 : off < 510 := by omega
  have t1 : IntKind.i64.wrap ofs = ofs := IntWalk.i64_in _ (by omega)
  have t2 : ofs.tmod 510 = (off : Int) := by rw [Int.tmod_eq_emod_of_nonneg hofs.1, hoff]
  have t3 : IntKind.i64.wrap (off : Int) = off := IntWalk.i64_in _ (by omega)
  have hbw := h.ws.bw
  have hB1 : Below base w (w.alloc (.cells #[.int .u8 kd, .int .u8 pg, .int .u16 ofs, .slice aA an ac] 64)) := (Below.refl base w).alloc hbw _
  have kb := At.new w #[.int .u8 kd, .int .u8 pg, .int .u16 ofs, .slice aA an ac] 64
  have hbn := below_new w (.cells #[.int .u8 kd, .int .u8 pg, .int .u16 ofs, .slice aA an ac] 64)
  have hws1 : WS (w.alloc (.cells #[.int .u8 kd, .int .u8 pg, .int .u16 ofs, .slice aA an ac] 64)) base x d lb g pp s (fun k => MdF b n q k ∨ k = w.heap.size) := h.ws.own (S2 := Nob) (Mod.of_below hbn) (fun _ h => h.elim) (fun k hk => hk.imp id (fun e => by subst e; exact ⟨Nat.le_refl _, by simp⟩))
  have hmd1 := h.md.later hbn
  have hpx := Lib.hid hp
  have hhx := Lib.hid h
  have hWx := Lib.hid hW
  have hofx := Lib.hid hofs
  have hsz : w.heap.size ≤ (w.alloc (.cells #[.int .u8 kd, .int .u8 pg, .int .u16 ofs, .slice aA an ac] 64)).heap.size := by simp
  clear h hp hW hofs hoff
  go_enter Try.func77, Try.ntmps77
  go_upto_region 1 with (fail)
  generalize (w.alloc (.cells #[.int .u8 kd, .int .u8 pg, .int .u16 ofs, .slice aA an ac] 64)) = w1 at *
  obtain ⟨ab, hab⟩ : ∃ ab, w.heap.size = ab := ⟨_, rfl⟩
  rw [hab] at kb hws1 ⊢
  have habx := Lib.hid hab
  have kx := hws1.wx.at_
  obtain ⟨f1, e1, b1, l1, x1⟩ := litb_at w1 114
  have hws1x := Lib.hid hws1
  have hmd1x := Lib.hid hmd1
  clear hws1 hmd1 hab
  have kbc := kb.c; have kbf := kb.f; have kbl := kb.lt
  have kxc := kx.c; have kxf := kx.f; have kxl := kx.lt
  go_wp2_with fail
  have hroom : ((1 : Nat) : Int) + 2 ≤ roomL s.L := by
    unfold roomL
    have h1 := hhx.out.pv
    rw [h1.ll.2.1, h1.ll.2.2.1, h1.ll.2.2.2]
    have := hhx.out.bq.en
    omega
  refine (ws_app (mc := 1) (p := [114]) hws1x.out b1 hhx.out.pv.inv.li (BsR.single x1 l1 (by omega) (by omega)) (Nat.le_refl _) (by omega) (by omega) hroom).mono ?_
  rintro e w2 ⟨rfl, hT2⟩
  have hmd2 : MdH w2 base b n mo C pins q := (hmd1x.out.later b1).mod hT2.2.1 (fun k hk hn => hn (.inl hk))
  have kb2 := (At.keep b1 kb).mod hT2.2.1 (fun hn => hn (.inr rfl))
  have kx2 := hT2.1.wx.at_
  have hB2 : Below base w w2 := below_tr (below_tr hB1 (b1.mono hws1x.out.bw)) hT2.2.2
  have hp2 : BsR w2 0 base aA an p := hpx.out.below hB2 (Nat.le_refl _)
  obtain ⟨at9, hat9⟩ : ∃ a, endL s.L = a := ⟨_, rfl⟩
  have hatx := Lib.hid hat9
  rw [hat9]
  have hT2x := Lib.hid hT2.1
  have hmd2x := Lib.hid hmd2
  have hp2x := Lib.hid hp2
  have hwsx := Lib.hid (hT2.1.less (fun k (hk : MdF b n q k) => .inl hk))
  have d2 : Below w2.heap.size w2 w2.drew := below_dr (Below.refl _ _)
  have S2 := And.intro (At.keep d2 kx2).c (At.keep d2 kb2).c
  clear hT2 hmd2 hp2 hat9 kx kxc kxf kxl kbc kbf kbl b1 e1 x1 l1 hroom
  have kb2c := kb2.c; have kb2f := kb2.f; have kb2l := kb2.lt
  have kx2c := kx2.c; have kx2f := kx2.f; have kx2l := kx2.lt
  by_cases harg : 504 < off ∨ 504 - (off : Int) < an
  · obtain ⟨-, -, -, c4, -, -, -, -, -, -, -, c12⟩ := put_plain (off := 0) (p := []) hhx.out h50 hWx.out (by simp)
    have hno : WrNo (off : Int) an := by unfold WrNo; omega
    have hcall := Lib.hid (pwrite_arg (B := aA) (mc := ac) (pp := pp) (i : Int) (off : Int) at9 w2.drew hno (by omega) (by unfold maxLen at han; omega))
    have hfin : LTo w w2.drew base x d lb g pp b n (i0 + 1) mo := ⟨_, C, pins, q, ⟨hwsx.out.later d2, hmd2x.out.later d2, c4, c12⟩, below_dr hB2⟩
    have hfinx := Lib.hid hfin
    clear hfin c4 c12 hno
    go_upto_region 5 with (fail)
    go_region_held3 (fun w' => (∀ o9, w'.cell? ⟨x, o9, none⟩ = #[.pointer (some ⟨d, 0, none⟩), .pointer (some ⟨g, 0, none⟩), .pointer (some ⟨pp, 0, none⟩)][o9]?) ∧ (∀ o9, w'.cell? ⟨ab, o9, none⟩ = #[.int .u8 kd, .int .u8 pg, .int .u16 ofs, .slice aA an ac][o9]?))
      (first
        | (exact S2)
        | (exact f4))
      (first
        | (go_at_call 21; with_reducible refine hcall.out.mono ?_; rintro e w3 ⟨rfl, hw3⟩; subst hw3
           have f4 := S2)
        | fail)
    have hc3 := S2.2
    by_cases ha1 : 504 < off
    · have g1 : (504 : Int) < off := by omega
      go_wp2
      go_ret
      exact ⟨by first | rfl | simp, hfinx.out⟩
    · have g1 : ¬ ((504 : Int) < off) := by omega
      have g2 : (504 : Int) - off < an := by omega
      have g3 : IntKind.i64.wrap (504 - (off : Int)) = 504 - off := IntWalk.i64_in _ (by omega)
      go_wp2
      go_ret
      exact ⟨by first | rfl | simp, hfinx.out⟩
  · obtain ⟨c1, c2, c3, c4, c5, c6, c7, c8, c9, c10, c11, c12⟩ := put_plain (off := off) (p := p) hhx.out h50 hWx.out (by rw [hp2x.out.1]; omega)
    rw [hatx.out] at c5 c6 c11
    have hcall := Lib.hid (ws_write (mc := ac) (b := p) (i : Int) off at9 (hT2x.out.later d2) c7 c8 ⟨by omega, by omega⟩ (hp2x.out.below (below_dr (Below.refl base w2)) (Nat.le_refl _)) (by omega) (by omega))
    obtain ⟨E, hE⟩ : ∃ y, getE ⟨s.P, s.D, appL s.L 0 [114]⟩ i = y := ⟨_, rfl⟩
    rw [hE] at hcall c9 c10 c11
    have hEx := Lib.hid hE
    have c9x := Lib.hid c9
    have c10x := Lib.hid c10
    have c11x := Lib.hid c11
    clear c1 c2 c3 c4 c5 c6 c7 c8 c9 c10 c11 c12 hE
    go_upto_region 5 with (fail)
    go_region_held3 (fun w' => (∀ o9, w'.cell? ⟨x, o9, none⟩ = #[.pointer (some ⟨d, 0, none⟩), .pointer (some ⟨g, 0, none⟩), .pointer (some ⟨pp, 0, none⟩)][o9]?) ∧ (∀ o9, w'.cell? ⟨ab, o9, none⟩ = #[.int .u8 kd, .int .u8 pg, .int .u16 ofs, .slice aA an ac][o9]?))
      (first
        | (exact S2)
        | (exact f4))
      (first
        | (go_at_call 21; with_reducible refine hcall.out.mono ?_; rintro e w3 ⟨rfl, hT3⟩
           have f4 := And.intro hT3.1.wx.at_.c ((At.keep d2 kb2).mod hT3.2.1 (fun hn => hn (.inr rfl))).c)
        | fail)
    have g1 : ¬ ((504 : Int) < off) := by omega
    have g2 : ¬ ((504 : Int) - off < an) := by omega
    have g3 : IntKind.i64.wrap (504 - (off : Int)) = 504 - off := IntWalk.i64_in _ (by omega)
    have hmd3 : MdH w3 base b n mo C pins q := (hmd2x.out.later d2).mod hT3.2.1 (fun k hk hn => hn (.inl hk))
    have hws3 := hT3.1
    have hB3 : Below base w w3 := below_tr (below_dr hB2) hT3.2.2
    have kb3 := (At.keep d2 kb2).mod hT3.2.1 (fun hn => hn (.inr rfl))
    have hp3 : BsR w3 0 base aA an p := hpx.out.below hB3 (Nat.le_refl _)
    have hmd3x := Lib.hid hmd3
    have hws3x := Lib.hid hws3
    have hp3x := Lib.hid hp3
    clear f4 S2 hT3 hmd3 hws3 hp3 kb2 kb2c kb2f kb2l kx2 kx2c kx2f kx2l hcall
    rcases c9x.out with ⟨rfl, hW0⟩ | ⟨rfl, hin, hW9⟩
    · have hb1 : decide (E = 0) = false := by simp; exact hW0
      have hb2 : (E == 0) = false := by simp; exact hW0
      have hfin : LTo w w3 base x d lb g pp b n (i0 + 1) mo := by
        obtain ⟨v1, v2⟩ := c10x.out hW0
        have e : wrT ⟨s.P, s.D, appL s.L 0 [114]⟩ i off p at9 = getS ⟨s.P, s.D, appL s.L 0 [114]⟩ i := by unfold wrT; rw [if_neg (by rw [hEx.out]; exact hW0)]
        have h1 := hws3x.out
        rw [e] at h1
        exact ⟨_, C, pins, q, ⟨h1.less (fun k hk => .inl hk), hmd3x.out, v1, v2⟩, hB3⟩
      have hfinx := Lib.hid hfin
      clear hfin
      have kb3c := kb3.c; have kb3f := kb3.f; have kb3l := kb3.lt
      go_wp2
      go_ret
      exact ⟨by first | rfl | simp, hfinx.out⟩
    · have hwn := hWx.out
      have hin2 : i < n := by
        rcases hwn with ⟨-, e2, -⟩ | ⟨e1, -⟩ | ⟨e1, -⟩
        · rw [hin] at e2; cases e2
        · exact e1
        · exact e1
      subst hin
      have hlen := hhx.out.pv.len (i : Int) (by omega) (by omega)
      have hen := hhx.out.bq.en
      have hsu := hhx.out.bq.su
      have hso := hhx.out.pv.inv.li.ok.sure
      rw [hatx.out] at hen hso
      have hmw := Lib.hid (mwrite_calls (mc := ac) i off at9 w3 hmd3x.out hin2 (by omega) ⟨by omega, by omega⟩ hp3x.out hws3x.out.bw hlen)
      obtain ⟨v1, v2⟩ := c11x.out rfl
      have e : wrT ⟨s.P, s.D, appL s.L 0 [114]⟩ i off p at9 = wrS ⟨s.P, s.D, appL s.L 0 [114]⟩ i off p at9 := by unfold wrT; rw [if_pos hEx.out]
      have h1 := hws3x.out
      rw [e] at h1
      have h1x := Lib.hid h1
      have v1x := Lib.hid v1
      have v2x := Lib.hid v2
      clear hlen hen hsu hso h1 v1 v2 e hwn
      have kb3c := kb3.c; have kb3f := kb3.f; have kb3l := kb3.lt
      rcases hW9 with rfl | rfl
      all_goals
        go_wp2_with fail
        refine hmw.out.mono ?_
        rintro e w4 ⟨rfl, q4, hmd4, hm4, hn4⟩
        have hlts := hmd3x.out.lts
        have hfin : LTo w w4 base x d lb g pp b n (i0 + 1) mo := by
          refine ⟨_, _, pins, q4, ⟨h1x.out.own hm4 (fun k hk => .inl (.inl hk)) (fun k hk => (hn4 k hk).imp (fun h => .inl h) id), hmd4, v1x.out, v2x.out⟩, below_tr hB3 (hm4.below hws3x.out.bw (fun k hk => (hlts k hk).1))⟩
        have hfinx := Lib.hid hfin
        clear hfin hmd4 hm4 hn4 hlts
        go_wp2
        go_ret
        exact ⟨by first | rfl | simp, hfinx.out⟩
end Go.Proofs.Ytggeepihkeocmaa
/- The library's keys and clone of the map of numbers: its bodies are those of the kit's contracts. -/
namespace Go.Proofs.Ytggeepihkeocmaa
set_option linter.unusedVariables false
set_option linter.unusedSimpArgs false
open Go.Shelf Go.Proofs
def layKeysG_ren : Go.Shelf.Ren := ⟨fun | 7 => 75 | 10 => 101 | n => n, fun | 23 => 109 | 26 => 3 | 3 => 33 | 28 => 133 | 0 => 0 | 27 => 132 | 33 => 43 | 4 => 4 | n => n, fun | n => n⟩
theorem layKeysG : Go.Proofs.SlLaysZI.n7 Try.prog layKeysG_ren := {
  mixed := by kernel_rfl
  f7 := ⟨Try.f75.name, by decide, Try.func75.trans (congrArg some (by kernel_rfl))⟩
  f10 := ⟨Try.f101.name, by decide, Try.func101.trans (congrArg some (by kernel_rfl))⟩
  t0 := Try.underlying0
  a0 := Try.isAgg0
  z0 := Try.sizeOf0
  v0 := Try.zeroValue0
  t4 := Try.underlying4
  a4 := Try.isAgg4
  z4 := Try.sizeOf4
  v4 := Try.zeroValue4
  t23 := Try.underlying109
  a23 := Try.isAgg109
  z23 := Try.sizeOf109
  v23 := Try.zeroValue109
  t26 := Try.underlying3
  a26 := Try.isAgg3
  z26 := Try.sizeOf3
  v26 := Try.zeroValue3
  t27 := Try.underlying132
  a27 := Try.isAgg132
  z27 := Try.sizeOf132
  v27 := Try.zeroValue132
  t28 := Try.underlying133
  a28 := Try.isAgg133
  z28 := Try.sizeOf133
  v28 := Try.zeroValue133
  t33 := Try.underlying43
  a33 := Try.isAgg43
  z33 := Try.sizeOf43
  v33 := Try.zeroValue43 }
def layClone_ren : Go.Shelf.Ren := ⟨fun | 5 => 73 | 7 => 98 | n => n, fun | 23 => 109 | 25 => 3 | 3 => 33 | 4 => 4 | 20 => 20 | n => n, fun | n => n⟩
theorem layClone : Go.Proofs.SlLaysW.n5 Try.prog layClone_ren := {
  mixed := by kernel_rfl
  f5 := ⟨Try.f73.name, by decide, Try.func73.trans (congrArg some (by kernel_rfl))⟩
  f7 := Try.func98.trans (congrArg some (by kernel_rfl))
  t4 := Try.underlying4
  a4 := Try.isAgg4
  z4 := Try.sizeOf4
  v4 := Try.zeroValue4
  t20 := Try.underlying20
  a20 := Try.isAgg20
  z20 := Try.sizeOf20
  v20 := Try.zeroValue20
  t23 := Try.underlying109
  a23 := Try.isAgg109
  z23 := Try.sizeOf109
  v23 := Try.zeroValue109 }
end Go.Proofs.Ytggeepihkeocmaa
/- The map of numbers: its clone, its keys, rising. -/
namespace Go.Proofs.Ytggeepihkeocmaa
set_option linter.unusedVariables false
set_option linter.unusedSimpArgs false
open Go.RowKit Go.Maps Go.Sort Go.Shelf Go.Proofs
theorem mp_clone {m : Int → Option Int} {ks : List Int} (b : Nat) (w : World) (h : MpR EG w b m ks) :
    Calls Try.prog 73 #[.map (some b)] w fun e w' => e = .returned (.map (some w.heap.size)) ∧ MpR EG w' w.heap.size m ks ∧ Below w.heap.size w w' := by
  obtain ⟨D, h1, h2⟩ := h
  refine (AnyW.maps_Clone_owns (ρ := layClone_ren) layClone 3 EG.R b ks.length D w h1).mono ?_
  rintro e w' ⟨rfl, a, -, c⟩
  exact ⟨rfl, ⟨D, a, h2⟩, c⟩
theorem gkeys_calls (mb : Option Nat) (W : World) : Calls Try.prog 75 #[.map mb] W fun e w' => e = .returned (.func (.func 101) #[] #[.pointer (some ⟨W.heap.size, 0, none⟩)]) ∧ w' = W.alloc (.cells #[.map mb] 109) :=
  (callsIn_wide (n := 5)).1 (AnyZI.keys_in layKeysG Fence.wide 5 trivial rfl mb W)
theorem gsorted_calls {H : Type} (b nn : Nat) (D0 : DataW H) (R : Value → Option (DataW H × List MemPlace)) (w : World) (hown : w.ownsMap Try.prog 3 R b nn D0) (hmax : Maps.size D0 ≤ maxLen) (hbytes : Maps.size D0 * 8 ≤ 140737488355328) :
    Calls Try.prog 74 #[.func (.func 101) #[] #[.pointer (some ⟨w.heap.size, 0, none⟩)]] (w.alloc (.cells #[.map (some b)] 109)) fun e w' => ∃ (v : Value) (ss : List Int), e = .returned v ∧ ss.Perm (intKeys D0) ∧
      w'.ownsRow (w.alloc (.cells #[.map (some b)] 109)).heap.size 3 1 v ss.length ((ss.mergeSort (fun x y => decide (x ≤ y))).map encZ) ∧ (v = .slice none 0 0 ↔ ss = []) ∧ Below (w.alloc (.cells #[.map (some b)] 109)).heap.size (w.alloc (.cells #[.map (some b)] 109)) w' := by
  refine (callsIn_wide (n := 5)).1 ?_
  have hbl := hown.lt
  have hseq : SeqGives Fence.wide 2 Try.prog 101 #[.pointer (some ⟨w.heap.size, 0, none⟩)] encZ (fun ss => ss.Perm (intKeys D0)) (Maps.size D0) (w.alloc (.cells #[.map (some b)] 109)) :=
    AnyZI.keys_gives (ρ := layKeysG_ren) { layKeysG with } Fence.wide _ trivial rfl (by omega) w.heap.size b nn D0 _ (by simp) (by simp) (by
      obtain ⟨es, clock, hb, Ft, hs, hD⟩ := hown
      exact ⟨es, clock, (Below.heap_alloc _ _ b hbl).trans hb, Ft, hs, hD⟩)
  exact AnyZI.sorted_in laySorted Fence.wide 5 trivial trivial trivial trivial rfl (by omega) (laySorts _) (enters_of Try.func100 (by kernel_rfl) rfl) 101 #[.pointer (some ⟨w.heap.size, 0, none⟩)] trivial (enters_of Try.func101 (by kernel_rfl) rfl) _ _ hmax hbytes _ hseq
theorem gsorted_mp {m : Int → Option Int} {ks : List Int} (b : Nat) (w : World) (h : MpR EG w b m ks) (hn : ks.length ≤ 100000) :
    Calls Try.prog 74 #[.func (.func 101) #[] #[.pointer (some ⟨w.heap.size, 0, none⟩)]] (w.alloc (.cells #[.map (some b)] 109)) fun e w' => ∃ A c, e = .returned (.slice A ks.length c) ∧ IzR w' w.heap.size w'.heap.size A ks ∧ Below w.heap.size w w' := by
  obtain ⟨D, hown, hperm, hsz⟩ := h.perm
  have hrise : ks.Pairwise (· < ·) := by obtain ⟨_, -, -, -, h4, -⟩ := h; exact h4
  refine (gsorted_calls b ks.length D EG.R w hown (by rw [hsz]; unfold maxLen; omega) (by rw [hsz]; omega)).mono ?_
  rintro e w2 ⟨v, ss, rfl, hS, hrow, -, hb⟩
  have hks : ss.mergeSort (fun x y => decide (x ≤ y)) = ks := (mergeSort_of_perm_i (hS.trans hperm.symm)).trans (sort_rise hrise)
  rw [hks] at hrow
  obtain ⟨A, c, rfl, hc, hz⟩ := izr_of hrow
  exact ⟨A, c, rfl, hz.less (ge_new w _), (below_new w _).trans (hb.mono (ge_new w _))⟩
end Go.Proofs.Ytggeepihkeocmaa
