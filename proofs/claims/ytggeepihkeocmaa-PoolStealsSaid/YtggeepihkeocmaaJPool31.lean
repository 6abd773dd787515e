/- Joined texts: PlSb. -/
import Derived.Test.YtggeepihkeocmaaJPool30
/- PoolSteals: the walk of the law. -/
namespace Go.Proofs.Ytggeepihkeocmaa
set_option linter.unusedVariables false
set_option linter.unusedSimpArgs false
open Go.RowKit Go.Maps
structure Bd (s : St) (i : Nat) : Prop where
  ck : s.P.clock = 1 + 2 * (i : Int)
  op : s.D.ops ≤ 6 + 8 * (i : Int)
  wy : s.D.way.length ≤ 8 * i
  en : endL s.L = 480 + 3 * (i : Int)
  su : 480 ≤ s.L.sure
theorem evS_clock (s : St) : (evS s).P.clock = s.P.clock := by
  unfold evS
  cases hf : s.P.fr (bestF s.P s.P.ks (-1)) with
  | none => rfl
  | some f =>
    show (cleanS s _ f).P.clock = _
    exact (cleanS_P s _ f hf).2.2.2.2.2
theorem getS_clock {s : St} {i : Int} (h0 : ¬ (i < 0 ∨ s.P.pages ≤ i)) : (getS s i).P.clock = s.P.clock + 1 := by
  unfold getS
  rw [if_neg h0]
  cases hf : s.P.fr i with
  | some f => rfl
  | none =>
    simp only []
    by_cases hl : (s.P.ks.length : Int) < s.P.most
    · rw [if_pos hl]; rfl
    · rw [if_neg hl]
      by_cases hE : evE ⟨tickP s.P, s.D, s.L⟩ = 0
      · rw [if_pos hE]
        exact evS_clock ⟨tickP s.P, s.D, s.L⟩
      · rw [if_neg hE]; rfl
theorem Sv.lastTo {s : St} {last last' : Int → Int} {pn : Int} (h : Sv s last pn) (e : ∀ j, 0 ≤ j → j < 9 → last j = last' j) : Sv s last' pn :=
  ⟨h.pg, h.at_, h.ms, h.dn, h.inv, h.ll, h.rng, h.cl, h.gn, h.dl, h.fl, fun k h0 h1 => (h.val k h0 h1).trans (e k h0 h1), h.pin, h.unp⟩
theorem wrB_len {p : List Int} {z lsn : Int} (h : (wrB p 3 [z] lsn).length = 512) : p.length = 512 := by
  unfold wrB splice at h
  simp only [List.length_append, List.length_take, List.length_drop, List.length_cons, List.length_nil, u8L_len] at h
  omega
theorem steal_write {w : World} {base la x d lb g pp : Nat} {s : St} {last : Int → Int} {pn z lsn : Int} {k : Int} (h : WY w base la x d lb g pp (wrS s k 3 [z] lsn)) (he : getE s k = 0) (hS : Sv (getS s k) last pn) (hl : 0 ≤ lsn ∧ lsn < endL (getS s k).L) :
    Sv (wrS s k 3 [z] lsn) (fun j => if j = k then z else last j) pn ∧ (wrS s k 3 [z] lsn).D = (getS s k).D ∧ (wrS s k 3 [z] lsn).L = (getS s k).L ∧ (wrS s k 3 [z] lsn).P.clock = (getS s k).P.clock := by
  obtain ⟨f, hf⟩ := getS_fr s k he
  have e5 : wrS s k 3 [z] lsn = ⟨setFr (getS s k).P k (wrF f 3 [z] lsn), (getS s k).D, (getS s k).L⟩ := by unfold wrS; rw [hf]
  rw [e5] at h ⊢
  have hlen : f.p.length = 512 := by
    obtain ⟨F, bA, bc, o, -, hP, -⟩ := h
    exact wrB_len (hP.ok.fr k (wrF f 3 [z] lsn) (setFr_fr _ _ _)).1.len
  exact ⟨hS.put hf hlen hl, rfl, rfl, rfl⟩
theorem rest_nil (D : Dk) : (restD D 0 []).l = D.l ∧ (restD D 0 []).way = [] ∧ (restD D 0 []).off = false := by
  have h : ∀ k, setTo D (keepF 0 []) k = D.l := fun k => by
    induction k with
    | zero => rfl
    | succ k ih =>
      unfold setTo
      rw [if_neg (by unfold keepF; simp)]
      exact ih
  exact ⟨h _, rfl, rfl⟩
set_option maxRecDepth 100000 in
set_option maxHeartbeats 16000000 in
theorem poolsteals_calls {m mc : Nat} {B : Option Addr} {l : List Int} (ct pv : Int) (w : World) (h1 : 0 ≤ ct ∧ ct ≤ 255) (h3 : 0 ≤ pv ∧ pv ≤ 255) (hb : BsR w 0 w.heap.size B m l) :
    Calls Try.prog 4 #[.int .u8 ct, .slice B m mc, .int .u8 pv] w fun e w' => e = .returned (.bool true) ∧ Below w.heap.size w w' := by
  obtain ⟨mo, hmo⟩ : ∃ x : Int, x = 2 + ct % 3 := ⟨_, rfl⟩
  have t0 : IntKind.i64.wrap ct = ct := IntWalk.i64_in _ (by omega)
  have t1 : IntKind.i64.wrap (2 + ct.tmod 3) = mo := by rw [Int.tmod_eq_emod_of_nonneg h1.1, hmo]; exact IntWalk.i64_in _ (by omega)
  obtain ⟨pn, hpn⟩ : ∃ x : Int, x = pv % 9 := ⟨_, rfl⟩
  have t2 : IntKind.i64.wrap pv = pv := IntWalk.i64_in _ (by omega)
  have t3 : pv.tmod 9 = pn := by rw [Int.tmod_eq_emod_of_nonneg h3.1, hpn]
  have hmx : Hid (2 ≤ mo ∧ mo ≤ 4) := Lib.hid (by omega)
  have hpx : Hid (0 ≤ pn ∧ pn < 9) := Lib.hid (by omega)
  have t4 : IntKind.i64.wrap pn = pn := IntWalk.i64_in _ (by omega)
  have hbx := Lib.hid hb
  clear hmo hpn h1 h3 hb
  go_enter Try.func4, Try.ntmps4
  go_wp2_with fail
  refine (plawake_calls w).mono ?_
  rintro e w1 ⟨rfl, hb1⟩
  have hw1 := hb1.size
  go_wp2_with fail
  refine (pfresh_calls 9 mo w1 (by omega) (by have := hmx.out; omega)).mono ?_
  rintro e w2 ⟨x, d, lb, g, pp, F, bA, bc, o, rfl, kx, hP, hx, hxl, hb2⟩
  have hW2 : WX w2 w1.heap.size x d lb g pp (freshS 9 mo) := ⟨F, bA, bc, o, kx, hP, hx⟩
  have hB2 : Below w.heap.size w w2 := below_keep hb2 hb1
  obtain ⟨p1, p2, p3, p4, p5, p6⟩ := steal_start hmx.out hpx.out
  have hI0 : Inv (freshS 9 mo) := fresh_inv (by omega)
  have hck0 : (freshS 9 mo).P.clock + 1 ≤ 1000000 := by show (0 : Int) + 1 ≤ _; omega
  clear hP hx hb2
  have kxc := kx.c; have kxf := kx.f; have kxl := kx.lt
  go_wp2_with fail
  refine (wx_pin pn hW2 hI0 hck0 p1 p2).mono ?_
  rintro e w3 ⟨rfl, hW3, hb3⟩
  have hB3 := below_tr hB2 (Below.mono hb3 hw1)
  have hW3x := Lib.hid hW3
  have hSx := Lib.hid p3
  have hbd : Hid (Bd (pinS (freshS 9 mo) pn) 0) := Lib.hid ⟨p6, by rw [p5, opnD_ops (by omega) (by omega) (by omega)]; omega, by rw [p5, opnD_way (by omega) (by omega) (by omega)]; simp, by rw [p4]; rfl, by rw [p4]; show (480 : Int) ≤ 480; omega⟩
  clear hW2 hW3 p1 p2 p3 p4 p5 p6 kx kxc kxf kxl hI0 hck0
  generalize pinS (freshS 9 mo) pn = s0 at *
  go_wp2_with fail
  go_loopw [9, 10, 11, 12, 13, 14, 15] (fun v9 _ _ _ _ _ _ wr => ∃ (i : Nat) (s : St) (V : List Int), v9 = .int .i64 (i : Int) ∧ i ≤ 60 ∧ i ≤ m ∧ WY wr w1.heap.size w3.heap.size x d lb g pp s ∧ Sv s (fun k => V.getD k.toNat 0) pn ∧ Bd s i ∧ V.length = 9 ∧ Byt V ∧ At wr w3.heap.size (V.map (Value.int .u8)).toArray 38 ∧ Below w.heap.size w wr) (fun v9 _ _ _ _ _ _ _ => 100 - (intOf v9).toNat)
  case atStart =>
    exact ⟨0, s0, List.replicate 9 0, rfl, by omega, by omega, WY.of hW3x.out (below_new w3 _) (Nat.le_refl _) (by simp), by
      have h := hSx.out
      have e : (fun k : Int => (List.replicate 9 (0 : Int)).getD k.toNat 0) = fun _ => 0 := by
        funext k
        rw [List.getD_eq_getElem?_getD]
        rcases Nat.lt_or_ge k.toNat 9 with hk | hk
        · rw [List.getElem?_replicate_of_lt hk]; rfl
        · rw [List.getElem?_eq_none (by simpa using hk)]; rfl
      rw [e]; exact h, hbd.out, rfl, fun y hy => by rw [List.eq_of_mem_replicate hy]; omega, At.new w3 _ _, below_keep (below_new w3 _) hB3⟩
  case round =>
    obtain ⟨i, s, V, rfl, hi60, him, hW, hS, hBd, hVl, hVb, hA, hB⟩ := hrel
    have hWx := Lib.hid hW
    have hSx2 := Lib.hid hS
    have hBdx := Lib.hid hBd
    have hVbx := Lib.hid hVb
    have hVlx := Lib.hid hVl
    have kx := hW.wx.at_
    clear hW hS hBd hVb hVl
    by_cases hgo : i < m ∧ i < 60
    · obtain ⟨hg1, hg2⟩ := hgo
      obtain ⟨ob, oo, rfl, -, hob, hoc⟩ := hbx.out.2.2 (by omega)
      obtain ⟨y, hy⟩ : ∃ y, l.getD i 0 = y := ⟨_, rfl⟩
      have hyr := hbx.out.2.1.getD i
      rw [hy] at hyr
      have hcy : wr.cell? ⟨ob, oo + i, none⟩ = some (.int .u8 y) := by
        have := hoc i hg1
        unfold bsF at this
        rw [hy] at this
        exact (hB.cell (p := ⟨ob, oo + i, none⟩) hob).trans this
      have hg1i : (i : Int) < m := by omega
      have hg2i : (i : Int) < 60 := by omega
      have hi0 : (0 : Int) ≤ i := by omega
      have y1 : IntKind.i64.wrap y = y := IntWalk.i64_in _ (by omega)
      obtain ⟨k, hk⟩ : ∃ k : Nat, (k : Int) = y % 9 := ⟨(y % 9).toNat, by omega⟩
      have hkr : k < 9 := by omega
      have y2 : y.tmod 9 = (k : Int) := by rw [Int.tmod_eq_emod_of_nonneg hyr.1, hk]
      have y3 : IntKind.i64.wrap (k : Int) = k := IntWalk.i64_in _ (by omega)
      have y4 : IntKind.u8.wrap ((i : Int) + 1) = (i : Int) + 1 := IntWalk.u8_in _ (by omega)
      have y5 : IntKind.i64.wrap ((i : Int) + 1) = (i : Int) + 1 := IntWalk.i64_in _ (by omega)
      have yx := Lib.hid hyr
      clear hk hy hyr
      have kxc := kx.c; have kxf := kx.f; have kxl := kx.lt
      have hkrx := Lib.hid hkr
      clear hkr
      go_upto_region 11 with (fail)
      have d3 : Below wr.heap.size wr wr.drew := below_dr (Below.refl _ _)
      have kd := At.keep d3 kx
      have kdc := kd.c
      have hcy3 : wr.drew.cell? ⟨ob, oo + i, none⟩ = some (.int .u8 y) := hcy
      have hal : Below wr.heap.size wr (wr.alloc (.cells #[.int .u8 y] 5)).drew := below_dr (below_new wr _)
      have hbl : BsR (wr.alloc (.cells #[.int .u8 y] 5)).drew 0 (wr.alloc (.cells #[.int .u8 y] 5)).drew.heap.size (some ⟨wr.heap.size, 0, none⟩) 1 [y] := BsR.single ((At.new wr #[.int .u8 y] 5).c 0) (by show wr.heap.size < (wr.alloc _).heap.size; simp) yx.out.1 yx.out.2
      have hrm : ((1 : Nat) : Int) + 2 ≤ roomL s.L := by
        unfold roomL
        rw [hSx2.out.ll.2.1, hBdx.out.en, hSx2.out.ll.2.2.1, hSx2.out.ll.2.2.2]
        omega
      have hcall := Lib.hid (wy_app (mc := 1) (p := [y]) hWx.out hal hSx2.out.inv.li hbl (Nat.le_refl _) (by omega) (by omega) hrm)
      have hcyl : (wr.alloc (.cells #[.int .u8 y] 5)).drew.cell? ⟨ob, oo + i, none⟩ = some (.int .u8 y) := (hal.cell (p := ⟨ob, oo + i, none⟩) (World.block_lt_of_cell? wr ⟨ob, oo + i, none⟩ hcy)).trans hcy
      have f3 := And.intro (At.keep hal kx).c hcyl
      have hobw : ob < w1.heap.size := Nat.lt_of_lt_of_le hob hw1
      go_region_held3 (fun w' => (∀ o9, w'.cell? ⟨x, o9, none⟩ = #[.pointer (some ⟨d, 0, none⟩), .pointer (some ⟨g, 0, none⟩), .pointer (some ⟨pp, 0, none⟩)][o9]?) ∧ w'.cell? ⟨ob, oo + i, none⟩ = some (.int .u8 y))
        (first
          | (exact ⟨kdc, hcy3⟩)
          | (exact f3)
          | (exact f4))
        (first
          | (go_at_call 20; with_reducible refine hcall.out.mono ?_; rintro e w4 ⟨rfl, hT4⟩
             have f4 := And.intro hT4.1.wx.at_.c ((hT4.2.1.cell (p := ⟨ob, oo + i, none⟩) hobw).trans ((hal.cell (p := ⟨ob, oo + i, none⟩) (World.block_lt_of_cell? wr ⟨ob, oo + i, none⟩ hcy)).trans hcy)))
          | fail)
      have hyc4 := f4.2
      have hI1 := appL_end s.L 0 [y]
      have hApp := app_ok (hold := 0) (p := [y]) hSx2.out.inv.li (by omega) (by show ((1 : Nat) : Int) + 2 ≤ _; omega)
      have hS1 := hSx2.out.app (p := [y]) hApp.2 (by rw [hI1, hBdx.out.en]; show (480 : Int) + 3 * i + 2 + ((1 : Nat) : Int) ≤ _; omega)
      have hT := hT4.2.2 _ _ (At.keep hal hA)
      have hB4 : Below w.heap.size w w4 := below_tr (below_keep hal hB) (Below.mono hT4.2.1 hw1)
      have hF1 : Fits ⟨s.P, s.D, appL s.L 0 [y]⟩ := ⟨hBdx.out.su, by show endL (appL s.L 0 [y]) ≤ _; rw [hI1, hBdx.out.en]; show (480 : Int) + 3 * i + 2 + ((1 : Nat) : Int) ≤ _; omega, by have := hBdx.out.op; show s.D.ops ≤ _; omega, by have := hBdx.out.wy; show s.D.way.length ≤ _; omega⟩
      have hK1 := hT4.1.wx.keys
      obtain ⟨g1, g2, g3⟩ := hS1.get (i := (k : Int)) hF1 hK1 (by have := hkrx.out; omega)
      have hW4x := Lib.hid hT4.1
      have k4 := hT4.1.wx.at_
      obtain ⟨at9, hat9⟩ : ∃ q, endL s.L = q := ⟨_, rfl⟩
      have hatx : Hid (at9 = 480 + 3 * (i : Int)) := Lib.hid (by rw [← hat9]; exact hBdx.out.en)
      rw [hat9]
      have hate := Lib.hid hat9
      have g1x := Lib.hid g1
      have g2x := Lib.hid g2
      have g3x := Lib.hid g3
      have hS1x := Lib.hid hS1
      have hTx := Lib.hid hT
      clear hat9 g1 g2 g3 hS1 hT hT4 hK1 hF1 hApp hI1 f3 f4 kdc hcy3 hcyl hal hbl hrm hcall kx kxc kxf kxl kd d3 hA
      have k4c := k4.c; have k4f := k4.f; have k4l := k4.lt
      go_wp2_with fail
      have hal2 : Below w4.heap.size w4 (w4.alloc (.cells #[.int .u8 ((i : Int) + 1)] 5)) := below_new w4 _
      have hbl2 : BsR (w4.alloc (.cells #[.int .u8 ((i : Int) + 1)] 5)) 0 (w4.alloc (.cells #[.int .u8 ((i : Int) + 1)] 5)).heap.size (some ⟨w4.heap.size, 0, none⟩) 1 [(i : Int) + 1] := BsR.single ((At.new w4 #[.int .u8 ((i : Int) + 1)] 5).c 0) (by simp) (by omega) (by omega)
      refine (wy_write (mc := 1) (b := [(i : Int) + 1]) (k : Int) 3 at9 hW4x.out hal2 hS1x.out.inv (by show s.P.clock + 1 ≤ _; rw [hBdx.out.ck]; omega) g1x.out (by have := hatx.out; omega) hbl2 (Nat.le_refl _) (by omega) (by omega)).mono ?_
      rintro e w5 ⟨rfl, hT5⟩
      have hA5 := hT5.2.2 _ _ (At.keep hal2 hTx.out)
      have hB5 : Below w.heap.size w w5 := below_tr (below_keep hal2 hB4) (Below.mono hT5.2.1 hw1)
      have hen1 : endL (⟨s.P, s.D, appL s.L 0 [y]⟩ : St).L = 483 + 3 * (i : Int) := by
        show endL (appL s.L 0 [y]) = _
        rw [appL_end, hBdx.out.en]; show (480 : Int) + 3 * i + 2 + ((1 : Nat) : Int) = _; omega
      obtain ⟨v1, v2, v3, v4⟩ := steal_write hT5.1 g1x.out g2x.out (by rw [g3x.out.en, hen1]; have := hatx.out; omega)
      have hyc5 : w5.cell? ⟨ob, oo + i, none⟩ = some (.int .u8 y) := (hT5.2.1.cell (p := ⟨ob, oo + i, none⟩) hobw).trans ((hal2.cell (p := ⟨ob, oo + i, none⟩) (World.block_lt_of_cell? w4 ⟨ob, oo + i, none⟩ hyc4)).trans hyc4)
      have v1x := Lib.hid v1
      have v2x := Lib.hid v2
      have v3x := Lib.hid v3
      have v4x := Lib.hid v4
      have hW5x := Lib.hid hT5.1
      have hA5c : w5.cell? ⟨w3.heap.size, k, none⟩ = some (.int .u8 (V.getD k 0)) := by
        rw [hA5.c k, List.getElem?_toArray]
        exact map_at (by rw [hVlx.out]; exact hkrx.out)
      have hA5f := hA5.f
      have hA5l := hA5.lt
      have hen1x := Lib.hid hen1
      have hk9 := hkrx.out
      have hk9i : (k : Int) < 9 := by omega
      have hk0i : (0 : Int) ≤ k := by omega
      clear v1 v2 v3 v4 hT5 hal2 hbl2 k4 k4c k4f k4l hyc4 hen1
      go_upto_region 15 with (fail)
      have e6 : (V.map (Value.int .u8)).toArray.setIfInBounds k (.int .u8 ((i : Int) + 1)) = ((V.set k ((i : Int) + 1)).map (Value.int .u8)).toArray := by simp [List.map_set]
      have hA6 := At.set (o := k) (v := .int .u8 ((i : Int) + 1)) hA5
      rw [e6] at hA6
      have m6 := (Mod.refl (fun q => q = w3.heap.size) w5).set (k := w3.heap.size) (.inl rfl) (o := k) (.int .u8 ((i : Int) + 1))
      have hxla : x ≠ w3.heap.size := fun e => by have := hW3x.out.at_.lt; omega
      have hW6 := hW5x.out.own hxla m6
      have hB6 : Below w.heap.size w (w5.setCell ⟨w3.heap.size, k, none⟩ (.int .u8 ((i : Int) + 1))) := below_tr hB5 (m6.below hB5.size (fun q hq => by have := hB3.size; omega))
      have hyc6 : (w5.setCell ⟨w3.heap.size, k, none⟩ (.int .u8 ((i : Int) + 1))).cell? ⟨ob, oo + i, none⟩ = some (.int .u8 y) := (World.cell?_of_block (a := ⟨ob, oo + i, none⟩) (m6.block ob (World.block_lt_of_cell? w5 ⟨ob, oo + i, none⟩ hyc5) (fun e => by have := hB3.size; omega))).trans hyc5
      have hS6 := v1x.out.lastTo (last' := fun j => (V.set k ((i : Int) + 1)).getD j.toNat 0) (fun j h0 h1 => by
        obtain ⟨jn, rfl⟩ : ∃ n : Nat, j = (n : Int) := ⟨j.toNat, by omega⟩
        have hVl := hVlx.out
        by_cases e : jn = k
        · subst e
          simp [List.getD, hVl, hk9]
        · rw [if_neg (by omega)]
          simp [List.getD, List.getElem?_set_ne (Ne.symm e)])
      have hS6x := Lib.hid hS6
      have hW6x := Lib.hid hW6
      have hV6 : (V.set k ((i : Int) + 1)).length = 9 := by rw [List.length_set]; exact hVlx.out
      have hVb6 : Byt (V.set k ((i : Int) + 1)) := fun q hq => (List.mem_or_eq_of_mem_set hq).elim (hVbx.out q) (fun e => by omega)
      clear hA5 hA5c hA5f hA5l hS6 hW6 m6 e6 hyc5
      generalize (w5.setCell ⟨w3.heap.size, k, none⟩ (.int .u8 ((i : Int) + 1))) = w6 at *
      have hen6 : Hid (endL (wrS ⟨s.P, s.D, appL s.L 0 [y]⟩ k 3 [(i : Int) + 1] at9).L = 483 + 3 * (i : Int)) := Lib.hid (by rw [v3x.out, g3x.out.en]; exact hen1x.out)
      have hck6 : Hid ((wrS ⟨s.P, s.D, appL s.L 0 [y]⟩ k 3 [(i : Int) + 1] at9).P.clock = 2 + 2 * (i : Int)) := Lib.hid (by
        rw [v4x.out, getS_clock (by rw [hS1x.out.pg]; have := hkrx.out; omega)]
        show s.P.clock + 1 = _
        rw [hBdx.out.ck]; omega)
      have hop6 : Hid ((wrS ⟨s.P, s.D, appL s.L 0 [y]⟩ k 3 [(i : Int) + 1] at9).D.ops ≤ 10 + 8 * (i : Int)) := Lib.hid (by rw [v2x.out]; have h := g3x.out.ops; have h2 := hBdx.out.op; have h3 : (getS ⟨s.P, s.D, appL s.L 0 [y]⟩ k).D.ops ≤ s.D.ops + 4 := h; omega)
      have hwy6 : Hid ((wrS ⟨s.P, s.D, appL s.L 0 [y]⟩ k 3 [(i : Int) + 1] at9).D.way.length ≤ 4 + 8 * i) := Lib.hid (by rw [v2x.out]; have h2 := hBdx.out.wy; have h3 : (getS ⟨s.P, s.D, appL s.L 0 [y]⟩ k).D.way.length ≤ s.D.way.length + 4 := g3x.out.way; omega)
      have hsu6 : Hid (480 ≤ (wrS ⟨s.P, s.D, appL s.L 0 [y]⟩ k 3 [(i : Int) + 1] at9).L.sure) := Lib.hid (by rw [v3x.out]; have h2 := hBdx.out.su; have h3 : s.L.sure ≤ (getS ⟨s.P, s.D, appL s.L 0 [y]⟩ k).L.sure := g3x.out.su; omega)
      generalize wrS ⟨s.P, s.D, appL s.L 0 [y]⟩ k 3 [(i : Int) + 1] at9 = s6 at *
      obtain ⟨qn, hqn⟩ : ∃ q : Nat, (q : Int) = y / 9 := ⟨(y / 9).toNat, by have := yx.out; omega⟩
      have hqr : qn ≤ 28 := by have := yx.out; omega
      obtain ⟨j9, hj9⟩ : ∃ q : Nat, (q : Int) = (qn : Int) % 9 := ⟨qn % 9, by omega⟩
      have hjr : j9 < 9 := by omega
      have z1 : y.tdiv 9 = (qn : Int) := by rw [Int.tdiv_eq_ediv_of_nonneg yx.out.1, hqn]
      have z2 : IntKind.u8.wrap (qn : Int) = qn := IntWalk.u8_in _ (by omega)
      have z3 : IntKind.i64.wrap (qn : Int) = qn := IntWalk.i64_in _ (by omega)
      have z4 : (qn : Int).tmod 9 = (j9 : Int) := by rw [Int.tmod_eq_emod_of_nonneg (by omega), hj9]
      have z5 : IntKind.i64.wrap (j9 : Int) = j9 := IntWalk.i64_in _ (by omega)
      have hjx := Lib.hid hjr
      have hF6 : Fits s6 := ⟨hsu6.out, by rw [hen6.out]; omega, by have := hop6.out; omega, by have := hwy6.out; omega⟩
      obtain ⟨g4, g5, g6⟩ := hS6x.out.get (i := (j9 : Int)) hF6 hW6x.out.wx.keys (by omega)
      have d6 : Below w6.heap.size w6 w6.drew := below_dr (Below.refl _ _)
      have hcall6 := Lib.hid (wy_read (j9 : Int) (hW6x.out.later d6) hS6x.out.inv (by rw [hck6.out]; omega) g4)
      have k6 := At.keep d6 hW6x.out.wx.at_
      have k6c := k6.c
      have hyc6d : w6.drew.cell? ⟨ob, oo + i, none⟩ = some (.int .u8 y) := hyc6
      have hA6d : At w6.drew w3.heap.size _ _ := At.keep d6 hA6
      have g4x := Lib.hid g4
      have g5x := Lib.hid g5
      have g6x := Lib.hid g6
      clear hqn hj9 hjr g4 g5 g6 hF6
      go_region_held3 (fun w' => (∀ o9, w'.cell? ⟨x, o9, none⟩ = #[.pointer (some ⟨d, 0, none⟩), .pointer (some ⟨g, 0, none⟩), .pointer (some ⟨pp, 0, none⟩)][o9]?) ∧ w'.cell? ⟨ob, oo + i, none⟩ = some (.int .u8 y))
        (first
          | (exact ⟨k6c, hyc6d⟩)
          | (exact f4))
        (first
          | (go_at_call 17; with_reducible refine hcall6.out.mono ?_; rintro e w7 ⟨fr7, A7, c7, hfr7, rfl, how7, hT7⟩
             have f4 := And.intro hT7.1.wx.at_.c ((hT7.2.1.cell (p := ⟨ob, oo + i, none⟩) hobw).trans hyc6d))
          | fail)
      have hA7 := hT7.2.2 _ _ hA6d
      have hyc7 := f4.2
      have hB7 : Below w.heap.size w w7 := below_tr (below_keep d6 hB6) (Below.mono hT7.2.1 hw1)
      have hen7 : Hid (endL (getS s6 j9).L = 483 + 3 * (i : Int)) := Lib.hid (by rw [g6x.out.en]; exact hen6.out)
      have hck7 : Hid ((getS s6 j9).P.clock = 3 + 2 * (i : Int)) := Lib.hid (by rw [getS_clock (by rw [hS6x.out.pg]; have := hjx.out; omega), hck6.out]; omega)
      have hop7 : Hid ((getS s6 j9).D.ops ≤ 14 + 8 * (i : Int)) := Lib.hid (by have := g6x.out.ops; have := hop6.out; omega)
      have hwy7 : Hid ((getS s6 j9).D.way.length ≤ 8 + 8 * i) := Lib.hid (by have := g6x.out.way; have := hwy6.out; omega)
      have hsu7 : Hid (480 ≤ (getS s6 j9).L.sure) := Lib.hid (by have := g6x.out.su; have := hsu6.out; omega)
      have hW7x := Lib.hid hT7.1
      have hfr7x := Lib.hid hfr7
      obtain ⟨ga, rfl⟩ := OwB.some8 how7 (by omega)
      have hval := g5x.out.val (j9 : Int) (by omega) (by have := hjx.out; omega)
      have hcont : cont (getS s6 j9) j9 = fr7.p := by unfold cont; rw [hfr7]
      rw [hcont] at hval
      obtain ⟨vj, hvj⟩ : ∃ q, (V.set k ((i : Int) + 1)).getD j9 0 = q := ⟨_, rfl⟩
      have hval2 : fr7.p.getD 11 0 = vj := by rw [hval, ← hvj]; simp
      have hcb : w7.cell? ⟨ga, 3, none⟩ = some (.int .u8 vj) := by
        obtain ⟨gb', go', hAA, -, -, hc0⟩ := how7.reads.at_ (k := 3) (by omega)
        injection hAA with hAA
        injection hAA with e1 e2
        subst e1; subst e2
        rw [Nat.zero_add] at hc0
        rw [hc0, ← hval2]
        simp [List.getD_eq_getElem?_getD, List.getElem?_drop]
      have hcl : w7.cell? ⟨w3.heap.size, j9, none⟩ = some (.int .u8 vj) := by
        rw [hA7.c j9, List.getElem?_toArray, ← hvj]
        exact map_at (by rw [hV6]; exact hjx.out)
      have hls := g5x.out.fl (j9 : Int) fr7 hfr7
      obtain ⟨ls, hlse⟩ : ∃ q, lsnP fr7 = q := ⟨_, rfl⟩
      rw [hlse]
      rw [hlse, hen7.out] at hls
      have hsure : ∀ W, Below w7.heap.size w7 W → Calls Try.prog 23 #[.pointer (some ⟨x, 0, none⟩), .int .i64 9] W fun e w' => e = .returned (.bool true) ∧ Below W.heap.size W w' := fun W hb => sure_calls (n := 9) W (by omega) (hW7x.out.wx.later hb) g5x.out.inv.q (by rw [g5x.out.dn]; omega) (fun q hq => g5x.out.dl (q : Int) (by omega) (by omega))
      have hsurex := Lib.hid hsure
      have hendx : Hid (∀ W, Below w7.heap.size w7 W → Calls Try.prog 22 #[.pointer (some ⟨g, 0, none⟩)] W fun e w' => e = .returned (.int .u64 (483 + 3 * (i : Int))) ∧ ∃ q, w' = W.drewN q) := Lib.hid (fun W hb => by
        obtain ⟨bA9, bc9, hL9⟩ := (hW7x.out.wx.later hb).lg
        exact lend_q W _ hL9 hen7.out)
      have k7 := hT7.1.wx.at_
      have d7 : Below w7.heap.size w7 w7.drew := below_dr (Below.refl _ _)
      have k7c := (At.keep d7 k7).c
      have hng : ¬ ((483 : Int) + 3 * i ≤ ls) := by omega
      have hngb : decide ((483 : Int) + 3 * i ≤ ls) = false := by simp; omega
      have hj9i : (j9 : Int) < 9 := by have := hjx.out; omega
      have hj9n := hjx.out
      have hj0i : (0 : Int) ≤ j9 := by omega
      have S7 : (∀ o9, w7.drew.cell? ⟨x, o9, none⟩ = #[.pointer (some ⟨d, 0, none⟩), .pointer (some ⟨g, 0, none⟩), .pointer (some ⟨pp, 0, none⟩)][o9]?) ∧ w7.drew.cell? ⟨ob, oo + i, none⟩ = some (.int .u8 y) ∧ w7.drew.cell? ⟨ga, 3, none⟩ = some (.int .u8 vj) ∧ w7.drew.cell? ⟨w3.heap.size, j9, none⟩ = some (.int .u8 vj) := ⟨k7c, hyc7, hcb, hcl⟩
      clear hlse hval hcont hval2 how7 hfr7 hsure f4 k6c hyc6d hvj hcall6 hT7 hA6d
      go_upto_region 16 with (fail)
      have hgl3 := World.block_lt_of_cell? w7 ⟨ga, 3, none⟩ hcb
      have hll := World.block_lt_of_cell? w7 ⟨w3.heap.size, j9, none⟩ hcl
      have hol := World.block_lt_of_cell? w7 ⟨ob, oo + i, none⟩ hyc7
      have SB : ∀ W, Below w7.heap.size w7 W → (∀ o9, W.cell? ⟨x, o9, none⟩ = #[.pointer (some ⟨d, 0, none⟩), .pointer (some ⟨g, 0, none⟩), .pointer (some ⟨pp, 0, none⟩)][o9]?) ∧ W.cell? ⟨ob, oo + i, none⟩ = some (.int .u8 y) ∧ W.cell? ⟨ga, 3, none⟩ = some (.int .u8 vj) ∧ W.cell? ⟨w3.heap.size, j9, none⟩ = some (.int .u8 vj) := fun W hb => ⟨(At.keep hb k7).c, (hb.cell (p := ⟨ob, oo + i, none⟩) hol).trans hyc7, (hb.cell (p := ⟨ga, 3, none⟩) hgl3).trans hcb, (hb.cell (p := ⟨w3.heap.size, j9, none⟩) hll).trans hcl⟩
      have SBx := Lib.hid SB
      clear SB
      go_region_held3 (fun w' => (∀ o9, w'.cell? ⟨x, o9, none⟩ = #[.pointer (some ⟨d, 0, none⟩), .pointer (some ⟨g, 0, none⟩), .pointer (some ⟨pp, 0, none⟩)][o9]?) ∧ w'.cell? ⟨ob, oo + i, none⟩ = some (.int .u8 y) ∧ w'.cell? ⟨ga, 3, none⟩ = some (.int .u8 vj) ∧ w'.cell? ⟨w3.heap.size, j9, none⟩ = some (.int .u8 vj))
        (first
          | (exact S7)
          | (exact f8)
          | (exact f9))
        (first
          | (go_at_call 22; with_reducible refine (hendx.out w7.drew d7).mono ?_; rintro e w8 ⟨rfl, kE, hkE⟩
             have hb8 : Below w7.heap.size w7 w8 := by rw [hkE]; exact below_drewN d7 kE
             clear hkE
             have f8 := SBx.out w8 hb8)
          | (go_at_call 23; with_reducible refine (hsurex.out w8 hb8).mono ?_; rintro e w9 ⟨rfl, hb9'⟩
             have hb9 : Below w7.heap.size w7 w9 := below_keep hb9' hb8
             have f9 := SBx.out w9 hb9)
          | fail)
      have hW9 := hW7x.out.later hb9
      have hA9 := At.keep hb9 hA7
      have hB9 := below_keep hb9 hB7
      have hfin : ∃ (i' : Nat) (s' : St) (V' : List Int), ((i : Int) + 1 : Int) = (i' : Int) ∧ i' ≤ 60 ∧ i' ≤ m ∧ WY w9 w1.heap.size w3.heap.size x d lb g pp s' ∧ Sv s' (fun k => V'.getD k.toNat 0) pn ∧ Bd s' i' ∧ V'.length = 9 ∧ Byt V' ∧ At w9 w3.heap.size (V'.map (Value.int .u8)).toArray 38 ∧ Below w.heap.size w w9 ∧ i' = i + 1 :=
        ⟨i + 1, getS s6 j9, V.set k ((i : Int) + 1), by omega, by omega, by omega, hW9, g5x.out, ⟨by rw [hck7.out]; omega, by have := hop7.out; omega, by have := hwy7.out; omega, by rw [hen7.out]; omega, hsu7.out⟩, hV6, hVb6, hA9, hB9, rfl⟩
      have hfinx := Lib.hid hfin
      clear hfin hW9 hA9 hB9 f8 f9 S7
      go_wp2
      go_roundw
      case rel =>
        obtain ⟨i', s', V', e1, f1, f2, f3, f4, f5, f6, f7, f8, f9, -⟩ := hfinx.out
        exact ⟨i', s', V', by rw [← e1], f1, f2, f3, f4, f5, f6, f7, f8, f9⟩
      case measure => simp [intOf]; omega
    · have hno : ¬ ((i : Int) < m) ∨ ¬ ((i : Int) < 60) := by omega
      have hkx := hWx.out.wx.keys
      have hpx2 := hpx.out
      obtain ⟨f, hf, hfp, hU⟩ := hSx2.out.unpin hpx2.1
      have hen8 := hBdx.out.en
      have hop8 := hBdx.out.op
      have hwy8 := hBdx.out.wy
      have hsu8 := hBdx.out.su
      have hfx := Lib.hid hf
      have hUx := Lib.hid hU
      obtain ⟨u, hu⟩ : ∃ u : St, ⟨setFr s.P pn (pinF f (-1)), s.D, s.L⟩ = u := ⟨_, rfl⟩
      have hux := Lib.hid hu
      have hUe : Hid (480 ≤ u.L.sure ∧ endL u.L ≤ 1000 ∧ u.D.ops ≤ 200000 ∧ u.D.way.length ≤ 200000) := Lib.hid (by rw [← hu]; exact ⟨hsu8, by show endL s.L ≤ _; omega, by show s.D.ops ≤ _; omega, by show s.D.way.length ≤ _; omega⟩)
      clear hen8 hop8 hwy8 hsu8 hf hU hu
      have kxc := kx.c; have kxf := kx.f; have kxl := kx.lt
      have hway : (decide ((i : Int) < m) = true ∧ decide ((i : Int) < 60) = false ∧ i < m ∧ ¬ i < 60) ∨ (decide ((i : Int) < m) = false ∧ True ∧ True ∧ ¬ i < m) := by
        rcases hno with h | h
        · exact .inr ⟨by simp; omega, trivial, trivial, by omega⟩
        · by_cases h2 : (i : Int) < m
          · exact .inl ⟨by simp; omega, by simp; omega, by omega, by omega⟩
          · exact .inr ⟨by simp; omega, trivial, trivial, by omega⟩
      clear hno hgo
      obtain ⟨U, hU⟩ : ∃ U : St, allS u = U := ⟨_, rfl⟩
      have hUUx := Lib.hid hU
      have hSu : Sv u (fun k => V.getD k.toNat 0) (-1) := by rw [← hux.out]; exact hUx.out
      have hSux := Lib.hid hSu
      have hcall8 := wy_unpin pn f hWx.out hfx.out hfp
      rw [hux.out] at hcall8
      have hcall8x := Lib.hid hcall8
      clear hSu hcall8 hfp
      rcases hway with ⟨a1, a2, a3, a4⟩ | ⟨a1, a2, a3, a4⟩
      all_goals
        go_wp2_with fail
        refine hcall8x.out.mono ?_
        rintro e w8 ⟨rfl, hT8⟩
        have k8 := hT8.1.wx.at_
        have k8c := k8.c; have k8f := k8.f; have k8l := k8.lt
        go_wp2_with fail
        refine (wy_all hT8.1 (steal_end hSux.out hT8.1.wx.keys hUe.out.1 hUe.out.2.1 hUe.out.2.2.1 hUe.out.2.2.2).1).mono ?_
        rw [hUUx.out]
        rintro e w9 ⟨rfl, hT9⟩
        have k9 := hT9.1.wx.at_
        obtain ⟨-, hE1, hE2, hE3⟩ := steal_end hSux.out hT8.1.wx.keys hUe.out.1 hUe.out.2.1 hUe.out.2.2.1 hUe.out.2.2.2
        have hgs := allS_gs u
        rw [hUUx.out] at hE1 hE2 hE3 hgs
        have hA9 := hT9.2.2 _ _ (hT8.2.2 _ _ hA)
        have hB9 : Below w.heap.size w w9 := below_tr (below_tr hB (Below.mono hT8.2.1 hw1)) (Below.mono hT9.2.1 hw1)
        have hval : ∀ k : Nat, k < 9 → (U.D.l.getD (41 + k) []).getD 11 0 = V.getD k 0 := fun k hk => by
          have h := hE1 (k : Int) (by omega) (by omega) (hT9.1.gone hgs k)
          have e : pgI (k : Int) = 41 + k := by unfold pgI; omega
          rw [e] at h
          exact h
        have hvalx := Lib.hid hval
        have hE2x := Lib.hid hE2
        have hW9x := Lib.hid hT9.1
        clear hE1 hE2 hE3 hgs hval hT9 hT8 k8 k8c k8f k8l
        have k9c := k9.c; have k9f := k9.f; have k9l := k9.lt
        go_wp2_with fail
        refine (wy_rest hW9x.out).mono ?_
        rintro e w10 ⟨rfl, k10, hk10, hD10, hb10⟩
        have hA10 := hk10 _ _ hA9
        have hB10 := below_tr hB9 (Below.mono hb10 hw1)
        have hDx := Lib.hid hD10
        have hVlx2 := hVlx.out
        clear hk10 hD10 hb10 hA9 hB9 k9 k9c k9f k9l
        go_wp2_with fail
        go_loopw [16, 17, 18] (fun v16 _ _ wr => ∃ k : Nat, v16 = .int .i64 (k : Int) ∧ k ≤ 9 ∧ Below w10.heap.size w10 wr) (fun v16 _ _ _ => 9 - (intOf v16).toNat)
        case atStart => exact ⟨0, rfl, Nat.zero_le _, Below.refl _ _⟩
        case round =>
          obtain ⟨k, rfl, hk9, hBr⟩ := hrel
          by_cases hlt : k < 9
          · have hkl : (k : Int) < 9 := by omega
            have hk0 : (0 : Int) ≤ k := by omega
            have kr := At.keep hBr k10
            obtain ⟨Fr, hDr⟩ := hDx.out
            obtain ⟨r1, r2, r3⟩ := rest_nil U.D
            have hlen : (restD U.D 0 []).l.length = 50 := by rw [r1]; exact hE2x.out
            have hz1 : IntKind.i64.wrap (41 + (k : Int)) = ((41 + k : Nat) : Int) := by rw [IntWalk.i64_in _ (by omega)]; omega
            have hz2 : IntKind.i64.wrap ((k : Int) + 1) = (k : Int) + 1 := IntWalk.i64_in _ (by omega)
            have hv := hvalx.out k hlt
            obtain ⟨sec, hsec⟩ : ∃ y, readD (restD U.D 0 []) (41 + k) = y := ⟨_, rfl⟩
            have hv2 : sec.getD 11 0 = V.getD k 0 := by rw [← hsec, read_none r2, r1]; exact hv
            have hsecx := Lib.hid hsec
            obtain ⟨m41, hm41⟩ : ∃ y, 41 + k = y := ⟨_, rfl⟩
            have hmx := Lib.hid hm41
            rw [hm41] at hz1
            have hcall := Lib.hid (rd_dd m41 wr (hDr.later hBr) (by rw [hlen]; omega) r3)
            clear hsec hm41 hDr r1 r2 r3 hlen hv
            have krc := kr.c; have krf := kr.f; have krl := kr.lt
            go_wp2_with fail
            refine hcall.out.mono ?_
            rw [← hmx.out, hsecx.out]
            rintro e w12 ⟨qb, rfl, hq2, hb2, hqw⟩
            have hA12 := At.keep hb2 (At.keep hBr hA10)
            have hB12 := below_keep hb2 hBr
            obtain ⟨vk, hvk⟩ : ∃ y, V.getD k 0 = y := ⟨_, rfl⟩
            rw [hvk] at hv2
            have hc1 : w12.cell? ⟨qb, 11, none⟩ = some (.int .u8 vk) := by
              obtain ⟨gb', go', hAA, -, -, hc0⟩ := hq2.bs9.at_ (k := 11) (by omega)
              injection hAA with hAA
              injection hAA with e1 e2
              subst e1; subst e2
              rw [Nat.zero_add] at hc0
              rw [hc0, ← hv2]
            have hc2 : w12.cell? ⟨w3.heap.size, k, none⟩ = some (.int .u8 vk) := by
              rw [hA12.c k, List.getElem?_toArray, ← hvk]
              exact map_at (by omega)
            clear hq2 hqw hv2 hvk kr krc krf krl hA12
            go_upto_region 25 with (fail)
            go_quiet (fail)
            go_wp2
            go_roundw
            case rel => exact ⟨k + 1, by go_num, by omega, below_keep (below_drewN (Below.refl _ _) _) hB12⟩
            case measure => simp [intOf]; omega
          · have hkl : ¬ ((k : Int) < 9) := by omega
            go_wp2
            go_ret
            exact ⟨by first | rfl | simp, below_tr hB10 (hBr.mono (by have := hB10.size; omega))⟩
end Go.Proofs.Ytggeepihkeocmaa
