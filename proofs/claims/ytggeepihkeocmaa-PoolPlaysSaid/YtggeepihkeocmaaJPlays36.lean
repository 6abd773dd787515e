/- Joined texts: PpJ, PpK. -/
import Derived.Test.YtggeepihkeocmaaJPlays34
import Derived.Test.YtggeepihkeocmaaJPlays35
/- PoolPlays: the model's dirty. -/
namespace Go.Proofs.Ytggeepihkeocmaa
set_option linter.unusedVariables false
set_option linter.unusedSimpArgs false
open Go.RowKit Go.Maps
theorem info64 : (Try.prog.info? 33).map (fun i => (i.zero, i.size, i.bytes)) = some (some (.int .u64 0), 1, 8) := by kernel_rfl
theorem grown_none9 {w w2 : World} (h : w.grownBy w2 none) : Below w.heap.size w w2 := (Below.refl _ _).grown h (Nat.le_refl _) (fun j hj => by cases hj)
theorem RwA.of_own {w : World} {base e g n c m : Nat} {xs : List Value} (h : w.ownsRow base e 1 (.slice (some ⟨g, 0, none⟩) n c) m xs) (f : Nat → Value) (hx : ∀ j, j < m → xs[j]? = some (f j)) : RwA w g e m f := by
  rcases h.2 with ⟨hv, -⟩ | ⟨g', cap, cur, hv, hb, hat, hnc, hcm, hcs, htk⟩
  · injection hv with h1; cases h1
  · injection hv with h1 h2 h3
    injection h1 with h1
    injection h1 with h1
    subst h1
    refine ⟨cur, hat, by omega, fun j hj => ?_⟩
    have h4 : (cur.toList.take (m * 1))[j]? = some (f j) := by rw [htk]; exact hx j hj
    rw [List.getElem?_take_of_lt (by omega)] at h4
    rw [← Array.getElem?_toList]
    exact h4
theorem made1 {v : Value} (hv : v.cells = #[v]) (n j : Nat) (h : j < n) : (madeCells v.cells (n * 1)).toList[j]? = some v := by
  rw [hv]
  simp [madeCells, h, Nat.mod_one]
theorem drC_at (P : Pl) : ∀ (ks : List Int) (j : Nat), j < ks.length → (drC P ks)[j * 2]? = some (.int .i64 (ks.getD j 0)) ∧ (drC P ks)[j * 2 + 1]? = some (.int .u64 ((dirtyV P (ks.getD j 0)).getD 0))
  | [], j, h => by cases h
  | k :: ks, 0, _ => ⟨rfl, rfl⟩
  | k :: ks, j + 1, h => by
    have ih := drC_at P ks j (by simpa using h)
    have e : drC P (k :: ks) = .int .i64 k :: .int .u64 ((dirtyV P k).getD 0) :: drC P ks := rfl
    rw [e, show (j + 1) * 2 = j * 2 + 1 + 1 by omega]
    exact ih
theorem drC_cells {w : World} {base c : Nat} {P : Pl} {A : Option Addr} {ks : List Int} (h : w.ownsRow base 136 2 (.slice A ks.length c) ks.length (drC P ks)) {j : Nat} (hj : j < ks.length) :
    ∃ g o, A = some ⟨g, o, none⟩ ∧ base ≤ g ∧ g < w.heap.size ∧ w.cell? ⟨g, o + j * 2, none⟩ = some (.int .i64 (ks.getD j 0)) ∧ w.cell? ⟨g, o + j * 2 + 1, none⟩ = some (.int .u64 ((dirtyV P (ks.getD j 0)).getD 0)) := by
  obtain ⟨g, cap, hv, hb, hlt⟩ := h.form (by omega)
  injection hv with hA hn hc
  subst hA
  obtain ⟨e1, e2⟩ := drC_at P ks j hj
  have h1 := h.cells (g := g) rfl (j * 2) _ e1
  have h2 := h.cells (g := g) rfl (j * 2 + 1) _ e2
  rw [Go.WideShapes.add_plain] at h1 h2
  exact ⟨g, 0, rfl, hb, hlt, h1, by rw [Nat.add_assoc]; exact h2⟩
theorem ws_dirty {w : World} {base x d lb g pp : Nat} {s : St} {S : Nat → Prop} (h : WS w base x d lb g pp s S) :
    Calls Try.prog 28 #[.pointer (some ⟨pp, 0, none⟩)] w fun e w' => ∃ A c ks, e = .returned (.slice A ks.length c) ∧ w'.ownsRow w.heap.size 136 2 (.slice A ks.length c) ks.length (drC s.P ks) ∧ ks.Pairwise (· < ·) ∧ (∀ k, k ∈ ks ↔ (dirtyV s.P k).isSome = true) ∧ Below w.heap.size w w' := by
  obtain ⟨F, bA, bc, o, kx, hP, hx, hS⟩ := h
  exact pdirty_calls w hP.p hP.ok
/-- What told holds behind j pages. -/
def toldV (P : Pl) (ks : List Int) (j i : Nat) : Int := if (i : Int) ∈ ks.take j then (dirtyV P i).getD 0 else 0
theorem told_step (P : Pl) (ks : List Int) {j pn : Nat} (hj : j < ks.length) (hp : ks.getD j 0 = (pn : Int)) (i : Nat) : toldV P ks (j + 1) i = if i = pn then (dirtyV P pn).getD 0 else toldV P ks j i := by
  unfold toldV
  rw [List.take_add_one]
  have e : ks[j]? = some (pn : Int) := by
    rw [List.getD_eq_getElem?_getD] at hp
    rw [List.getElem?_eq_getElem hj] at hp ⊢
    simpa using hp
  rw [e]
  by_cases h : i = pn
  · subst h; simp
  · have : ¬ (i : Int) = pn := by omega
    simp [h, this]
theorem rise_get {ks : List Int} (h : ks.Pairwise (· < ·)) {i j : Nat} (hij : i < j) (hj : j < ks.length) : ks.getD i 0 < ks.getD j 0 := by
  have := List.pairwise_iff_getElem.1 h i j (by omega) hj hij
  simpa [List.getD_eq_getElem?_getD, hj, show i < ks.length by omega] using this
set_option maxRecDepth 100000 in
set_option maxHeartbeats 16000000 in
theorem mdirty_calls {base x d lb g pp b n i0 : Nat} {mo : Int} {s : St} {C : Int → List Int} {pins : Int → Int} {q : Mq} (w : World) (h : LS w base x d lb g pp b n i0 mo s C pins q) :
    Calls Try.prog 30 #[.pointer (some ⟨b, 0, none⟩), .pointer (some ⟨x, 0, none⟩)] w fun e w' => e = .returned (.bool true) ∧ ∃ sn, LS w' base x d lb g pp b n i0 mo s C pins { q with sn := sn } ∧ Below base w w' := by
  have kx := h.ws.wx.at_
  have hhx := Lib.hid h
  have hn := h.pv.hn
  have hbw := h.ws.bw
  obtain ⟨i0', hi0, hz0, hz1, hz2⟩ := info_parts info64
  have hi0' := Lib.hid hi0
  have hz0' := Lib.hid hz0
  have hz1' := Lib.hid hz1
  have q1' : Hid (i0'.bytes * n ≤ 281474976710656) := Lib.hid (by rw [hz2]; omega)
  have q2' : Hid (n ≤ maxLen) := Lib.hid (by unfold maxLen; omega)
  have hnn : (0 : Int) ≤ n := by omega
  clear h hi0 hz0 hz1 hz2
  have kxc := kx.c; have kxf := kx.f; have kxl := kx.lt
  go_enter Try.func30, Try.ntmps30
  go_wp2_with fail
  refine (ws_dirty hhx.out.ws).mono ?_
  rintro e w1 ⟨A, c, ks, rfl, hrow, hrise, hmem, hb1⟩
  have hk8 := rise_len9 ks 0 n hrise (fun k hk => by
    obtain ⟨y, hy⟩ := Option.isSome_iff_exists.1 ((hmem k).1 hk)
    exact (hhx.out.pv.dirty hy).1) (by omega)
  have h1 := hhx.out.later hb1
  have k1 := h1.md.at_
  have kx1 := At.keep hb1 kx
  have hB1 : Below base w w1 := hb1.mono hbw
  have h1x := Lib.hid h1
  have hrowx := Lib.hid hrow
  have hrisex := Lib.hid hrise
  have hmemx := Lib.hid hmem
  clear h1 hrow hrise hmem kxc kxf kxl
  have k1c := k1.c; have k1f := k1.f; have k1l := k1.lt
  go_upto_region 4 with (at_make; refine wpList_make_full w1 rfl _ _ 57 rfl w1.heap.size 33 i0' (.int .u64 0) 1 Try.underlying57 hi0'.out hz0'.out hz1'.out .i64 .i64 _ _ n rfl rfl rfl rfl q1'.out q2'.out (Nat.le_refl _) ?_; intro w2 ho2 hg2)
  have hb2 := grown_none9 hg2
  have hR2 : RwA w2 w1.heap.size 33 n (fun _ => .int .u64 0) := RwA.of_own ho2 _ (fun j hj => made1 rfl n j hj)
  obtain ⟨tb, htb⟩ : ∃ tb, w1.heap.size = tb := ⟨_, rfl⟩
  rw [htb] at hR2 ⊢
  have htbx := Lib.hid htb
  have hR2x := Lib.hid hR2
  have hlts : ∀ k, MdF b n q k → k < tb := fun k hk => by have := (h1x.out.md.lts k hk).2; omega
  have hltsx := Lib.hid hlts
  clear hR2 ho2 hg2 hlts k1c k1f k1l htb
  go_wp2_with fail
  go_loopw [6, 8] (fun v6 v8 wr => ∃ k : Nat, v8 = .int .i64 (k : Int) ∧ v6 = .int .i64 (if k = 0 then -1 else ks.getD (k - 1) 0) ∧ k ≤ ks.length ∧ RwA wr tb 33 n (fun i => .int .u64 (toldV s.P ks k i)) ∧ Mod (fun b => b = tb) w2 wr) (fun _ v8 _ => ks.length - (intOf v8).toNat)
  case atStart => exact ⟨0, rfl, rfl, Nat.zero_le _, hR2x.out.to (fun j _ => by unfold toldV; simp), Mod.refl _ _⟩
  case round =>
    obtain ⟨k, rfl, rfl, hk, hR, hM⟩ := hrel
    have htb := htbx.out
    have hBr : Below w1.heap.size w1 wr := below_tr hb2 (hM.below hb2.size (fun i hi => by omega))
    have kr := At.keep hBr k1
    by_cases hlt : k < ks.length
    · obtain ⟨pg, hpg⟩ : ∃ y, ks.getD k 0 = y := ⟨_, rfl⟩
      have him : pg ∈ ks := by rw [← hpg]; simp [List.getD_eq_getElem?_getD, hlt]
      obtain ⟨sv, hsv⟩ := Option.isSome_iff_exists.1 ((hmemx.out pg).1 him)
      obtain ⟨⟨hp0, hp1⟩, hs0, -⟩ := hhx.out.pv.dirty hsv
      obtain ⟨pn, rfl⟩ := Int.eq_ofNat_of_zero_le hp0
      obtain ⟨gD, oD, rfl, -, hgl, hc1, hc2⟩ := drC_cells hrowx.out hlt
      rw [hpg] at hc1 hc2
      rw [hsv] at hc2
      have hc1r : wr.cell? ⟨gD, oD + k * 2, none⟩ = some (.int .i64 (pn : Int)) := (hBr.cell (p := ⟨gD, oD + k * 2, none⟩) hgl).trans hc1
      have hc2r : wr.cell? ⟨gD, oD + k * 2 + 1, none⟩ = some (.int .u64 sv) := (hBr.cell (p := ⟨gD, oD + k * 2 + 1, none⟩) hgl).trans hc2
      obtain ⟨la, hla⟩ : ∃ y, (if k = 0 then -1 else ks.getD (k - 1) 0 : Int) = y := ⟨_, rfl⟩
      have hlp : la < pn := by
        rw [← hla]
        by_cases e : k = 0
        · rw [if_pos e]; omega
        · rw [if_neg e, ← hpg]
          exact rise_get hrisex.out (by omega) hlt
      have hpn : pn < n := by omega
      have hkl : (k : Int) < ks.length := by omega
      have hk0 : (0 : Int) ≤ k := by omega
      have n1 : decide ((pn : Int) ≤ la) = false := by simp; omega
      have n2 : decide ((pn : Int) ≥ n) = false := by simp; omega
      have n3 : decide ((n : Int) ≤ pn) = false := by simp; omega
      have n4 : decide (sv = 0) = false := by simp; omega
      have n5 : (sv == 0) = false := by simp; omega
      have n6 : ¬ ((pn : Int) ≤ la) := by omega
      have n7 : ¬ ((n : Int) ≤ pn) := by omega
      have e1 : IntKind.i64.wrap ((k : Int) + 1) = (k : Int) + 1 := IntWalk.i64_in _ (by omega)
      have hts := Lib.hid (told_step s.P ks hlt hpg)
      have hsvx := Lib.hid hsv
      have hpgx := Lib.hid hpg
      have hRc := hR.cell hpn
      have hRf := hR.fz
      have hRl := hR.lt
      have hRx := Lib.hid hR
      have hMx := Lib.hid hM
      rw [hla]
      clear hla hc1 hc2 him hsv hpg hlp hR hM hp0 htb
      obtain ⟨tv, htv⟩ : ∃ y, toldV s.P ks k pn = y := ⟨_, rfl⟩
      rw [htv] at hRc
      clear htv
      have krc := kr.c; have krf := kr.f; have krl := kr.lt
      go_upto_region 7 with (fail)
      go_quiet (fail)
      go_wp2
      go_roundw
      case rel =>
        refine ⟨k + 1, by go_num, by (rw [if_neg (by omega), Nat.add_sub_cancel, hpgx.out]), by omega, ((show RwA (wr.drewN nq) tb 33 n _ from hRx.out).set pn (.int .u64 sv)).to (fun j _ => ?_), (hMx.out.drewN nq).set (k := tb) (.inl rfl) (o := pn) (.int .u64 sv)⟩
        rw [hts.out j]
        by_cases e : j = pn
        · rw [if_pos e, if_pos e, hsvx.out]; rfl
        · rw [if_neg e, if_neg e]
      case measure => simp [intOf]; omega
    · have hkl : ¬ ((k : Int) < ks.length) := by omega
      have hke : k = ks.length := by omega
      rw [hke] at hR
      clear hke
      have hMw : Mod (fun b => b = tb) w1 wr := (Mod.of_below hb2).trans hM (fun _ _ h => h)
      have hltsl := hltsx.out
      have h3 : LS wr base x d lb g pp b n i0 mo s C pins q := ⟨h1x.out.ws.own hMw (fun j hj => .inr (by omega)) (fun _ h => .inl h), h1x.out.md.mod hMw (fun j hj e => by have := hltsl j hj; omega), h1x.out.pv, h1x.out.bq⟩
      have hB3 : Below base w wr := below_tr hB1 (hBr.mono (by have := hB1.size; omega))
      obtain ⟨wA, hwA⟩ : ∃ wA, wA = wr := ⟨_, rfl⟩
      subst hwA
      obtain ⟨la, hla⟩ : ∃ y, (if k = 0 then -1 else ks.getD (k - 1) 0 : Int) = y := ⟨_, rfl⟩
      rw [hla]
      have h3x := Lib.hid h3
      have hRx := Lib.hid hR
      clear hla h3 hR hM hMw hBr kr hltsl htb
      go_wp2_with fail
      go_loopw [9, 10, 11] (fun v9 _ _ wr => ∃ (i : Nat) (sn : Nat → Int), v9 = .int .i64 (i : Int) ∧ i ≤ n ∧ LS wr base x d lb g pp b n i0 mo s C pins { q with sn := sn } ∧ RwA wr tb 33 n (fun i => .int .u64 (toldV s.P ks ks.length i)) ∧ Below base w wr) (fun v9 _ _ _ => n - (intOf v9).toNat)
      case atStart => exact ⟨0, q.sn, rfl, Nat.zero_le _, h3x.out, hRx.out, hB3⟩
      case round =>
        obtain ⟨i, sn, rfl, hi, hL, hR2, hB⟩ := hrel
        have hLx := Lib.hid hL
        have hR2x := Lib.hid hR2
        have k2 := hL.md.at_
        by_cases hlt : i < n
        · have hlti : (i : Int) < n := by omega
          have hi0n : (0 : Int) ≤ i := by omega
          have e1 : IntKind.i64.wrap ((i : Int) + 1) = (i : Int) + 1 := IntWalk.i64_in _ (by omega)
          have hct := hR2.cell hlt
          have htv : toldV s.P ks ks.length i = (dirtyV s.P i).getD 0 := by
            unfold toldV
            rw [List.take_length]
            by_cases e : (i : Int) ∈ ks
            · rw [if_pos e]
            · rw [if_neg e]
              have : ¬ (dirtyV s.P i).isSome = true := fun h => e ((hmemx.out i).2 h)
              cases hd : dirtyV s.P i with
              | none => rfl
              | some v => rw [hd] at this; exact absurd rfl this
          rw [htv] at hct
          cases hd : dirtyV s.P i with
          | none =>
            rw [hd] at hct
            have hct : wr.cell? ⟨tb, i, none⟩ = some (.int .u64 0) := hct
            have htold := hhx.out.pv.told hi0n hlti hd
            have kxr := hL.ws.wx.at_
            obtain ⟨FD, hDD⟩ := hL.ws.wx.dk
            have hpgl := hhx.out.pv.pgl hi0n hlti
            have epg : pgI (i : Int) = 41 + i := by unfold pgI; omega
            rw [epg] at htold hpgl
            have hz1 : IntKind.i64.wrap (41 + (i : Int)) = ((41 + i : Nat) : Int) := by rw [IntWalk.i64_in _ (by omega)]; omega
            obtain ⟨m41, hm41⟩ : ∃ y, 41 + i = y := ⟨_, rfl⟩
            rw [hm41] at hz1 htold hpgl
            have hcall := Lib.hid (rd_dd m41 wr hDD hpgl.2 hhx.out.pv.inv.q.2)
            obtain ⟨sec, hsec⟩ : ∃ y, readD s.D m41 = y := ⟨_, rfl⟩
            rw [hsec] at hcall htold
            clear hDD hsec hpgl epg hm41 htv hd hL hR2
            have k2c := k2.c; have k2f := k2.f; have k2l := k2.lt
            have kxrc := kxr.c; have kxrf := kxr.f; have kxrl := kxr.lt
            go_wp2_with fail
            refine hcall.out.mono ?_
            rintro e w4 ⟨qb, rfl, hq4, hb4, hqw⟩
            have hL4 := hLx.out.later hb4
            have hR4 : RwA w4 tb 33 n _ := hR2x.out.mod (S := Nob) (Mod.of_below hb4) (fun h => h)
            have k4 := hL4.md.at_
            have hcl := hL4.md.rl.cell hlt
            have hcd := hL4.md.rd.cell hlt
            have hcf := hL4.md.rd.fz
            have hcg := hL4.md.rd.lt
            have hpgb := (hL4.md.pg i hlt).reads
            have hcut : BsR w4 qb (qb + 1) (some ⟨qb, 8, none⟩) 504 ((C i).drop 8) := by
              have := hq4.bs9.cutN 8 512 (Nat.le_refl _) (by omega)
              rw [List.take_of_length_le (by rw [hq4.bs9.1]; omega), htold] at this
              exact this
            have r1 := fun j => run_str 504 (w4.drewN j) (show BsR (w4.drewN j) qb (qb + 1) (some ⟨qb, 8, none⟩) 504 ((C i).drop 8) from hcut)
            have r2 := fun j => run_str (q.pc i) (w4.drewN j) (show BsR (w4.drewN j) base w4.heap.size (some ⟨q.pa i, 0, none⟩) 504 ((C i).drop 8) from hpgb)
            obtain ⟨sl, hsl⟩ : ∃ y, strL ((C i).drop 8) = y := ⟨_, rfl⟩
            rw [hsl] at r1 r2
            have hL4x := Lib.hid hL4
            have hR4x := Lib.hid hR4
            have hB4 := below_tr hB (hb4.mono (by have := hB.size; have := hbw; omega))
            clear hL4 hR4 hcut hpgb hq4 hqw hcall hsl k2 k2c k2f k2l
            have k4c := k4.c; have k4f := k4.f; have k4l := k4.lt
            go_upto_region 16 with (fail)
            go_quiet (fail)
            go_wp2
            go_roundw
            case rel =>
              have hLd := hL4x.out.later (below_drewN (Below.refl _ _) nq)
              have m5 := (Mod.refl (fun k => k = q.gd) (w4.drewN nq)).set (k := q.gd) (.inl rfl) (o := i) (.int .u64 0)
              have hgd := hltsx.out q.gd (.inr (.inr (.inr (.inr (.inl rfl)))))
              exact ⟨i + 1, fun j => if j = i then 0 else sn j, by go_num, by omega, ⟨hLd.ws.own m5 (fun k hk => .inl (hk ▸ .inr (.inr (.inr (.inr (.inl rfl)))))) (fun _ h => .inl h), hLd.md.setSn i 0, hLd.pv, hLd.bq⟩, (show RwA (w4.drewN nq) tb 33 n _ from hR4x.out).mod m5 (fun e => by omega), below_tr (below_drewN hB4 nq) (m5.below hLd.ws.bw (fun k hk => by have h := hhx.out.md.hb.2.2.2.2; omega))⟩
            case measure => simp [intOf]; omega
          | some sv =>
            rw [hd] at hct
            have hct : wr.cell? ⟨tb, i, none⟩ = some (.int .u64 sv) := hct
            obtain ⟨-, hs0, hs1⟩ := hhx.out.pv.dirty hd
            have hcs := hL.md.rs.cell hlt
            obtain ⟨ls, hls⟩ : ∃ y, num ((C i).take 8) = y := ⟨_, rfl⟩
            rw [hls] at hcs hs1
            have n1 : decide (sv = 0) = false := by simp; omega
            have n2 : (sv == 0) = false := by simp; omega
            have n3 : decide (sv > ls) = false := by simp; omega
            have n4 : decide (ls < sv) = false := by simp; omega
            have n5 : ¬ (ls < sv) := by omega
            clear hls htv hd hL hR2
            have k2c := k2.c; have k2f := k2.f; have k2l := k2.lt
            go_upto_region 19 with (fail)
            go_quiet (fail)
            go_wp2
            go_roundw
            case rel =>
              exact ⟨i + 1, sn, by go_num, by omega, hLx.out.later (below_drewN (Below.refl _ _) nq), hR2x.out, below_drewN hB nq⟩
            case measure => simp [intOf]; omega
        · have hlti : ¬ ((i : Int) < n) := by omega
          clear hL hR2
          have k2c := k2.c; have k2f := k2.f; have k2l := k2.lt
          go_wp2
          go_ret
          exact ⟨by first | rfl | simp, ⟨sn, hLx.out⟩, hB⟩
end Go.Proofs.Ytggeepihkeocmaa
/- PoolPlays: the model's lasts. -/
namespace Go.Proofs.Ytggeepihkeocmaa
set_option linter.unusedVariables false
set_option linter.unusedSimpArgs false
open Go.RowKit Go.Maps
theorem rest_nil9 (D : Dk) : (restD D 0 []).l = D.l ∧ (restD D 0 []).way = [] ∧ (restD D 0 []).off = false := by
  have h : ∀ k, setTo D (keepF 0 []) k = D.l := fun k => by
    induction k with
    | zero => rfl
    | succ k ih =>
      unfold setTo
      rw [if_neg (by unfold keepF; simp)]
      exact ih
  exact ⟨h _, rfl, rfl⟩
theorem ws_rest {w : World} {base x d lb g pp : Nat} {s : St} {S : Nat → Prop} (h : WS w base x d lb g pp s S) :
    Calls Try.prog 25 #[.pointer (some ⟨d, 0, none⟩), .slice none 0 0] w fun e w' => e = .returned (.int .i64 0) ∧ At w' x #[.pointer (some ⟨d, 0, none⟩), .pointer (some ⟨g, 0, none⟩), .pointer (some ⟨pp, 0, none⟩)] 30 ∧ Mod (fun k => ¬ S k) w w' ∧ (∃ F', DD w' base d lb F' (restD s.D 0 [])) ∧ Below base w w' := by
  obtain ⟨F, bA, bc, o, kx, hP, hx, hS⟩ := h
  obtain ⟨pA, mc, h1, h2⟩ := hP.d
  refine (rest_calls (n := 0) (kc := 0) (kA := none) (kl := []) w h1.k ⟨rfl, Rd.nil _ _ _ _ _⟩ (fun h0 => absurd h0 (by omega))).mono ?_
  rintro e w' ⟨rfl, hd, hm⟩
  have hF : ∀ k, FootL d lb k → FTo g pp F bA o s.P k := fun k hk => .inl ((h2 k).2 (hk.elim .inl (fun h => .inr (.inl h))))
  exact ⟨rfl, kx.mod hm (fun hf => hx (hF _ hf)), hm.mono (fun k hk hs => (hS k hs).1 (hF k hk)), ⟨_, DD.of ⟨hd, h1.hd, h1.hl, fun b hb => by cases hb⟩⟩, hm.below hP.bw (fun k hk => (hP.lts k (hF k hk)).1)⟩
set_option maxRecDepth 100000 in
set_option maxHeartbeats 16000000 in
theorem mlasts_calls {base x d lb g pp b n : Nat} {mo : Int} {s : St} {C : Int → List Int} {pins : Int → Int} {q : Mq} (w : World) (hws : WS w base x d lb g pp s (MdF b n q)) (hmd : MdH w base b n mo C pins q) (hn : n ≤ 8) (hlen : s.D.l.length = 41 + n) (hl : ∀ i : Nat, i < n → s.D.l.getD (41 + i) [] = C i) :
    Calls Try.prog 31 #[.pointer (some ⟨b, 0, none⟩), .pointer (some ⟨x, 0, none⟩)] w fun e w' => e = .returned (.bool true) ∧ Below base w w' := by
  have kx := hws.wx.at_
  have hwsx := Lib.hid hws
  have hmdx := Lib.hid hmd
  have hlx := Lib.hid hl
  have hlenx := Lib.hid hlen
  clear hws hmd hl hlen
  have kxc := kx.c; have kxf := kx.f; have kxl := kx.lt
  go_enter Try.func31, Try.ntmps31
  go_wp2_with fail
  refine (ws_rest hwsx.out).mono ?_
  rintro e w1 ⟨rfl, kx1, hm1, hD1, hB1⟩
  have hmd1 := hmdx.out.mod hm1 (fun k hk hn => hn hk)
  have hmd1x := Lib.hid hmd1
  have hDx := Lib.hid hD1
  clear hmd1 hD1 hm1 kxc kxf kxl
  go_wp2_with fail
  go_loopw [5, 6, 7] (fun v5 _ _ wr => ∃ i : Nat, v5 = .int .i64 (i : Int) ∧ i ≤ n ∧ Below w1.heap.size w1 wr) (fun v5 _ _ _ => n - (intOf v5).toNat)
  case atStart => exact ⟨0, rfl, Nat.zero_le _, Below.refl _ _⟩
  case round =>
    obtain ⟨i, rfl, hi, hBr⟩ := hrel
    have k2 := At.keep hBr hmd1x.out.at_
    by_cases hlt : i < n
    · have hlti : (i : Int) < n := by omega
      have hi0n : (0 : Int) ≤ i := by omega
      have e1 : IntKind.i64.wrap ((i : Int) + 1) = (i : Int) + 1 := IntWalk.i64_in _ (by omega)
      have kxr := At.keep hBr kx1
      obtain ⟨FD, hDD⟩ := hDx.out
      obtain ⟨r1, r2, r3⟩ := rest_nil9 s.D
      have htold : readD (restD s.D 0 []) (41 + i) = C i := by rw [read_none r2, r1]; exact hlx.out i hlt
      have hlen2 : 41 + i < (restD s.D 0 []).l.length := by rw [r1, hlenx.out]; omega
      have hz1 : IntKind.i64.wrap (41 + (i : Int)) = ((41 + i : Nat) : Int) := by rw [IntWalk.i64_in _ (by omega)]; omega
      obtain ⟨m41, hm41⟩ : ∃ y, 41 + i = y := ⟨_, rfl⟩
      rw [hm41] at hz1 htold hlen2
      have hcall := Lib.hid (rd_dd m41 wr (hDD.later hBr) hlen2 r3)
      obtain ⟨sec, hsec⟩ : ∃ y, readD (restD s.D 0 []) m41 = y := ⟨_, rfl⟩
      rw [hsec] at hcall htold
      clear hDD hsec hlen2 hm41 r1 r2 r3
      have k2c := k2.c; have k2f := k2.f; have k2l := k2.lt
      have kxrc := kxr.c; have kxrf := kxr.f; have kxrl := kxr.lt
      go_wp2_with fail
      refine hcall.out.mono ?_
      rintro e w4 ⟨qb, rfl, hq4, hb4, hqw⟩
      have hB4 := below_keep hb4 hBr
      have hM4 := hmd1x.out.later hB4
      have k4 := hM4.at_
      have hcl := hM4.rl.cell hlt
      have hpgb := (hM4.pg i hlt).reads
      have hcut : BsR w4 qb (qb + 1) (some ⟨qb, 8, none⟩) 504 ((C i).drop 8) := by
        have := hq4.bs9.cutN 8 512 (Nat.le_refl _) (by omega)
        rw [List.take_of_length_le (by rw [hq4.bs9.1]; omega), htold] at this
        exact this
      have r1 := fun j => run_str 504 (w4.drewN j) (show BsR (w4.drewN j) qb (qb + 1) (some ⟨qb, 8, none⟩) 504 ((C i).drop 8) from hcut)
      have r2 := fun j => run_str (q.pc i) (w4.drewN j) (show BsR (w4.drewN j) base w4.heap.size (some ⟨q.pa i, 0, none⟩) 504 ((C i).drop 8) from hpgb)
      obtain ⟨sl, hsl⟩ : ∃ y, strL ((C i).drop 8) = y := ⟨_, rfl⟩
      rw [hsl] at r1 r2
      clear hM4 hcut hpgb hq4 hqw hcall hsl k2 k2c k2f k2l kxr kxrc kxrf kxrl
      have k4c := k4.c; have k4f := k4.f; have k4l := k4.lt
      go_upto_region 6 with (fail)
      go_quiet (fail)
      go_wp2
      go_roundw
      case rel => exact ⟨i + 1, by go_num, by omega, below_drewN hB4 nq⟩
      case measure => simp [intOf]; omega
    · have hlti : ¬ ((i : Int) < n) := by omega
      have k2c := k2.c; have k2f := k2.f; have k2l := k2.lt
      go_wp2
      go_ret
      exact ⟨by first | rfl | simp, below_tr hB1 (hBr.mono (by have := hB1.size; have := hwsx.out.bw; omega))⟩
end Go.Proofs.Ytggeepihkeocmaa
