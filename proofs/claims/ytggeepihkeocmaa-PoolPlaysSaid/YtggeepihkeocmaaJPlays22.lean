/- Joined texts: PlF, PlG. -/
import Derived.Test.YtggeepihkeocmaaJPlays21
import Derived.Test.YtggeepihkeocmaaJPlays12
/- The pool's evict by its contract. -/
namespace Go.Proofs.Ytggeepihkeocmaa
set_option linter.unusedVariables false
set_option linter.unusedSimpArgs false
open Go.RowKit Go.Maps
section
variable {w w' : World} {base d lb g pp bc : Nat} {F : Nat → Prop} {bA : Option Addr} {o : Lo} {s : St}
theorem PWo.key (h : PWo w base d lb g pp F bA bc o s) (k : Int) : k ∈ s.P.ks ↔ (s.P.fr k).isSome = true := by
  obtain ⟨D, -, -, -, -, h5, -⟩ := h.p.fm
  rw [h5 k]
  show ((s.P.fr k).map _).isSome = true ↔ _
  rw [Option.isSome_map]
theorem PWo.rise (h : PWo w base d lb g pp F bA bc o s) : s.P.ks.Pairwise (· < ·) := by
  obtain ⟨D, -, -, -, h4, -⟩ := h.p.fm
  exact h4
theorem del_map (P : Pl) (i : Int) (o : Lo) : (fun k => ((delFr P i).fr k).map (fun _ => o.blk k)) = updM (fun k => (P.fr k).map (fun _ => o.blk k)) i none := by
  funext k
  show ((updM P.fr i none k).map _) = _
  unfold updM
  by_cases hk : k = i
  · rw [if_pos hk, if_pos hk]; rfl
  · rw [if_neg hk, if_neg hk]
/-- A frame goes. -/
theorem PWo.delT {i : Int} (h : PWo w base d lb g pp F bA bc o s) (hm : Mod (fun k => k = o.fb) w w') (hmp : MpR EF w' o.fb (updM (fun k => (s.P.fr k).map (fun _ => o.blk k)) i none) (s.P.ks.filter (fun j => decide (j ≠ i)))) :
    PWo w' base d lb g pp F bA bc o ⟨delFr s.P i, s.D, s.L⟩ ∧ Grew (FTo g pp F bA o s.P) (FTo g pp F bA o (delFr s.P i)) w.heap.size := by
  have hupd : ∀ k, (delFr s.P i).fr k = if k = i then none else s.P.fr k := fun _ => rfl
  have hsub : ∀ k f, (delFr s.P i).fr k = some f → s.P.fr k = some f := fun k f hk => by
    rw [hupd] at hk
    by_cases hki : k = i
    · rw [if_pos hki] at hk; cases hk
    · rw [if_neg hki] at hk; exact hk
  have hlen : ((delFr s.P i).ks.length : Int) ≤ s.P.most := by
    have h1 := List.length_filter_le (fun j => decide (j ≠ i)) s.P.ks
    have h2 := h.ok.len
    show ((s.P.ks.filter _).length : Int) ≤ _
    omega
  refine h.pool hm (fun k hk => hk ▸ .inr (.inl rfl)) (h.p.turn (o' := o) (P' := delFr s.P i) hm i (h.p.at_.mod hm (fun e => h.p.fm.noAt _ h.p.at_ e)) ?_ (h.p.gm.mod hm (fun e => h.p.ne e.symm)) ⟨rfl, rfl, fun _ _ => ⟨rfl, rfl, rfl⟩⟩ (fun k hk => by rw [hupd, if_neg hk]) (fun k fk hk hfk => ⟨(h.p.ne_fr hfk).2.1, fun b hb => (h.p.ne_pb hfk b hb).2.1⟩) (fun fx hfx => ?_)) ⟨h.ok.at_, h.ok.pages, h.ok.fit, h.ok.most, h.ok.clock, hlen, fun k f hk => h.ok.fr k f (hsub k f hk), h.ok.gone⟩ (fun k hk => .inl ?_)
  · rw [del_map]; exact hmp
  · rw [hupd, if_pos rfl] at hfx; cases hfx
  · rcases hk with hk | hk | hk | ⟨j, fj, hj, hk⟩
    · exact .inl hk
    · exact .inr (.inl hk)
    · exact .inr (.inr (.inl hk))
    · exact .inr (.inr (.inr ⟨j, fj, hsub j fj hj, hk⟩))
theorem lookF (h : PWo w base d lb g pp F bA bc o s) {k : Int} {f : Fr} (hf : s.P.fr k = some f) (n : Nat) : (Instr.lookup 108 (.map (some o.fb)) (.int .i64 k) false).run Try.prog (w.drewN n) = .ok (.pointer (some ⟨o.blk k, 0, none⟩)) (w.drewN n) := by
  obtain ⟨-, h1, h2⟩ := h.ok.fr k f hf
  have hp := h.ok.pages
  have := (h.p.fm.drewN n).look Try.underlying108 (k := k) ⟨by omega, by omega⟩
  rw [hf] at this
  exact this
end
theorem cleanS_P (s : St) (i : Int) (f : Fr) (hf : s.P.fr i = some f) : (cleanS s i f).P.ks = s.P.ks ∧ (∀ k, ((cleanS s i f).P.fr k).isSome = (s.P.fr k).isSome) ∧ (cleanS s i f).P.at_ = s.P.at_ ∧ (cleanS s i f).P.pages = s.P.pages ∧ (cleanS s i f).P.most = s.P.most ∧ (cleanS s i f).P.clock = s.P.clock := by
  obtain ⟨e1, e2, e3, e4, e5, e6⟩ := flushS_fr s
  have hg : ∀ (P : Pl) (k x : Int), (setGone P k x).ks = P.ks ∧ (setGone P k x).fr = P.fr ∧ (setGone P k x).at_ = P.at_ ∧ (setGone P k x).pages = P.pages ∧ (setGone P k x).most = P.most ∧ (setGone P k x).clock = P.clock := fun P k x => by
    unfold setGone
    by_cases h : (P.gone k).isSome = true
    · rw [if_pos h]; exact ⟨rfl, rfl, rfl, rfl, rfl, rfl⟩
    · rw [if_neg h]; exact ⟨rfl, rfl, rfl, rfl, rfl, rfl⟩
  have hu : ∀ (P : Pl), P.fr = s.P.fr → ∀ k, ((setFr P i { f with dirty := false }).fr k).isSome = (s.P.fr k).isSome := fun P hP k => by
    show (updM P.fr i _ k).isSome = _
    unfold updM
    by_cases hk : k = i
    · subst hk; rw [if_pos rfl, hf]; rfl
    · rw [if_neg hk, hP]
  unfold cleanS
  by_cases hd : f.dirty = true
  · rw [if_pos hd]
    by_cases hl : lsnP f < s.L.sure
    · rw [if_pos hl]
      obtain ⟨g1, g2, g3, g4, g5, g6⟩ := hg (setFr s.P i { f with dirty := false }) i f.since
      refine ⟨g1, fun k => ?_, g3, g4, g5, g6⟩
      show ((setGone _ _ _).fr k).isSome = _
      rw [g2]; exact hu s.P rfl k
    · rw [if_neg hl]
      obtain ⟨g1, g2, g3, g4, g5, g6⟩ := hg (setFr (flushS s).P i { f with dirty := false }) i f.since
      refine ⟨g1.trans e3, fun k => ?_, g3.trans e2, g4.trans e4, g5.trans e5, g6.trans e6⟩
      show ((setGone _ _ _).fr k).isSome = _
      rw [g2]; exact hu _ e1 k
  · rw [if_neg hd]
    exact ⟨rfl, fun _ => rfl, rfl, rfl, rfl, rfl⟩
set_option maxRecDepth 100000 in
set_option maxHeartbeats 8000000 in
theorem evict_calls {base d lb g pp bc : Nat} {F : Nat → Prop} {bA : Option Addr} {o : Lo} {s : St} (w : World) (h : PWo w base d lb g pp F bA bc o s) (hI : Inv s) :
    Calls Try.prog 95 #[.pointer (some ⟨pp, 0, none⟩)] w fun e w' => e = .returned (.int .i64 (evE s)) ∧ POn w w' base d lb g pp (FTo g pp F bA o s.P) o (evS s) := by
  have hlenk := h.ok.len
  have hmost := h.ok.most
  have hn64 : s.P.ks.length ≤ 64 := by omega
  have hmostx := Lib.hid hmost
  have hlenx := Lib.hid hlenk
  have hhx := Lib.hid h
  have hIx := Lib.hid hI
  have hpx := Lib.hid h.ok.pages
  clear hmost hlenk h hI
  go_enter Try.func95, Try.ntmps95
  go_wp2_with fail
  refine (list_calls w hhx.out.p (by omega)).mono ?_
  rintro e w1 ⟨A, c, rfl, hz, hb1⟩
  have h1 := hhx.out.later hb1
  have h1x := Lib.hid h1
  have hbw1 := hb1.size
  clear h1
  go_wp2_with fail
  go_loopw [3, 5, 6, 11] (fun v3 v5 v6 v11 wr => ∃ (j : Nat) (b : Int), v3 = .int .i64 b ∧ v11 = .int .i64 (j : Int) ∧ j ≤ s.P.ks.length ∧ bestF s.P s.P.ks (-1) = bestF s.P (s.P.ks.drop j) b ∧ (b = -1 ∨ (0 ≤ b ∧ b < 4096 ∧ (s.P.fr b).isSome = true)) ∧ Below w1.heap.size w1 wr) (fun v3 v5 v6 v11 wr => s.P.ks.length - (intOf v11).toNat)
  case atStart => exact ⟨0, -1, rfl, rfl, Nat.zero_le _, rfl, .inl rfl, Below.refl _ _⟩
  case round =>
    obtain ⟨j, b, rfl, rfl, hj, hbest, hbk, hbr⟩ := hrel
    have hr := h1x.out.later hbr
    have hrx := Lib.hid hr
    have kr := hr.p.at_
    have krc := kr.c; have krf := kr.f; have krl := kr.lt
    by_cases hlt : j < s.P.ks.length
    · obtain ⟨i, hi⟩ : ∃ x, s.P.ks.getD j 0 = x := ⟨_, rfl⟩
      have hge : s.P.ks[j] = i := by rw [← hi]; simp [List.getD, hlt]
      have hmem : i ∈ s.P.ks := by rw [← hge]; exact List.getElem_mem hlt
      obtain ⟨fi, hfi⟩ : ∃ f, s.P.fr i = some f := Option.isSome_iff_exists.1 ((hr.key i).1 hmem)
      obtain ⟨hfk, hi0, hi1⟩ := hr.ok.fr i fi hfi
      obtain ⟨gz, oz, rfl, -, hgz, hcz⟩ := hz (by omega)
      have hci : wr.cell? ⟨gz, oz + j, none⟩ = some (.int .i64 i) := by rw [← hi]; exact (hbr.cell (p := ⟨gz, oz + j, none⟩) hgz).trans (hcz j hlt)
      have hbs : bestF s.P s.P.ks (-1) = bestF s.P (s.P.ks.drop (j + 1)) (if pinsOf s.P i = 0 ∧ (b < 0 ∨ usedOf s.P i < usedOf s.P b) then i else b) := by
        rw [hbest, List.drop_eq_getElem_cons hlt, hge]
        rfl
      have hpi : pinsOf s.P i = fi.pins := by unfold pinsOf; rw [hfi]
      have hui : usedOf s.P i = fi.used := by unfold usedOf; rw [hfi]
      rw [hpi, hui] at hbs
      have hlti : (j : Int) < s.P.ks.length := by omega
      have hj0 : (0 : Int) ≤ j := by omega
      have l0 : (Instr.lookup 108 (.map (some o.fb)) (.int .i64 i) false).run Try.prog wr = .ok (.pointer (some ⟨o.blk i, 0, none⟩)) wr := lookF hr hfi 0
      have qi := (hr.p.frs i fi hfi).1
      have hbsx := Lib.hid hbs
      have hkx : Hid (0 ≤ i ∧ i < 4096 ∧ (s.P.fr i).isSome = true) := Lib.hid ⟨hi0, by have := hpx.out; omega, by rw [hfi]; rfl⟩
      have hbkx := Lib.hid hbk
      have hbrx := Lib.hid hbr
      have hw63 : IntKind.i64.wrap ((j : Int) + 1) = (j : Int) + 1 := IntWalk.i64_in _ (by omega)
      have qic := qi.c; have qif := qi.f; have qil := qi.lt
      clear hr hbs hbest hpi hui hfi hge hi hmem hcz hfk hbr
      by_cases hp : fi.pins = 0
      · have hpx2 := Lib.hid hp
        by_cases hb : b < 0
        · have hbb : decide (b < 0) = true := by simp; exact hb
          clear hbk
          go_upto_region 6 with (fail)
          go_quiet (fail)
          go_wp2
          go_roundw
          case rel => exact ⟨j + 1, i, rfl, by go_num, by omega, by rw [hbsx.out, if_pos ⟨hpx2.out, .inl (by omega)⟩], .inr hkx.out, below_drewN hbrx.out _⟩
          case measure => simp [intOf]; omega
        · obtain ⟨hb0, hb1, hbf⟩ := hbk.resolve_left (by omega)
          obtain ⟨fb, hfb⟩ := Option.isSome_iff_exists.1 hbf
          have hub : usedOf s.P b = fb.used := by unfold usedOf; rw [hfb]
          have qb := (hrx.out.p.frs b fb hfb).1
          have lb := lookF hrx.out hfb
          have hubx := Lib.hid hub
          have hbb : decide (b < 0) = false := by simp; omega
          have qbc := qb.c; have qbf := qb.f; have qbl := qb.lt
          clear hbk hfb hub hbf
          by_cases hu : fi.used < fb.used
          · have hub : decide (fi.used < fb.used) = true := by simp; exact hu
            go_upto_region 6 with (fail)
            go_quiet (fail)
            go_wp2
            go_roundw
            case rel => exact ⟨j + 1, i, rfl, by go_num, by omega, by rw [hbsx.out, if_pos ⟨hpx2.out, .inr (by rw [hubx.out]; omega)⟩], .inr hkx.out, below_drewN hbrx.out _⟩
            case measure => simp [intOf]; omega
          · have hub : decide (fi.used < fb.used) = false := by simp; omega
            go_upto_region 6 with (fail)
            go_quiet (fail)
            go_wp2
            go_roundw
            case rel => exact ⟨j + 1, b, rfl, by go_num, by omega, by rw [hbsx.out, if_neg (fun h => h.2.elim (fun h => by omega) (fun h => by rw [hubx.out] at h; omega))], hbkx.out, below_drewN hbrx.out _⟩
            case measure => simp [intOf]; omega
      · have hpx2 := Lib.hid hp
        have hpd : decide (fi.pins = 0) = false := by simp; exact hp
        have hpe : (fi.pins == 0) = false := by simp; exact hp
        clear hbk hp
        go_upto_region 6 with (fail)
        go_quiet (fail)
        go_wp2
        go_roundw
        case rel => exact ⟨j + 1, b, rfl, by go_num, by omega, by rw [hbsx.out, if_neg (fun h => hpx2.out h.1)], hbkx.out, below_drewN hbrx.out _⟩
        case measure => simp [intOf]; omega
    · have hlti : ¬ ((j : Int) < s.P.ks.length) := by omega
      have hbe : bestF s.P s.P.ks (-1) = b := by
        rw [hbest, List.drop_eq_nil_of_le (by omega)]
        rfl
      have hbex := Lib.hid hbe
      have hbkx := Lib.hid hbk
      have hbrx := Lib.hid hbr
      by_cases hb : b < 0
      · have hbb : decide (b < 0) = true := by simp; exact hb
        clear hbe hbest hbk hbr hr
        go_wp2
        go_ret
        have e1 : evE s = 9 := by unfold evE; rw [hbex.out, if_pos hb]
        have e2 : evS s = s := by
          unfold evS
          rw [hbex.out]
          cases hf : s.P.fr b with
          | none => rfl
          | some f => have := (hhx.out.ok.fr b f hf).2.1; omega
        rw [e1, e2]
        exact ⟨by first | rfl | simp, POn.mk hrx.out (Grew.refl _ _) (Mod.of_below (below_keep hbrx.out hb1))⟩
      · obtain ⟨hb0, hb2, hbf⟩ := hbk.resolve_left (by omega)
        obtain ⟨fb, hfb⟩ := Option.isSome_iff_exists.1 hbf
        have hbb : decide (b < 0) = false := by simp; omega
        have hfbx := Lib.hid hfb
        clear hbe hbest hbk hbr hr hbf hfb
        go_wp2_with fail
        refine (clean_calls b fb wr hrx.out hIx.out hfbx.out).mono ?_
        rintro e w2 ⟨rfl, F2, bA2, bc2, h2, hg2, hm2⟩
        have k2 := h2.p.at_
        have hcp := cleanS_P s b fb hfbx.out
        have hbok : KOk b := ⟨by omega, by omega⟩
        obtain ⟨w3, hdel, hmp, hturn⟩ := h2.p.fm.del Try.underlying108 hbok
        have h2x := Lib.hid h2
        clear kr krc krf krl h2
        have k2c := k2.c; have k2f := k2.f; have k2l := k2.lt
        go_wp2
        go_ret
        have e1 : evE s = 0 := by unfold evE; rw [hbex.out, if_neg (by omega)]
        have e2 : evS s = ⟨delFr (cleanS s b fb).P b, (cleanS s b fb).D, (cleanS s b fb).L⟩ := by
          unfold evS
          rw [hbex.out, hfbx.out]
        obtain ⟨h3, hg3⟩ := h2x.out.delT (turned_mod (S := fun k => k = o.fb) hturn rfl) hmp
        have hgo := go_on hg2 hm2 (turned_mod (S := fun k => k = o.fb) hturn rfl) (fun k hk => hk ▸ .inr (.inr (.inr (.inl rfl)))) hg3
        have hb2r := below_keep hbrx.out hb1
        rw [e1, e2]
        exact ⟨by first | rfl | simp, POn.mk h3 (fun k hk => (hgo.1 k hk).imp id (fun h => Nat.le_trans hb2r.size h)) ((Mod.of_below hb2r).trans hgo.2 (fun _ _ h => h))⟩
end Go.Proofs.Ytggeepihkeocmaa
/- The pool's get by its contract. -/
namespace Go.Proofs.Ytggeepihkeocmaa
set_option linter.unusedVariables false
set_option linter.unusedSimpArgs false
open Go.RowKit Go.Maps
theorem insK_len (k : Int) : ∀ l : List Int, (insK k l).length ≤ l.length + 1
  | [] => by simp [insK]
  | j :: l => by
    have := insK_len k l
    unfold insK
    by_cases h : k < j
    · rw [if_pos h]; simp
    · rw [if_neg h]
      by_cases h2 : k = j
      · rw [if_pos h2]; simp
      · rw [if_neg h2]; simp; omega
theorem cleanS_q (s : St) (i : Int) (f : Fr) (h : Qt s.D) : Qt (cleanS s i f).D := by
  unfold cleanS
  by_cases hd : f.dirty = true
  · rw [if_pos hd]
    by_cases hl : lsnP f < s.L.sure
    · rw [if_pos hl]; exact h.wr _ _
    · rw [if_neg hl]
      show Qt (wrD (flushS s).D _ _)
      exact Qt.wr (show Qt (flD s.D s.L) from (fl_q s.L h).2.1) _ _
  · rw [if_neg hd]; exact h
theorem evS_q (s : St) (h : Qt s.D) : Qt (evS s).D := by
  unfold evS
  cases hf : s.P.fr (bestF s.P s.P.ks (-1)) with
  | none => exact h
  | some f => exact cleanS_q s _ f h
theorem filter_lt {l : List Int} {b : Int} (h : b ∈ l) : (l.filter (fun j => decide (j ≠ b))).length < l.length := by
  induction l with
  | nil => cases h
  | cons x l ih =>
    have hle := List.length_filter_le (fun j => decide (j ≠ b)) l
    by_cases hx : x = b
    · subst hx
      rw [List.filter_cons_of_neg (by simp)]
      simp only [List.length_cons]; omega
    · have h2 : b ∈ l := by
        rcases List.mem_cons.1 h with h | h
        · exact absurd h.symm hx
        · exact h
      rw [List.filter_cons_of_pos (by simp [hx])]
      have := ih h2
      simp only [List.length_cons]; omega
section
variable {w w' : World} {base d lb g pp bc : Nat} {F : Nat → Prop} {bA : Option Addr} {o : Lo} {s : St}
theorem PWo.best (h : PWo w base d lb g pp F bA bc o s) : bestF s.P s.P.ks (-1) = -1 ∨ ((s.P.fr (bestF s.P s.P.ks (-1))).isSome = true ∧ 0 ≤ bestF s.P s.P.ks (-1) ∧ bestF s.P s.P.ks (-1) ∈ s.P.ks ∧ pinsOf s.P (bestF s.P s.P.ks (-1)) = 0) := by
  have hk : ∀ k ∈ s.P.ks, (0 : Int) ≤ k := fun k hk => by
    obtain ⟨f, hf⟩ := Option.isSome_iff_exists.1 ((h.key k).1 hk)
    exact (h.ok.fr k f hf).2.1
  rcases sc_len s.P (-1) s.P.ks hk with e | ⟨e1, e2⟩
  · exact .inl e
  · exact .inr ⟨(h.key _).1 e1, hk _ e1, e1, e2⟩
theorem PWo.ev (h : PWo w base d lb g pp F bA bc o s) (he : evE s = 0) : (evS s).P.ks.length < s.P.ks.length ∧ (∀ k, s.P.fr k = none → (evS s).P.fr k = none) ∧ (evS s).P.at_ = s.P.at_ ∧ (evS s).P.pages = s.P.pages ∧ (evS s).P.most = s.P.most ∧ (evS s).P.clock = s.P.clock := by
  rcases h.best with e | ⟨e1, e2, e3, -⟩
  · unfold evE at he; rw [e] at he; simp at he
  · obtain ⟨f, hf⟩ := Option.isSome_iff_exists.1 e1
    have hE : evS s = ⟨delFr (cleanS s (bestF s.P s.P.ks (-1)) f).P (bestF s.P s.P.ks (-1)), (cleanS s (bestF s.P s.P.ks (-1)) f).D, (cleanS s (bestF s.P s.P.ks (-1)) f).L⟩ := by
      unfold evS; rw [hf]
    obtain ⟨c1, c2, c3, c4, c5, c6⟩ := cleanS_P s _ f hf
    rw [hE]
    refine ⟨?_, fun k hk => ?_, c3, c4, c5, c6⟩
    · show ((cleanS s _ f).P.ks.filter _).length < _
      rw [c1]; exact filter_lt e3
    · show updM (cleanS s _ f).P.fr _ none k = none
      unfold updM
      by_cases hkb : k = bestF s.P s.P.ks (-1)
      · rw [if_pos hkb]
      · rw [if_neg hkb]
        have := c2 k
        rw [hk] at this
        cases hx : (cleanS s (bestF s.P s.P.ks (-1)) f).P.fr k with
        | none => rfl
        | some y => rw [hx] at this; cases this
/-- The clock goes on. -/
theorem PWo.tickT (h : PWo w base d lb g pp F bA bc o s) (hc : s.P.clock + 1 ≤ 1000000) (hm : Mod (fun k => k = pp) w w') (hat : At w' pp #[.pointer (some ⟨d, 0, none⟩), .pointer (some ⟨g, 0, none⟩), .int .i64 s.P.at_, .int .i64 s.P.pages, .int .i64 s.P.most, .int .i64 (s.P.clock + 1), .map (some o.fb), .map (some o.gb)] 111) :
    PWo w' base d lb g pp F bA bc o ⟨tickP s.P, s.D, s.L⟩ ∧ Grew (FTo g pp F bA o s.P) (FTo g pp F bA o (tickP s.P)) w.heap.size := by
  have hck := h.ok.clock
  refine h.pool hm (fun k hk => hk ▸ .inl rfl) (h.p.turn (o' := o) (P' := tickP s.P) hm (-1) hat (h.p.fm.mod hm (fun e => h.p.fm.noAt _ h.p.at_ e.symm)) (h.p.gm.mod hm (fun e => h.p.gm.noAt _ h.p.at_ e.symm)) ⟨rfl, rfl, fun _ _ => ⟨rfl, rfl, rfl⟩⟩ (fun _ _ => rfl) (fun k fk hk hfk => ⟨(h.p.ne_fr hfk).1, fun b hb => (h.p.ne_pb hfk b hb).1⟩) (fun fx hfx => ?_)) ⟨h.ok.at_, h.ok.pages, h.ok.fit, h.ok.most, ⟨by show 0 ≤ s.P.clock + 1; omega, hc⟩, h.ok.len, h.ok.fr, h.ok.gone⟩ (fun k hk => .inl hk)
  have := (h.ok.fr (-1) fx hfx).2.1
  omega
def addLo (o : Lo) (i : Int) (b : Nat) (q : Nat) : Lo := { o with blk := fun k => if k = i then b else o.blk k, pb := fun k => if k = i then some ⟨q, 0, none⟩ else o.pb k, pc := fun k => if k = i then 512 else o.pc k }
/-- A frame comes: its block b and its bytes' block q are new. -/
theorem PWo.addT {i : Int} {b q : Nat} {w1 : World} (h : PWo w1 base d lb g pp F bA bc o s) (hm : Mod (fun k => k = o.fb ∨ w1.heap.size ≤ k) w1 w') (hi : 0 ≤ i ∧ i < s.P.pages) (hn : s.P.fr i = none) (hl : (s.P.ks.length : Int) < s.P.most)
    (hb : w1.heap.size ≤ b) (hq : w1.heap.size ≤ q) (hsec : BsR w' q (q + 1) (some ⟨q, 0, none⟩) 512 (newFr s i).p) (hql : q < w'.heap.size)
    (hmp : MpR EF w' o.fb (updM (fun k => (s.P.fr k).map (fun _ => o.blk k)) i (some b)) (insK i s.P.ks))
    (hat : At w' b #[.slice (some ⟨q, 0, none⟩) 512 512, .bool false, .int .u64 0, .int .i64 0, .int .i64 s.P.clock] 105) :
    PWo w' base d lb g pp F bA bc (addLo o i b q) (addFr s i) ∧ Grew (FTo g pp F bA o s.P) (FTo g pp F bA (addLo o i b q) (addFr s i).P) w1.heap.size := by
  have hbw := h.bw
  have hlt := h.p.lts
  have hck := h.ok.clock
  have hupd : ∀ k, (addFr s i).P.fr k = if k = i then some (newFr s i) else s.P.fr k := fun _ => rfl
  have hold : ∀ k f, k ≠ i → (addFr s i).P.fr k = some f → s.P.fr k = some f := fun k f hk hf => by rw [hupd, if_neg hk] at hf; exact hf
  have hm2 : Mod (fun k => k = o.fb) w1 w' := ⟨hm.os, hm.tape, hm.output, hm.size, fun k hk hn => hm.block k hk (fun hs => hs.elim hn (fun h => by omega))⟩
  have hfrok : FrOk (newFr s i) := ⟨hsec.1, hsec.2.1, ⟨by show (0 : Int) ≤ 0; omega, by show (0 : Int) < _; omega⟩, ⟨by show (0 : Int) ≤ 0; omega, by show (0 : Int) ≤ _; omega⟩, ⟨hck.1, by show s.P.clock ≤ _; omega⟩⟩
  refine h.pool hm2 (fun k hk => hk ▸ .inr (.inl rfl)) (h.p.turn (o' := addLo o i b q) (P' := (addFr s i).P) hm2 i (h.p.at_.mod hm2 (fun e => h.p.fm.noAt _ h.p.at_ e)) ?_ (h.p.gm.mod hm2 (fun e => h.p.ne e.symm)) ⟨rfl, rfl, fun k hk => ⟨if_neg hk, if_neg hk, if_neg hk⟩⟩ (fun k hk => by rw [hupd, if_neg hk]) (fun k fk hk hfk => ⟨(h.p.ne_fr hfk).2.1, fun b hb => (h.p.ne_pb hfk b hb).2.1⟩) (fun fx hfx => ?_)) ⟨h.ok.at_, h.ok.pages, h.ok.fit, h.ok.most, h.ok.clock, ?_, fun k f hk => ?_, h.ok.gone⟩ (fun k hk => ?_)
  · have e : (fun k => ((addFr s i).P.fr k).map (fun _ => (addLo o i b q).blk k)) = updM (fun k => (s.P.fr k).map (fun _ => o.blk k)) i (some b) := by
      funext k
      unfold updM
      rw [hupd]
      show Option.map (fun _ => if k = i then b else o.blk k) _ = _
      by_cases hk : k = i
      · rw [if_pos hk, if_pos hk, if_pos hk]; rfl
      · rw [if_neg hk, if_neg hk, if_neg hk]
    rw [e]; exact hmp
  · rw [hupd, if_pos rfl] at hfx
    injection hfx with hfx
    subst hfx
    have e1 : (addLo o i b q).blk i = b := if_pos rfl
    have e2 : (addLo o i b q).pb i = some ⟨q, 0, none⟩ := if_pos rfl
    have e3 : (addLo o i b q).pc i = 512 := if_pos rfl
    rw [e1, e2, e3]
    refine ⟨⟨hat, by omega, ⟨⟨q, rfl, by omega, hsec, hql⟩, Nat.le_refl _, by unfold maxLen; omega, fun h => by cases h⟩⟩, fun k fk hk hfk => ⟨fun e => ?_, fun e => ?_⟩⟩
    · have := (hlt (o.blk k) (.inr (.inr (.inr ⟨k, fk, hfk, .inl rfl⟩)))).2; omega
    · have := (hlt q (.inr (.inr (.inr ⟨k, fk, hfk, .inr e⟩)))).2; omega
  · have := insK_len i s.P.ks
    show ((insK i s.P.ks).length : Int) ≤ s.P.most
    omega
  · have hk : (addFr s i).P.fr k = some f := hk
    by_cases hki : k = i
    · subst hki
      rw [hupd, if_pos rfl] at hk
      injection hk with hk
      subst hk
      exact ⟨hfrok, hi⟩
    · exact h.ok.fr k f (hold k f hki hk)
  · rcases hk with hk | hk | hk | ⟨j, fj, hj, hk⟩
    · exact .inl (.inl hk)
    · exact .inl (.inr (.inl hk))
    · exact .inl (.inr (.inr (.inl hk)))
    · by_cases hji : j = i
      · subst hji
        right
        rcases hk with hk | hk
        · have e1 : (addLo o j b q).blk j = b := if_pos rfl
          rw [e1] at hk; omega
        · have e2 : (addLo o j b q).pb j = some ⟨q, 0, none⟩ := if_pos rfl
          rw [e2] at hk
          have : q = k := by simpa [ownBlk] using hk
          omega
      · left
        have e1 : (addLo o i b q).blk j = o.blk j := if_neg hji
        have e2 : (addLo o i b q).pb j = o.pb j := if_neg hji
        rw [e1, e2] at hk
        exact .inr (.inr (.inr ⟨j, fj, hold j fj hji hj, hk⟩))
end
end Go.Proofs.Ytggeepihkeocmaa
