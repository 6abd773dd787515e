/- DiskLasts: the walk. -/
import Derived.Test.YtjgomebnlekddaaDLasts
namespace Go.Proofs.Ytjgomebnlekddaa
set_option linter.unusedVariables false
set_option linter.unusedSimpArgs false
open Go.RowKit
theorem rowNF {w : World} {base e sz n c d lb m mc : Nat} {A pA : Option Addr} {xs : List Value} {D : Dk} (h : w.ownsRow base e sz (.slice A n c) n xs) (hd : Dsk w d lb pA m mc D) (h1 : 105 ≠ e) (h2 : 107 ≠ e) (h3 : e ≠ 109) : ∀ b, ownBlk A = some b → ¬ Foot d lb pA b := by
  intro b hb hf
  rcases hf with rfl | rfl | hf
  · exact hd.at_.ne_own h h1 hb
  · exact hd.row.ne_own h h2 hb
  · rcases Go.Proofs.Ytjgomebnlekddaa.ne_ty h hd.way h3 with h4 | h4
    · rw [h4] at hb; cases hb
    · exact h4 (hb.trans hf.symm)
theorem owns_mod {w w' : World} {base e sz n c : Nat} {A : Option Addr} {xs : List Value} {S : Nat → Prop} (h : w.ownsRow base e sz (.slice A n c) n xs) (hm : Mod S w w') (hs : ∀ b, ownBlk A = some b → ¬ S b) : w'.ownsRow base e sz (.slice A n c) n xs :=
  owns_heap h (fun b hb => by
    have hb' := hb
    rw [ownBlk_eq] at hb'
    exact hm.block b (h.lt b hb).2 (hs b hb'))
theorem owns_bel {w w' : World} {base e sz n c : Nat} {A : Option Addr} {xs : List Value} (h : w.ownsRow base e sz (.slice A n c) n xs) (hb : Below w.heap.size w w') : w'.ownsRow base e sz (.slice A n c) n xs := owns_mod h (S := Nob) (Mod.of_below hb) (fun _ _ h => h)
theorem DskB.grown {w w' : World} {base d lb m mc : Nat} {pA A : Option Addr} {D : Dk} (h : DskB w base d lb pA m mc D) (hg : w.grownBy w' (ownBlk A)) (hn : ∀ b, ownBlk A = some b → ¬ Foot d lb pA b) : DskB w' base d lb pA m mc D := by
  have hm : Mod (fun k => ownBlk A = some k) w w' := ⟨hg.os, hg.tape, hg.output, hg.size, fun k hk hn' => hg.block k hk (fun e => hn' e.symm)⟩
  exact ⟨h.k.mod hm (fun e => hn _ e (.inl rfl)) (fun e => hn _ e (.inr (.inl rfl))) (fun k hk e => hn k e (.inr (.inr hk))), h.hd, h.hl, h.hp⟩
theorem one_row {w : World} {b T base : Nat} {v : Value} (h : At w b #[v] T) (hb : base ≤ b) : w.ownsRow base T 1 (.slice (some ⟨b, 0, none⟩) 1 1) 1 [v] :=
  ⟨rfl, .inr ⟨b, 1, #[v], rfl, hb, h, Nat.le_refl _, by decide, rfl, rfl⟩⟩
theorem one_str7 (s : ByteArray) : ∀ u ∈ (#[.string s] : Array Value).toList, u.oneCell' = true := by
  intro u hu
  simp at hu
  subst hu
  rfl
set_option maxRecDepth 100000 in
set_option maxHeartbeats 8000000 in
theorem dlasts_calls {sn sc ln lc kn kc : Nat} {sA lA kA : Option Addr} {sl : List Int} {L : Nat → List Int} {kl : List Bool} (aa : Int) (w : World) (hs : BsR w 0 w.heap.size sA sn sl) (hL : LtR w lA ln L) (hk : BoR w 0 w.heap.size kA kn kl) (a0 : 0 ≤ aa) (a1 : aa ≤ 255) : Calls Try.prog 14 #[.slice sA sn sc, .slice lA ln lc, .int .u8 aa, .slice kA kn kc] w fun e w' => e = .returned (.bool true) ∧ Below w.heap.size w w' := by
  have r1 : IntKind.i64.wrap aa = aa := IntWalk.i64_in _ (by omega)
  have r2 : Int.tmod aa 30 = aa % 30 := Int.tmod_eq_emod_of_nonneg a0
  go_enter Try.func14, Try.ntmps14
  go_wp2_with fail
  refine (dawake_calls w).mono ?_
  rintro e w1 ⟨rfl, hb1⟩
  by_cases hn : ln ≤ 20
  · have hn' : (ln : Int) ≤ 20 := by omega
    go_wp2_with fail
    refine (new_calls 1 (by omega) (by omega) w1).mono ?_
    rintro e w2 ⟨d, lb, rfl, hd0, hb2, hdd, hlb⟩
    have hs1 := hb1.size
    have hD2 : DskB w2 w.heap.size d lb none 0 0 (newD 1) := ⟨hd0, by omega, by omega, fun b hb => by cases hb⟩
    have hB2 := below_keep hb2 hb1
    have hdw : w.heap.size ≤ d := by omega
    have hlw : w.heap.size ≤ lb := by omega
    clear hd0 hb2 hb1
    go_wp2_with fail
    refine (full_calls sc w2 (hs.below hB2 (Nat.le_refl _)) hB2.size).mono ?_
    rintro e w3 ⟨b3, rfl, ho3, hb3, -⟩
    have hD3 := hD2.later hb3
    have hB3 := below_keep hb3 hB2
    have hF0 := Lib.hid (fullL_sec hs.2.1)
    go_wp2_with fail
    refine (wri_own 0 w3 hD3 (by show 0 < 1; omega) rfl (by show (0 : Int) < 1000000000; omega) (by omega) ho3 hB3.size).mono ?_
    rintro e w4 ⟨rfl, ⟨pA4, mc4, hD4⟩, hb4, -, -⟩
    rw [show wrE (newD 1) = 0 from rfl]
    have hB4 := below_tr hB3 hb4
    go_wp2_with fail
    refine (sync_calls w4 hD4.k rfl (by show (1 : Int) < 1000000000; omega) rfl).mono ?_
    rintro e w5 ⟨rfl, hd5, hm5⟩
    have hB5 := below_tr hB4 (hm5.below hB4.size hD4.footL)
    go_wp2_with fail
    refine (arm_calls (aa % 30) w5 hd5 (by omega) (by omega)).mono ?_
    rintro e w6 ⟨rfl, hd6, hm6⟩
    have hD6 : DskB w6 w.heap.size d lb none 0 0 (armD (syncD (wrD (newD 1) 0 (fullL sl))) (aa % 30)) := ⟨hd6, hdw, hlw, fun b hb => by cases hb⟩
    have hB6 := below_tr hB5 (hm6.below hB5.size (fun i hi => by rw [hi]; exact hdw))
    have hLas : Las (armD (syncD (wrD (newD 1) 0 (fullL sl))) (aa % 30)) (fullL sl) L 0 := ⟨rfl, rfl, by show (0 : Int) ≤ 2 ∧ (2 : Int) ≤ _; omega⟩
    clear hD2 hB2 ho3 hb3 hD3 hB3 hD4 hb4 hB4 hd5 hm5 hB5 hd6 hm6 r1 r2
    generalize armD (syncD (wrD (newD 1) 0 (fullL sl))) (aa % 30) = D0 at *
    go_wp2_with fail
    refine (full_calls sc w6 (hs.below hB6 (Nat.le_refl _)) hB6.size).mono ?_
    rintro e w7 ⟨b7, rfl, ho7, hb7, -⟩
    have hD7 := hD6.later hb7
    have hB7 := below_keep hb7 hB6
    have hcv := run_str 512 w7 ho7.reads
    have hF0e := Lib.hid hF0.out
    generalize hFe : fullL sl = F0 at *
    go_upto_region 8 with (fail)
    have hrow := one_row (base := w.heap.size) (At.new w7 #[.string (strL F0)] 9) hB7.size
    have hD8 := hD7.later (below_new w7 (.cells #[.string (strL F0)] 9))
    have hB8 := below_al (O := .cells #[.string (strL F0)] 9) hB7
    generalize (w7.alloc (.cells #[.string (strL F0)] 9)) = w8 at *
    generalize w7.heap.size = b8 at *
    clear hcv ho7 hb7 hD6 hB6 hD7 hB7 hFe
    go_loopw [11, 12] (fun v11 v12 wr => ∃ (j m mc c : Nat) (pA A : Option Addr) (D : Dk), j ≤ ln ∧ v12 = .int .i64 j ∧ v11 = .slice A (j + 1) c ∧ wr.ownsRow w.heap.size 9 1 (.slice A (j + 1) c) (j + 1) (strV (mayV F0 L j)) ∧ DskB wr w.heap.size d lb pA m mc D ∧ Las D F0 L j ∧ Below w.heap.size w wr) (fun _ v12 _ => ln - (intOf v12).toNat)
    case atStart => exact ⟨0, 0, 0, 1, none, _, D0, by omega, rfl, rfl, hrow, hD8, hLas, hB8⟩
    case round =>
      clear hrow hD8 hLas hB8
      obtain ⟨j, m, mc, c, pA, A, D, hj, rfl, rfl, hrow, hD, hLas, hB⟩ := hrel
      have hm := hD.k.wl
      rw [hLas.len] at hm
      have hLa := Lib.hid hLas
      have hm' := Lib.hid hm
      clear hLas hm
      have hlc := hLa.out.l
      have hops := hLa.out.ops
      by_cases hlt : j < ln
      · have hj0 : (0 : Int) ≤ j := by omega
        have hj1 : (j : Int) < ln := by omega
        cases hoff : D.off
        · obtain ⟨gb, go', bA, bN, bC, rfl, g2, hc1, hbb⟩ := hL j hlt
          have hcell := (hB.cell (p := ⟨gb, go' + j, none⟩) g2).trans hc1
          go_wp2_with fail
          refine (on_calls wr hD.k).mono ?_
          rintro e wr' ⟨rfl, rfl⟩
          rw [hoff]
          go_wp2_with fail
          refine (full_calls bC wr (hbb.below hB (Nat.le_refl _)) hB.size).mono ?_
          rintro e wp ⟨bp, rfl, hop, hbp, -⟩
          have hDp := hD.later hbp
          have hBp := below_keep hbp hB
          have hrp := owns_bel hrow hbp
          clear hD hB hrow hcell
          go_wp2_with fail
          refine (wri_own 0 wp hDp (by rw [hlc]; exact Nat.one_pos) hoff (by omega) (by have := hm'.out; omega) hop hBp.size).mono ?_
          rintro e wq ⟨rfl, ⟨pAq, mcq, hDq⟩, hbq, -, hmq⟩
          have hBq := below_tr hBp hbq
          have hrq := owns_mod hrp hmq (rowNF hrp hDp.k (by decide) (by decide) (by decide))
          have hcell := (hBq.cell (p := ⟨gb, go' + j, none⟩) g2).trans hc1
          have hLq := Lib.hid hLa.out.wr
          generalize hDe : wrD D 0 (fullL (L j)) = D' at *
          generalize wrE D = er at *
          clear hop hbp hDp hBp hrp hbq hmq hDe
          go_wp2_with fail
          refine (full_calls bC wq (hbb.below hBq (Nat.le_refl _)) hBq.size).mono ?_
          rintro e wx ⟨bx, rfl, hox, hbx, -⟩
          have hDx := hDq.later hbx
          have hBx := below_keep hbx hBq
          have hrx := owns_bel hrq hbx
          have hcv := run_str 512 wx hox.reads
          have hms := Lib.hid (mayV_succ F0 L j)
          have q1 : j + 1 + 1 ≤ maxLen := by unfold maxLen; omega
          have q2 : (j + 1 + 1) * 16 ≤ 140737488355328 := by omega
          generalize fullL (L j) = Fj at *
          clear hox hbx hDq hBq hrq hcell
          go_wp2_with (at_builtin; refine wpList_appG strElt7 rfl (.tmp 67) (.tmp 74) rfl w.heap.size (j + 1) c A _ rfl (owns_bel hrx (below_new wx (.cells #[.string (strL Fj)] 9))) 1 1 (some ⟨wx.heap.size, 0, none⟩) [.string (strL Fj)] rfl (Src.of_at (At.new wx #[.string (strL Fj)] 9) rfl (one_str7 _)) q1 q2 (Nat.le_trans hBx.size (ge_new wx (.cells #[.string (strL Fj)] 9))) ?_; intro A9 c9 w9 ho9 hg9 hb9 hat9)
          go_roundw
          case rel => exact ⟨j + 1, m + 1, mcq, c9, pAq, A9, D', by omega, by go_num, rfl, by
            rw [hms.out]
            unfold strV
            rw [List.map_append]
            exact ho9, (hDx.later (below_new wx (.cells #[.string (strL Fj)] 9))).grown hg9 (rowNF (owns_bel hrx (below_new wx (.cells #[.string (strL Fj)] 9))) (hDx.later (below_new wx (.cells #[.string (strL Fj)] 9))).k (by decide) (by decide) (by decide)), hLq.out, below_tr (below_al hBx) hb9⟩
          case measure => simp [intOf]; omega
        · go_wp2_with fail
          refine (on_calls wr hD.k).mono ?_
          rintro e wr' ⟨rfl, rfl⟩
          rw [hoff]
          go_wp2_with fail
          refine (rest_calls (n := kn) (kl := kl) wr hD.k ⟨hk.1, (hk.2.below hB (Nat.le_refl _)).more hB.size⟩ (fun hpos b hb => ?_)).mono ?_
          · obtain ⟨gb, go', hA, -, g2, -⟩ := hk.2 hpos
            rw [hA] at hb
            injection hb with hb
            have hgb : gb = b := hb
            have h1 := hD.hd
            have h2 := hD.hl
            omega
          rintro e wu ⟨rfl, hdu, hmu⟩
          have hBu := below_tr hB (hmu.below hB.size hD.footL)
          have hru := owns_mod hrow hmu (fun b hb hf => rowNF hrow hD.k (by decide) (by decide) (by decide) b hb (by rcases hf with h | h; exact .inl h; exact .inr (.inl h)))
          have hDu : DskB wu w.heap.size d lb none 0 0 (restD D kn kl) := ⟨hdu, hD.hd, hD.hl, fun b hb => by cases hb⟩
          go_wp2_with fail
          refine (read_calls 0 wu hdu (by show 0 < List.length (setTo _ _ _); rw [setTo_len, hlc]; exact Nat.one_pos) rfl).mono ?_
          rintro e wv ⟨b9, rfl, hs9, hb9, -⟩
          have hBv := below_keep hb9 hBu
          have hrv := owns_bel hru hb9
          have hDv := hDu.later hb9
          have hLby : ∀ t, t < j → Byt (L t) := fun t ht => by
            obtain ⟨_, _, _, _, _, -, -, -, hb⟩ := hL t (by omega)
            exact hb.2.1
          have hmem := Lib.hid (hLa.out.read kn kl)
          have hpen := Lib.hid (show (restD D kn kl).way.length = 0 ∧ (restD D kn kl).off = false from ⟨rfl, rfl⟩)
          have hbyM := Lib.hid (mayV_byt (L := L) (j := j) hF0e.out.2 hLby)
          have hMl := Lib.hid (mayV_len F0 L j)
          generalize restD D kn kl = DR at *
          generalize mayV F0 L j = M at *
          generalize readD DR 0 = p at *
          clear hD hB hrow hdu hmu hBu hru hDu hb9
          have hnn0 : 0 < j + 1 := by omega
          generalize hnn : j + 1 = nn at *
          obtain ⟨b11, rfl, hcl⟩ := row_str hrv hnn0
          have hpb := Lib.hid hs9.2.2
          have hp9 := hs9.bs2
          clear hs9 hrv hL
          go_upto_region 18 with (fail)
          go_loopw [15, 16] (fun v15 v16 wz => ∃ t : Nat, t ≤ nn ∧ v16 = .int .i64 t ∧ v15 = .bool (okTo M p t) ∧ ∃ i, wz = wv.drewN i) (fun _ v16 _ => nn - (intOf v16).toNat)
          case atStart => exact ⟨0, Nat.zero_le _, rfl, rfl, 0, rfl⟩
          case round =>
            obtain ⟨t, ht, rfl, rfl, i, hi⟩ := hrel
            by_cases hlt : t < nn
            · have ht0 : (0 : Int) ≤ t := by omega
              have ht1 : (t : Int) < nn := by omega
              have hcell : wr.cell? ⟨b11, t, none⟩ = some (.string (strL (M.getD t []))) := by rw [hi]; exact hcl t hlt
              have hcv := fun i' => run_str 512 (wr.drewN i') (show BsR (wr.drewN i') 0 wv.heap.size (some ⟨b9, 0, none⟩) 512 p from by rw [hi]; exact hp9)
              have e1 := str_eq (hbyM.out t) hpb.out
              have hst := Lib.hid (okTo_succ (p := p) (show t < M.length by rw [hMl.out]; exact hlt))
              have hi' := Lib.hid hi
              clear hi
              generalize eqB (M.getD t []) p = ee at *
              generalize strL (M.getD t []) = sm at *
              generalize okTo M p t = ok at *
              cases ok
              all_goals
                go_upto_region 20 with (fail)
                go_quiet (fail)
                go_wp2
                go_roundw
                case rel => exact ⟨t + 1, hlt, by go_num, by rw [hst.out]; first | rfl | simp, i + nq, by rw [hi'.out]; first | rfl | (simp only [World.drewN_drewN]; done) | (simp only [World.drewN_drewN]; rfl)⟩
                case measure => simp [intOf]; omega
            · have hte : t = nn := by omega
              have ht1 : ¬ ((t : Int) < (nn : Int)) := by omega
              have hok := okTo_all hmem.out
              rw [hMl.out, ← hte] at hok
              have hBz : Below wv.heap.size wv wr := by rw [hi]; exact below_drewN (Below.refl _ _) i
              have hDz := hDv.later hBz
              rw [hok]
              clear hok hi hcl hp9
              go_wp2_with fail
              refine (pending_calls wr hDz.k).mono ?_
              rintro e wr' ⟨rfl, rfl⟩
              go_wp2_with fail
              refine (on_calls wr hDz.k).mono ?_
              rintro e wr' ⟨rfl, rfl⟩
              rw [hpen.out.2]
              go_wp2
              go_ret
              exact ⟨by first | rfl | simp, below_keep hBz hBv⟩
      · have hj1 : ¬ ((j : Int) < (ln : Int)) := by omega
        have hjn : ¬ ((20 : Int) < (ln : Int)) := by omega
        go_wp2_with fail
        refine (rest_calls (n := kn) (kl := kl) wr hD.k ⟨hk.1, (hk.2.below hB (Nat.le_refl _)).more hB.size⟩ (fun hpos b hb => ?_)).mono ?_
        · obtain ⟨gb, go', hA, -, g2, -⟩ := hk.2 hpos
          rw [hA] at hb
          injection hb with hb
          have hgb : gb = b := hb
          have h1 := hD.hd
          have h2 := hD.hl
          omega
        rintro e wu ⟨rfl, hdu, hmu⟩
        have hBu := below_tr hB (hmu.below hB.size hD.footL)
        have hru := owns_mod hrow hmu (fun b hb hf => rowNF hrow hD.k (by decide) (by decide) (by decide) b hb (by rcases hf with h | h; exact .inl h; exact .inr (.inl h)))
        have hDu : DskB wu w.heap.size d lb none 0 0 (restD D kn kl) := ⟨hdu, hD.hd, hD.hl, fun b hb => by cases hb⟩
        go_wp2_with fail
        refine (read_calls 0 wu hdu (by show 0 < List.length (setTo _ _ _); rw [setTo_len, hlc]; exact Nat.one_pos) rfl).mono ?_
        rintro e wv ⟨b9, rfl, hs9, hb9, -⟩
        have hBv := below_keep hb9 hBu
        have hrv := owns_bel hru hb9
        have hDv := hDu.later hb9
        have hLby : ∀ t, t < j → Byt (L t) := fun t ht => by
          obtain ⟨_, _, _, _, _, -, -, -, hb⟩ := hL t (by omega)
          exact hb.2.1
        have hmem := Lib.hid (hLa.out.read kn kl)
        have hpen := Lib.hid (show (restD D kn kl).way.length = 0 ∧ (restD D kn kl).off = false from ⟨rfl, rfl⟩)
        have hbyM := Lib.hid (mayV_byt (L := L) (j := j) hF0e.out.2 hLby)
        have hMl := Lib.hid (mayV_len F0 L j)
        generalize restD D kn kl = DR at *
        generalize mayV F0 L j = M at *
        generalize readD DR 0 = p at *
        clear hD hB hrow hdu hmu hBu hru hDu hb9
        have hnn0 : 0 < j + 1 := by omega
        generalize hnn : j + 1 = nn at *
        obtain ⟨b11, rfl, hcl⟩ := row_str hrv hnn0
        have hpb := Lib.hid hs9.2.2
        have hp9 := hs9.bs2
        clear hs9 hrv hL
        go_upto_region 18 with (fail)
        go_loopw [15, 16] (fun v15 v16 wz => ∃ t : Nat, t ≤ nn ∧ v16 = .int .i64 t ∧ v15 = .bool (okTo M p t) ∧ ∃ i, wz = wv.drewN i) (fun _ v16 _ => nn - (intOf v16).toNat)
        case atStart => exact ⟨0, Nat.zero_le _, rfl, rfl, 0, rfl⟩
        case round =>
          obtain ⟨t, ht, rfl, rfl, i, hi⟩ := hrel
          by_cases hlt : t < nn
          · have ht0 : (0 : Int) ≤ t := by omega
            have ht1 : (t : Int) < nn := by omega
            have hcell : wr.cell? ⟨b11, t, none⟩ = some (.string (strL (M.getD t []))) := by rw [hi]; exact hcl t hlt
            have hcv := fun i' => run_str 512 (wr.drewN i') (show BsR (wr.drewN i') 0 wv.heap.size (some ⟨b9, 0, none⟩) 512 p from by rw [hi]; exact hp9)
            have e1 := str_eq (hbyM.out t) hpb.out
            have hst := Lib.hid (okTo_succ (p := p) (show t < M.length by rw [hMl.out]; exact hlt))
            have hi' := Lib.hid hi
            clear hi
            generalize eqB (M.getD t []) p = ee at *
            generalize strL (M.getD t []) = sm at *
            generalize okTo M p t = ok at *
            cases ok
            all_goals
              go_upto_region 20 with (fail)
              go_quiet (fail)
              go_wp2
              go_roundw
              case rel => exact ⟨t + 1, hlt, by go_num, by rw [hst.out]; first | rfl | simp, i + nq, by rw [hi'.out]; first | rfl | (simp only [World.drewN_drewN]; done) | (simp only [World.drewN_drewN]; rfl)⟩
              case measure => simp [intOf]; omega
          · have hte : t = nn := by omega
            have ht1 : ¬ ((t : Int) < (nn : Int)) := by omega
            have hok := okTo_all hmem.out
            rw [hMl.out, ← hte] at hok
            have hBz : Below wv.heap.size wv wr := by rw [hi]; exact below_drewN (Below.refl _ _) i
            have hDz := hDv.later hBz
            rw [hok]
            clear hok hi hcl hp9
            go_wp2_with fail
            refine (pending_calls wr hDz.k).mono ?_
            rintro e wr' ⟨rfl, rfl⟩
            go_wp2_with fail
            refine (on_calls wr hDz.k).mono ?_
            rintro e wr' ⟨rfl, rfl⟩
            rw [hpen.out.2]
            go_wp2
            go_ret
            exact ⟨by first | rfl | simp, below_keep hBz hBv⟩
  · have hn' : (20 : Int) < ln := by omega
    go_wp2_with fail
    refine (dawake_calls w1).mono ?_
    rintro e w2 ⟨rfl, hb2⟩
    go_wp2
    go_ret
    exact ⟨by first | rfl | simp, below_keep hb2 hb1⟩
end Go.Proofs.Ytjgomebnlekddaa
