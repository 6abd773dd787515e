/- Joined texts: PlL. -/
import Derived.Test.YtggeepihkeocmaaJPlays24
import Derived.Test.YtggeepihkeocmaaJPlays10
/- The pool's Write: the walk. -/
namespace Go.Proofs.Ytggeepihkeocmaa
set_option linter.unusedVariables false
set_option linter.unusedSimpArgs false
open Go.RowKit Go.Maps
def WrTo (w w' : World) (base d lb g pp : Nat) (FT : Nat → Prop) (s : St) (i : Int) (off : Nat) (b : List Int) (lsn : Int) : Prop := (getE s i ≠ 0 ∧ ∃ o, POn w w' base d lb g pp FT o (getS s i)) ∨ (getE s i = 0 ∧ ∃ o, POn w w' base d lb g pp FT o (wrS s i off b lsn))
set_option maxRecDepth 100000 in
set_option maxHeartbeats 8000000 in
theorem pwrite_calls {base d lb g pp bc m mc : Nat} {F : Nat → Prop} {bA B : Option Addr} {o : Lo} {s : St} {b : List Int} (i : Int) (off : Nat) (lsn : Int) (w : World) (h : PWo w base d lb g pp F bA bc o s) (hI : Inv s) (hc : s.P.clock + 1 ≤ 1000000) (hlsn : 0 ≤ lsn ∧ lsn < 18446744073709551616) (hb : BsR w 0 w.heap.size B m b) (hbd : 0 < m → ∀ k, ownBlk B = some k → ¬ FTo g pp F bA o s.P k) (hoff : off ≤ 504) (hm : m ≤ 504 - off) :
    Calls Try.prog 21 #[.pointer (some ⟨pp, 0, none⟩), .int .i64 i, .int .i64 (off : Int), .slice B m mc, .int .u64 lsn] w fun e w' => e = .returned (.int .i64 (getE s i)) ∧ WrTo w w' base d lb g pp (FTo g pp F bA o s.P) s i off b lsn := by
  have hx := Lib.hid (get_calls i w h hI hc)
  have hbx := Lib.hid hb
  have hbdx := Lib.hid hbd
  have o1 : decide ((off : Int) < 0) = false := by simp
  have o2 : decide ((off : Int) > 504) = false := by simp; omega
  have o3 : IntKind.i64.wrap (504 - (off : Int)) = 504 - off := IntWalk.i64_in _ (by omega)
  have o4 : decide ((m : Int) > 504 - off) = false := by simp; omega
  have o5 : ¬ ((504 : Int) < off) := by omega
  have o6 : ¬ ((504 : Int) - off < m) := by omega
  have o7 : ¬ ((off : Int) < 0) := by omega
  clear h hI hc hb hbd
  go_enter Try.func21, Try.ntmps21
  go_wp2_with fail
  refine hx.out.mono ?_
  rintro e w1 (⟨hne, rfl, o1, hP⟩ | ⟨he, o1, rfl, F1, bA1, bc1, h1, hg1, hm1⟩)
  · obtain ⟨E, hE⟩ : ∃ E, getE s i = E := ⟨_, rfl⟩
    have hEx := Lib.hid hE
    have hnex := Lib.hid hne
    rw [hE] at hne
    have hPx := Lib.hid hP
    have hb1 : decide (E = 0) = false := by simp; exact hne
    have hb2 : (E == 0) = false := by simp; exact hne
    rw [hE]
    clear hE hne hP
    go_wp2
    go_ret
    exact ⟨by (rw [hEx.out]; first | rfl | simp), .inl ⟨hnex.out, o1, hPx.out⟩⟩
  · obtain ⟨f, hf⟩ := getS_fr s i he
    obtain ⟨q1, hq2, ⟨gq, hA, hgb, hbs, hgl⟩, hc1, hc2, -⟩ := h1.p.frs i f hf
    have hfok := (h1.ok.fr i f hf).1
    rw [hA] at q1 hbs
    have hcut : BsR w1 gq (gq + 1) (some ⟨gq, 8, none⟩) 504 (f.p.drop 8) := by
      have := hbs.cutN 8 512 (Nat.le_refl _) (by omega)
      rw [List.take_of_length_le (by rw [hfok.len]; omega)] at this
      exact this
    obtain ⟨cp, hcp⟩ : ∃ x, o1.pc i = x := ⟨_, rfl⟩
    rw [hcp] at q1 hc1 hc2
    have hne8 : ¬ (cp = 8) := by omega
    have h8c : 8 ≤ cp := by omega
    have hgqb : gq ≠ o1.blk i := fun e => by
      have := (h1.p.ne_fr hf).2.2.2 i f hf
      rw [hA] at this
      exact this (by rw [e]; rfl)
    have hex := Lib.hid he
    have hfx := Lib.hid hf
    have h1x := Lib.hid h1
    have hg1x := Lib.hid hg1
    have hm1x := Lib.hid hm1
    have hs1x := Lib.hid hm1.size
    have hfokx := Lib.hid hfok
    have hbk : Hid (0 < m → ∀ k, ownBlk B = some k → k ≠ o1.blk i ∧ k < w.heap.size) := Lib.hid (fun h0 k hk => by
      obtain ⟨gb, go', hB, -, hl, -⟩ := hbx.out.2.2 h0
      have e2 : gb = k := by rw [hB] at hk; simpa [ownBlk] using hk
      refine ⟨fun e => ?_, by omega⟩
      have h2 : FTo g pp F1 bA1 o1 (getS s i).P k := e ▸ .inr (.inr (.inr (.inr (.inr ⟨i, f, hf, .inl rfl⟩))))
      rcases hg1 k h2 with h3 | h3
      · exact hbdx.out h0 k hk h3
      · omega)
    have hb1 : BsR w1 0 w.heap.size B m b := by
      by_cases h0 : 0 < m
      · exact hbx.out.modS hm1 (fun k hk hs => hbdx.out h0 k hk hs) (Nat.le_refl _)
      · exact ⟨hbx.out.1, hbx.out.2.1, fun h => absurd h h0⟩
    clear he hf h1 hg1 hm1 hA hcp hfok
    cases hdt : f.dirty with
    | true =>
      rw [hdt] at q1
      obtain ⟨sn, hsn⟩ : ∃ x, f.since = x := ⟨_, rfl⟩
      rw [hsn] at q1
      have hsnx : Hid ((if f.dirty = true then f.since else lsn) = sn) := Lib.hid (by rw [if_pos hdt]; exact hsn)
      have hsn0 : Hid (0 ≤ sn ∧ sn < 18446744073709551616) := Lib.hid (by rw [← hsn]; exact hfokx.out.since)
      clear hdt hsn
      have q1c := q1.c; have q1f := q1.f; have q1l := q1.lt
      go_upto_region 8 with (fail)
      obtain ⟨wT, hwT⟩ : ∃ wT, wT = w1 := ⟨_, rfl⟩
      have hmT : Mod (fun k => k = o1.blk i ∨ w1.heap.size ≤ k) w1 wT := by rw [hwT]; exact Mod.refl _ _
      have qT := q1
      rw [← hwT] at qT
      rw [← hwT]
      clear q1 q1c q1f q1l hwT
      have d3 : Below wT.heap.size wT wT.drew := below_dr (Below.refl _ _)
      have q3 := At.keep d3 qT
      have f3 := q3.c
      have hwl : w1.heap.size ≤ wT.heap.size := hmT.size
      have hcutT : BsR wT gq (gq + 1) (some ⟨gq, 8, none⟩) 504 (f.p.drop 8) := hcut.modS hmT (fun k hk hs => by
        have e2 : gq = k := by simpa [ownBlk] using hk
        rcases hs with hs | hs
        · exact hgqb (e2.trans hs)
        · omega) (by omega)
      have hgqT : gq < wT.heap.size := Nat.lt_of_lt_of_le hgl hwl
      refine wp_region_held_drew (S := fun w' => (∀ o9, w'.cell? ⟨o1.blk i, o9, none⟩ = #[.slice (some ⟨gq, 0, none⟩) 512 cp, .bool true, .int .u64 sn, .int .i64 f.pins, .int .i64 f.used][o9]?)) (by kernel_rfl) f3 (fun hHeld => ?_)
      (refine wpAnyH_takeL (i := 0) (v := ?_) rfl (by kernel_rfl) (by kernel_rfl) (by kernel_rfl) (fun _ _ _ h => h) (by rfl) hHeld ?_ ?_; rotate_left; (focus (intro w hSw; (try dsimp only at hSw); go_simp; (try with_reducible rfl); done)); (try simp only [Act.put, List.setIfInBounds_toArray, List.set_cons_zero, List.set_cons_succ]))
      (refine wpAnyH_takeL (i := 2) (v := ?_) rfl (by kernel_rfl) (by kernel_rfl) (by kernel_rfl) (fun _ _ _ h => h) (by rfl) hHeld ?_ ?_; rotate_left; (focus (intro w hSw; (try dsimp only at hSw); go_simp; (try with_reducible rfl); done)); (try simp only [Act.put, List.setIfInBounds_toArray, List.set_cons_zero, List.set_cons_succ]))
      (refine wpAnyH_takeL (i := 3) (v := ?_) rfl (by kernel_rfl) (by kernel_rfl) (by kernel_rfl) (fun _ _ _ h => h) (by rfl) hHeld ?_ ?_; rotate_left; (focus (intro w hSw; (try dsimp only at hSw); go_simp; (try with_reducible rfl); done)); (try simp only [Act.put, List.setIfInBounds_toArray, List.set_cons_zero, List.set_cons_succ]))
      (refine wpAnyH_takeL (i := 4) (v := ?_) rfl (by kernel_rfl) (by kernel_rfl) (by kernel_rfl) (fun _ _ _ h => h) (by rfl) hHeld ?_ ?_; rotate_left; (focus (intro w hSw; (try dsimp only at hSw); go_simp; (try with_reducible rfl); done)); (try simp only [Act.put, List.setIfInBounds_toArray, List.set_cons_zero, List.set_cons_succ]))
      (refine wpAnyH_takeL (i := 5) (v := ?_) rfl (by kernel_rfl) (by kernel_rfl) (by kernel_rfl) (fun _ _ _ h => h) (by rfl) hHeld ?_ ?_; rotate_left; (focus (intro w hSw; (try dsimp only at hSw); go_simp; (try with_reducible rfl); done)); (try simp only [Act.put, List.setIfInBounds_toArray, List.set_cons_zero, List.set_cons_succ]))
      (refine wpAnyH_takeL (i := 6) (v := ?_) rfl (by kernel_rfl) (by kernel_rfl) (by kernel_rfl) (fun _ _ _ h => h) (by rfl) hHeld ?_ ?_; rotate_left; (focus (intro w hSw; (try dsimp only at hSw); go_simp; (try with_reducible rfl); done)); (try simp only [Act.put, List.setIfInBounds_toArray, List.set_cons_zero, List.set_cons_succ]))
      (refine wpAnyH_callL (i := 1) rfl (by kernel_rfl) (by rfl) (fun K hK => ?_); go_simp)
      go_at_call 67
      refine (uint_g lsn hlsn.1 hlsn.2 _).mono ?_
      rintro e v1 ⟨g1, rfl, hr1, hg1a, hg1b, hbv1⟩
      have hB1 : Below wT.heap.size wT v1 := below_keep hbv1 d3
      have q4 := At.below qT hB1 qT.lt
      have f4 := q4.c
      clear hHeld
      refine hK.out _ _ f4 (fun hHeld => ?_)
      (clear hK K; (try simp only [Act.put, List.setIfInBounds_toArray, List.set_cons_zero, List.set_cons_succ]))
      refine wpAnyH_callL (i := 7) rfl (by kernel_rfl) (by rfl) (fun K hK => ?_)
      refine wp_appR 32 _ Try.underlying32 (info_parts info8).choose_spec.1 (info_parts info8).choose_spec.2.1 (info_parts info8).choose_spec.2.2.1 (info_parts info8).choose_spec.2.2.2 (.tmp 53) (.tmp 58) (by rfl) v1.heap.size 8 8 ⟨g1, 0, none⟩ ⟨gq, 8, none⟩ (u8L lsn) _ _ _ _ 504 (cp - 8) (by rfl) hr1 (f.p.drop 8) (by rfl) (hcutT.below hB1 (by omega)) (by omega) (by omega) (Nat.le_refl _) ?_
      intro c3 w3 ho3 hb3
      have hB3 : Below wT.heap.size wT w3 := below_keep hb3 hB1
      have q5 := At.below qT hB3 qT.lt
      have f5 := q5.c
      clear hHeld
      refine hK.out _ _ f5 (fun hHeld => ?_)
      (clear hK K; (try simp only [Act.put, List.setIfInBounds_toArray, List.set_cons_zero, List.set_cons_succ]))
      (refine wpAnyH_takeL (i := 8) (v := ?_) rfl (by kernel_rfl) (by kernel_rfl) (by kernel_rfl) (fun _ _ _ h => h) (by rfl) hHeld ?_ ?_; rotate_left; (focus (intro w hSw; (try dsimp only at hSw); go_simp; (try with_reducible rfl); done)); (try simp only [Act.put, List.setIfInBounds_toArray, List.set_cons_zero, List.set_cons_succ]))
      (refine wpAnyH_done (by kernel_rfl) ?_ _)
      have hv1 : wT.heap.size ≤ v1.heap.size := hB1.size
      simp only [Nat.reduceAdd] at ho3
      clear hHeld f3 f4 f5 q3 q4 hcutT
      obtain ⟨cur, hcur, hcs, hcn, hct⟩ := OwB.at_ ho3
      obtain ⟨k8, hk8⟩ : ∃ k8 : Nat, k8 = 8 + off := ⟨_, rfl⟩
      have o8 : IntKind.i64.wrap (8 + (off : Int)) = (k8 : Int) := by rw [IntWalk.i64_in _ (by omega)]; omega
      have o9 : (0 : Int) ≤ k8 := by omega
      have o10 : (k8 : Int) ≤ 512 := by omega
      have hmb := hb1.1
      have hb3x : BsR w3 0 w.heap.size B m b := by
        by_cases h0 : 0 < m
        · exact hb1.modS (hmT.trans (Mod.of_below (S := fun k => k = o1.blk i ∨ w1.heap.size ≤ k) hB3) (fun _ _ h => h)) (fun k hk hs => by
            rcases hs with hs | hs
            · exact (hbk.out h0 k hk).1 hs
            · have := (hbk.out h0 k hk).2; have := hs1x.out; omega) hs1x.out
        · exact ⟨hb1.1, hb1.2.1, fun h => absurd h h0⟩
      have hfit8 : k8 + m ≤ 512 := by omega
      have hbx3 := Lib.hid hb3x
      have hk8x := Lib.hid hk8
      have ho3x := Lib.hid ho3
      have hb3y := Lib.hid hb3
      have hB1x := Lib.hid hB1
      have hB3x := Lib.hid hB3
      have hc512 : 512 ≤ c3 := hcn
      clear hct hcn hcur hb3x hcs hmb ho3 hb3 hbs hcut hk8 cur
      by_cases hck : c3 = k8
      · obtain ⟨w4, hrun, how4, hm4⟩ := copy_own ho3x.out hbx3.out hfit8 (some ⟨v1.heap.size, 0, none⟩) (512 - k8) 0 mc rfl (fun h => by omega)
        have hck0 : c3 - k8 = 0 := by omega
        rw [hck] at how4
        have hv1w : v1.heap.size ≤ w3.heap.size := hb3y.out.size
        have hm34 : Mod (fun k => v1.heap.size ≤ k) wT w4 := ((Mod.of_below (S := fun k => v1.heap.size ≤ k) hB3x.out)).trans hm4 (fun k _ hk => by rw [hk]; exact Nat.le_refl _)
        have q6 := qT.mod hm34 (fun hs => by have := qT.lt; omega)
        have how4x := Lib.hid how4
        have hm34x := Lib.hid hm34
        clear how4 hm4 hm34 q5
        have q6c := q6.c; have q6f := q6.f; have q6l := q6.lt
        go_wp2
        go_ret
        have q7 := At.set (o := 0) (v := .slice (some ⟨v1.heap.size, 0, none⟩) 512 k8) q6
        simp only [List.setIfInBounds_toArray, List.set_cons_zero, List.set_cons_succ] at q7
        have m7 : Mod (fun k => k = o1.blk i) w4 (w4.setCell ⟨o1.blk i, 0, none⟩ (.slice (some ⟨v1.heap.size, 0, none⟩) 512 k8)) := (Mod.refl (fun k => k = o1.blk i) w4).set (k := o1.blk i) (.inl rfl) (o := 0) _
        have how7 := how4x.out.mod m7 (fun b hb e => by
          have e2 : v1.heap.size = b := by simpa [ownBlk] using hb
          have := qT.lt; omega)
        have hmAll : Mod (fun k => k = o1.blk i ∨ w1.heap.size ≤ k) w1 (w4.setCell ⟨o1.blk i, 0, none⟩ (.slice (some ⟨v1.heap.size, 0, none⟩) 512 k8)) := (hmT.trans hm34x.out (fun k _ hk => .inr (by omega))).trans m7 (fun k _ hk => .inl hk)
        have hcM : k8 ≤ maxLen := by
          rcases how7.2.2.2 with ⟨hv, -⟩ | ⟨g2, cap, cur2, hv, b1, b2, b3, b4, -⟩
          · cases hv
          · injection hv with _ _ e3; subst e3; exact b4
        have e8 : wrF f off b lsn = ⟨splice (u8L lsn ++ f.p.drop 8) k8 b, true, sn, f.pins, f.used⟩ := by unfold wrF wrB; rw [hsnx.out, ← hk8x.out]
        have hfin : FrOk (wrF f off b lsn) := by
          rw [e8]
          exact ⟨how7.1, how7.2.1, hsn0.out, hfokx.out.pins, hfokx.out.used⟩
        obtain ⟨h9, hg9⟩ := h1x.out.bytT (f' := wrF f off b lsn) (q := v1.heap.size) (c := k8) hfx.out hmAll hfin (by omega) hcM (by rw [e8]; exact how7.less (by have := h1x.out.bw; omega)) (by rw [e8]; exact q7)
        have hgo := go_on hg1x.out hm1x.out (hmAll.mono (T := fun k => k = o1.blk i ∨ w1.heap.size ≤ k) (fun _ h => h) |> fun h => (⟨h.os, h.tape, h.output, h.size, fun k hk hn => h.block k hk (fun hs => hs.elim hn (fun h => by omega))⟩ : Mod (fun k => k = o1.blk i) w1 _)) (fun k hk => hk ▸ .inr (.inr (.inr (.inr (.inr ⟨i, f, hfx.out, .inl rfl⟩))))) hg9
        have e2 : wrS s i off b lsn = ⟨setFr (getS s i).P i (wrF f off b lsn), (getS s i).D, (getS s i).L⟩ := by unfold wrS; rw [hfx.out]
        refine ⟨by (rw [hex.out]; first | rfl | simp), .inr ⟨hex.out, setLo o1 i v1.heap.size k8, ?_⟩⟩
        rw [e2]
        exact POn.mk h9 hgo.1 hgo.2
      · obtain ⟨w4, hrun, how4, hm4⟩ := copy_own ho3x.out hbx3.out hfit8 (some ⟨v1.heap.size, k8, none⟩) (512 - k8) (c3 - k8) mc rfl (fun h => rfl)
        have hv1w : v1.heap.size ≤ w3.heap.size := hb3y.out.size
        have hm34 : Mod (fun k => v1.heap.size ≤ k) wT w4 := ((Mod.of_below (S := fun k => v1.heap.size ≤ k) hB3x.out)).trans hm4 (fun k _ hk => by rw [hk]; exact Nat.le_refl _)
        have q6 := qT.mod hm34 (fun hs => by have := qT.lt; omega)
        have how4x := Lib.hid how4
        have hm34x := Lib.hid hm34
        clear how4 hm4 hm34 q5
        have q6c := q6.c; have q6f := q6.f; have q6l := q6.lt
        go_wp2
        go_ret
        have q7 := At.set (o := 0) (v := .slice (some ⟨v1.heap.size, 0, none⟩) 512 c3) q6
        simp only [List.setIfInBounds_toArray, List.set_cons_zero, List.set_cons_succ] at q7
        have m7 : Mod (fun k => k = o1.blk i) w4 (w4.setCell ⟨o1.blk i, 0, none⟩ (.slice (some ⟨v1.heap.size, 0, none⟩) 512 c3)) := (Mod.refl (fun k => k = o1.blk i) w4).set (k := o1.blk i) (.inl rfl) (o := 0) _
        have how7 := how4x.out.mod m7 (fun b hb e => by
          have e2 : v1.heap.size = b := by simpa [ownBlk] using hb
          have := qT.lt; omega)
        have hmAll : Mod (fun k => k = o1.blk i ∨ w1.heap.size ≤ k) w1 (w4.setCell ⟨o1.blk i, 0, none⟩ (.slice (some ⟨v1.heap.size, 0, none⟩) 512 c3)) := (hmT.trans hm34x.out (fun k _ hk => .inr (by omega))).trans m7 (fun k _ hk => .inl hk)
        have hcM : c3 ≤ maxLen := by
          rcases how7.2.2.2 with ⟨hv, -⟩ | ⟨g2, cap, cur2, hv, b1, b2, b3, b4, -⟩
          · cases hv
          · injection hv with _ _ e3; subst e3; exact b4
        have e8 : wrF f off b lsn = ⟨splice (u8L lsn ++ f.p.drop 8) k8 b, true, sn, f.pins, f.used⟩ := by unfold wrF wrB; rw [hsnx.out, ← hk8x.out]
        have hfin : FrOk (wrF f off b lsn) := by
          rw [e8]
          exact ⟨how7.1, how7.2.1, hsn0.out, hfokx.out.pins, hfokx.out.used⟩
        obtain ⟨h9, hg9⟩ := h1x.out.bytT (f' := wrF f off b lsn) (q := v1.heap.size) (c := c3) hfx.out hmAll hfin (by omega) hcM (by rw [e8]; exact how7.less (by have := h1x.out.bw; omega)) (by rw [e8]; exact q7)
        have hgo := go_on hg1x.out hm1x.out (hmAll.mono (T := fun k => k = o1.blk i ∨ w1.heap.size ≤ k) (fun _ h => h) |> fun h => (⟨h.os, h.tape, h.output, h.size, fun k hk hn => h.block k hk (fun hs => hs.elim hn (fun h => by omega))⟩ : Mod (fun k => k = o1.blk i) w1 _)) (fun k hk => hk ▸ .inr (.inr (.inr (.inr (.inr ⟨i, f, hfx.out, .inl rfl⟩))))) hg9
        have e2 : wrS s i off b lsn = ⟨setFr (getS s i).P i (wrF f off b lsn), (getS s i).D, (getS s i).L⟩ := by unfold wrS; rw [hfx.out]
        refine ⟨by (rw [hex.out]; first | rfl | simp), .inr ⟨hex.out, setLo o1 i v1.heap.size c3, ?_⟩⟩
        rw [e2]
        exact POn.mk h9 hgo.1 hgo.2
    | false =>
      rw [hdt] at q1
      have hsnx : Hid ((if f.dirty = true then f.since else lsn) = lsn) := Lib.hid (by rw [if_neg (by rw [hdt]; decide)])
      have hsn0 : Hid (0 ≤ lsn ∧ lsn < 18446744073709551616) := Lib.hid hlsn
      clear hdt
      have q1c := q1.c; have q1f := q1.f; have q1l := q1.lt
      go_upto_region 8 with (fail)
      have qT := At.set (o := 2) (v := .int .u64 lsn) (At.set (o := 1) (v := .bool true) q1)
      simp only [List.setIfInBounds_toArray, List.set_cons_zero, List.set_cons_succ] at qT
      have hmT := ((Mod.refl (fun k => k = o1.blk i ∨ w1.heap.size ≤ k) w1).set (k := o1.blk i) (.inl (.inl rfl)) (o := 1) (.bool true)).set (k := o1.blk i) (.inl (.inl rfl)) (o := 2) (.int .u64 lsn)
      clear q1 q1c q1f q1l
      generalize ((w1.setCell ⟨o1.blk i, 1, none⟩ (.bool true)).setCell ⟨o1.blk i, 2, none⟩ (.int .u64 lsn)) = wT at *
      have d3 : Below wT.heap.size wT wT.drew := below_dr (Below.refl _ _)
      have q3 := At.keep d3 qT
      have f3 := q3.c
      have hwl : w1.heap.size ≤ wT.heap.size := hmT.size
      have hcutT : BsR wT gq (gq + 1) (some ⟨gq, 8, none⟩) 504 (f.p.drop 8) := hcut.modS hmT (fun k hk hs => by
        have e2 : gq = k := by simpa [ownBlk] using hk
        rcases hs with hs | hs
        · exact hgqb (e2.trans hs)
        · omega) (by omega)
      have hgqT : gq < wT.heap.size := Nat.lt_of_lt_of_le hgl hwl
      refine wp_region_held_drew (S := fun w' => (∀ o9, w'.cell? ⟨o1.blk i, o9, none⟩ = #[.slice (some ⟨gq, 0, none⟩) 512 cp, .bool true, .int .u64 lsn, .int .i64 f.pins, .int .i64 f.used][o9]?)) (by kernel_rfl) f3 (fun hHeld => ?_)
      (refine wpAnyH_takeL (i := 0) (v := ?_) rfl (by kernel_rfl) (by kernel_rfl) (by kernel_rfl) (fun _ _ _ h => h) (by rfl) hHeld ?_ ?_; rotate_left; (focus (intro w hSw; (try dsimp only at hSw); go_simp; (try with_reducible rfl); done)); (try simp only [Act.put, List.setIfInBounds_toArray, List.set_cons_zero, List.set_cons_succ]))
      (refine wpAnyH_takeL (i := 2) (v := ?_) rfl (by kernel_rfl) (by kernel_rfl) (by kernel_rfl) (fun _ _ _ h => h) (by rfl) hHeld ?_ ?_; rotate_left; (focus (intro w hSw; (try dsimp only at hSw); go_simp; (try with_reducible rfl); done)); (try simp only [Act.put, List.setIfInBounds_toArray, List.set_cons_zero, List.set_cons_succ]))
      (refine wpAnyH_takeL (i := 3) (v := ?_) rfl (by kernel_rfl) (by kernel_rfl) (by kernel_rfl) (fun _ _ _ h => h) (by rfl) hHeld ?_ ?_; rotate_left; (focus (intro w hSw; (try dsimp only at hSw); go_simp; (try with_reducible rfl); done)); (try simp only [Act.put, List.setIfInBounds_toArray, List.set_cons_zero, List.set_cons_succ]))
      (refine wpAnyH_takeL (i := 4) (v := ?_) rfl (by kernel_rfl) (by kernel_rfl) (by kernel_rfl) (fun _ _ _ h => h) (by rfl) hHeld ?_ ?_; rotate_left; (focus (intro w hSw; (try dsimp only at hSw); go_simp; (try with_reducible rfl); done)); (try simp only [Act.put, List.setIfInBounds_toArray, List.set_cons_zero, List.set_cons_succ]))
      (refine wpAnyH_takeL (i := 5) (v := ?_) rfl (by kernel_rfl) (by kernel_rfl) (by kernel_rfl) (fun _ _ _ h => h) (by rfl) hHeld ?_ ?_; rotate_left; (focus (intro w hSw; (try dsimp only at hSw); go_simp; (try with_reducible rfl); done)); (try simp only [Act.put, List.setIfInBounds_toArray, List.set_cons_zero, List.set_cons_succ]))
      (refine wpAnyH_takeL (i := 6) (v := ?_) rfl (by kernel_rfl) (by kernel_rfl) (by kernel_rfl) (fun _ _ _ h => h) (by rfl) hHeld ?_ ?_; rotate_left; (focus (intro w hSw; (try dsimp only at hSw); go_simp; (try with_reducible rfl); done)); (try simp only [Act.put, List.setIfInBounds_toArray, List.set_cons_zero, List.set_cons_succ]))
      (refine wpAnyH_callL (i := 1) rfl (by kernel_rfl) (by rfl) (fun K hK => ?_); go_simp)
      go_at_call 67
      refine (uint_g lsn hlsn.1 hlsn.2 _).mono ?_
      rintro e v1 ⟨g1, rfl, hr1, hg1a, hg1b, hbv1⟩
      have hB1 : Below wT.heap.size wT v1 := below_keep hbv1 d3
      have q4 := At.below qT hB1 qT.lt
      have f4 := q4.c
      clear hHeld
      refine hK.out _ _ f4 (fun hHeld => ?_)
      (clear hK K; (try simp only [Act.put, List.setIfInBounds_toArray, List.set_cons_zero, List.set_cons_succ]))
      refine wpAnyH_callL (i := 7) rfl (by kernel_rfl) (by rfl) (fun K hK => ?_)
      refine wp_appR 32 _ Try.underlying32 (info_parts info8).choose_spec.1 (info_parts info8).choose_spec.2.1 (info_parts info8).choose_spec.2.2.1 (info_parts info8).choose_spec.2.2.2 (.tmp 53) (.tmp 58) (by rfl) v1.heap.size 8 8 ⟨g1, 0, none⟩ ⟨gq, 8, none⟩ (u8L lsn) _ _ _ _ 504 (cp - 8) (by rfl) hr1 (f.p.drop 8) (by rfl) (hcutT.below hB1 (by omega)) (by omega) (by omega) (Nat.le_refl _) ?_
      intro c3 w3 ho3 hb3
      have hB3 : Below wT.heap.size wT w3 := below_keep hb3 hB1
      have q5 := At.below qT hB3 qT.lt
      have f5 := q5.c
      clear hHeld
      refine hK.out _ _ f5 (fun hHeld => ?_)
      (clear hK K; (try simp only [Act.put, List.setIfInBounds_toArray, List.set_cons_zero, List.set_cons_succ]))
      (refine wpAnyH_takeL (i := 8) (v := ?_) rfl (by kernel_rfl) (by kernel_rfl) (by kernel_rfl) (fun _ _ _ h => h) (by rfl) hHeld ?_ ?_; rotate_left; (focus (intro w hSw; (try dsimp only at hSw); go_simp; (try with_reducible rfl); done)); (try simp only [Act.put, List.setIfInBounds_toArray, List.set_cons_zero, List.set_cons_succ]))
      (refine wpAnyH_done (by kernel_rfl) ?_ _)
      have hv1 : wT.heap.size ≤ v1.heap.size := hB1.size
      simp only [Nat.reduceAdd] at ho3
      clear hHeld f3 f4 f5 q3 q4 hcutT
      obtain ⟨cur, hcur, hcs, hcn, hct⟩ := OwB.at_ ho3
      obtain ⟨k8, hk8⟩ : ∃ k8 : Nat, k8 = 8 + off := ⟨_, rfl⟩
      have o8 : IntKind.i64.wrap (8 + (off : Int)) = (k8 : Int) := by rw [IntWalk.i64_in _ (by omega)]; omega
      have o9 : (0 : Int) ≤ k8 := by omega
      have o10 : (k8 : Int) ≤ 512 := by omega
      have hmb := hb1.1
      have hb3x : BsR w3 0 w.heap.size B m b := by
        by_cases h0 : 0 < m
        · exact hb1.modS (hmT.trans (Mod.of_below (S := fun k => k = o1.blk i ∨ w1.heap.size ≤ k) hB3) (fun _ _ h => h)) (fun k hk hs => by
            rcases hs with hs | hs
            · exact (hbk.out h0 k hk).1 hs
            · have := (hbk.out h0 k hk).2; have := hs1x.out; omega) hs1x.out
        · exact ⟨hb1.1, hb1.2.1, fun h => absurd h h0⟩
      have hfit8 : k8 + m ≤ 512 := by omega
      have hbx3 := Lib.hid hb3x
      have hk8x := Lib.hid hk8
      have ho3x := Lib.hid ho3
      have hb3y := Lib.hid hb3
      have hB1x := Lib.hid hB1
      have hB3x := Lib.hid hB3
      have hc512 : 512 ≤ c3 := hcn
      clear hct hcn hcur hb3x hcs hmb ho3 hb3 hbs hcut hk8 cur
      by_cases hck : c3 = k8
      · obtain ⟨w4, hrun, how4, hm4⟩ := copy_own ho3x.out hbx3.out hfit8 (some ⟨v1.heap.size, 0, none⟩) (512 - k8) 0 mc rfl (fun h => by omega)
        have hck0 : c3 - k8 = 0 := by omega
        rw [hck] at how4
        have hv1w : v1.heap.size ≤ w3.heap.size := hb3y.out.size
        have hm34 : Mod (fun k => v1.heap.size ≤ k) wT w4 := ((Mod.of_below (S := fun k => v1.heap.size ≤ k) hB3x.out)).trans hm4 (fun k _ hk => by rw [hk]; exact Nat.le_refl _)
        have q6 := qT.mod hm34 (fun hs => by have := qT.lt; omega)
        have how4x := Lib.hid how4
        have hm34x := Lib.hid hm34
        clear how4 hm4 hm34 q5
        have q6c := q6.c; have q6f := q6.f; have q6l := q6.lt
        go_wp2
        go_ret
        have q7 := At.set (o := 0) (v := .slice (some ⟨v1.heap.size, 0, none⟩) 512 k8) q6
        simp only [List.setIfInBounds_toArray, List.set_cons_zero, List.set_cons_succ] at q7
        have m7 : Mod (fun k => k = o1.blk i) w4 (w4.setCell ⟨o1.blk i, 0, none⟩ (.slice (some ⟨v1.heap.size, 0, none⟩) 512 k8)) := (Mod.refl (fun k => k = o1.blk i) w4).set (k := o1.blk i) (.inl rfl) (o := 0) _
        have how7 := how4x.out.mod m7 (fun b hb e => by
          have e2 : v1.heap.size = b := by simpa [ownBlk] using hb
          have := qT.lt; omega)
        have hmAll : Mod (fun k => k = o1.blk i ∨ w1.heap.size ≤ k) w1 (w4.setCell ⟨o1.blk i, 0, none⟩ (.slice (some ⟨v1.heap.size, 0, none⟩) 512 k8)) := (hmT.trans hm34x.out (fun k _ hk => .inr (by omega))).trans m7 (fun k _ hk => .inl hk)
        have hcM : k8 ≤ maxLen := by
          rcases how7.2.2.2 with ⟨hv, -⟩ | ⟨g2, cap, cur2, hv, b1, b2, b3, b4, -⟩
          · cases hv
          · injection hv with _ _ e3; subst e3; exact b4
        have e8 : wrF f off b lsn = ⟨splice (u8L lsn ++ f.p.drop 8) k8 b, true, lsn, f.pins, f.used⟩ := by unfold wrF wrB; rw [hsnx.out, ← hk8x.out]
        have hfin : FrOk (wrF f off b lsn) := by
          rw [e8]
          exact ⟨how7.1, how7.2.1, hsn0.out, hfokx.out.pins, hfokx.out.used⟩
        obtain ⟨h9, hg9⟩ := h1x.out.bytT (f' := wrF f off b lsn) (q := v1.heap.size) (c := k8) hfx.out hmAll hfin (by omega) hcM (by rw [e8]; exact how7.less (by have := h1x.out.bw; omega)) (by rw [e8]; exact q7)
        have hgo := go_on hg1x.out hm1x.out (hmAll.mono (T := fun k => k = o1.blk i ∨ w1.heap.size ≤ k) (fun _ h => h) |> fun h => (⟨h.os, h.tape, h.output, h.size, fun k hk hn => h.block k hk (fun hs => hs.elim hn (fun h => by omega))⟩ : Mod (fun k => k = o1.blk i) w1 _)) (fun k hk => hk ▸ .inr (.inr (.inr (.inr (.inr ⟨i, f, hfx.out, .inl rfl⟩))))) hg9
        have e2 : wrS s i off b lsn = ⟨setFr (getS s i).P i (wrF f off b lsn), (getS s i).D, (getS s i).L⟩ := by unfold wrS; rw [hfx.out]
        refine ⟨by (rw [hex.out]; first | rfl | simp), .inr ⟨hex.out, setLo o1 i v1.heap.size k8, ?_⟩⟩
        rw [e2]
        exact POn.mk h9 hgo.1 hgo.2
      · obtain ⟨w4, hrun, how4, hm4⟩ := copy_own ho3x.out hbx3.out hfit8 (some ⟨v1.heap.size, k8, none⟩) (512 - k8) (c3 - k8) mc rfl (fun h => rfl)
        have hv1w : v1.heap.size ≤ w3.heap.size := hb3y.out.size
        have hm34 : Mod (fun k => v1.heap.size ≤ k) wT w4 := ((Mod.of_below (S := fun k => v1.heap.size ≤ k) hB3x.out)).trans hm4 (fun k _ hk => by rw [hk]; exact Nat.le_refl _)
        have q6 := qT.mod hm34 (fun hs => by have := qT.lt; omega)
        have how4x := Lib.hid how4
        have hm34x := Lib.hid hm34
        clear how4 hm4 hm34 q5
        have q6c := q6.c; have q6f := q6.f; have q6l := q6.lt
        go_wp2
        go_ret
        have q7 := At.set (o := 0) (v := .slice (some ⟨v1.heap.size, 0, none⟩) 512 c3) q6
        simp only [List.setIfInBounds_toArray, List.set_cons_zero, List.set_cons_succ] at q7
        have m7 : Mod (fun k => k = o1.blk i) w4 (w4.setCell ⟨o1.blk i, 0, none⟩ (.slice (some ⟨v1.heap.size, 0, none⟩) 512 c3)) := (Mod.refl (fun k => k = o1.blk i) w4).set (k := o1.blk i) (.inl rfl) (o := 0) _
        have how7 := how4x.out.mod m7 (fun b hb e => by
          have e2 : v1.heap.size = b := by simpa [ownBlk] using hb
          have := qT.lt; omega)
        have hmAll : Mod (fun k => k = o1.blk i ∨ w1.heap.size ≤ k) w1 (w4.setCell ⟨o1.blk i, 0, none⟩ (.slice (some ⟨v1.heap.size, 0, none⟩) 512 c3)) := (hmT.trans hm34x.out (fun k _ hk => .inr (by omega))).trans m7 (fun k _ hk => .inl hk)
        have hcM : c3 ≤ maxLen := by
          rcases how7.2.2.2 with ⟨hv, -⟩ | ⟨g2, cap, cur2, hv, b1, b2, b3, b4, -⟩
          · cases hv
          · injection hv with _ _ e3; subst e3; exact b4
        have e8 : wrF f off b lsn = ⟨splice (u8L lsn ++ f.p.drop 8) k8 b, true, lsn, f.pins, f.used⟩ := by unfold wrF wrB; rw [hsnx.out, ← hk8x.out]
        have hfin : FrOk (wrF f off b lsn) := by
          rw [e8]
          exact ⟨how7.1, how7.2.1, hsn0.out, hfokx.out.pins, hfokx.out.used⟩
        obtain ⟨h9, hg9⟩ := h1x.out.bytT (f' := wrF f off b lsn) (q := v1.heap.size) (c := c3) hfx.out hmAll hfin (by omega) hcM (by rw [e8]; exact how7.less (by have := h1x.out.bw; omega)) (by rw [e8]; exact q7)
        have hgo := go_on hg1x.out hm1x.out (hmAll.mono (T := fun k => k = o1.blk i ∨ w1.heap.size ≤ k) (fun _ h => h) |> fun h => (⟨h.os, h.tape, h.output, h.size, fun k hk hn => h.block k hk (fun hs => hs.elim hn (fun h => by omega))⟩ : Mod (fun k => k = o1.blk i) w1 _)) (fun k hk => hk ▸ .inr (.inr (.inr (.inr (.inr ⟨i, f, hfx.out, .inl rfl⟩))))) hg9
        have e2 : wrS s i off b lsn = ⟨setFr (getS s i).P i (wrF f off b lsn), (getS s i).D, (getS s i).L⟩ := by unfold wrS; rw [hfx.out]
        refine ⟨by (rw [hex.out]; first | rfl | simp), .inr ⟨hex.out, setLo o1 i v1.heap.size c3, ?_⟩⟩
        rw [e2]
        exact POn.mk h9 hgo.1 hgo.2
end Go.Proofs.Ytggeepihkeocmaa
