/- The reference disk's Put by its contract. -/
import Derived.Test.YtjgomebnlekddaaRefGet
namespace Go.Proofs.Ytjgomebnlekddaa
set_option linter.unusedVariables false
set_option linter.unusedSimpArgs false
open Go.RowKit
theorem rput_arg {base x lc wc n c : Nat} {lA wA A : Option Addr} {D : Dk} (i : Int) (w : World) (h : Rf w base x lA lc wA wc D) (hi : ¬ (0 ≤ i ∧ i < D.l.length)) :
    Calls Try.prog 72 #[.pointer (some ⟨x, 0, none⟩), .int .i64 i, .slice A n c] w fun e w' => e = .returned (.int .i64 1) ∧ w = w' := by
  have k0 := h.at_
  have k0c := k0.c; have k0f := k0.f; have k0l := k0.lt
  by_cases h1 : i < 0
  · go_enter Try.func72, Try.ntmps72
    go_wp2
    go_ret
    exact ⟨rfl, rfl⟩
  · have h2 : ¬ i < D.l.length := by omega
    go_enter Try.func72, Try.ntmps72
    go_wp2
    go_ret
    exact ⟨rfl, rfl⟩
theorem rput_form {base x lc wc n c : Nat} {lA wA A : Option Addr} {D : Dk} (i : Int) (w : World) (h : Rf w base x lA lc wA wc D) (hi : 0 ≤ i ∧ i < D.l.length) (hn : n ≠ 512) :
    Calls Try.prog 72 #[.pointer (some ⟨x, 0, none⟩), .int .i64 i, .slice A n c] w fun e w' => e = .returned (.int .i64 3) ∧ w = w' := by
  have k0 := h.at_
  have k0c := k0.c; have k0f := k0.f; have k0l := k0.lt
  have h1 : ¬ i < 0 := by omega
  have h2 := hi.2
  have hn' : ¬ (n : Int) = 512 := by omega
  go_enter Try.func72, Try.ntmps72
  go_wp2
  go_ret
  exact ⟨rfl, rfl⟩
theorem rput_off {base x lc wc c : Nat} {lA wA A : Option Addr} {D : Dk} (i : Int) (w : World) (h : Rf w base x lA lc wA wc D) (hi : 0 ≤ i ∧ i < D.l.length) (hoff : D.off = true) :
    Calls Try.prog 72 #[.pointer (some ⟨x, 0, none⟩), .int .i64 i, .slice A 512 c] w fun e w' => e = .returned (.int .i64 8) ∧ w = w' := by
  have k0 := h.at_
  rw [hoff] at k0
  have k0c := k0.c; have k0f := k0.f; have k0l := k0.lt
  have h1 : ¬ i < 0 := by omega
  have h2 := hi.2
  go_enter Try.func72, Try.ntmps72
  go_wp2
  go_ret
  exact ⟨rfl, rfl⟩
theorem BsR.mod {w w' : World} {lo hi n : Nat} {A : Option Addr} {l : List Int} {S : Nat → Prop} (h : BsR w lo hi A n l) (hm : Mod S w w') (hs : ∀ b, ownBlk A = some b → ¬ S b) (hh : hi ≤ w.heap.size) : BsR w' lo hi A n l :=
  ⟨h.1, h.2.1, fun h0 => by
    obtain ⟨b, o, hA, h1, h2, h3⟩ := h.2.2 h0
    refine ⟨b, o, hA, h1, h2, fun j hj => ?_⟩
    exact (World.cell?_of_block (a := ⟨b, o + j, none⟩) (hm.block b (Nat.lt_of_lt_of_le h2 hh) (hs b (by rw [hA]; rfl)))).trans (h3 j hj)⟩
theorem refElt : EltOk Try.prog 77 113 2 24 (.agg #[.int .i64 0, .string ByteArray.empty]) := ⟨Try.underlying77, info_parts (by kernel_rfl), rfl, by decide⟩
theorem rwV_one (i : Nat) (s : ByteArray) : ∀ u ∈ (#[.int .i64 (i : Int), .string s] : Array Value).toList, u.oneCell' = true := by
  intro u hu
  simp at hu
  rcases hu with rfl | rfl <;> rfl
theorem rput_fin {base x lc wc : Nat} {lA wA : Option Addr} {D : Dk} {w w1 w' : World} {i : Nat} {p : List Int} {A' : Option Addr} {c'' : Nat} {O : Obj} (hb0 : base ≤ x) (hm : Mod (fun k => k = x) w w1) (hd : Rf w1 base x lA lc wA wc (opD D)) (hok : DkOk (wrD D i p))
    (ho : w'.ownsRow base 113 2 (.slice A' (D.way.length + 1) c'') (D.way.length + 1) (D.way.flatMap rwV ++ rwV (i, p))) (hg : (w1.alloc O).grownBy w' (ownBlk wA))
    (hat : At w' x #[.slice lA D.l.length lc, .slice wA D.way.length wc, .int .i64 (opD D).arm, .bool (opD D).off, .int .i64 (opD D).ops] 79) :
    Rf (w'.setCell ⟨x, 1, none⟩ (.slice A' (D.way.length + 1) c'')) base x lA lc A' c'' (wrD D i p) ∧ Mod (RFoot x lA wA) w (w'.setCell ⟨x, 1, none⟩ (.slice A' (D.way.length + 1) c'')) := by
  have hneA : ownBlk A' ≠ some x := hat.ne_own ho (by decide)
  have hm2 : Mod (fun k => k = x ∨ ownBlk wA = some k) w1 (w'.setCell ⟨x, 1, none⟩ (.slice A' (D.way.length + 1) c'')) :=
    Mod.set (S := fun k => k = x ∨ ownBlk wA = some k) (((Mod.refl (fun k => k = x ∨ ownBlk wA = some k) w1).alloc O).grown hg (fun k hk => .inl (.inr hk))) (k := x) (.inl (.inl rfl)) _
  have hl : (wrD D i p).way.length = D.way.length + 1 := by show (D.way ++ [(i, p)]).length = _; simp
  refine ⟨⟨?_, ?_, ?_, hok, hb0⟩, ?_⟩
  · rw [hl]
    exact (hat.set (o := 1) (v := .slice A' (D.way.length + 1) c'')).to (by simp [wrD, opD])
  · exact owns_mod2 hd.row hm2 (fun b hb hs => by
      rcases hs with e | e
      · exact hd.ne1 (e ▸ hb)
      · rcases ne_ty hd.row hd.way (by decide) with h4 | h4
        · rw [h4] at hb; cases hb
        · exact h4 (hb.trans e.symm))
  · rw [hl]
    have h1 : w'.ownsRow base 113 2 (.slice A' (D.way.length + 1) c'') (D.way.length + 1) ((wrD D i p).way.flatMap rwV) := by
      show w'.ownsRow base _ 2 _ _ ((D.way ++ [(i, p)]).flatMap rwV)
      rw [List.flatMap_append]
      simpa using ho
    exact owns_heap h1 (fun b hb => by
      rw [ownBlk_eq] at hb
      exact Below.heap_setCell _ _ _ _ (fun e => hneA (by rw [hb, e])))
  · have h1 : Mod (RFoot x lA wA) w (w1.alloc O) := (hm.mono (fun i hi => Or.inl hi)).alloc _
    exact Mod.set (S := RFoot x lA wA) (h1.grown hg (fun k hk => .inl (.inr (.inr hk)))) (k := x) (.inl (.inl rfl)) _
set_option maxRecDepth 100000 in
set_option maxHeartbeats 8000000 in
theorem rput_ok {base x lc wc c pb po : Nat} {lA wA : Option Addr} {D : Dk} {p : List Int} (i : Nat) (w : World) (h : Rf w base x lA lc wA wc D) (hbw : base ≤ w.heap.size) (hi : i < D.l.length) (hoff : D.off = false) (h9 : D.ops < 1000000000) (hm9 : D.way.length < 1000000000) (hp : BsR w 0 w.heap.size (some ⟨pb, po, none⟩) 512 p) (hpd : pb ≠ x ∧ ownBlk wA ≠ some pb) :
    Calls Try.prog 72 #[.pointer (some ⟨x, 0, none⟩), .int .i64 i, .slice (some ⟨pb, po, none⟩) 512 c] w fun e w' => e = .returned (.int .i64 (wrE D)) ∧ (∃ wA' wc', Rf w' base x lA lc wA' wc' (wrD D i p)) ∧ Mod (RFoot x lA wA) w w' := by
  have hsec : Sec p := ⟨hp.1, hp.2.1⟩
  have k0 := h.at_
  rw [hoff] at k0
  have k0c := k0.c; have k0f := k0.f; have k0l := k0.lt
  have hh := Lib.hid h
  have hi0 : ¬ (i : Int) < 0 := by omega
  have hi1 : (i : Int) < D.l.length := by omega
  clear h
  go_enter Try.func72, Try.ntmps72
  go_wp2_with fail
  refine (rop_calls w hh.out h9).mono ?_
  rintro e w0 ⟨rfl, hd0, hm0⟩
  clear k0 k0c k0f k0l
  have hp0 : BsR w0 0 w.heap.size (some ⟨pb, po, none⟩) 512 p   := hp.mod hm0 (fun b hb e => by
    injection hb with hb
    exact hpd.1 (by rw [← e]; exact hb)) (Nat.le_refl _)
  have hpl : pb < w.heap.size := by
    obtain ⟨gb, go', hA, -, hl, -⟩ := hp.at_ (k := 0) (by omega)
    injection hA with hA
    injection hA with e1 e2
    omega
  go_upto_region 8 with (fail)
  have hd := hd0.later (below_dr (Below.refl _ _))
  have hm := hm0.drew
  have hp1 : BsR w0.drew 0 w.heap.size (some ⟨pb, po, none⟩) 512 p := hp0
  have hcv := run_str c w0.drew hp1
  refine wp_region_held_drew (S := fun w' => (convert 23 9 (.slice (some ⟨pb, po, none⟩) 512 c)).run Try.prog w' = .ok (.string (strL p)) w') (by kernel_rfl) hcv (fun hHeld => ?_)
  clear hd0 hm0 hp0
  generalize w0.drew = w1 at *
  have k1 : At w1 x #[.slice lA D.l.length lc, .slice wA D.way.length wc, .int .i64 (opD D).arm, .bool (opD D).off, .int .i64 (opD D).ops] 79 := hd.at_
  have hsz1 := hm.size
  (refine wpAnyH_takeL (i := 0) (v := ?_) rfl (by kernel_rfl) (by kernel_rfl) (by kernel_rfl) (fun _ _ _ h => h) (by rfl) hHeld ?_ ?_; rotate_left; (focus (intro w hSw; (try dsimp only at hSw); go_simp; (try with_reducible rfl); done)); (try simp only [Act.put, List.setIfInBounds_toArray, List.set_cons_zero, List.set_cons_succ]))
  (refine wpAnyH_takeL (i := 1) (v := ?_) rfl (by kernel_rfl) (by kernel_rfl) (by kernel_rfl) (fun _ _ _ h => h) (by rfl) hHeld ?_ ?_; rotate_left; (focus (intro w hSw; (try dsimp only at hSw); go_simp; (try with_reducible rfl); done)); (try simp only [Act.put, List.setIfInBounds_toArray, List.set_cons_zero, List.set_cons_succ]))
  (refine wpAnyH_takeL (i := 2) (v := ?_) rfl (by kernel_rfl) (by kernel_rfl) (by kernel_rfl) (fun _ _ _ h => h) (by rfl) hHeld ?_ ?_; rotate_left; (focus (intro w hSw; (try dsimp only at hSw); go_simp; (try with_reducible rfl); done)); (try simp only [Act.put, List.setIfInBounds_toArray, List.set_cons_zero, List.set_cons_succ]))
  (refine wpAnyH_takeL (i := 3) (v := ?_) rfl (by kernel_rfl) (by kernel_rfl) (by kernel_rfl) (fun _ _ _ h => h) (by rfl) hHeld ?_ ?_; rotate_left; (focus (intro w hSw; (try dsimp only at hSw); go_simp; (try with_reducible rfl); done)); (try simp only [Act.put, List.setIfInBounds_toArray, List.set_cons_zero, List.set_cons_succ]))
  (refine wpAnyH_takeL (i := 5) (v := ?_) rfl (by kernel_rfl) (by kernel_rfl) (by kernel_rfl) (fun _ _ _ h => h) (by rfl) hHeld ?_ ?_; rotate_left; (focus (intro w hSw; (try dsimp only at hSw); go_simp; (try with_reducible rfl); done)); (try simp only [Act.put, List.setIfInBounds_toArray, List.set_cons_zero, List.set_cons_succ]))
  (refine wpAnyH_takeL (i := 6) (v := ?_) rfl (by kernel_rfl) (by kernel_rfl) (by kernel_rfl) (fun _ _ _ h => h) (by rfl) hHeld ?_ ?_; rotate_left; (focus (intro w hSw; (try dsimp only at hSw); go_simp; (try with_reducible rfl); done)); (try simp only [Act.put, List.setIfInBounds_toArray, List.set_cons_zero, List.set_cons_succ]))
  (refine wpAnyH_takeL (i := 7) (v := ?_) rfl (by kernel_rfl) (by kernel_rfl) (by kernel_rfl) (fun _ _ _ h => h) (by rfl) hHeld ?_ ?_; rotate_left; (focus (intro w hSw; (try dsimp only at hSw); go_simp; (try with_reducible rfl); done)); (try simp only [Act.put, List.setIfInBounds_toArray, List.set_cons_zero, List.set_cons_succ]))
  (refine wpAnyH_takeL (i := 8) (v := ?_) rfl (by kernel_rfl) (by kernel_rfl) (by kernel_rfl) (fun _ _ _ h => h) (by rfl) hHeld ?_ ?_; rotate_left; (focus (intro w hSw; (try dsimp only at hSw); go_simp; (try with_reducible rfl); done)); (try simp only [Act.put, List.setIfInBounds_toArray, List.set_cons_zero, List.set_cons_succ]))
  have k1c := k1.c
  have k1a := k1.alloc (.cells #[.int .i64 (i : Int), .string (strL p)] 113)
  have k1ac := k1a.c
  have hrowa := (hd.later (below_new w1 (.cells #[.int .i64 (i : Int), .string (strL p)] 113))).way
  have hsrc : Src (w1.alloc (.cells #[.int .i64 (i : Int), .string (strL p)] 113)) 2 (some ⟨w1.heap.size, 0, none⟩) 1 [.int .i64 (i : Int), .string (strL p)] := Src.of_at (At.new w1 #[.int .i64 (i : Int), .string (strL p)] 113) rfl (rwV_one _ _)
  have q1 : D.way.length + 1 ≤ maxLen := by unfold maxLen; omega
  have q2 : (D.way.length + 1) * 24 ≤ 140737488355328 := by omega
  have hdne : some x ≠ ownBlk wA := fun e => hd.ne2 e.symm
  have hbase : base ≤ (w1.alloc (.cells #[.int .i64 (i : Int), .string (strL p)] 113)).heap.size := Nat.le_trans hbw (Nat.le_trans hsz1 (ge_new _ _))
  have hpa : BsR (w1.alloc (.cells #[.int .i64 (i : Int), .string (strL p)] 113)) 0 w.heap.size (some ⟨pb, po, none⟩) 512 p := hp1.below (below_new w1 _) hsz1
  have hSa := run_str c _ hpa
  have hmg : ∀ w', (w1.alloc (.cells #[.int .i64 (i : Int), .string (strL p)] 113)).grownBy w' (ownBlk wA) → BsR w' 0 w.heap.size (some ⟨pb, po, none⟩) 512 p := fun w' hg =>
    hp1.mod (S := fun k => ownBlk wA = some k) (((Mod.refl (fun k => ownBlk wA = some k) w1).alloc _).grown hg (fun k hk => .inl hk)) (fun b hb e => by
      injection hb with hb
      exact hpd.2 (by rw [e]; exact congrArg some hb.symm)) hsz1
  have hSs : ∀ w', (w1.alloc (.cells #[.int .i64 (i : Int), .string (strL p)] 113)).grownBy w' (ownBlk wA) → ∀ v, (convert 23 9 (.slice (some ⟨pb, po, none⟩) 512 c)).run Try.prog (w'.setCell ⟨x, 1, none⟩ v) = .ok (.string (strL p)) (w'.setCell ⟨x, 1, none⟩ v) := fun w' hg v =>
    run_str c _ ((hmg w' hg).mod (S := fun k => k = x) ((Mod.refl (fun k => k = x) w').set (.inl rfl) v) (fun b hb e => by
      injection hb with hb
      exact hpd.1 (by rw [← e]; exact hb)) (Nat.le_trans hsz1 (Nat.le_trans (ge_new w1 _) hg.size)))
  have hok := hh.out.ok.wr h9 hi hsec hm9
  have hfn := Lib.hid (fun (w' : World) (A' : Option Addr) (c'' : Nat) ho hg hat => rput_fin (i := i) (p := p) (A' := A') (c'' := c'') (w' := w') (O := .cells #[.int .i64 (i : Int), .string (strL p)] 113) hh.out.hx hm hd hok ho hg hat)
  have hE1 := Lib.hid (fun h : (opD D).off = true => show wrE D = 8 from by unfold wrE; rw [h]; rfl)
  have hE2 := Lib.hid (fun h : (opD D).off = false => show wrE D = 0 from by unfold wrE; rw [h]; rfl)
  clear hm hok hd hp hp1 hpa hcv
  refine wpAnyH_two (i := 4) (j := 9) rfl rfl (by kernel_rfl) (by rfl) (by rfl) (fun K hK => ?_) (fun K hK => ?_)
  · clear k1ac
    go_simp
    refine hK.out _ _ hHeld (fun hHeld => ?_)
    (clear hK K; (try simp only [Act.put, List.setIfInBounds_toArray, List.set_cons_zero, List.set_cons_succ]))
    (refine wpAnyH_callL (i := 9) rfl (by kernel_rfl) (by rfl) (fun K hK => ?_); go_simp)
    refine hK.out _ _ hSa (fun hHeld => ?_)
    (clear hK K; (try simp only [Act.put, List.setIfInBounds_toArray, List.set_cons_zero, List.set_cons_succ]))
    refine wpAnyH_callL (i := 10) rfl (by kernel_rfl) (by rfl) (fun K hK => ?_)
    refine wp_appG refElt (.tmp 32) (.tmp 37) (by rfl) base D.way.length wc wA _ (by rfl) hrowa 1 1 (some ⟨w1.heap.size, 0, none⟩) _ (by rfl) hsrc q1 q2 hbase ?_
    intro A' c'' w' ho hg0 hb hat
    have hg : (w1.alloc (.cells #[.int .i64 (i : Int), .string (strL p)] 113)).grownBy w' (ownBlk wA) := ⟨hg0.os, hg0.tape, hg0.output, hg0.size, hg0.block⟩
    have hS' := run_str c w' (hmg w' hg)
    have kd' := Lib.hid (At.grown k1a hg hdne)
    have kdc := kd'.out.c
    have kdf := kd'.out.f
    refine hK.out _ _ hS' (fun hHeld => ?_)
    (clear hK K; (try simp only [Act.put, List.setIfInBounds_toArray, List.set_cons_zero, List.set_cons_succ]))
    (refine wpAnyH_takeL (i := 11) (v := ?_) rfl (by kernel_rfl) (by kernel_rfl) (by kernel_rfl) (fun _ _ _ h => h) (by rfl) hHeld ?_ ?_; rotate_left; (focus (intro w hSw; (try dsimp only at hSw); go_simp; (try with_reducible rfl); done)); (try simp only [Act.put, List.setIfInBounds_toArray, List.set_cons_zero, List.set_cons_succ]))
    (refine wpAnyH_takeL (i := 12) (v := ?_) rfl (by kernel_rfl) (by kernel_rfl) (by kernel_rfl) (fun _ _ _ h => h) (by rfl) hHeld ?_ ?_; rotate_left; (focus (intro w hSw; (try dsimp only at hSw); go_simp; (try with_reducible rfl); done)); (try simp only [Act.put, List.setIfInBounds_toArray, List.set_cons_zero, List.set_cons_succ]))
    refine wpAnyH_callL (i := 13) rfl (by kernel_rfl) (by rfl) (fun K hK => ?_)
    go_simp
    refine hK.out _ _ (hSs w' hg _) (fun hHeld => ?_)
    (clear hK K; (try simp only [Act.put, List.setIfInBounds_toArray, List.set_cons_zero, List.set_cons_succ]))
    (refine wpAnyH_done (by kernel_rfl) ?_ _)
    have hfin := Lib.hid (hfn.out w' A' c'' ho hg kd'.out)
    clear hS' hHeld kdc kdf ho hg hg0 hb hat
    cases hq : (opD D).off
    · go_wp2
      go_ret
      exact ⟨by rw [hE2.out hq]; rfl, ⟨A', c'', hfin.out.1⟩, hfin.out.2⟩
    · go_wp2
      go_ret
      exact ⟨by rw [hE1.out hq]; rfl, ⟨A', c'', hfin.out.1⟩, hfin.out.2⟩
  · go_simp
    refine hK.out _ _ hSa (fun hHeld => ?_)
    (clear hK K; (try simp only [Act.put, List.setIfInBounds_toArray, List.set_cons_zero, List.set_cons_succ]))
    refine wpAnyH_callL (i := 4) rfl (by kernel_rfl) (by rfl) (fun K hK => ?_)
    go_simp
    refine hK.out _ _ hSa (fun hHeld => ?_)
    (clear hK K; (try simp only [Act.put, List.setIfInBounds_toArray, List.set_cons_zero, List.set_cons_succ]))
    refine wpAnyH_callL (i := 10) rfl (by kernel_rfl) (by rfl) (fun K hK => ?_)
    refine wp_appG refElt (.tmp 32) (.tmp 37) (by rfl) base D.way.length wc wA _ (by rfl) hrowa 1 1 (some ⟨w1.heap.size, 0, none⟩) _ (by rfl) hsrc q1 q2 hbase ?_
    intro A' c'' w' ho hg0 hb hat
    have hg : (w1.alloc (.cells #[.int .i64 (i : Int), .string (strL p)] 113)).grownBy w' (ownBlk wA) := ⟨hg0.os, hg0.tape, hg0.output, hg0.size, hg0.block⟩
    have hS' := run_str c w' (hmg w' hg)
    have kd' := Lib.hid (At.grown k1a hg hdne)
    have kdc := kd'.out.c
    have kdf := kd'.out.f
    refine hK.out _ _ hS' (fun hHeld => ?_)
    (clear hK K; (try simp only [Act.put, List.setIfInBounds_toArray, List.set_cons_zero, List.set_cons_succ]))
    (refine wpAnyH_takeL (i := 11) (v := ?_) rfl (by kernel_rfl) (by kernel_rfl) (by kernel_rfl) (fun _ _ _ h => h) (by rfl) hHeld ?_ ?_; rotate_left; (focus (intro w hSw; (try dsimp only at hSw); go_simp; (try with_reducible rfl); done)); (try simp only [Act.put, List.setIfInBounds_toArray, List.set_cons_zero, List.set_cons_succ]))
    (refine wpAnyH_takeL (i := 12) (v := ?_) rfl (by kernel_rfl) (by kernel_rfl) (by kernel_rfl) (fun _ _ _ h => h) (by rfl) hHeld ?_ ?_; rotate_left; (focus (intro w hSw; (try dsimp only at hSw); go_simp; (try with_reducible rfl); done)); (try simp only [Act.put, List.setIfInBounds_toArray, List.set_cons_zero, List.set_cons_succ]))
    refine wpAnyH_callL (i := 13) rfl (by kernel_rfl) (by rfl) (fun K hK => ?_)
    go_simp
    refine hK.out _ _ (hSs w' hg _) (fun hHeld => ?_)
    (clear hK K; (try simp only [Act.put, List.setIfInBounds_toArray, List.set_cons_zero, List.set_cons_succ]))
    (refine wpAnyH_done (by kernel_rfl) ?_ _)
    have hfin := Lib.hid (hfn.out w' A' c'' ho hg kd'.out)
    clear hS' hHeld kdc kdf ho hg hg0 hb hat
    cases hq : (opD D).off
    · go_wp2
      go_ret
      exact ⟨by rw [hE2.out hq]; rfl, ⟨A', c'', hfin.out.1⟩, hfin.out.2⟩
    · go_wp2
      go_ret
      exact ⟨by rw [hE1.out hq]; rfl, ⟨A', c'', hfin.out.1⟩, hfin.out.2⟩
end Go.Proofs.Ytjgomebnlekddaa
