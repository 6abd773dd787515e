/- Joined texts: DiskX, Full. -/
import Derived.Test.YtggeepihkeocmaaJPlays07
import Derived.Laws.Cover3
import Derived.Laws.OwnMore
/- (*Disk).Write by its contract. -/
namespace Go.Proofs.Ytggeepihkeocmaa
set_option linter.unusedVariables false
set_option linter.unusedSimpArgs false
open Go.RowKit
theorem wri_arg {d lb m mc n c : Nat} {pA A : Option Addr} {D : Dk} (i : Int) (w : World) (h : Dsk w d lb pA m mc D) (hi : ¬ (0 ≤ i ∧ i < D.l.length)) :
    Calls Try.prog 49 #[.pointer (some ⟨d, 0, none⟩), .int .i64 i, .slice A n c] w fun e w' => e = .returned (.int .i64 1) ∧ w = w' := by
  have hlk : lookE D i = 1 := if_neg hi
  go_enter Try.func49, Try.ntmps49
  go_wp2_with fail
  refine (look_calls i w h).mono ?_
  rintro e w' ⟨rfl, rfl⟩
  rw [hlk]
  go_wp2
  go_ret
  exact ⟨rfl, rfl⟩
theorem wri_form {d lb m mc n c : Nat} {pA A : Option Addr} {D : Dk} (i : Int) (w : World) (h : Dsk w d lb pA m mc D) (hi : 0 ≤ i ∧ i < D.l.length) (hn : n ≠ 512) :
    Calls Try.prog 49 #[.pointer (some ⟨d, 0, none⟩), .int .i64 i, .slice A n c] w fun e w' => e = .returned (.int .i64 3) ∧ w = w' := by
  have hlk : lookE D i = 0 := if_pos hi
  have hn' : ¬ (n : Int) = 512 := by omega
  have k0 := h.at_
  have k0c := k0.c; have k0f := k0.f; have k0l := k0.lt
  go_enter Try.func49, Try.ntmps49
  go_wp2_with fail
  refine (look_calls i w h).mono ?_
  rintro e w' ⟨rfl, rfl⟩
  rw [hlk]
  go_wp2
  go_ret
  exact ⟨rfl, rfl⟩
theorem wri_off {d lb m mc c : Nat} {pA A : Option Addr} {D : Dk} (i : Int) (w : World) (h : Dsk w d lb pA m mc D) (hi : 0 ≤ i ∧ i < D.l.length) (hoff : D.off = true) :
    Calls Try.prog 49 #[.pointer (some ⟨d, 0, none⟩), .int .i64 i, .slice A 512 c] w fun e w' => e = .returned (.int .i64 8) ∧ w = w' := by
  have hlk : lookE D i = 0 := if_pos hi
  have k0 := h.at_
  rw [hoff] at k0
  have k0c := k0.c; have k0f := k0.f; have k0l := k0.lt
  go_enter Try.func49, Try.ntmps49
  go_wp2_with fail
  refine (look_calls i w h).mono ?_
  rintro e w' ⟨rfl, rfl⟩
  rw [hlk]
  go_wp2
  go_ret
  exact ⟨rfl, rfl⟩
def wrE (D : Dk) : Int := if (opD D).off then 8 else 0
def wrD (D : Dk) (i : Nat) (p : List Int) : Dk := { opD D with way := D.way ++ [(i, p)] }
theorem DkOk.wr {D : Dk} (h : DkOk D) (h9 : D.ops < 1000000000) {i : Nat} (hi : i < D.l.length) {p : List Int} (hp : Sec p) (hc : D.way.length < 1000000000) : DkOk (wrD D i p) := by
  have h1 := h.op h9
  refine ⟨h1.l, fun x hx => ?_, h1.len, h1.arm, h1.ops, ?_⟩
  · rcases List.mem_append.1 (show x ∈ D.way ++ [(i, p)] from hx) with h2 | h2
    · exact h1.way x h2
    · simp at h2; subst h2; exact ⟨hi, hp⟩
  · show (D.way ++ [(i, p)]).length ≤ _
    simp; omega
set_option maxRecDepth 100000 in
set_option maxHeartbeats 2000000 in
theorem wri_calls {d lb m mc c pb po : Nat} {pA : Option Addr} {D : Dk} {p : List Int} (i : Nat) (w : World) (h : Dsk w d lb pA m mc D) (hi : i < D.l.length) (hoff : D.off = false) (h9 : D.ops < 1000000000) (hm9 : m < 1000000000) (hp : BsR w 0 w.heap.size (some ⟨pb, po, none⟩) 512 p) (hpd : pb ≠ d ∧ ownBlk pA ≠ some pb) (hc : 512 ≤ c) :
    Calls Try.prog 49 #[.pointer (some ⟨d, 0, none⟩), .int .i64 i, .slice (some ⟨pb, po, none⟩) 512 c] w fun e w' => e = .returned (.int .i64 (wrE D)) ∧ (∃ pA' mc', Dsk w' d lb pA' (m + 1) mc' (wrD D i p) ∧ (∀ b, ownBlk pA' = some b → ownBlk pA = some b ∨ w.heap.size ≤ b)) ∧ Mod (Foot d lb pA) w w' := by
  have hlk : lookE D i = 0 := if_pos (by omega)
  have hsec : Sec p := ⟨hp.1, hp.2.1⟩
  have k0 := h.at_
  rw [hoff] at k0
  have k0c := k0.c; have k0f := k0.f; have k0l := k0.lt
  have hh := Lib.hid h
  have hpr : w.rangeAt pb po (secV p) := fun j v hv => by
    have hj : j < 512 := by rw [← secV_len hsec]; exact (List.getElem?_eq_some_iff.1 hv).1
    obtain ⟨gb, go', hA, -, -, hcl⟩ := hp.at_ hj
    injection hA with hA
    injection hA with e1 e2
    subst e1; subst e2
    rw [hcl, map_get hv]
  have hpl : pb < w.heap.size := by
    obtain ⟨gb, go', hA, -, hl, -⟩ := hp.at_ (k := 0) (by omega)
    injection hA with hA
    injection hA with e1 e2
    omega
  clear h hp
  go_enter Try.func49, Try.ntmps49
  go_wp2_with fail
  refine (look_calls i w hh.out).mono ?_
  rintro e w' ⟨rfl, rfl⟩
  rw [hlk]
  go_wp2_with fail
  refine (begin_calls w hh.out h9).mono ?_
  rintro e w1 ⟨rfl, hd, hm⟩
  clear k0 k0c k0f k0l
  have hpr1 : w1.rangeAt pb po (secV p) := fun j v hv => (World.cell?_of_block (a := ⟨pb, po + j, none⟩) (hm.block pb hpl (fun e => hpd.1 e))).trans (hpr j v hv)
  clear hpr
  have k1 := hd.at_
  go_upto_region 9 with (fail)
  have hpr' := Lib.hid (show w1.drew.rangeAt pb po (secV p) from hpr1)
  clear hpr1
  refine wp_region_held_drew (S := fun w' => w'.rangeAt pb po (secV p)) (by kernel_rfl) hpr'.out (fun hHeld => ?_)
  have harr : ∀ w : World, (Instr.arrayAt 126 (.slice (some ⟨pb, po, none⟩) 512 c)).run Try.prog w = .ok (.pointer (some ⟨pb, po, none⟩)) w := fun w => run_arrayAt (w := w) _ _ _ _ _ _ u107 (Nat.le_refl _)
  have hbld : ∀ w : World, (Instr.build 128 #[(0, .int .i64 (i : Int)), (1, .agg (secV p).toArray)]).run Try.prog w = .ok (.agg (wrV (i, p)).toArray) w := fun w => built109 i (secV p) (secV_len hsec) w
  have hbs : ∀ w : World, (Instr.buildSlice 122 1 #[(0, .agg (wrV (i, p)).toArray)]).run Try.prog w = .ok (.slice (some ⟨w.heap.size, 0, none⟩) 1 1) (w.alloc (.cells (wrV (i, p)).toArray 128)) := fun w => slice109 (wrV (i, p)) (wrV_len hsec) w
  (refine wpAnyH_takeL (i := 0) (v := ?_) rfl (by kernel_rfl) (by kernel_rfl) (by kernel_rfl) (fun _ _ _ h => h) (by rfl) hHeld ?_ ?_; rotate_left; (focus (intro w hSw; (try dsimp only at hSw); go_simp; (try with_reducible rfl); done)); (try simp only [Act.put, List.setIfInBounds_toArray, List.set_cons_zero, List.set_cons_succ]))
  (refine wpAnyH_takeL (i := 1) (v := ?_) rfl (by kernel_rfl) (by kernel_rfl) (by kernel_rfl) (fun _ _ _ h => h) (by rfl) hHeld ?_ ?_; rotate_left; (focus (intro w hSw; (try dsimp only at hSw); go_simp; (try with_reducible rfl); done)); (try simp only [Act.put, List.setIfInBounds_toArray, List.set_cons_zero, List.set_cons_succ]))
  (refine wpAnyH_takeL (i := 2) (v := ?_) rfl (by kernel_rfl) (by kernel_rfl) (by kernel_rfl) (fun _ _ _ h => h) (by rfl) hHeld ?_ ?_; rotate_left; (focus (intro w hSw; (try dsimp only at hSw); go_simp; (try with_reducible rfl); done)); (try simp only [Act.put, List.setIfInBounds_toArray, List.set_cons_zero, List.set_cons_succ]))
  (refine wpAnyH_takeL (i := 3) (v := ?_) rfl (by kernel_rfl) (by kernel_rfl) (by kernel_rfl) (fun _ _ _ h => h) (by rfl) hHeld ?_ ?_; rotate_left; (focus (intro w hSw; (try dsimp only at hSw); go_simp; (try with_reducible rfl); done)); (try simp only [Act.put, List.setIfInBounds_toArray, List.set_cons_zero, List.set_cons_succ]))
  (refine wpAnyH_takeL (i := 5) (v := ?_) rfl (by kernel_rfl) (by kernel_rfl) (by kernel_rfl) (fun _ _ _ h => h) (by rfl) hHeld ?_ ?_; rotate_left; (focus (intro w hSw; (try dsimp only at hSw); go_simp; (try with_reducible rfl); done)); (try simp only [Act.put, List.setIfInBounds_toArray, List.set_cons_zero, List.set_cons_succ]))
  (refine wpAnyH_takeL (i := 6) (v := ?_) rfl (by kernel_rfl) (by kernel_rfl) (by kernel_rfl) (fun _ _ _ h => h) (by rfl) hHeld ?_ ?_; rotate_left; (focus (intro w hSw; (try dsimp only at hSw); go_simp; (try with_reducible rfl); done)); (try simp only [Act.put, List.setIfInBounds_toArray, List.set_cons_zero, List.set_cons_succ]))
  (refine wpAnyH_takeL (i := 7) (v := ?_) rfl (by kernel_rfl) (by kernel_rfl) (by kernel_rfl) (fun _ _ _ h => h) (by rfl) hHeld ?_ ?_; rotate_left; (focus (intro w hSw; (try dsimp only at hSw); go_simp; (try with_reducible rfl); done)); (try simp only [Act.put, List.setIfInBounds_toArray, List.set_cons_zero, List.set_cons_succ]))
  refine wpAnyH_loadL (i := 8) rfl (by kernel_rfl) (by kernel_rfl) (by kernel_rfl) (secV p) (fun _ _ _ h => h) (by rfl) 126 (.tmp 31) rfl pb po (by rfl) _ (fun w h => h) u107 rfl (i107n hsec) hHeld ?_
  simp only [Act.put, List.setIfInBounds_toArray, List.set_cons_zero, List.set_cons_succ]
  refine wpAnyH_takeL (i := 9) (v := .agg (wrV (i, p)).toArray) rfl (by kernel_rfl) (by kernel_rfl) (by kernel_rfl) (fun _ _ _ h => h) (by rfl) hHeld (fun w' _ => exec_build rfl (by simp only [List.map_toArray, List.map_cons, List.map_nil]; exact hbld w')) ?_
  simp only [Act.put, List.setIfInBounds_toArray, List.set_cons_zero, List.set_cons_succ]
  have k1c := k1.c
  have k1a := k1.alloc (.cells (wrV (i, p)).toArray 128)
  have k1ac := k1a.c
  have hda := hd.later (below_new w1 (.cells (wrV (i, p)).toArray 128))
  have hrowa := hda.way
  have hwl := hd.wl
  have hsrc : Src (w1.alloc (.cells (wrV (i, p)).toArray 128)) 513 (some ⟨w1.heap.size, 0, none⟩) 1 (wrV (i, p)) := Src.of_at (At.new w1 (wrV (i, p)).toArray 128) (show (wrV (i, p)).length = 1 * 513 from (wrV_len hsec).trans rfl) (wrV_one (i, p))
  have q1 : m + 1 ≤ maxLen := by unfold maxLen; omega
  have q2 : (m + 1) * 520 ≤ 140737488355328 := by omega
  have hpn := hpd.2
  have hdne : some d ≠ ownBlk pA := fun e => hd.ne2 e.symm
  have hpl1 : pb < w1.heap.size := Nat.lt_of_lt_of_le hpl hm.size
  have hSa : (w1.alloc (.cells (wrV (i, p)).toArray 128)).rangeAt pb po (secV p) := World.rangeAt_alloc hpr'.out _
  have hSg : ∀ (w' : World), (w1.alloc (.cells (wrV (i, p)).toArray 128)).grownBy w' (ownBlk pA) → w'.rangeAt pb po (secV p) := fun w' hg j v hv =>
    (World.cell?_of_block (a := ⟨pb, po + j, none⟩) (hg.block pb (by simp; omega) (fun e => hpn e.symm))).trans (hSa j v hv)
  have hSs : ∀ (w' : World), w'.rangeAt pb po (secV p) → ∀ v, (w'.setCell ⟨d, 1, none⟩ v).rangeAt pb po (secV p) := fun w' hr v j u hu =>
    (World.cell?_of_block (a := ⟨pb, po + j, none⟩) (Below.heap_setCell _ _ _ _ hpd.1)).trans (hr j u hu)
  have hok := hh.out.ok.wr h9 hi hsec (by rw [hh.out.wl]; exact hm9)
  have hsz1 := hm.size
  have hwr : ∀ (w' : World) (A' : Option Addr) (c'' : Nat), w'.ownsRow 0 128 513 (.slice A' (m + 1) c'') (m + 1) (D.way.flatMap wrV ++ wrV (i, p)) → (w1.alloc (.cells (wrV (i, p)).toArray 128)).grownBy w' (ownBlk pA) →
      At w' d #[.slice (some ⟨lb, 0, none⟩) (opD D).l.length (opD D).l.length, .slice pA m mc, .int .i64 (opD D).arm, .bool (opD D).off, .int .i64 (opD D).ops] 124 → (ownBlk A' = ownBlk pA ∨ ownBlk A' = some (w1.alloc (.cells (wrV (i, p)).toArray 128)).heap.size) →
      Dsk (w'.setCell ⟨d, 1, none⟩ (.slice A' (m + 1) c'')) d lb A' (m + 1) c'' (wrD D i p) ∧ (∀ b, ownBlk A' = some b → ownBlk pA = some b ∨ w.heap.size ≤ b) ∧ Mod (Foot d lb pA) w (w'.setCell ⟨d, 1, none⟩ (.slice A' (m + 1) c'')) := fun w' A' c'' ho hg hat hA => by
    have hneA : ownBlk A' ≠ some d := hat.ne_own ho (by decide)
    refine ⟨⟨(hat.set (o := 1) (v := .slice A' (m + 1) c'')).to (by simp [wrD]), ?_, ?_, ?_, hok⟩, fun b hb => ?_, ?_⟩
    · exact (At.grown hda.row hg (fun e => hd.ne3 e.symm)).set_ne hd.ne1.symm
    · have h1 : w'.ownsRow 0 128 513 (.slice A' (m + 1) c'') (m + 1) ((wrD D i p).way.flatMap wrV) := by
        show w'.ownsRow 0 _ 513 _ _ ((D.way ++ [(i, p)]).flatMap wrV)
        rw [List.flatMap_append]
        simpa using ho
      exact owns_heap h1 (fun b hb => by
        rw [ownBlk_eq] at hb
        exact Below.heap_setCell _ _ _ _ (fun e => hneA (by rw [hb, e])))
    · show (D.way ++ [(i, p)]).length = m + 1
      rw [List.length_append, hh.out.wl]; rfl
    · rcases hA with hA | hA
      · exact .inl (hA ▸ hb)
      · right
        rw [hA] at hb
        injection hb with hb
        simp at hb
        omega
    · have h1 : Mod (Foot d lb pA) w (w1.alloc (.cells (wrV (i, p)).toArray 128)) := (hm.mono (fun i hi => Or.inl hi)).alloc _
      exact Mod.set (S := Foot d lb pA) (h1.grown hg (fun k hk => .inl (.inr (.inr hk)))) (k := d) (.inl (.inl rfl)) _
  have hE1 := Lib.hid (fun h : (opD D).off = true => show wrE D = 8 from by unfold wrE; rw [h]; rfl)
  have hE2 := Lib.hid (fun h : (opD D).off = false => show wrE D = 0 from by unfold wrE; rw [h]; rfl)
  clear hm hok hda hpl hpl1
  refine wpAnyH_two (i := 4) (j := 10) rfl rfl (by kernel_rfl) (by rfl) (by rfl) (fun K hK => ?_) (fun K hK => ?_)
  · clear k1ac
    go_simp
    refine hK.out _ _ hHeld (fun hHeld => ?_)
    (clear hK K; (try simp only [Act.put, List.setIfInBounds_toArray, List.set_cons_zero, List.set_cons_succ]))
    refine wpAnyH_callL (i := 10) rfl (by kernel_rfl) (by rfl) (fun K hK => ?_)
    refine wp_buildSlice rfl (by simp only [List.map_toArray, List.map_cons, List.map_nil]; exact hbs _) ?_
    refine hK.out _ _ hSa (fun hHeld => ?_)
    (clear hK K; (try simp only [Act.put, List.setIfInBounds_toArray, List.set_cons_zero, List.set_cons_succ]))
    refine wpAnyH_callL (i := 11) rfl (by kernel_rfl) (by rfl) (fun K hK => ?_)
    refine wp_appG writeElt (.tmp 28) (.tmp 34) (by rfl) 0 m mc pA _ (by rfl) hrowa 1 1 (some ⟨w1.heap.size, 0, none⟩) _ (by rfl) hsrc q1 q2 (Nat.zero_le _) ?_
    intro A' c'' w' ho hg0 hb hat
    have hg : (w1.alloc (.cells (wrV (i, p)).toArray 128)).grownBy w' (ownBlk pA) := ⟨hg0.os, hg0.tape, hg0.output, hg0.size, hg0.block⟩
    have hS' := hSg w' hg
    have kd' := Lib.hid (At.grown k1a hg hdne)
    have kdc := kd'.out.c
    have kdf := kd'.out.f
    refine hK.out _ _ hS' (fun hHeld => ?_)
    (clear hK K; (try simp only [Act.put, List.setIfInBounds_toArray, List.set_cons_zero, List.set_cons_succ]))
    (refine wpAnyH_takeL (i := 12) (v := ?_) rfl (by kernel_rfl) (by kernel_rfl) (by kernel_rfl) (fun _ _ _ h => h) (by rfl) hHeld ?_ ?_; rotate_left; (focus (intro w hSw; (try dsimp only at hSw); go_simp; (try with_reducible rfl); done)); (try simp only [Act.put, List.setIfInBounds_toArray, List.set_cons_zero, List.set_cons_succ]))
    (refine wpAnyH_takeL (i := 13) (v := ?_) rfl (by kernel_rfl) (by kernel_rfl) (by kernel_rfl) (fun _ _ _ h => h) (by rfl) hHeld ?_ ?_; rotate_left; (focus (intro w hSw; (try dsimp only at hSw); go_simp; (try with_reducible rfl); done)); (try simp only [Act.put, List.setIfInBounds_toArray, List.set_cons_zero, List.set_cons_succ]))
    refine wpAnyH_callL (i := 14) rfl (by kernel_rfl) (by rfl) (fun K hK => ?_)
    go_simp
    refine hK.out _ _ (hSs w' hS' _) (fun hHeld => ?_)
    (clear hK K; (try simp only [Act.put, List.setIfInBounds_toArray, List.set_cons_zero, List.set_cons_succ]))
    (refine wpAnyH_done (by kernel_rfl) ?_ _)
    have hfin := Lib.hid (hwr w' A' c'' ho hg kd'.out hat)
    clear hS' hHeld kdc kdf ho hg hg0 hb hat
    cases hq : (opD D).off
    · go_wp2
      go_ret
      exact ⟨by rw [hE2.out hq]; rfl, ⟨A', c'', hfin.out.1, hfin.out.2.1⟩, hfin.out.2.2⟩
    · go_wp2
      go_ret
      exact ⟨by rw [hE1.out hq]; rfl, ⟨A', c'', hfin.out.1, hfin.out.2.1⟩, hfin.out.2.2⟩
  · refine wp_buildSlice rfl (by simp only [List.map_toArray, List.map_cons, List.map_nil]; exact hbs _) ?_
    refine hK.out _ _ hSa (fun hHeld => ?_)
    (clear hK K; (try simp only [Act.put, List.setIfInBounds_toArray, List.set_cons_zero, List.set_cons_succ]))
    refine wpAnyH_callL (i := 4) rfl (by kernel_rfl) (by rfl) (fun K hK => ?_)
    go_simp
    refine hK.out _ _ hSa (fun hHeld => ?_)
    (clear hK K; (try simp only [Act.put, List.setIfInBounds_toArray, List.set_cons_zero, List.set_cons_succ]))
    refine wpAnyH_callL (i := 11) rfl (by kernel_rfl) (by rfl) (fun K hK => ?_)
    refine wp_appG writeElt (.tmp 28) (.tmp 34) (by rfl) 0 m mc pA _ (by rfl) hrowa 1 1 (some ⟨w1.heap.size, 0, none⟩) _ (by rfl) hsrc q1 q2 (Nat.zero_le _) ?_
    intro A' c'' w' ho hg0 hb hat
    have hg : (w1.alloc (.cells (wrV (i, p)).toArray 128)).grownBy w' (ownBlk pA) := ⟨hg0.os, hg0.tape, hg0.output, hg0.size, hg0.block⟩
    have hS' := hSg w' hg
    have kd' := Lib.hid (At.grown k1a hg hdne)
    have kdc := kd'.out.c
    have kdf := kd'.out.f
    refine hK.out _ _ hS' (fun hHeld => ?_)
    (clear hK K; (try simp only [Act.put, List.setIfInBounds_toArray, List.set_cons_zero, List.set_cons_succ]))
    (refine wpAnyH_takeL (i := 12) (v := ?_) rfl (by kernel_rfl) (by kernel_rfl) (by kernel_rfl) (fun _ _ _ h => h) (by rfl) hHeld ?_ ?_; rotate_left; (focus (intro w hSw; (try dsimp only at hSw); go_simp; (try with_reducible rfl); done)); (try simp only [Act.put, List.setIfInBounds_toArray, List.set_cons_zero, List.set_cons_succ]))
    (refine wpAnyH_takeL (i := 13) (v := ?_) rfl (by kernel_rfl) (by kernel_rfl) (by kernel_rfl) (fun _ _ _ h => h) (by rfl) hHeld ?_ ?_; rotate_left; (focus (intro w hSw; (try dsimp only at hSw); go_simp; (try with_reducible rfl); done)); (try simp only [Act.put, List.setIfInBounds_toArray, List.set_cons_zero, List.set_cons_succ]))
    refine wpAnyH_callL (i := 14) rfl (by kernel_rfl) (by rfl) (fun K hK => ?_)
    go_simp
    refine hK.out _ _ (hSs w' hS' _) (fun hHeld => ?_)
    (clear hK K; (try simp only [Act.put, List.setIfInBounds_toArray, List.set_cons_zero, List.set_cons_succ]))
    (refine wpAnyH_done (by kernel_rfl) ?_ _)
    have hfin := Lib.hid (hwr w' A' c'' ho hg kd'.out hat)
    clear hS' hHeld kdc kdf ho hg hg0 hb hat
    cases hq : (opD D).off
    · go_wp2
      go_ret
      exact ⟨by rw [hE2.out hq]; rfl, ⟨A', c'', hfin.out.1, hfin.out.2.1⟩, hfin.out.2.2⟩
    · go_wp2
      go_ret
      exact ⟨by rw [hE1.out hq]; rfl, ⟨A', c'', hfin.out.1, hfin.out.2.1⟩, hfin.out.2.2⟩
end Go.Proofs.Ytggeepihkeocmaa
/- munimentlaw07.full by its contract. -/
namespace Go.Proofs.Ytggeepihkeocmaa
set_option linter.unusedVariables false
set_option linter.unusedSimpArgs false
open Go.RowKit
def fillTo (p : List Int) (j : Nat) : List Int := p.take j ++ List.replicate (512 - j) 0
def fullL (p : List Int) : List Int := fillTo p (min p.length 512)
theorem fillTo_len (p : List Int) (j : Nat) (h : j ≤ p.length) (h2 : j ≤ 512) : (fillTo p j).length = 512 := by
  unfold fillTo
  rw [List.length_append, List.length_take, List.length_replicate]
  omega
theorem fillTo_set (p : List Int) (j : Nat) (h : j < p.length) (h2 : j < 512) : (fillTo p j).set j (p.getD j 0) = fillTo p (j + 1) := by
  unfold fillTo
  rw [show 512 - j = (512 - (j + 1)) + 1 by omega, List.replicate_succ]
  have hl : (p.take j).length = j := by rw [List.length_take]; omega
  rw [List.set_append_right _ _ (by omega), hl, Nat.sub_self, List.set_cons_zero, List.take_succ_eq_append_getElem h, List.append_assoc, show p.getD j 0 = p[j] by simp [List.getD, h]]
  rfl
theorem fullL_sec {p : List Int} (h : Byt p) : Sec (fullL p) := by
  refine ⟨fillTo_len p _ (by omega) (by omega), fun x hx => ?_⟩
  rcases List.mem_append.1 hx with h1 | h1
  · exact h x (List.mem_of_mem_take h1)
  · rw [List.eq_of_mem_replicate h1]; omega
set_option maxRecDepth 100000 in
set_option maxHeartbeats 1000000 in
theorem full_calls {n lo hi : Nat} (c : Nat) {A : Option Addr} {p : List Int} (w : World) (h : BsR w lo hi A n p) (hhi : hi ≤ w.heap.size) :
    Calls Try.prog 48 #[.slice A n c] w fun e w' => ∃ b, e = .returned (.slice (some ⟨b, 0, none⟩) 512 512) ∧ OwB w' w.heap.size (some ⟨b, 0, none⟩) 512 512 (fullL p) ∧ Below w.heap.size w w' ∧ w.heap.size ≤ b := by
  have hln := Lib.hid h.1
  have hbyt := Lib.hid h.2.1
  have hh := Lib.hid h
  obtain ⟨i0, hi0, hz0, hz1, hz2⟩ := info_parts info8
  have q1 : i0.bytes * 512 ≤ 281474976710656 := by rw [hz2]; omega
  have q2 : (512 : Nat) ≤ maxLen := by unfold maxLen; omega
  have q1' := Lib.hid q1
  have hi0' := Lib.hid hi0
  have hz0' := Lib.hid hz0
  have hz1' := Lib.hid hz1
  clear h hi0 hz0 hz1 hz2 q1
  go_enter Try.func48, Try.ntmps48
  go_upto_region 3 with (at_make; refine wpList_make_full w rfl _ _ 32 rfl w.heap.size 5 i0 (.int .u8 0) 1 Try.underlying32 hi0'.out hz0'.out hz1'.out .i64 .i64 _ _ 512 rfl rfl rfl rfl q1'.out q2 (Nat.le_refl _) ?_; intro w1 ho1 hg1)
  have ho : OwB w1 w.heap.size (some ⟨w.heap.size, 0, none⟩) 512 512 (fillTo p 0) := by
    refine ⟨fillTo_len p 0 (by omega) (by omega), fun x hx => ?_, ?_⟩
    · rw [List.eq_of_mem_replicate (show x ∈ List.replicate 512 0 from by simpa [fillTo] using hx)]; omega
    · have h1 := ho1
      rw [show (512 : Nat) * 1 = 512 from rfl, show (Value.int .u8 0).cells = #[.int .u8 0] from rfl, toList_madeCells_one] at h1
      have h2 : (fillTo p 0).map (Value.int .u8) = List.replicate 512 (Value.int .u8 0) := by
        show (p.take 0 ++ List.replicate 512 0).map _ = _
        rw [List.take_zero, List.nil_append, List.map_replicate]
      rw [h2]; exact h1
  have hB : Below w.heap.size w w1 := ⟨hg1.os, hg1.tape, hg1.output, hg1.size, fun k hk => hg1.block k hk (by simp)⟩
  clear ho1 hg1
  go_loopw [4] (fun v4 wr => ∃ j : Nat, j ≤ n ∧ j ≤ 512 ∧ v4 = .int .i64 j ∧ OwB wr w.heap.size (some ⟨w.heap.size, 0, none⟩) 512 512 (fillTo p j) ∧ Below w.heap.size w wr) (fun v4 _ => n - (intOf v4).toNat)
  case atStart => exact ⟨0, by omega, by omega, rfl, ho, hB⟩
  case round =>
    clear ho hB
    obtain ⟨j, hj, hj5, rfl, ho, hB⟩ := hrel
    by_cases hlt : j < n ∧ j < 512
    · obtain ⟨l1, l2⟩ := hlt
      obtain ⟨gb, go', rfl, -, g2, hcl⟩ := (hh.out.below hB hhi).at_ l1
      have hst := Lib.hid (fillTo_set p j (by rw [hln.out]; exact l1) l2)
      have hx := hbyt.out.getD j
      generalize p.getD j 0 = x at *
      obtain ⟨cur, hat, -, -, -⟩ := ho.at_
      have hcc := ho.reads.at_ l2
      obtain ⟨gx, gy, hAx, -, -, hcell⟩ := hcc
      injection hAx with hAx
      injection hAx with e1 e2
      subst e1; subst e2
      rw [Nat.zero_add] at hcell
      have hfro := hat.f j
      have ht0 : (0 : Int) ≤ j := by omega
      have ht1 : (j : Int) < n := by omega
      have ht2 : (j : Int) < 512 := by omega
      clear hat
      go_wp2
      go_roundw
      case rel => exact ⟨j + 1, by omega, by omega, by go_num, by rw [← hst.out]; exact ho.set l2 hx.1 hx.2, hB.setCell (Nat.le_refl _) _⟩
      case measure => simp [intOf]; omega
    · have hq : ((n : Int) ≤ j) ∨ ((j : Int) < n ∧ (512 : Int) ≤ j) := by omega
      have hf : fillTo p j = fullL p := by
        unfold fullL
        congr 1
        rw [hln.out]; omega
      have hf' := Lib.hid hf
      clear hf hlt
      rcases hq with hq | ⟨hq1, hq2⟩
      all_goals
        go_wp2
        go_ret
        exact ⟨w.heap.size, rfl, by rw [← hf'.out]; exact ho, hB, Nat.le_refl _⟩
end Go.Proofs.Ytggeepihkeocmaa
