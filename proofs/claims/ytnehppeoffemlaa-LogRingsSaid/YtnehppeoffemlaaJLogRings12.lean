/- Joined texts: DiskA, Held. -/
import Derived.Test.YtnehppeoffemlaaJLogRings11
import Derived.Test.YtnehppeoffemlaaJLogRings00
/- The disk's small methods by their contracts: of a nil disk, and of one that is there. -/
namespace Go.Proofs.Ytnehppeoffemlaa
set_option linter.unusedVariables false
set_option linter.unusedSimpArgs false
open Go.RowKit
theorem look_nil (i : Int) (w : World) : Calls Try.prog 68 #[.pointer none, .int .i64 i] w fun e w' => e = .returned (.int .i64 6) ∧ w = w' := by
  go_enter Try.func68, Try.ntmps68
  go_wp2
  go_ret
  exact ⟨rfl, rfl⟩
theorem len_nil  (w : World) : Calls Try.prog 57 #[.pointer none] w fun e w' => e = .returned (.int .i64 0) ∧ w = w' := by
  go_enter Try.func57, Try.ntmps57
  go_wp2
  go_ret
  exact ⟨rfl, rfl⟩
theorem pending_nil  (w : World) : Calls Try.prog 58 #[.pointer none] w fun e w' => e = .returned (.int .i64 0) ∧ w = w' := by
  go_enter Try.func58, Try.ntmps58
  go_wp2
  go_ret
  exact ⟨rfl, rfl⟩
theorem ops_nil  (w : World) : Calls Try.prog 59 #[.pointer none] w fun e w' => e = .returned (.int .i64 0) ∧ w = w' := by
  go_enter Try.func59, Try.ntmps59
  go_wp2
  go_ret
  exact ⟨rfl, rfl⟩
theorem on_nil  (w : World) : Calls Try.prog 35 #[.pointer none] w fun e w' => e = .returned (.bool false) ∧ w = w' := by
  go_enter Try.func35, Try.ntmps35
  go_wp2
  go_ret
  exact ⟨rfl, rfl⟩
theorem sync_nil  (w : World) : Calls Try.prog 51 #[.pointer none] w fun e w' => e = .returned (.int .i64 6) ∧ w = w' := by
  go_enter Try.func51, Try.ntmps51
  go_wp2
  go_ret
  exact ⟨rfl, rfl⟩
theorem arm_nil (i : Int) (w : World) : Calls Try.prog 37 #[.pointer none, .int .i64 i] w fun e w' => e = .returned (.int .i64 6) ∧ w = w' := by
  go_enter Try.func37, Try.ntmps37
  go_wp2
  go_ret
  exact ⟨rfl, rfl⟩
theorem restart_nil (A : Option Addr) (n c : Nat) (w : World) : Calls Try.prog 22 #[.pointer none, .slice A n c] w fun e w' => e = .returned (.int .i64 6) ∧ w = w' := by
  go_enter Try.func22, Try.ntmps22
  go_wp2
  go_ret
  exact ⟨rfl, rfl⟩
theorem wri_nil (i : Int) (A : Option Addr) (n c : Nat) (w : World) : Calls Try.prog 28 #[.pointer none, .int .i64 i, .slice A n c] w fun e w' => e = .returned (.int .i64 6) ∧ w = w' := by
  go_enter Try.func28, Try.ntmps28
  go_wp2_with fail
  refine (look_nil i w).mono ?_
  rintro e w' ⟨rfl, rfl⟩
  go_wp2
  go_ret
  exact ⟨rfl, rfl⟩
theorem read_nil (i : Int) (w : World) : Calls Try.prog 50 #[.pointer none, .int .i64 i] w fun e w' => e = .returned (.tuple #[.slice none 0 0, .int .i64 6]) ∧ w = w' := by
  go_enter Try.func50, Try.ntmps50
  go_wp2_with fail
  refine (look_nil i w).mono ?_
  rintro e w' ⟨rfl, rfl⟩
  go_wp2
  go_ret2
  exact ⟨rfl, rfl⟩
def lookE (D : Dk) (i : Int) : Int := if 0 ≤ i ∧ i < D.l.length then 0 else 1
theorem look_calls {d lb m mc : Nat} {pA : Option Addr} {D : Dk} (i : Int) (w : World) (h : Dsk w d lb pA m mc D) :
    Calls Try.prog 68 #[.pointer (some ⟨d, 0, none⟩), .int .i64 i] w fun e w' => e = .returned (.int .i64 (lookE D i)) ∧ w = w' := by
  have k0 := h.at_
  have k0c := k0.c; have k0f := k0.f; have k0l := k0.lt
  unfold lookE
  by_cases h1 : i < 0
  · rw [if_neg (by omega)]
    go_enter Try.func68, Try.ntmps68
    go_wp2
    go_ret
    exact ⟨rfl, rfl⟩
  · by_cases h2 : i < D.l.length
    · rw [if_pos (by omega)]
      go_enter Try.func68, Try.ntmps68
      go_wp2
      go_ret
      exact ⟨rfl, rfl⟩
    · rw [if_neg (by omega)]
      go_enter Try.func68, Try.ntmps68
      go_wp2
      go_ret
      exact ⟨rfl, rfl⟩
theorem len_calls {d lb m mc : Nat} {pA : Option Addr} {D : Dk} (w : World) (h : Dsk w d lb pA m mc D) : Calls Try.prog 57 #[.pointer (some ⟨d, 0, none⟩)] w fun e w' => e = .returned (.int .i64 D.l.length) ∧ w = w' := by
  have k0 := h.at_
  have k0c := k0.c; have k0f := k0.f; have k0l := k0.lt
  go_enter Try.func57, Try.ntmps57
  go_wp2
  go_ret
  exact ⟨rfl, rfl⟩
theorem pending_calls {d lb m mc : Nat} {pA : Option Addr} {D : Dk} (w : World) (h : Dsk w d lb pA m mc D) : Calls Try.prog 58 #[.pointer (some ⟨d, 0, none⟩)] w fun e w' => e = .returned (.int .i64 m) ∧ w = w' := by
  have k0 := h.at_
  have k0c := k0.c; have k0f := k0.f; have k0l := k0.lt
  go_enter Try.func58, Try.ntmps58
  go_wp2
  go_ret
  exact ⟨rfl, rfl⟩
theorem ops_calls {d lb m mc : Nat} {pA : Option Addr} {D : Dk} (w : World) (h : Dsk w d lb pA m mc D) : Calls Try.prog 59 #[.pointer (some ⟨d, 0, none⟩)] w fun e w' => e = .returned (.int .i64 D.ops) ∧ w = w' := by
  have k0 := h.at_
  have k0c := k0.c; have k0f := k0.f; have k0l := k0.lt
  go_enter Try.func59, Try.ntmps59
  go_wp2
  go_ret
  exact ⟨rfl, rfl⟩
theorem on_calls {d lb m mc : Nat} {pA : Option Addr} {D : Dk} (w : World) (h : Dsk w d lb pA m mc D) : Calls Try.prog 35 #[.pointer (some ⟨d, 0, none⟩)] w fun e w' => e = .returned (.bool (!D.off)) ∧ w = w' := by
  have k0 := h.at_
  have k0c := k0.c; have k0f := k0.f; have k0l := k0.lt
  go_enter Try.func35, Try.ntmps35
  go_wp2
  go_ret
  exact ⟨rfl, rfl⟩
def opD (D : Dk) : Dk := { D with ops := D.ops + 1, arm := if 0 < D.arm then D.arm - 1 else D.arm, off := if 0 < D.arm then decide (D.arm = 1) else D.off }
theorem DkOk.op {D : Dk} (h : DkOk D) (h9 : D.ops < 1000000000) : DkOk (opD D) := by
  have h1 := h.arm
  have h2 := h.ops
  refine ⟨h.l, h.way, h.len, ?_, ?_, h.cnt⟩
  · show 0 ≤ (if 0 < D.arm then D.arm - 1 else D.arm) ∧ (if 0 < D.arm then D.arm - 1 else D.arm) ≤ 9223372036854775807
    split <;> omega
  · show 0 ≤ D.ops + 1 ∧ D.ops + 1 ≤ 1000000000
    omega
theorem begin_calls {d lb m mc : Nat} {pA : Option Addr} {D : Dk} (w : World) (h : Dsk w d lb pA m mc D) (h9 : D.ops < 1000000000) :
    Calls Try.prog 69 #[.pointer (some ⟨d, 0, none⟩)] w fun e w' => e = .returned (.bool (opD D).off) ∧ Dsk w' d lb pA m mc (opD D) ∧ Mod (fun k => k = d) w w' := by
  have k0 := h.at_
  have k0c := k0.c; have k0f := k0.f; have k0l := k0.lt
  have ho := h.ok.ops
  have ha := h.ok.arm
  have hn1 := h.ne1
  have hn2 := h.ne2
  have hok := Lib.hid (h.ok.op h9)
  have hfin : ∀ w', Mod (fun k => k = d) w w' → At w' d #[.slice (some ⟨lb, 0, none⟩) D.l.length D.l.length, .slice pA m mc, .int .i64 (opD D).arm, .bool (opD D).off, .int .i64 (opD D).ops] 101 → Dsk w' d lb pA m mc (opD D) := fun w' hm hat =>
    ⟨hat, h.row.mod hm (fun e => hn1 e.symm), owns_heap h.way (fun b hb => by
      rw [ownBlk_eq] at hb
      exact hm.block b ((h.way.lt b (by rw [ownBlk_eq]; exact hb)).2) (fun e => hn2 (by rw [hb, e]))), h.wl, hok.out⟩
  have hfin' := Lib.hid hfin
  by_cases h0 : 0 < D.arm
  · have e1 : (opD D).arm = D.arm - 1 := if_pos h0
    have e2 : (opD D).off = decide (D.arm = 1) := if_pos h0
    have e3 : (opD D).ops = D.ops + 1 := rfl
    by_cases h1 : D.arm = 1
    · rw [h1] at e1
      rw [e2, decide_eq_true h1]
      rw [e1, e2, e3, decide_eq_true h1] at hfin'
      have h1' := Lib.hid h1
      clear hfin hok e1 e2 e3
      rw [h1] at k0c
      go_enter Try.func69, Try.ntmps69
      go_wp2
      go_ret
      have hm : Mod (fun k => k = d) w (((w.setCell ⟨d, 4, none⟩ (.int .i64 (D.ops + 1))).setCell ⟨d, 2, none⟩ (.int .i64 0)).setCell ⟨d, 3, none⟩ (.bool true)) := (((Mod.refl (fun k => k = d) w).set (.inl rfl) _).set (.inl rfl) _).set (.inl rfl) _
      exact ⟨by first | rfl | simp, hfin'.out _ hm (k0.set.set.set.to (by simp)), hm⟩
    · rw [e2, decide_eq_false h1]
      rw [e1, e2, e3, decide_eq_false h1] at hfin'
      have h2 : ¬ D.arm - 1 = 0 := by omega
      have h3 : (D.arm - 1 == 0) = false := by simpa using h2
      clear hfin hok e1 e2 e3
      go_enter Try.func69, Try.ntmps69
      go_wp2
      go_ret
      have hm : Mod (fun k => k = d) w (((w.setCell ⟨d, 4, none⟩ (.int .i64 (D.ops + 1))).setCell ⟨d, 2, none⟩ (.int .i64 (D.arm - 1))).setCell ⟨d, 3, none⟩ (.bool false)) := (((Mod.refl (fun k => k = d) w).set (.inl rfl) _).set (.inl rfl) _).set (.inl rfl) _
      exact ⟨by first | rfl | simp, hfin'.out _ hm (k0.set.set.set.to (by simp)), hm⟩
  · have e1 : (opD D).arm = D.arm := if_neg h0
    have e2 : (opD D).off = D.off := if_neg h0
    have e3 : (opD D).ops = D.ops + 1 := rfl
    rw [e1, e2, e3] at hfin'
    rw [e2]
    clear hfin hok e1 e2 e3
    go_enter Try.func69, Try.ntmps69
    go_wp2
    go_ret
    have hm : Mod (fun k => k = d) w (w.setCell ⟨d, 4, none⟩ (.int .i64 (D.ops + 1))) := (Mod.refl (fun k => k = d) w).set (.inl rfl) _
    exact ⟨by first | rfl | simp, hfin'.out _ hm (k0.set.to (by simp)), hm⟩
end Go.Proofs.Ytnehppeoffemlaa
/- A region that draws, taken by hand: the condition S may grow on the way. -/
namespace Go.Proofs.Ytnehppeoffemlaa
set_option linter.unusedVariables false
set_option linter.unusedSimpArgs false
open Go.RowKit
section
variable {P : Program} {ops : Array Oper} {Q : Exit → Act → World → Prop} {md : Region.Mode} {S : World → Prop}
theorem getElem?_of_drop {i : Nat} {o : Oper} {r : List Oper} (h : ops.toList.drop i = o :: r) : ops[i]? = some o := by
  have h1 : (ops.toList.drop i)[0]? = some o := by rw [h]; rfl
  rw [List.getElem?_drop] at h1
  simpa using h1
theorem wpAnyH_mono {S' : World → Prop} (hs : ∀ w, S' w → S w) : ∀ (fuel : Nat) (listed : Array Bool) (a : Act) (w : World), wpAnyH P md ops Q S' fuel listed a w → wpAnyH P md ops Q S fuel listed a w
  | 0, _, _, _, h => h
  | fuel + 1, _, _, _, h => ⟨h.1, fun i hi => wpOp_mono (fun a' w' h' => ⟨hs _ h'.1, wpAnyH_mono hs fuel _ a' w' h'.2⟩) (h.2 i hi)⟩
theorem wpAnyH_takeL {i : Nat} {oi : Oper} {r : List Oper} {v : Value} {fuel : Nat} {listed : Array Bool} {a : Act} {w : World} (hd : ops.toList.drop i = oi :: r)
    (hs : Region.noSelect ops = true) (hf : Region.free md ops listed i = true) (hr : (Region.ready md ops listed).contains i = true)
    (hQ : ∀ c a w, Q (.panic c) (a.put oi.dst v) w → Q (.panic c) a w) (hw : Region.wanted oi (yielded ops a.tmps) = true) (hS : S w) (hy : ∀ w, S w → (execOp a.eval oi).run P w = .ok (.value v) w)
    (h : wpAnyH P md ops Q S fuel (listed.setIfInBounds i true) (a.put oi.dst v) w) : wpAnyH P md ops Q S (fuel + 1) listed a w :=
  wpAnyH_take (getElem?_of_drop hd) hs hf hr hQ (.inl ⟨hw, hy⟩) hS h
/-- .. an operation that isn't wanted. -/
theorem wpAnyH_skipL {i : Nat} {oi : Oper} {r : List Oper} {fuel : Nat} {listed : Array Bool} {a : Act} {w : World} (hd : ops.toList.drop i = oi :: r)
    (hs : Region.noSelect ops = true) (hf : Region.free md ops listed i = true) (hr : (Region.ready md ops listed).contains i = true)
    (hQ : ∀ c a w, Q (.panic c) (a.put oi.dst undef) w → Q (.panic c) a w) (hw : Region.wanted oi (yielded ops a.tmps) = false) (hS : S w)
    (h : wpAnyH P md ops Q S fuel (listed.setIfInBounds i true) (a.put oi.dst undef) w) : wpAnyH P md ops Q S (fuel + 1) listed a w :=
  wpAnyH_take (getElem?_of_drop hd) hs hf hr hQ (.inr ⟨hw, rfl⟩) hS h
theorem wpAnyH_callL {i : Nat} {o : Oper} {r : List Oper} {fuel : Nat} {listed : Array Bool} {a : Act} {w : World} (hd : ops.toList.drop i = o :: r)
    (hr : Region.ready md ops listed = [i]) (hw : Region.wanted o (yielded ops a.tmps) = true)
    (h : ∀ K' : Act → World → Prop, Shut (∀ a w, S w → (S w → wpAnyH P md ops Q S fuel (listed.setIfInBounds i true) a w) → K' a w) → Oper.wp P o a w K' Q) : wpAnyH P md ops Q S (fuel + 1) listed a w :=
  wpAnyH_ready hr (by simp) (AllReadyH.cons (getElem?_of_drop hd) (fun K' hK => by rw [if_pos hw]; exact h K' hK) AllReadyH.nil)
end
end Go.Proofs.Ytnehppeoffemlaa
