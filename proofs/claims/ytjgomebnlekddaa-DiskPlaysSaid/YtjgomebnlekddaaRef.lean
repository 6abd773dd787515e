/- The reference disk: what it is in the heap; its op by contract. -/
import Derived.Test.YtjgomebnlekddaaDLasts
namespace Go.Proofs.Ytjgomebnlekddaa
set_option linter.unusedVariables false
set_option linter.unusedSimpArgs false
open Go.RowKit
def rwV (x : Wr) : List Value := [.int .i64 (x.1 : Int), .string (strL x.2)]
structure Rf (w : World) (base x : Nat) (lA : Option Addr) (lc : Nat) (wA : Option Addr) (wc : Nat) (D : Dk) : Prop where
  at_ : At w x #[.slice lA D.l.length lc, .slice wA D.way.length wc, .int .i64 D.arm, .bool D.off, .int .i64 D.ops] 79
  row : w.ownsRow base 9 1 (.slice lA D.l.length lc) D.l.length (strV D.l)
  way : w.ownsRow base 113 2 (.slice wA D.way.length wc) D.way.length (D.way.flatMap rwV)
  ok : DkOk D
  hx : base ≤ x
theorem owns_mod2 {w w' : World} {base e sz n c : Nat} {A : Option Addr} {xs : List Value} {S : Nat → Prop} (h : w.ownsRow base e sz (.slice A n c) n xs) (hm : Mod S w w') (hs : ∀ b, ownBlk A = some b → ¬ S b) : w'.ownsRow base e sz (.slice A n c) n xs :=
  owns_heap h (fun b hb => by
    have hb' := hb
    rw [ownBlk_eq] at hb'
    exact hm.block b (h.lt b hb).2 (hs b hb'))
def RFoot (x : Nat) (lA wA : Option Addr) (k : Nat) : Prop := k = x ∨ ownBlk lA = some k ∨ ownBlk wA = some k
theorem Rf.mod {w w' : World} {base x lc wc : Nat} {lA wA : Option Addr} {D : Dk} {S : Nat → Prop} (h : Rf w base x lA lc wA wc D) (hm : Mod S w w') (hs : ∀ k, RFoot x lA wA k → ¬ S k) : Rf w' base x lA lc wA wc D :=
  ⟨h.at_.mod hm (hs _ (.inl rfl)), owns_heap h.row (fun b hb => by
    rw [ownBlk_eq] at hb
    exact hm.block b ((h.row.lt b (by rw [ownBlk_eq]; exact hb)).2) (hs b (.inr (.inl hb)))), owns_heap h.way (fun b hb => by
    rw [ownBlk_eq] at hb
    exact hm.block b ((h.way.lt b (by rw [ownBlk_eq]; exact hb)).2) (hs b (.inr (.inr hb)))), h.ok, h.hx⟩
theorem Rf.later {w w' : World} {base x lc wc : Nat} {lA wA : Option Addr} {D : Dk} (h : Rf w base x lA lc wA wc D) (hb : Below w.heap.size w w') : Rf w' base x lA lc wA wc D :=
  h.mod (S := Nob) (Mod.of_below hb) (fun _ _ h => h)
theorem Rf.ne1 {w : World} {base x lc wc : Nat} {lA wA : Option Addr} {D : Dk} (h : Rf w base x lA lc wA wc D) : ownBlk lA ≠ some x := h.at_.ne_own h.row (by decide)
theorem Rf.ne2 {w : World} {base x lc wc : Nat} {lA wA : Option Addr} {D : Dk} (h : Rf w base x lA lc wA wc D) : ownBlk wA ≠ some x := h.at_.ne_own h.way (by decide)
theorem rop_calls {base x lc wc : Nat} {lA wA : Option Addr} {D : Dk} (w : World) (h : Rf w base x lA lc wA wc D) (h9 : D.ops < 1000000000) :
    Calls Try.prog 83 #[.pointer (some ⟨x, 0, none⟩)] w fun e w' => e = .returned (.bool (opD D).off) ∧ Rf w' base x lA lc wA wc (opD D) ∧ Mod (fun k => k = x) w w' := by
  have k0 := h.at_
  have k0c := k0.c; have k0f := k0.f; have k0l := k0.lt
  have ho := h.ok.ops
  have ha := h.ok.arm
  have hn1 := h.ne1
  have hn2 := h.ne2
  have hok := Lib.hid (h.ok.op h9)
  have hfin : ∀ w', Mod (fun k => k = x) w w' → At w' x #[.slice lA D.l.length lc, .slice wA D.way.length wc, .int .i64 (opD D).arm, .bool (opD D).off, .int .i64 (opD D).ops] 79 → Rf w' base x lA lc wA wc (opD D) := fun w' hm hat =>
    ⟨hat, owns_mod2 h.row hm (fun b hb e => hn1 (by rw [hb, e])), owns_mod2 h.way hm (fun b hb e => hn2 (by rw [hb, e])), hok.out, h.hx⟩
  have hfin' := Lib.hid hfin
  by_cases h0 : 0 < D.arm
  · have e1 : (opD D).arm = D.arm - 1 := if_pos h0
    have e2 : (opD D).off = decide (D.arm = 1) := if_pos h0
    have e3 : (opD D).ops = D.ops + 1 := rfl
    by_cases h1 : D.arm = 1
    · rw [h1] at e1
      rw [e2, decide_eq_true h1]
      rw [e1, e2, e3, decide_eq_true h1] at hfin'
      have h1' := Lib.hid h1
      clear hfin hok e1 e2 e3
      rw [h1] at k0c
      go_enter Try.func83, Try.ntmps83
      go_wp2
      go_ret
      have hm : Mod (fun k => k = x) w (((w.setCell ⟨x, 4, none⟩ (.int .i64 (D.ops + 1))).setCell ⟨x, 2, none⟩ (.int .i64 0)).setCell ⟨x, 3, none⟩ (.bool true)) := (((Mod.refl (fun k => k = x) w).set (.inl rfl) _).set (.inl rfl) _).set (.inl rfl) _
      exact ⟨by first | rfl | simp, hfin'.out _ hm (k0.set.set.set.to (by simp)), hm⟩
    · rw [e2, decide_eq_false h1]
      rw [e1, e2, e3, decide_eq_false h1] at hfin'
      have h2 : ¬ D.arm - 1 = 0 := by omega
      have h3 : (D.arm - 1 == 0) = false := by simpa using h2
      clear hfin hok e1 e2 e3
      go_enter Try.func83, Try.ntmps83
      go_wp2
      go_ret
      have hm : Mod (fun k => k = x) w (((w.setCell ⟨x, 4, none⟩ (.int .i64 (D.ops + 1))).setCell ⟨x, 2, none⟩ (.int .i64 (D.arm - 1))).setCell ⟨x, 3, none⟩ (.bool false)) := (((Mod.refl (fun k => k = x) w).set (.inl rfl) _).set (.inl rfl) _).set (.inl rfl) _
      exact ⟨by first | rfl | simp, hfin'.out _ hm (k0.set.set.set.to (by simp)), hm⟩
  · have e1 : (opD D).arm = D.arm := if_neg h0
    have e2 : (opD D).off = D.off := if_neg h0
    have e3 : (opD D).ops = D.ops + 1 := rfl
    rw [e1, e2, e3] at hfin'
    rw [e2]
    clear hfin hok e1 e2 e3
    go_enter Try.func83, Try.ntmps83
    go_wp2
    go_ret
    have hm : Mod (fun k => k = x) w (w.setCell ⟨x, 4, none⟩ (.int .i64 (D.ops + 1))) := (Mod.refl (fun k => k = x) w).set (.inl rfl) _
    exact ⟨by first | rfl | simp, hfin'.out _ hm (k0.set.to (by simp)), hm⟩
end Go.Proofs.Ytjgomebnlekddaa
