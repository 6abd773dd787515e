/- Joined texts: PpW. -/
import Derived.Test.YtggeepihkeocmaaJPlays41
/- PoolPlays: a row of the model that is being made grows. -/
namespace Go.Proofs.Ytggeepihkeocmaa
set_option linter.unusedVariables false
set_option linter.unusedSimpArgs false
open Go.RowKit Go.Maps
/-- The law's world and its model, on the way. -/
def WM (w : World) (base x d lb g pp b : Nat) (s : St) (mo : Int) (pa : Nat → Nat) (nl ns np nd : Nat) (lA sA pA dA : Option Addr) (lc sc pc dc : Nat) : Prop := MdS w base b mo pa nl ns np nd lA sA pA dA lc sc pc dc ∧ WS w base x d lb g pp s (MsF b pa nl lA sA pA dA)
section
variable {w wa w7 : World} {base x d lb g pp b : Nat} {s : St} {mo : Int} {pa : Nat → Nat} {nl ns np nd : Nat} {lA sA pA dA : Option Addr} {lc sc pc dc : Nat}
theorem grow_mod {A A' : Option Addr} {k0 o : Nat} {v : Value} (hba : Below w.heap.size w wa) (hg : wa.grownBy w7 (ownBlk A)) : Mod (fun k => k = k0 ∨ ownBlk A = some k) w (w7.setCell ⟨k0, o, none⟩ v) :=
  ((Mod.of_below (S := fun k => k = k0 ∨ ownBlk A = some k) hba).grown hg (fun k hk => .inl (.inr hk))).set (k := k0) (.inl (.inl rfl)) v
theorem own_set {e n c m o k0 T : Nat} {A : Option Addr} {xs : List Value} {v : Value} {cs : Array Value} (h : w7.ownsRow base e 1 (.slice A n c) m xs) (hk : At w7 k0 cs T) (hT : T ≠ e) : (w7.setCell ⟨k0, o, none⟩ v).ownsRow base e 1 (.slice A n c) m xs :=
  owns_mod h ((Mod.refl (fun k => k = k0) w7).set (k := k0) (.inl rfl) v) (fun k hk2 e2 => at_ne hk h hT (by rw [hk2, e2]))
theorem new_or {A A' : Option Addr} (hba : Below w.heap.size w wa) (h : ownBlk A' = ownBlk A ∨ ownBlk A' = some wa.heap.size) : ownBlk A' = ownBlk A ∨ ∃ k, ownBlk A' = some k ∧ w.heap.size ≤ k := h.imp id (fun e => ⟨_, e, hba.size⟩)
theorem wm_L {A' : Option Addr} {c' P : Nat} (h : WM w base x d lb g pp b s mo pa nl ns np nd lA sA pA dA lc sc pc dc) (hba : Below w.heap.size w wa) (hg : wa.grownBy w7 (ownBlk lA)) (ho : w7.ownsRow base 32 1 (.slice A' (nl + 1) c') (nl + 1) ((List.range nl).map (fun j => Value.slice (some ⟨pa j, 0, none⟩) 504 504) ++ [.slice (some ⟨P, 0, none⟩) 504 504])) (hat : ownBlk A' = ownBlk lA ∨ ownBlk A' = some wa.heap.size) (hP : OwB wa w.heap.size (some ⟨P, 0, none⟩) 504 504 (List.replicate 504 0)) (hPw : w.heap.size ≤ P) :
    WM (w7.setCell ⟨b, 0, none⟩ (.slice A' (nl + 1) c')) base x d lb g pp b s mo (fun j => if j = nl then P else pa j) (nl + 1) ns np nd A' sA pA dA c' sc pc dc := by
  obtain ⟨hM, hW⟩ := h
  have hne := at_ne hM.at_ hM.rl (by decide)
  have k7 : At w7 b #[.slice lA nl lc, .slice sA ns sc, .slice pA np pc, .slice dA nd dc, .int .i64 mo] 60 := At.grown (At.keep hba hM.at_) hg (fun e => hne e.symm)
  have m8 : Mod (fun k => k = b ∨ ownBlk lA = some k) w (w7.setCell ⟨b, 0, none⟩ (.slice A' (nl + 1) c')) := grow_mod (A' := A') hba hg
  have hlt8 := (own_set (o := 0) (v := .slice A' (nl + 1) c') ho k7 (by decide)).lt
  have hbw := hW.bw
  have hlP : P < wa.heap.size := (hP.lt P rfl).2
  have hp7 : OwB (w7.setCell ⟨b, 0, none⟩ (.slice A' (nl + 1) c')) w.heap.size (some ⟨P, 0, none⟩) 504 504 (List.replicate 504 0) := hP.mod (((Mod.refl (fun k => k = b ∨ ownBlk lA = some k) wa).grown hg (fun k hk => .inl (.inr hk))).set (k := b) (.inl (.inl rfl)) _) (fun k hk hs => by
    have e : P = k := by simpa [ownBlk] using hk
    rcases hs with e2 | e2
    · have := hM.at_.lt; omega
    · have := (hM.lts k (.inr (.inl e2))).2; omega)
  refine ⟨hM.stepL m8 (k7.set.to (by simp)) (own_set ho k7 (by decide)) (hp7.less hbw), hW.own m8 (fun k hk => .inl (hk.elim .inl (fun e => .inr (.inl e)))) (fun k hk => ?_)⟩
  have hnew : ∀ k, ownBlk A' = some k → MsF b pa nl lA sA pA dA k ∨ (w.heap.size ≤ k ∧ k < (w7.setCell ⟨b, 0, none⟩ (.slice A' (nl + 1) c')).heap.size) := fun k hk => by
    have h8 := hlt8 k (by rw [ownBlk_eq]; exact hk)
    rcases hat with e | e
    · exact .inl (.inr (.inl (e.symm.trans hk)))
    · rw [hk] at e; injection e with e; exact .inr ⟨by have := hba.size; omega, h8.2⟩
  rcases hk with hk | hk | hk | hk | hk | ⟨j, hj, hk⟩
  · exact .inl (.inl hk)
  · exact hnew k hk
  · exact .inl (.inr (.inr (.inl hk)))
  · exact .inl (.inr (.inr (.inr (.inl hk))))
  · exact .inl (.inr (.inr (.inr (.inr (.inl hk)))))
  · by_cases e : j = nl
    · have hk : k = if j = nl then P else pa j := hk
      rw [if_pos e] at hk
      subst hk
      exact .inr ⟨hPw, (hp7.lt k rfl).2⟩
    · have hk : k = if j = nl then P else pa j := hk
      rw [if_neg e] at hk
      exact .inl (.inr (.inr (.inr (.inr (.inr ⟨j, by omega, hk⟩)))))
theorem wm_S {A' : Option Addr} {c' : Nat} (h : WM w base x d lb g pp b s mo pa nl ns np nd lA sA pA dA lc sc pc dc) (hba : Below w.heap.size w wa) (hg : wa.grownBy w7 (ownBlk sA)) (ho : w7.ownsRow base 33 1 (.slice A' (ns + 1) c') (ns + 1) (List.replicate ns (.int .u64 0) ++ [.int .u64 0])) (hat : ownBlk A' = ownBlk sA ∨ ownBlk A' = some wa.heap.size) :
    WM (w7.setCell ⟨b, 1, none⟩ (.slice A' (ns + 1) c')) base x d lb g pp b s mo pa nl (ns + 1) np nd lA A' pA dA lc c' pc dc := by
  obtain ⟨hM, hW⟩ := h
  have hne := at_ne hM.at_ hM.rs (by decide)
  have k7 : At w7 b #[.slice lA nl lc, .slice sA ns sc, .slice pA np pc, .slice dA nd dc, .int .i64 mo] 60 := At.grown (At.keep hba hM.at_) hg (fun e => hne e.symm)
  have m8 : Mod (fun k => k = b ∨ ownBlk sA = some k) w (w7.setCell ⟨b, 1, none⟩ (.slice A' (ns + 1) c')) := grow_mod (A' := A') hba hg
  have hlt8 := (own_set (o := 1) (v := .slice A' (ns + 1) c') ho k7 (by decide)).lt
  refine ⟨hM.stepS m8 (k7.set.to (by simp)) (own_set ho k7 (by decide)) (new_or hba hat), hW.own m8 (fun k hk => .inl (hk.elim .inl (fun e => .inr (.inr (.inl e))))) (fun k hk => ?_)⟩
  have hnew : ∀ k, ownBlk A' = some k → MsF b pa nl lA sA pA dA k ∨ (w.heap.size ≤ k ∧ k < (w7.setCell ⟨b, 1, none⟩ (.slice A' (ns + 1) c')).heap.size) := fun k hk => by
    have h8 := hlt8 k (by rw [ownBlk_eq]; exact hk)
    rcases hat with e | e
    · exact .inl (.inr (.inr (.inl (e.symm.trans hk))))
    · rw [hk] at e; injection e with e; exact .inr ⟨by have := hba.size; omega, h8.2⟩
  rcases hk with hk | hk | hk | hk | hk | ⟨j, hj, hk⟩
  · exact .inl (.inl hk)
  · exact .inl (.inr (.inl hk))
  · exact hnew k hk
  · exact .inl (.inr (.inr (.inr (.inl hk))))
  · exact .inl (.inr (.inr (.inr (.inr (.inl hk)))))
  · exact .inl (.inr (.inr (.inr (.inr (.inr ⟨j, hj, hk⟩)))))
theorem wm_P {A' : Option Addr} {c' : Nat} (h : WM w base x d lb g pp b s mo pa nl ns np nd lA sA pA dA lc sc pc dc) (hba : Below w.heap.size w wa) (hg : wa.grownBy w7 (ownBlk pA)) (ho : w7.ownsRow base 3 1 (.slice A' (np + 1) c') (np + 1) (List.replicate np (.int .i64 0) ++ [.int .i64 0])) (hat : ownBlk A' = ownBlk pA ∨ ownBlk A' = some wa.heap.size) :
    WM (w7.setCell ⟨b, 2, none⟩ (.slice A' (np + 1) c')) base x d lb g pp b s mo pa nl ns (np + 1) nd lA sA A' dA lc sc c' dc := by
  obtain ⟨hM, hW⟩ := h
  have hne := at_ne hM.at_ hM.rp (by decide)
  have k7 : At w7 b #[.slice lA nl lc, .slice sA ns sc, .slice pA np pc, .slice dA nd dc, .int .i64 mo] 60 := At.grown (At.keep hba hM.at_) hg (fun e => hne e.symm)
  have m8 : Mod (fun k => k = b ∨ ownBlk pA = some k) w (w7.setCell ⟨b, 2, none⟩ (.slice A' (np + 1) c')) := grow_mod (A' := A') hba hg
  have hlt8 := (own_set (o := 2) (v := .slice A' (np + 1) c') ho k7 (by decide)).lt
  refine ⟨hM.stepP m8 (k7.set.to (by simp)) (own_set ho k7 (by decide)), hW.own m8 (fun k hk => .inl (hk.elim .inl (fun e => .inr (.inr (.inr (.inl e)))))) (fun k hk => ?_)⟩
  have hnew : ∀ k, ownBlk A' = some k → MsF b pa nl lA sA pA dA k ∨ (w.heap.size ≤ k ∧ k < (w7.setCell ⟨b, 2, none⟩ (.slice A' (np + 1) c')).heap.size) := fun k hk => by
    have h8 := hlt8 k (by rw [ownBlk_eq]; exact hk)
    rcases hat with e | e
    · exact .inl (.inr (.inr (.inr (.inl (e.symm.trans hk)))))
    · rw [hk] at e; injection e with e; exact .inr ⟨by have := hba.size; omega, h8.2⟩
  rcases hk with hk | hk | hk | hk | hk | ⟨j, hj, hk⟩
  · exact .inl (.inl hk)
  · exact .inl (.inr (.inl hk))
  · exact .inl (.inr (.inr (.inl hk)))
  · exact hnew k hk
  · exact .inl (.inr (.inr (.inr (.inr (.inl hk)))))
  · exact .inl (.inr (.inr (.inr (.inr (.inr ⟨j, hj, hk⟩)))))
theorem wm_D {A' : Option Addr} {c' : Nat} (h : WM w base x d lb g pp b s mo pa nl ns np nd lA sA pA dA lc sc pc dc) (hba : Below w.heap.size w wa) (hg : wa.grownBy w7 (ownBlk dA)) (ho : w7.ownsRow base 33 1 (.slice A' (nd + 1) c') (nd + 1) (List.replicate nd (.int .u64 0) ++ [.int .u64 0])) (hat : ownBlk A' = ownBlk dA ∨ ownBlk A' = some wa.heap.size) :
    WM (w7.setCell ⟨b, 3, none⟩ (.slice A' (nd + 1) c')) base x d lb g pp b s mo pa nl ns np (nd + 1) lA sA pA A' lc sc pc c' := by
  obtain ⟨hM, hW⟩ := h
  have hne := at_ne hM.at_ hM.rd (by decide)
  have k7 : At w7 b #[.slice lA nl lc, .slice sA ns sc, .slice pA np pc, .slice dA nd dc, .int .i64 mo] 60 := At.grown (At.keep hba hM.at_) hg (fun e => hne e.symm)
  have m8 : Mod (fun k => k = b ∨ ownBlk dA = some k) w (w7.setCell ⟨b, 3, none⟩ (.slice A' (nd + 1) c')) := grow_mod (A' := A') hba hg
  have hlt8 := (own_set (o := 3) (v := .slice A' (nd + 1) c') ho k7 (by decide)).lt
  refine ⟨hM.stepD m8 (k7.set.to (by simp)) (own_set ho k7 (by decide)) (new_or hba hat), hW.own m8 (fun k hk => .inl (hk.elim .inl (fun e => .inr (.inr (.inr (.inr (.inl e))))))) (fun k hk => ?_)⟩
  have hnew : ∀ k, ownBlk A' = some k → MsF b pa nl lA sA pA dA k ∨ (w.heap.size ≤ k ∧ k < (w7.setCell ⟨b, 3, none⟩ (.slice A' (nd + 1) c')).heap.size) := fun k hk => by
    have h8 := hlt8 k (by rw [ownBlk_eq]; exact hk)
    rcases hat with e | e
    · exact .inl (.inr (.inr (.inr (.inr (.inl (e.symm.trans hk))))))
    · rw [hk] at e; injection e with e; exact .inr ⟨by have := hba.size; omega, h8.2⟩
  rcases hk with hk | hk | hk | hk | hk | ⟨j, hj, hk⟩
  · exact .inl (.inl hk)
  · exact .inl (.inr (.inl hk))
  · exact .inl (.inr (.inr (.inl hk)))
  · exact .inl (.inr (.inr (.inr (.inl hk))))
  · exact hnew k hk
  · exact .inl (.inr (.inr (.inr (.inr (.inr ⟨j, hj, hk⟩)))))
theorem wm_below {A : Option Addr} {o : Nat} {v : Value} (h : WM w base x d lb g pp b s mo pa nl ns np nd lA sA pA dA lc sc pc dc) (hA : ∀ k, ownBlk A = some k → base ≤ k) (hba : Below w.heap.size w wa) (hg : wa.grownBy w7 (ownBlk A)) : Below base w (w7.setCell ⟨b, o, none⟩ v) :=
  (grow_mod (A' := none) hba hg).below h.2.bw (fun k hk => hk.elim (fun e => e ▸ h.1.hb) (hA k))
end
end Go.Proofs.Ytggeepihkeocmaa
