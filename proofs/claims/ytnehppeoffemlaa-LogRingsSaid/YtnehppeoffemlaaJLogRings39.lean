/- Joined texts: LogRd, LogRe. -/
import Derived.Test.YtnehppeoffemlaaJLogRings38
import Derived.Test.YtnehppeoffemlaaJLogRings06
import Derived.ArgAppend
/- append of one record of the law's model onto a slice that may begin inside its block. -/
namespace Go.Proofs.Ytnehppeoffemlaa
set_option linter.unusedVariables false
set_option linter.unusedSimpArgs false
open Go.RowKit
theorem recElt : EltOk Try.prog 39 45 2 24 (.agg #[.int .u64 0, .string ByteArray.empty]) := ⟨Try.underlying39, info_parts (by kernel_rfl), rfl, by decide⟩
def OwO (w : World) (base : Nat) (A : Option Addr) (n c : Nat) (vs : List Value) : Prop :=
  vs.length = n * 2 ∧ ((A = none ∧ n = 0 ∧ c = 0) ∨ ∃ g o cur, A = some ⟨g, o, none⟩ ∧ base ≤ g ∧ At w g cur 45 ∧ n ≤ c ∧ o + c * 2 ≤ cur.size ∧ c ≤ maxLen ∧ ∀ j v, vs[j]? = some v → cur[o + j]? = some v)
theorem OwO.nil (w : World) (base : Nat) : OwO w base none 0 0 [] := ⟨rfl, .inl ⟨rfl, rfl, rfl⟩⟩
theorem OwO.later {w w' : World} {base n c : Nat} {A : Option Addr} {vs : List Value} (h : OwO w base A n c vs) (hb : Below w.heap.size w w') : OwO w' base A n c vs := by
  refine ⟨h.1, ?_⟩
  rcases h.2 with h0 | ⟨g, o, cur, h1, h2, h3, h4⟩
  · exact .inl h0
  · exact .inr ⟨g, o, cur, h1, h2, At.keep hb h3, h4⟩
theorem OwO.mod {w w' : World} {base n c : Nat} {A : Option Addr} {vs : List Value} {S : Nat → Prop} (h : OwO w base A n c vs) (hm : Mod S w w') (hs : ∀ b, ownBlk A = some b → ¬ S b) : OwO w' base A n c vs := by
  refine ⟨h.1, ?_⟩
  rcases h.2 with h0 | ⟨g, o, cur, h1, h2, h3, h4⟩
  · exact .inl h0
  · exact .inr ⟨g, o, cur, h1, h2, h3.mod hm (hs g (by rw [h1]; rfl)), h4⟩
theorem OwO.lt {w : World} {base n c : Nat} {A : Option Addr} {vs : List Value} (h : OwO w base A n c vs) : ∀ b, ownBlk A = some b → base ≤ b ∧ b < w.heap.size := fun b hb => by
  rcases h.2 with ⟨h0, _⟩ | ⟨g, o, cur, h1, h2, h3, h4⟩
  · rw [h0] at hb; cases hb
  · rw [h1] at hb; injection hb with hb; subst hb; exact ⟨h2, h3.lt⟩
theorem OwO.of_own {w : World} {base n c : Nat} {A : Option Addr} {vs : List Value} (h : w.ownsRow base 45 2 (.slice A n c) n vs) : OwO w base A n c vs := by
  refine ⟨h.1, ?_⟩
  rcases h.2 with ⟨hv, h0⟩ | ⟨g, cap, cur, hv, h1, h2, h3, h4, h5, h6⟩
  · injection hv with e1 e2 e3
    exact .inl ⟨e1, by omega, by omega⟩
  · injection hv with e1 e2 e3
    subst e3
    refine .inr ⟨g, 0, cur, e1, h1, h2, h3, by omega, h4, fun j v hj => ?_⟩
    rw [← h6] at hj
    have hlt : j < (cur.toList.take (n * 2)).length := (List.getElem?_eq_some_iff.1 hj).1
    rw [List.getElem?_take_of_lt (by rw [List.length_take] at hlt; omega)] at hj
    rw [Nat.zero_add]
    simpa using hj
theorem run_appO (w : World) (ty : TypeId) (base n c b : Nat) (A : Option Addr) (vs : List Value) (u1 u2 : Value) (h : OwO w base A n c vs) (hsrc : At w b #[u1, u2] 45) (ho1 : u1.oneCell' = true) (ho2 : u2.oneCell' = true) (hn : n ≤ 1000) (hbase : base ≤ w.heap.size) :
    ∃ A' c' w', (Builtin.append_ #[39, 39] ty #[.slice A n c, .slice (some ⟨b, 0, none⟩) 1 1]).run Try.prog w = .ok (.slice A' (n + 1) c') w' ∧ OwO w' base A' (n + 1) c' (vs ++ [u1, u2]) ∧ w.grownBy w' (ownBlk A) ∧ (ownBlk A' = ownBlk A ∨ ownBlk A' = some w.heap.size) := by
  have hone : ∀ u ∈ [u1, u2], u.oneCell' = true := by intro u hu; simp at hu; rcases hu with rfl | rfl <;> assumption
  have hnews : ∀ j v, [u1, u2][j]? = some v → w.cell? ((⟨b, 0, none⟩ : Addr).add j) = some v := fun j v hj => by
    rw [Go.WideShapes.add_plain, Nat.zero_add, hsrc.c]
    simpa using hj
  obtain ⟨i0, hi0, hz0, hz1, hz2⟩ := recElt.hi
  have ht := recElt.ht
  rcases h.2 with ⟨rfl, rfl, rfl⟩ | ⟨g, o, cur, rfl, hg, hat, hnc, hos, hcm, hcv⟩
  · have hv : vs = [] := List.eq_nil_of_length_eq_zero (by simpa using h.1)
    subst hv
    obtain ⟨A', c', w', h1, h2, h3, -, h5⟩ := run_appG recElt w ty base 0 0 none [] (World.ownsRow_nil _ _ _ _) 1 1 (some ⟨b, 0, none⟩) [u1, u2] (Src.of_at (c := #[u1, u2]) hsrc rfl hone) (by unfold maxLen; omega) (by omega) hbase
    exact ⟨A', c', w', h1, OwO.of_own h2, h3, h5⟩
  · by_cases hroom : n + 1 ≤ c
    · have hc : ∀ j, j < [u1, u2].length → (w.cell? ⟨g, o + n * i0.size + j, none⟩).isSome = true := fun j hj => by
        rw [hat.c, hz1]
        have hj2 : j < 2 := hj
        rw [Array.getElem?_eq_getElem (by omega)]
        rfl
      have hrun := run_append_room_cells (P := Try.prog) (w := w) 39 ty 45 i0 ht hi0 g o n c ⟨b, 0, none⟩ 1 1 [u1, u2] (by rw [hz1]; rfl) hnews hone hroom hc (fun j _ => hat.f _)
      rw [hz1] at hrun
      have hat2 := At.set (o := o + n * 2 + 1) (v := u2) (At.set (o := o + n * 2) (v := u1) hat)
      refine ⟨_, _, _, hrun, ⟨by rw [List.length_append, h.1]; simp; omega, .inr ⟨g, o, _, rfl, hg, hat2, hroom, by simp only [Array.size_setIfInBounds]; omega, hcm, fun j v hj => ?_⟩⟩, World.grownBy.trans (grown_set w g _ u1) (grown_set _ g _ u2), .inl rfl⟩
      have hvl := h.1
      rcases Nat.lt_or_ge j vs.length with hj2 | hj2
      · rw [List.getElem?_append_left hj2] at hj
        rw [Array.getElem?_setIfInBounds_ne (by omega), Array.getElem?_setIfInBounds_ne (by omega)]
        exact hcv j v hj
      · rw [List.getElem?_append_right hj2] at hj
        have hj3 := (List.getElem?_eq_some_iff.1 hj).1
        have hj4 : j - vs.length < 2 := hj3
        rcases Nat.lt_or_ge (j - vs.length) 1 with h0 | h0
        · have e : j = n * 2 := by omega
          rw [show j - vs.length = 0 by omega] at hj
          have hj : u1 = v := by simpa using hj
          rw [Array.getElem?_setIfInBounds_ne (by omega), e, Array.getElem?_setIfInBounds_self_of_lt (by omega), hj]
        · have e : o + j = o + n * 2 + 1 := by omega
          rw [show j - vs.length = 1 by omega] at hj
          have hj : u2 = v := by simpa using hj
          rw [e, Array.getElem?_setIfInBounds_self_of_lt (by simp only [Array.size_setIfInBounds]; omega), hj]
    · have hcells : ∀ j v, vs[j]? = some v → w.cell? ((⟨g, o, none⟩ : Addr).add j) = some v := fun j v hj => by
        rw [Go.WideShapes.add_plain, hat.c]
        exact hcv j v hj
      have hrun := run_append_grow (P := Try.prog) w 39 ty 45 i0 (.agg #[.int .u64 0, .string ByteArray.empty]) ht hi0 hz0 ⟨g, o, none⟩ n c vs (by rw [h.1, hz1]) hcells ⟨b, 0, none⟩ 1 1 [u1, u2] (by rw [hz1]; rfl) hnews (by omega) (by omega) (growslice_fits (by omega) (by rw [hz2]; omega))
      have hge := grownCap_ge w (n + 1) c 45
      have hcm2 : grownCap w (n + 1) c 45 ≤ maxLen := grownCap_le_maxLen w (n + 1) c 45 (by simp only [maxLen]; omega)
      refine ⟨_, _, _, hrun, ⟨by rw [List.length_append, h.1]; simp; omega, .inr ⟨w.heap.size, 0, _, rfl, hbase, heap_alloc_new w.drew _, hge, ?_, hcm2, fun j v hj => ?_⟩⟩, ?_, .inr rfl⟩
      · simp [size_zeroCells, Value.cells, h.1]
        omega
      · rw [Nat.zero_add]
        have hj2 := (List.getElem?_eq_some_iff.1 hj).1
        rw [Array.getElem?_append_left (by simp at hj2 ⊢; omega)]
        simpa using hj
      · exact ⟨rfl, rfl, rfl, by simp, fun k hk _ => heap_alloc_old w.drew _ hk⟩
end Go.Proofs.Ytnehppeoffemlaa
/- LogRings: the law's model: put. -/
namespace Go.Proofs.Ytnehppeoffemlaa
set_option linter.unusedVariables false
set_option linter.unusedSimpArgs false
open Go.RowKit
theorem step_appO {w : World} {ops : Array Oper} {o : Oper} {a : Act} {Q : Exit → Act → World → Prop} {K : Act → World → Prop} {X : Prop} (hgd : o.guard = none) (s x : Operand) (ho : o.op = .call { callee := .builtin .append, args := #[s, x], argTypes := #[39, 39] })
    (base n c b : Nat) (A : Option Addr) (vs : List Value) (u1 u2 : Value) (hs : a.eval s = .slice A n c) (h : OwO w base A n c vs) (hx : a.eval x = .slice (some ⟨b, 0, none⟩) 1 1) (hsrc : At w b #[u1, u2] 45) (ho1 : u1.oneCell' = true) (ho2 : u2.oneCell' = true) (hn : n ≤ 1000) (hbase : base ≤ w.heap.size)
    (hk : ∀ A' c' w', OwO w' base A' (n + 1) c' (vs ++ [u1, u2]) → w.grownBy w' (ownBlk A) → (ownBlk A' = ownBlk A ∨ ownBlk A' = some w.heap.size) → K (a.put o.dst (.slice A' (n + 1) c')) w') :
    if Region.wanted o (yielded ops a.tmps) = true then Oper.wp Try.prog o a w K Q else X := by
  have hw : Region.wanted o (yielded ops a.tmps) = true := by simp [Region.wanted, hgd]
  rw [if_pos hw]
  obtain ⟨A', c', w', hrun, h1, h2, h3⟩ := run_appO w o.type base n c b A vs u1 u2 h hsrc ho1 ho2 hn hbase
  exact Lib.wp_append_run w s x _ _ ho _ _ hs hx _ _ hrun (hk A' c' w' h1 h2 h3)
theorem OwO.ne {w : World} {base n c m T : Nat} {A : Option Addr} {vs : List Value} {cs : Array Value} (h : OwO w base A n c vs) (hm : At w m cs T) (hT : T ≠ 45) : ownBlk A ≠ some m := by
  rcases h.2 with ⟨rfl, -, -⟩ | ⟨g, o, cur, rfl, -, hat, -⟩
  · intro e; cases e
  · intro e
    have : g = m := by simpa [ownBlk] using e
    subst this
    exact hT (hm.inj hat)
set_option maxRecDepth 100000 in
set_option maxHeartbeats 8000000 in
theorem mput_calls {base m n lc pn pc : Nat} {lA A : Option Addr} {vs : List Value} {p : List Int} {en : Int} {x2 x3 x4 x5 x6 : Value} (w : World) (hm : At w m #[.slice lA n lc, .int .u64 en, x2, x3, x4, x5, x6] 41) (ho : OwO w base lA n lc vs) (hp : BsR w 0 w.heap.size A pn p) (hn : n ≤ 1000) (he : 0 ≤ en ∧ en < 4398046511104) (hpn : pn ≤ 1200) (hbw : base ≤ w.heap.size) :
    Calls Try.prog 20 #[.pointer (some ⟨m, 0, none⟩), .slice A pn pc] w fun e w' => e = .returned (.int .u64 en) ∧ (∃ lA' lc', At w' m #[.slice lA' (n + 1) lc', .int .u64 (en + (pn + 2)), x2, x3, x4, x5, x6] 41 ∧ OwO w' base lA' (n + 1) lc' (vs ++ [.int .u64 en, .string (strL p)]) ∧ ∀ b, ownBlk lA' = some b → ownBlk lA = some b ∨ w.heap.size ≤ b) ∧ Mod (fun k => k = m ∨ ownBlk lA = some k) w w' := by
  have hne := ho.ne hm (by decide)
  have hox := Lib.hid ho
  have d0 : Below w.heap.size w w.drew := below_dr (Below.refl _ _)
  have k0 := hm
  have hcp := run_str pc w.drew (show BsR w.drew 0 w.heap.size A pn p from hp)
  have hal := below_new w.drew (.cells #[.int .u64 en, .string (strL p)] 45)
  have k1 := At.keep d0 k0
  have k2 := At.keep hal k1
  have k2c := k2.c
  have hod : OwO (w.drew.alloc (.cells #[.int .u64 en, .string (strL p)] 45)) base lA n lc vs := (ho.later d0).later hal
  have hsrc := At.new w.drew #[.int .u64 en, .string (strL p)] 45
  have hbw2 : base ≤ (w.drew.alloc (.cells #[.int .u64 en, .string (strL p)] 45)).heap.size := Nat.le_trans hbw hal.size
  have z1 : IntKind.u64.wrap (pn : Int) = pn := IntWalk.u64_in _ (by omega)
  have z2 : IntKind.u64.wrap ((pn : Int) + 2) = (pn : Int) + 2 := IntWalk.u64_in _ (by omega)
  have z3 : IntKind.u64.wrap (en + ((pn : Int) + 2)) = en + ((pn : Int) + 2) := IntWalk.u64_in _ (by omega)
  have k0c := k0.c; have k0f := k0.f; have k0l := k0.lt
  have k1c := k1.c
  clear ho hp hm
  go_enter Try.func20, Try.ntmps20
  go_upto_region 2 with (fail)
  go_region_law
    (first
      | (refine step_appO (by rfl) (.tmp 14) (.tmp 19) (by rfl) base n lc w.drew.heap.size lA vs (.int .u64 en) (.string (strL p)) (by rfl) hod (by rfl) hsrc (by rfl) (by rfl) hn hbw2 ?_; intro A2 c2 w5 ho2 hg2 hat2; have k6 := At.grown k2 hg2 (fun e => hne e.symm); have k6c := k6.c; have k6f := k6.f; have k6l := k6.lt))
  all_goals
    have k7 := At.set (o := 0) (v := .slice A2 (n + 1) c2) k6
    simp only [List.setIfInBounds_toArray, List.set_cons_zero, List.set_cons_succ] at k7
    have hne5 : ownBlk A2 ≠ some m := fun e => by
      rcases hat2 with h1 | h1
      · exact hne (h1.symm.trans e)
      · have h2 := h1.symm.trans e
        injection h2 with h2
        exact Nat.lt_irrefl _ (Nat.lt_of_lt_of_eq k2.lt h2)
    have m5 : Mod (fun k => k = m ∨ ownBlk lA = some k) w w5 := ((Mod.of_below (S := fun k => k = m ∨ ownBlk lA = some k) (below_keep hal d0))).grown hg2 (fun k hk => .inl (.inr hk))
    have m7 := Mod.set (S := fun k => k = m ∨ ownBlk lA = some k) m5 (k := m) (.inl (.inl rfl)) (o := 0) (.slice A2 (n + 1) c2)
    have ho7 : OwO (w5.setCell ⟨m, 0, none⟩ (.slice A2 (n + 1) c2)) base A2 (n + 1) c2 (vs ++ [.int .u64 en, .string (strL p)]) := ho2.mod ((Mod.refl (fun k => k = m) w5).set (.inl rfl) _) (fun b hb e => hne5 (e ▸ hb))
    have hat7 : ∀ b, ownBlk A2 = some b → ownBlk lA = some b ∨ w.heap.size ≤ b := fun b hb => by
      rcases hat2 with h1 | h1
      · exact .inl (h1 ▸ hb)
      · right
        have h2 := h1.symm.trans hb
        injection h2 with h2
        exact Nat.le_trans hal.size (Nat.le_of_eq h2)
    clear k6 k6c k6f k6l
    generalize (w5.setCell ⟨m, 0, none⟩ (.slice A2 (n + 1) c2)) = w7 at *
    have k7c := k7.c; have k7f := k7.f; have k7l := k7.lt
    go_wp2
    go_ret
    have k8 := At.set (o := 1) (v := .int .u64 (en + ((pn : Int) + 2))) k7
    simp only [List.setIfInBounds_toArray, List.set_cons_zero, List.set_cons_succ] at k8
    exact ⟨by first | rfl | simp, ⟨A2, c2, k8, ho7.mod ((Mod.refl (fun k => k = m) w7).set (.inl rfl) _) (fun b hb e => hne5 (e ▸ hb)), hat7⟩, Mod.set (S := fun k => k = m ∨ ownBlk lA = some k) m7 (k := m) (.inl (.inl rfl)) _⟩
end Go.Proofs.Ytnehppeoffemlaa
