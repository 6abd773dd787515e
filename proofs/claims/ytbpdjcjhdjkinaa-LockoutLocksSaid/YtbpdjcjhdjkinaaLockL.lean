/- LockoutLocks: the walk of the law. -/
import Derived.Test.YtbpdjcjhdjkinaaLockA
import Derived.Deep.LoopGhost
import Derived.Deep.QuietTactic
namespace Go.Proofs.Ytbpdjcjhdjkinaa
open Go.RowKit
theorem locks_step (m i f k b s t : Int) (h : frmB m i f = true) (n1 : 0 ≤ t) (n2 : t ≤ 1099511627776) (hk : 0 ≤ k) (hm : k + 1 < m) (hst : s ≤ t) (hti : t < s + i) (h0 : k = 0 → t = s) (hs : k = 0 ∨ b = s) : wrongF m i f ⟨k, b, 0⟩ t = (⟨k + 1, s, 0⟩, 0) := by
  have hf' := h
  unfold frmB at hf'
  simp at hf'
  have wn : wrap64 (t - i) = t - i := by unfold wrap64; omega
  unfold wrongF
  rw [if_neg (by simp [h]; omega), if_neg (by simp only; omega), wn]
  simp only
  by_cases hk0 : k < 1
  · have hk1 : k = 0 := by omega
    subst hk1
    rw [if_pos (by omega), if_neg (by omega), h0 rfl]; rfl
  · rcases hs with hs | hs
    · omega
    · subst hs
      rw [if_neg (by omega), if_neg (by omega)]
theorem locks_fin (m i f k b s t : Int) (h : frmB m i f = true) (n1 : 0 ≤ t) (n2 : t ≤ 1099511627776) (hk : k = m - 1) (hst : s ≤ t) (hti : t < s + i) (hs : k = 0 ∨ b = s) : wrongF m i f ⟨k, b, 0⟩ t = (⟨0, 0, t + f⟩, 0) := by
  have hf' := h
  unfold frmB at hf'
  simp at hf'
  have wn : wrap64 (t - i) = t - i := by unfold wrap64; omega
  unfold wrongF
  rw [if_neg (by simp [h]; omega), if_neg (by simp only; omega), wn]
  simp only
  by_cases hk0 : m ≤ 1
  · rw [if_pos (by omega), if_pos hk0]
  · rcases hs with hs | hs
    · omega
    · subst hs
      rw [if_neg (by omega), if_pos (by omega)]
/-- The bytes of the gaps, as the walk reads them. -/
def Gaps (w : World) (A : Option Addr) (n : Nat) (g : Nat → Int) : Prop := ∀ j, j < n → 0 ≤ g j ∧ g j ≤ 255 ∧ ∃ gb go : Nat, A = some ⟨gb, go, none⟩ ∧ gb < w.heap.size ∧ w.cell? ⟨gb, go + j, none⟩ = some (.int .u8 (g j))
set_option maxRecDepth 100000 in
set_option maxHeartbeats 4000000 in
theorem locks_calls (m i f st : Int) (A : Option Addr) (len cap : Nat) (g : Nat → Int) (w : World) (hg0 : Gaps w A len g) :
    Calls Try.prog 9 #[.agg #[.int .i64 m, .int .i64 i, .int .i64 f], .int .i64 st, .slice A len cap] w fun e w' => e = .returned (.bool true) ∧ Below w.heap.size w w' := by
  by_cases hg : frmB m i f = true ∧ 0 ≤ st ∧ st ≤ 549755813888
  · obtain ⟨hf, s1, s2⟩ := hg
    have hf' := hf
    unfold frmB at hf'
    simp at hf'
    obtain ⟨⟨⟨⟨⟨m1, m2⟩, i1⟩, i2⟩, f1⟩, f2⟩ := hf'
    go_enter Try.func9, Try.ntmps9
    go_wp2_with fail
    refine (lawake_calls _).mono ?_
    rintro e w1 ⟨rfl, hb1⟩
    have b3 : At w1 w.heap.size #[.int .i64 m, .int .i64 i, .int .i64 f] 23 := (At.new w _ _).below hb1 (by simp)
    have b3c := b3.c; have b3f := b3.f; have b3l := b3.lt
    go_wp2_with fail
    refine (lform_calls _ _ _ _).mono ?_
    rintro e w2 ⟨rfl, hb2⟩
    replace b3 := b3.below hb2 b3.lt; have b3c := b3.c; have b3f := b3.f; have b3l := b3.lt
    rw [hf]
    have hB : Below w.heap.size w w2 := by
      (repeat (with_reducible first | exact Below.refl _ _ | assumption | refine Below.setCell ?_ (by first | (simp; done) | (simp; omega) | omega) _ | refine Below.alloc ?_ (by first | (simp; done) | (simp; omega) | omega) _ | refine Below.drew ?_ | refine Below.trans ?_ (Below.mono (by assumption) (by first | (simp; done) | (simp; omega) | omega))))
    clear hb1 hb2 b3c b3f b3l
    have b3c := b3.c; have b3f := b3.f; have b3l := b3.lt
    have hlt2 := b3.lt
    have hle2 : w.heap.size ≤ w2.heap.size := by omega
    have hne : w.heap.size ≠ w2.heap.size := by omega
    have b7 : At (w2.alloc (.cells #[.int .i64 0, .int .i64 0, .int .i64 0] 27)) w2.heap.size #[.int .i64 0, .int .i64 0, .int .i64 0] 27 := At.new w2 _ _
    have hG := Lib.hid hg0
    clear hg0
    go_wp2
    go_loopw [8, 9, 10] (fun v8 _ v10 wr => ∃ (k : Nat) (t a b c : Int), (k : Int) ≤ m ∧ v10 = .int .i64 k ∧ v8 = .int .i64 t ∧ st ≤ t ∧ t ≤ st + 255 * k ∧ t < st + i ∧ (k = 0 → t = st) ∧ At wr w2.heap.size #[.int .i64 a, .int .i64 b, .int .i64 c] 27 ∧ At wr w.heap.size #[.int .i64 m, .int .i64 i, .int .i64 f] 23 ∧ Below w.heap.size w wr ∧ (((k : Int) < m ∧ a = k ∧ c = 0 ∧ (a = 0 ∨ b = st)) ∨ ((k : Int) = m ∧ c = t + f))) (fun _ _ v10 _ => 100 - (intOf v10).toNat)
    case atStart => exact ⟨0, st, 0, 0, 0, by omega, rfl, rfl, by omega, by omega, by omega, fun _ => rfl, b7, b3.alloc _, hB.alloc hle2 _, Or.inl ⟨by omega, rfl, rfl, Or.inl rfl⟩⟩
    case round =>
      obtain ⟨k, t, a, b, c, hk, rfl, rfl, t1, t2, t3, t4, q7, q3, hB1, hab⟩ := hrel
      clear b3c b3f b3l b3 b7 hB
      by_cases hlt : (k : Int) < m
      · obtain ⟨_, ha, rfl, hab2⟩ : (k : Int) < m ∧ a = k ∧ c = 0 ∧ (a = 0 ∨ b = st) := by
          rcases hab with h | h
          · exact h
          · omega
        clear hab
        have a0 : 0 ≤ a := by omega
        have ham : a < m := by omega
        have ha4 : a = 0 → t = st := fun h => t4 (by omega)
        have ha' := Lib.hid ha
        have t4' := Lib.hid t4
        clear ha t4
        have q3c := q3.c; have q3f := q3.f; have q3l := q3.lt
        have q7c := q7.c; have q7f := q7.f; have q7l := q7.lt
        go_wp2_with fail
        refine (locked_calls a b 0 t _).mono ?_
        rintro e w4 ⟨rfl, hb4⟩
        replace q3 := q3.below hb4 q3.lt; have q3c := q3.c; have q3f := q3.f; have q3l := q3.lt
        replace q7 := q7.below hb4 q7.lt; have q7c := q7.c; have q7f := q7.f; have q7l := q7.lt
        have hB2 := below_keep hb4 hB1
        have hlk : decide (t < 0) = false := decide_eq_false (by omega)
        by_cases hm1 : a + 1 < m
        · have hstep := Lib.hid (locks_step m i f a b st t hf (by omega) (by omega) a0 hm1 t1 t3 ha4 hab2)
          clear hab2 ha4
          go_wp2_with fail
          refine (wrong_at m i f ⟨a, b, 0⟩ t _ _ hstep.out _).mono ?_
          rintro e w5 ⟨rfl, hb5⟩
          replace q3 := q3.below hb5 q3.lt; have q3c := q3.c; have q3f := q3.f; have q3l := q3.lt
          replace q7 := q7.below hb5 q7.lt; have q7c := q7.c; have q7f := q7.f; have q7l := q7.lt
          have hB3 := below_keep hb5 hB2
          go_wp2_with fail
          have h3 : (k < len ∧ t + g k < st + i) ∨ (k < len ∧ ¬ t + g k < st + i) ∨ ¬ k < len := by omega
          rcases h3 with ⟨hkl, hx⟩ | ⟨hkl, hx⟩ | hkl
          · obtain ⟨g0, g255, gb, go', rfl, hgb, hcg⟩ := hG.out k hkl
            have c5 := (hB3.cell (p := ⟨gb, go' + k, none⟩) hgb).trans hcg
            have hgne : gb ≠ w2.heap.size := by omega
            generalize g k = x at *
            clear hcg
            have hs0 : IntKind.i64.wrap x = x := IntWalk.i64_in _ (by omega)
            have hs1 : IntKind.i64.wrap (t + x) = t + x := IntWalk.i64_in _ (by omega)
            have hs2 : IntKind.i64.wrap (st + i) = st + i := IntWalk.i64_in _ (by omega)
            have hs3 : IntKind.i64.wrap ((k : Int) + 1) = (k : Int) + 1 := IntWalk.i64_in _ (by omega)
            have hk0 : (0 : Int) ≤ k := by omega
            have hkl' : (k : Int) < len := by omega
            have hkm : (k : Int) + 1 < m := by have := ha'.out; omega
            go_quiet (fail)
            clear hs0 hs1 hs2 hs3
            go_wp2
            have p7 : At (World.setCell (World.setCell (World.setCell w5 ⟨w2.heap.size, 0, none⟩ (.int .i64 (a + 1))) ⟨w2.heap.size, 1, none⟩ (.int .i64 st)) ⟨w2.heap.size, 2, none⟩ (.int .i64 0)) w2.heap.size #[.int .i64 (a + 1), .int .i64 st, .int .i64 0] 27 := q7.set.set.set.to rfl
            have p3 := (((q3.set_ne (o := 0) (v := .int .i64 (a + 1)) hne).set_ne (o := 1) (v := .int .i64 st) hne).set_ne (o := 2) (v := .int .i64 0) hne)
            have hB4 := ((hB3.setCell (p := ⟨w2.heap.size, 0, none⟩) hle2 (.int .i64 (a + 1))).setCell (p := ⟨w2.heap.size, 1, none⟩) hle2 (.int .i64 st)).setCell (p := ⟨w2.heap.size, 2, none⟩) hle2 (.int .i64 0)
            go_roundw
            case rel => exact ⟨k + 1, t + x, a + 1, st, 0, by have := ha'.out; omega, by go_num, rfl, by omega, by omega, by omega, fun h => by omega, p7.drewN nq, p3.drewN nq, ⟨hB4.os, hB4.tape, hB4.output, hB4.size, hB4.block⟩, Or.inl ⟨by have := ha'.out; omega, by rw [ha'.out]; rfl, rfl, Or.inr rfl⟩⟩
            case measure => simp [intOf]; omega
          · obtain ⟨g0, g255, gb, go', rfl, hgb, hcg⟩ := hG.out k hkl
            have c5 := (hB3.cell (p := ⟨gb, go' + k, none⟩) hgb).trans hcg
            have hgne : gb ≠ w2.heap.size := by omega
            generalize g k = x at *
            clear hcg
            have hs0 : IntKind.i64.wrap x = x := IntWalk.i64_in _ (by omega)
            have hs1 : IntKind.i64.wrap (t + x) = t + x := IntWalk.i64_in _ (by omega)
            have hs2 : IntKind.i64.wrap (st + i) = st + i := IntWalk.i64_in _ (by omega)
            have hs3 : IntKind.i64.wrap ((k : Int) + 1) = (k : Int) + 1 := IntWalk.i64_in _ (by omega)
            have hk0 : (0 : Int) ≤ k := by omega
            have hkl' : (k : Int) < len := by omega
            have hx1 : decide (t + x < st + i) = false := decide_eq_false hx
            clear hx
            go_quiet (fail)
            clear hs0 hs1 hs2 hs3 hx1
            go_wp2
            have p7 : At (World.setCell (World.setCell (World.setCell w5 ⟨w2.heap.size, 0, none⟩ (.int .i64 (a + 1))) ⟨w2.heap.size, 1, none⟩ (.int .i64 st)) ⟨w2.heap.size, 2, none⟩ (.int .i64 0)) w2.heap.size #[.int .i64 (a + 1), .int .i64 st, .int .i64 0] 27 := q7.set.set.set.to rfl
            have p3 := (((q3.set_ne (o := 0) (v := .int .i64 (a + 1)) hne).set_ne (o := 1) (v := .int .i64 st) hne).set_ne (o := 2) (v := .int .i64 0) hne)
            have hB4 := ((hB3.setCell (p := ⟨w2.heap.size, 0, none⟩) hle2 (.int .i64 (a + 1))).setCell (p := ⟨w2.heap.size, 1, none⟩) hle2 (.int .i64 st)).setCell (p := ⟨w2.heap.size, 2, none⟩) hle2 (.int .i64 0)
            go_roundw
            case rel => exact ⟨k + 1, t, a + 1, st, 0, by have := ha'.out; omega, by go_num, rfl, by omega, by omega, by omega, fun h => by omega, p7.drewN nq, p3.drewN nq, ⟨hB4.os, hB4.tape, hB4.output, hB4.size, hB4.block⟩, Or.inl ⟨by have := ha'.out; omega, by rw [ha'.out]; rfl, rfl, Or.inr rfl⟩⟩
            case measure => simp [intOf]; omega
          · have hd1 : decide (k < len) = false := decide_eq_false hkl
            have hd2 : decide ((k : Int) < (len : Int)) = false := decide_eq_false (by omega)
            clear hkl
            go_quiet (fail)
            clear hd1 hd2
            go_wp2
            have p7 : At (World.setCell (World.setCell (World.setCell w5 ⟨w2.heap.size, 0, none⟩ (.int .i64 (a + 1))) ⟨w2.heap.size, 1, none⟩ (.int .i64 st)) ⟨w2.heap.size, 2, none⟩ (.int .i64 0)) w2.heap.size #[.int .i64 (a + 1), .int .i64 st, .int .i64 0] 27 := q7.set.set.set.to rfl
            have p3 := (((q3.set_ne (o := 0) (v := .int .i64 (a + 1)) hne).set_ne (o := 1) (v := .int .i64 st) hne).set_ne (o := 2) (v := .int .i64 0) hne)
            have hB4 := ((hB3.setCell (p := ⟨w2.heap.size, 0, none⟩) hle2 (.int .i64 (a + 1))).setCell (p := ⟨w2.heap.size, 1, none⟩) hle2 (.int .i64 st)).setCell (p := ⟨w2.heap.size, 2, none⟩) hle2 (.int .i64 0)
            go_roundw
            case rel => exact ⟨k + 1, t, a + 1, st, 0, by have := ha'.out; omega, by go_num, rfl, by omega, by omega, by omega, fun h => by omega, p7.drewN nq, p3.drewN nq, ⟨hB4.os, hB4.tape, hB4.output, hB4.size, hB4.block⟩, Or.inl ⟨by have := ha'.out; omega, by rw [ha'.out]; rfl, rfl, Or.inr rfl⟩⟩
            case measure => simp [intOf]; omega
        · have hstep := Lib.hid (locks_fin m i f a b st t hf (by omega) (by omega) (by omega) t1 t3 hab2)
          clear hab2 ha4
          go_wp2_with fail
          refine (wrong_at m i f ⟨a, b, 0⟩ t _ _ hstep.out _).mono ?_
          rintro e w5 ⟨rfl, hb5⟩
          replace q3 := q3.below hb5 q3.lt; have q3c := q3.c; have q3f := q3.f; have q3l := q3.lt
          replace q7 := q7.below hb5 q7.lt; have q7c := q7.c; have q7f := q7.f; have q7l := q7.lt
          have hB3 := below_keep hb5 hB2
          go_wp2_with fail
          have h3 : (k < len ∧ t + g k < st + i) ∨ (k < len ∧ ¬ t + g k < st + i) ∨ ¬ k < len := by omega
          rcases h3 with ⟨hkl, hx⟩ | ⟨hkl, hx⟩ | hkl
          · obtain ⟨g0, g255, gb, go', rfl, hgb, hcg⟩ := hG.out k hkl
            have c5 := (hB3.cell (p := ⟨gb, go' + k, none⟩) hgb).trans hcg
            have hgne : gb ≠ w2.heap.size := by omega
            generalize g k = x at *
            clear hcg
            have hs0 : IntKind.i64.wrap x = x := IntWalk.i64_in _ (by omega)
            have hs1 : IntKind.i64.wrap (t + x) = t + x := IntWalk.i64_in _ (by omega)
            have hs2 : IntKind.i64.wrap (st + i) = st + i := IntWalk.i64_in _ (by omega)
            have hs3 : IntKind.i64.wrap ((k : Int) + 1) = (k : Int) + 1 := IntWalk.i64_in _ (by omega)
            have hk0 : (0 : Int) ≤ k := by omega
            have hkl' : (k : Int) < len := by omega
            have hkm : decide ((k : Int) + 1 < m) = false := decide_eq_false (by have := ha'.out; omega)
            go_quiet (fail)
            clear hs0 hs1 hs2 hs3 hkm
            go_wp2
            have p7 : At (World.setCell (World.setCell (World.setCell w5 ⟨w2.heap.size, 0, none⟩ (.int .i64 0)) ⟨w2.heap.size, 1, none⟩ (.int .i64 0)) ⟨w2.heap.size, 2, none⟩ (.int .i64 (t + f))) w2.heap.size #[.int .i64 0, .int .i64 0, .int .i64 (t + f)] 27 := q7.set.set.set.to rfl
            have p3 := (((q3.set_ne (o := 0) (v := .int .i64 0) hne).set_ne (o := 1) (v := .int .i64 0) hne).set_ne (o := 2) (v := .int .i64 (t + f)) hne)
            have hB4 := ((hB3.setCell (p := ⟨w2.heap.size, 0, none⟩) hle2 (.int .i64 0)).setCell (p := ⟨w2.heap.size, 1, none⟩) hle2 (.int .i64 0)).setCell (p := ⟨w2.heap.size, 2, none⟩) hle2 (.int .i64 (t + f))
            go_roundw
            case rel => exact ⟨k + 1, t, 0, 0, t + f, by have := ha'.out; omega, by go_num, rfl, by omega, by omega, by omega, fun h => by omega, p7.drewN nq, p3.drewN nq, ⟨hB4.os, hB4.tape, hB4.output, hB4.size, hB4.block⟩, Or.inr ⟨by have := ha'.out; omega, rfl⟩⟩
            case measure => simp [intOf]; omega
          · obtain ⟨g0, g255, gb, go', rfl, hgb, hcg⟩ := hG.out k hkl
            have c5 := (hB3.cell (p := ⟨gb, go' + k, none⟩) hgb).trans hcg
            have hgne : gb ≠ w2.heap.size := by omega
            generalize g k = x at *
            clear hcg
            have hs0 : IntKind.i64.wrap x = x := IntWalk.i64_in _ (by omega)
            have hs1 : IntKind.i64.wrap (t + x) = t + x := IntWalk.i64_in _ (by omega)
            have hs2 : IntKind.i64.wrap (st + i) = st + i := IntWalk.i64_in _ (by omega)
            have hs3 : IntKind.i64.wrap ((k : Int) + 1) = (k : Int) + 1 := IntWalk.i64_in _ (by omega)
            have hk0 : (0 : Int) ≤ k := by omega
            have hkl' : (k : Int) < len := by omega
            have hx1 : decide (t + x < st + i) = false := decide_eq_false hx
            clear hx
            go_quiet (fail)
            clear hs0 hs1 hs2 hs3 hx1
            go_wp2
            have p7 : At (World.setCell (World.setCell (World.setCell w5 ⟨w2.heap.size, 0, none⟩ (.int .i64 0)) ⟨w2.heap.size, 1, none⟩ (.int .i64 0)) ⟨w2.heap.size, 2, none⟩ (.int .i64 (t + f))) w2.heap.size #[.int .i64 0, .int .i64 0, .int .i64 (t + f)] 27 := q7.set.set.set.to rfl
            have p3 := (((q3.set_ne (o := 0) (v := .int .i64 0) hne).set_ne (o := 1) (v := .int .i64 0) hne).set_ne (o := 2) (v := .int .i64 (t + f)) hne)
            have hB4 := ((hB3.setCell (p := ⟨w2.heap.size, 0, none⟩) hle2 (.int .i64 0)).setCell (p := ⟨w2.heap.size, 1, none⟩) hle2 (.int .i64 0)).setCell (p := ⟨w2.heap.size, 2, none⟩) hle2 (.int .i64 (t + f))
            go_roundw
            case rel => exact ⟨k + 1, t, 0, 0, t + f, by have := ha'.out; omega, by go_num, rfl, by omega, by omega, by omega, fun h => by omega, p7.drewN nq, p3.drewN nq, ⟨hB4.os, hB4.tape, hB4.output, hB4.size, hB4.block⟩, Or.inr ⟨by have := ha'.out; omega, rfl⟩⟩
            case measure => simp [intOf]; omega
          · have hd1 : decide (k < len) = false := decide_eq_false hkl
            have hd2 : decide ((k : Int) < (len : Int)) = false := decide_eq_false (by omega)
            clear hkl
            go_quiet (fail)
            clear hd1 hd2
            go_wp2
            have p7 : At (World.setCell (World.setCell (World.setCell w5 ⟨w2.heap.size, 0, none⟩ (.int .i64 0)) ⟨w2.heap.size, 1, none⟩ (.int .i64 0)) ⟨w2.heap.size, 2, none⟩ (.int .i64 (t + f))) w2.heap.size #[.int .i64 0, .int .i64 0, .int .i64 (t + f)] 27 := q7.set.set.set.to rfl
            have p3 := (((q3.set_ne (o := 0) (v := .int .i64 0) hne).set_ne (o := 1) (v := .int .i64 0) hne).set_ne (o := 2) (v := .int .i64 (t + f)) hne)
            have hB4 := ((hB3.setCell (p := ⟨w2.heap.size, 0, none⟩) hle2 (.int .i64 0)).setCell (p := ⟨w2.heap.size, 1, none⟩) hle2 (.int .i64 0)).setCell (p := ⟨w2.heap.size, 2, none⟩) hle2 (.int .i64 (t + f))
            go_roundw
            case rel => exact ⟨k + 1, t, 0, 0, t + f, by have := ha'.out; omega, by go_num, rfl, by omega, by omega, by omega, fun h => by omega, p7.drewN nq, p3.drewN nq, ⟨hB4.os, hB4.tape, hB4.output, hB4.size, hB4.block⟩, Or.inr ⟨by have := ha'.out; omega, rfl⟩⟩
            case measure => simp [intOf]; omega
      · obtain ⟨hkm, rfl⟩ : (k : Int) = m ∧ c = t + f := by
          rcases hab with h | h
          · omega
          · exact h
        have hkm' := Lib.hid hkm
        clear hkm hab
        have q3c := q3.c; have q3f := q3.f; have q3l := q3.lt
        have q7c := q7.c; have q7f := q7.f; have q7l := q7.lt
        go_wp2_with fail
        refine (right_lock a b (t + f) t _ (by omega)).mono ?_
        rintro e w4 ⟨rfl, hb4⟩
        replace q3 := q3.below hb4 q3.lt; have q3c := q3.c; have q3f := q3.f; have q3l := q3.lt
        replace q7 := q7.below hb4 q7.lt; have q7c := q7.c; have q7f := q7.f; have q7l := q7.lt
        have hB2 := below_keep hb4 hB1
        go_wp2_with fail
        refine (right_lock a b (t + f) (t + f - 1) _ (by omega)).mono ?_
        rintro e w5 ⟨rfl, hb5⟩
        replace q7 := At.keep hb5 (q7.alloc _)
        replace q3 := At.keep hb5 (q3.alloc _)
        have hB3 := below_keep hb5 (hB2.alloc hB2.size _)
        have q3c := q3.c; have q3f := q3.f; have q3l := q3.lt
        have q7c := q7.c; have q7f := q7.f; have q7l := q7.lt
        go_wp2_with fail
        refine (right_open a b (t + f) (t + f) _ (by omega)).mono ?_
        rintro e w6 ⟨rfl, hb6⟩
        replace q7 := At.keep hb6 (q7.alloc _)
        replace q3 := At.keep hb6 (q3.alloc _)
        have hB4 := below_keep hb6 (hB3.alloc hB3.size _)
        have q3c := q3.c; have q3f := q3.f; have q3l := q3.lt
        have q7c := q7.c; have q7f := q7.f; have q7l := q7.lt
        go_wp2_with fail
        refine (locked_calls a b (t + f) (t + f - 1) _).mono ?_
        rintro e w7 ⟨rfl, hb7⟩
        replace q7 := At.keep hb7 (q7.alloc _)
        replace q3 := At.keep hb7 (q3.alloc _)
        have hB5 := below_keep hb7 (hB4.alloc hB4.size _)
        have hl1 : decide (t + f - 1 < t + f) = true := decide_eq_true (by omega)
        have q3c := q3.c; have q3f := q3.f; have q3l := q3.lt
        have q7c := q7.c; have q7f := q7.f; have q7l := q7.lt
        go_wp2_with fail
        refine (locked_calls a b (t + f) (t + f) _).mono ?_
        rintro e w8 ⟨rfl, hb8⟩
        have hB6 := below_keep hb8 hB5
        have hl2 : decide (t + f < t + f) = false := decide_eq_false (by omega)
        go_wp2
        go_ret
        exact ⟨by first | rfl | simp, hB6⟩
  · by_cases hf : frmB m i f = true
    · go_enter Try.func9, Try.ntmps9
      go_wp2_with fail
      refine (lawake_calls _).mono ?_
      rintro e w1 ⟨rfl, hb1⟩
      have b3 : At w1 w.heap.size #[.int .i64 m, .int .i64 i, .int .i64 f] 23 := (At.new w _ _).below hb1 (by simp)
      have b3c := b3.c; have b3f := b3.f; have b3l := b3.lt
      go_wp2_with fail
      refine (lform_calls _ _ _ _).mono ?_
      rintro e w2 ⟨rfl, hb2⟩
      replace b3 := b3.below hb2 b3.lt; have b3c := b3.c; have b3f := b3.f; have b3l := b3.lt
      rw [hf]
      have hB : Below w.heap.size w w2 := by
        (repeat (with_reducible first | exact Below.refl _ _ | assumption | refine Below.setCell ?_ (by first | (simp; done) | (simp; omega) | omega) _ | refine Below.alloc ?_ (by first | (simp; done) | (simp; omega) | omega) _ | refine Below.drew ?_ | refine Below.trans ?_ (Below.mono (by assumption) (by first | (simp; done) | (simp; omega) | omega))))
      have hg' : (decide (st < 0) || decide (549755813888 < st)) = true := by
        simp; simp [hf] at hg; omega
      clear hg
      have hz2 := hb2.size
      go_wp2_with fail
      all_goals
        refine (lawake_calls _).mono ?_
        rintro e w3 ⟨rfl, hb3⟩
        go_wp2
        go_ret
        exact ⟨rfl, hB.trans (hb3.mono (by omega))⟩
    · go_enter Try.func9, Try.ntmps9
      go_wp2_with fail
      refine (lawake_calls _).mono ?_
      rintro e w1 ⟨rfl, hb1⟩
      have b3 : At w1 w.heap.size #[.int .i64 m, .int .i64 i, .int .i64 f] 23 := (At.new w _ _).below hb1 (by simp)
      have b3c := b3.c; have b3f := b3.f; have b3l := b3.lt
      go_wp2_with fail
      refine (lform_calls _ _ _ _).mono ?_
      rintro e w2 ⟨rfl, hb2⟩
      rw [Bool.eq_false_iff.2 hf]
      have hz2 := hb2.size
      go_wp2_with fail
      refine (lawake_calls _).mono ?_
      rintro e w3 ⟨rfl, hb3⟩
      go_wp2
      go_ret
      refine ⟨rfl, ?_⟩
      (repeat (with_reducible first | exact Below.refl _ _ | assumption | refine Below.setCell ?_ (by first | (simp; done) | (simp; omega) | omega) _ | refine Below.alloc ?_ (by first | (simp; done) | (simp; omega) | omega) _ | refine Below.drew ?_ | refine Below.trans ?_ (Below.mono (by assumption) (by first | (simp; done) | (simp; omega) | omega))))
end Go.Proofs.Ytbpdjcjhdjkinaa
