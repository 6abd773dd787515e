/- LockoutRight: the walk of the law. -/
import Derived.Test.YtbpdjcjhdjkinaaLockA
import Derived.Deep.LoopGhost
namespace Go.Proofs.Ytbpdjcjhdjkinaa
open Go.RowKit
theorem right_step (m i f a b n : Int) (h : frmB m i f = true) (n1 : 0 ≤ n) (n2 : n ≤ 1099511627776) (ha : 0 ≤ a) (hm : a + 1 < m) (hs : a = 0 ∨ b = n) : wrongF m i f ⟨a, b, 0⟩ n = (⟨a + 1, n, 0⟩, 0) := by
  have hf' := h
  unfold frmB at hf'
  simp at hf'
  have wn : wrap64 (n - i) = n - i := by unfold wrap64; omega
  unfold wrongF
  rw [if_neg (by simp [h]; omega), if_neg (by simp only; omega), wn]
  simp only
  by_cases h0 : a < 1
  · have ha0 : a = 0 := by omega
    subst ha0
    rw [if_pos (by omega), if_neg (by omega)]; rfl
  · rcases hs with hs | hs
    · omega
    · subst hs
      rw [if_neg (by omega), if_neg (by omega)]
theorem right_fin (m i f a b n : Int) (h : frmB m i f = true) (n1 : 0 ≤ n) (n2 : n ≤ 1099511627776) (ha : a = m - 1) (hs : a = 0 ∨ b = n) : wrongF m i f ⟨a, b, 0⟩ n = (⟨0, 0, n + f⟩, 0) := by
  have hf' := h
  unfold frmB at hf'
  simp at hf'
  have wn : wrap64 (n - i) = n - i := by unfold wrap64; omega
  unfold wrongF
  rw [if_neg (by simp [h]; omega), if_neg (by simp only; omega), wn]
  simp only
  by_cases h0 : m ≤ 1
  · rw [if_pos (by omega), if_pos h0]
  · rcases hs with hs | hs
    · omega
    · subst hs
      rw [if_neg (by omega), if_pos (by omega)]
set_option maxHeartbeats 4000000 in
theorem right_calls (m i f st n : Int) (w : World) (h0 : 0 ≤ n) (h1 : n ≤ 255) :
    Calls Try.prog 10 #[.agg #[.int .i64 m, .int .i64 i, .int .i64 f], .int .i64 st, .int .u8 n] w fun e w' => e = .returned (.bool true) ∧ Below w.heap.size w w' := by
  by_cases hg : frmB m i f = true ∧ 0 ≤ st ∧ st ≤ 549755813888
  · obtain ⟨hf, s1, s2⟩ := hg
    have hf' := hf
    unfold frmB at hf'
    simp at hf'
    obtain ⟨⟨⟨⟨⟨m1, m2⟩, i1⟩, i2⟩, f1⟩, f2⟩ := hf'
    go_enter Try.func10, Try.ntmps10
    go_wp2_with fail
    refine (lawake_calls _).mono ?_
    rintro e w1 ⟨rfl, hb1⟩
    have b3 : At w1 w.heap.size #[.int .i64 m, .int .i64 i, .int .i64 f] 23 := (At.new w _ _).below hb1 (by simp)
    have b3c := b3.c; have b3f := b3.f; have b3l := b3.lt
    go_wp2_with fail
    refine (lform_calls _ _ _ _).mono ?_
    rintro e w2 ⟨rfl, hb2⟩
    replace b3 := b3.below hb2 b3.lt; have b3c := b3.c; have b3f := b3.f; have b3l := b3.lt
    rw [hf]
    have hB : Below w.heap.size w w2 := by
      (repeat (with_reducible first | exact Below.refl _ _ | assumption | refine Below.setCell ?_ (by first | (simp; done) | (simp; omega) | omega) _ | refine Below.alloc ?_ (by first | (simp; done) | (simp; omega) | omega) _ | refine Below.drew ?_ | refine Below.trans ?_ (Below.mono (by assumption) (by first | (simp; done) | (simp; omega) | omega))))
    clear hb1 hb2 b3c b3f b3l
    have b3c := b3.c; have b3f := b3.f; have b3l := b3.lt
    have hlt2 := b3.lt
    have hle2 : w.heap.size ≤ w2.heap.size := by omega
    have hne : w.heap.size ≠ w2.heap.size := by omega
    have b7 : At (w2.alloc (.cells #[.int .i64 0, .int .i64 0, .int .i64 0] 27)) w2.heap.size #[.int .i64 0, .int .i64 0, .int .i64 0] 27 := At.new w2 _ _
    go_wp2
    go_loopw [8, 9] (fun _ v9 wr => ∃ (k : Nat) (a b : Int), k ≤ 100 ∧ v9 = .int .i64 k ∧ 0 ≤ a ∧ a = k ∧ a + 1 ≤ m ∧ At wr w2.heap.size #[.int .i64 a, .int .i64 b, .int .i64 0] 27 ∧ At wr w.heap.size #[.int .i64 m, .int .i64 i, .int .i64 f] 23 ∧ Below w.heap.size w wr ∧ (a = 0 ∨ b = st)) (fun _ v9 _ => 100 - (intOf v9).toNat)
    case atStart => exact ⟨0, 0, 0, by omega, rfl, by omega, rfl, by omega, b7, b3.alloc _, hB.alloc hle2 _, Or.inl rfl⟩
    case round =>
      obtain ⟨k, a, b, hk, rfl, ha, ha0, ham, q7, q3, hB1, hab⟩ := hrel
      clear b3c b3f b3l b3 b7 hB
      have h3 : ((k : Int) < n % 100 ∧ (k : Int) + 1 < m) ∨ ((k : Int) < n % 100 ∧ m ≤ (k : Int) + 1) ∨ n % 100 ≤ (k : Int) := by omega
      rcases h3 with ⟨hlt, hm0⟩ | ⟨hlt, hm0⟩ | hlt
      · have hm1 : a + 1 < m := by omega
        have ha' := Lib.hid ha0
        clear ha0
        have q3c := q3.c; have q3f := q3.f; have q3l := q3.lt
        have q7c := q7.c; have q7f := q7.f; have q7l := q7.lt
        have hstep := Lib.hid (right_step m i f a b st hf s1 (by omega) ha hm1 hab)
        have hab' := Lib.hid hab
        clear hab
        go_wp2_with fail
        refine (wrong_at m i f ⟨a, b, 0⟩ st _ _ hstep.out _).mono ?_
        rintro e w4 ⟨rfl, hb4⟩
        replace q3 := q3.below hb4 q3.lt; have q3c := q3.c; have q3f := q3.f; have q3l := q3.lt
        replace q7 := q7.below hb4 q7.lt; have q7c := q7.c; have q7f := q7.f; have q7l := q7.lt
        have hB2 := below_keep hb4 hB1
        go_wp2
        have p7 : At (World.setCell (World.setCell (World.setCell w4 ⟨w2.heap.size, 0, none⟩ (.int .i64 (a + 1))) ⟨w2.heap.size, 1, none⟩ (.int .i64 st)) ⟨w2.heap.size, 2, none⟩ (.int .i64 0)) w2.heap.size #[.int .i64 (a + 1), .int .i64 st, .int .i64 0] 27 := q7.set.set.set.to rfl
        have p3 := (((q3.set_ne (o := 0) (v := .int .i64 (a + 1)) hne).set_ne (o := 1) (v := .int .i64 st) hne).set_ne (o := 2) (v := .int .i64 0) hne)
        have hB3 := ((hB2.setCell (p := ⟨w2.heap.size, 0, none⟩) hle2 (.int .i64 (a + 1))).setCell (p := ⟨w2.heap.size, 1, none⟩) hle2 (.int .i64 st)).setCell (p := ⟨w2.heap.size, 2, none⟩) hle2 (.int .i64 0)
        go_roundw
        case rel => exact ⟨k + 1, a + 1, st, by omega, by go_num, by omega, by rw [ha'.out]; rfl, by omega, p7, p3, hB3, Or.inr rfl⟩
        case measure => simp [intOf]; omega
      · have q3c := q3.c; have q3f := q3.f; have q3l := q3.lt
        have q7c := q7.c; have q7f := q7.f; have q7l := q7.lt
        have ha' := Lib.hid ha0
        clear ha0 hab
        go_wp2_with fail
        refine (right_open a b 0 st _ s1).mono ?_
        rintro e wR ⟨rfl, hbR⟩
        replace q3 := q3.below hbR q3.lt; have q3c := q3.c; have q3f := q3.f; have q3l := q3.lt
        replace q7 := q7.below hbR q7.lt; have q7c := q7.c; have q7f := q7.f; have q7l := q7.lt
        have hB2 := below_keep hbR hB1
        clear hB1 hbR
        go_wp2
        generalize hw5 : World.setCell (World.setCell (World.setCell wR _ _) _ _) _ _ = w5
        have j7 : At w5 w2.heap.size #[.int .i64 0, .int .i64 0, .int .i64 0] 27 := by
          rw [← hw5]; exact q7.set.set.set.to rfl
        have j3 : At w5 w.heap.size #[.int .i64 m, .int .i64 i, .int .i64 f] 23 := by
          rw [← hw5]; exact ((q3.set_ne hne).set_ne hne).set_ne hne
        have hB3 : Below w.heap.size w w5 := by
          rw [← hw5]; exact ((hB2.setCell hle2 _).setCell hle2 _).setCell hle2 _
        clear hw5 q3 q7 q3c q3f q3l q7c q7f q7l hB2
        go_loopw [8, 10] (fun _ v10 wr => ∃ (k : Nat) (b : Int), (k : Int) + 1 ≤ m ∧ v10 = .int .i64 k ∧ At wr w2.heap.size #[.int .i64 k, .int .i64 b, .int .i64 0] 27 ∧ At wr w.heap.size #[.int .i64 m, .int .i64 i, .int .i64 f] 23 ∧ Below w.heap.size w wr ∧ ((k : Int) = 0 ∨ b = st)) (fun _ v10 _ => 100 - (intOf v10).toNat)
        case atStart => exact ⟨0, 0, by omega, rfl, j7, j3, hB3, Or.inl rfl⟩
        case round =>
          obtain ⟨k, b, hk, rfl, q7, q3, hB1, hab⟩ := hrel
          by_cases hm1 : (k : Int) + 1 < m
          · have hk0 : (0 : Int) ≤ k := by omega
            have q3c := q3.c; have q3f := q3.f; have q3l := q3.lt
            have q7c := q7.c; have q7f := q7.f; have q7l := q7.lt
            have hstep := Lib.hid (right_step m i f k b st hf s1 (by omega) hk0 hm1 hab)
            clear hab
            go_wp2_with fail
            refine (wrong_at m i f ⟨k, b, 0⟩ st _ _ hstep.out _).mono ?_
            rintro e w4 ⟨rfl, hb4⟩
            replace q3 := q3.below hb4 q3.lt; have q3c := q3.c; have q3f := q3.f; have q3l := q3.lt
            replace q7 := q7.below hb4 q7.lt; have q7c := q7.c; have q7f := q7.f; have q7l := q7.lt
            have hB2 := below_keep hb4 hB1
            go_wp2_with fail
            refine (locked_calls _ _ 0 st _).mono ?_
            rintro e w6 ⟨rfl, hb6⟩
            have p7 : At w6 w2.heap.size #[.int .i64 (k + 1), .int .i64 st, .int .i64 0] 27 := (q7.set.set.set.to rfl).below hb6 (by simp; omega)
            have p3 : At w6 w.heap.size #[.int .i64 m, .int .i64 i, .int .i64 f] 23 := (((q3.set_ne hne).set_ne hne).set_ne hne).below hb6 (by simp; omega)
            have hB4 : Below w.heap.size w w6 := below_keep hb6 (((hB2.setCell hle2 _).setCell hle2 _).setCell hle2 _)
            clear q3 q7 q3c q3f q3l q7c q7f q7l
            have p3c := p3.c; have p3f := p3.f; have p3l := p3.lt
            have p7c := p7.c; have p7f := p7.f; have p7l := p7.lt
            go_wp2
            go_roundw
            case rel => exact ⟨k + 1, st, by omega, by go_num, p7.to (by simp), p3, hB4, Or.inr rfl⟩
            case measure => simp [intOf]; omega
          · have hkm : (k : Int) = m - 1 := by omega
            have q3c := q3.c; have q3f := q3.f; have q3l := q3.lt
            have q7c := q7.c; have q7f := q7.f; have q7l := q7.lt
            have hstep := Lib.hid (right_fin m i f k b st hf s1 (by omega) hkm hab)
            clear hab hkm
            go_wp2_with fail
            refine (wrong_at m i f ⟨k, b, 0⟩ st _ _ hstep.out _).mono ?_
            rintro e w4 ⟨rfl, hb4⟩
            replace q3 := q3.below hb4 q3.lt; have q3c := q3.c; have q3f := q3.f; have q3l := q3.lt
            replace q7 := q7.below hb4 q7.lt; have q7c := q7.c; have q7f := q7.f; have q7l := q7.lt
            have hB2 := below_keep hb4 hB1
            go_wp2_with fail
            refine (locked_calls _ _ (st + f) st _).mono ?_
            rintro e w6 ⟨rfl, hb6⟩
            have hB4 : Below w.heap.size w w6 := below_keep hb6 (((hB2.setCell hle2 _).setCell hle2 _).setCell hle2 _)
            have hlk : decide (st < st + f) = true := decide_eq_true (by omega)
            go_wp2
            go_ret
            exact ⟨by first | rfl | simp [hlk], hB4⟩
      · have q3c := q3.c; have q3f := q3.f; have q3l := q3.lt
        have q7c := q7.c; have q7f := q7.f; have q7l := q7.lt
        have ha' := Lib.hid ha0
        clear ha0 hab
        go_wp2_with fail
        refine (right_open a b 0 st _ s1).mono ?_
        rintro e wR ⟨rfl, hbR⟩
        replace q3 := q3.below hbR q3.lt; have q3c := q3.c; have q3f := q3.f; have q3l := q3.lt
        replace q7 := q7.below hbR q7.lt; have q7c := q7.c; have q7f := q7.f; have q7l := q7.lt
        have hB2 := below_keep hbR hB1
        clear hB1 hbR
        go_wp2
        generalize hw5 : World.setCell (World.setCell (World.setCell wR _ _) _ _) _ _ = w5
        have j7 : At w5 w2.heap.size #[.int .i64 0, .int .i64 0, .int .i64 0] 27 := by
          rw [← hw5]; exact q7.set.set.set.to rfl
        have j3 : At w5 w.heap.size #[.int .i64 m, .int .i64 i, .int .i64 f] 23 := by
          rw [← hw5]; exact ((q3.set_ne hne).set_ne hne).set_ne hne
        have hB3 : Below w.heap.size w w5 := by
          rw [← hw5]; exact ((hB2.setCell hle2 _).setCell hle2 _).setCell hle2 _
        clear hw5 q3 q7 q3c q3f q3l q7c q7f q7l hB2
        go_loopw [8, 10] (fun _ v10 wr => ∃ (k : Nat) (b : Int), (k : Int) + 1 ≤ m ∧ v10 = .int .i64 k ∧ At wr w2.heap.size #[.int .i64 k, .int .i64 b, .int .i64 0] 27 ∧ At wr w.heap.size #[.int .i64 m, .int .i64 i, .int .i64 f] 23 ∧ Below w.heap.size w wr ∧ ((k : Int) = 0 ∨ b = st)) (fun _ v10 _ => 100 - (intOf v10).toNat)
        case atStart => exact ⟨0, 0, by omega, rfl, j7, j3, hB3, Or.inl rfl⟩
        case round =>
          obtain ⟨k, b, hk, rfl, q7, q3, hB1, hab⟩ := hrel
          by_cases hm1 : (k : Int) + 1 < m
          · have hk0 : (0 : Int) ≤ k := by omega
            have q3c := q3.c; have q3f := q3.f; have q3l := q3.lt
            have q7c := q7.c; have q7f := q7.f; have q7l := q7.lt
            have hstep := Lib.hid (right_step m i f k b st hf s1 (by omega) hk0 hm1 hab)
            clear hab
            go_wp2_with fail
            refine (wrong_at m i f ⟨k, b, 0⟩ st _ _ hstep.out _).mono ?_
            rintro e w4 ⟨rfl, hb4⟩
            replace q3 := q3.below hb4 q3.lt; have q3c := q3.c; have q3f := q3.f; have q3l := q3.lt
            replace q7 := q7.below hb4 q7.lt; have q7c := q7.c; have q7f := q7.f; have q7l := q7.lt
            have hB2 := below_keep hb4 hB1
            go_wp2_with fail
            refine (locked_calls _ _ 0 st _).mono ?_
            rintro e w6 ⟨rfl, hb6⟩
            have p7 : At w6 w2.heap.size #[.int .i64 (k + 1), .int .i64 st, .int .i64 0] 27 := (q7.set.set.set.to rfl).below hb6 (by simp; omega)
            have p3 : At w6 w.heap.size #[.int .i64 m, .int .i64 i, .int .i64 f] 23 := (((q3.set_ne hne).set_ne hne).set_ne hne).below hb6 (by simp; omega)
            have hB4 : Below w.heap.size w w6 := below_keep hb6 (((hB2.setCell hle2 _).setCell hle2 _).setCell hle2 _)
            clear q3 q7 q3c q3f q3l q7c q7f q7l
            have p3c := p3.c; have p3f := p3.f; have p3l := p3.lt
            have p7c := p7.c; have p7f := p7.f; have p7l := p7.lt
            go_wp2
            go_roundw
            case rel => exact ⟨k + 1, st, by omega, by go_num, p7.to (by simp), p3, hB4, Or.inr rfl⟩
            case measure => simp [intOf]; omega
          · have hkm : (k : Int) = m - 1 := by omega
            have q3c := q3.c; have q3f := q3.f; have q3l := q3.lt
            have q7c := q7.c; have q7f := q7.f; have q7l := q7.lt
            have hstep := Lib.hid (right_fin m i f k b st hf s1 (by omega) hkm hab)
            clear hab hkm
            go_wp2_with fail
            refine (wrong_at m i f ⟨k, b, 0⟩ st _ _ hstep.out _).mono ?_
            rintro e w4 ⟨rfl, hb4⟩
            replace q3 := q3.below hb4 q3.lt; have q3c := q3.c; have q3f := q3.f; have q3l := q3.lt
            replace q7 := q7.below hb4 q7.lt; have q7c := q7.c; have q7f := q7.f; have q7l := q7.lt
            have hB2 := below_keep hb4 hB1
            go_wp2_with fail
            refine (locked_calls _ _ (st + f) st _).mono ?_
            rintro e w6 ⟨rfl, hb6⟩
            have hB4 : Below w.heap.size w w6 := below_keep hb6 (((hB2.setCell hle2 _).setCell hle2 _).setCell hle2 _)
            have hlk : decide (st < st + f) = true := decide_eq_true (by omega)
            go_wp2
            go_ret
            exact ⟨by first | rfl | simp [hlk], hB4⟩
  · by_cases hf : frmB m i f = true
    · go_enter Try.func10, Try.ntmps10
      go_wp2_with fail
      refine (lawake_calls _).mono ?_
      rintro e w1 ⟨rfl, hb1⟩
      have b3 : At w1 w.heap.size #[.int .i64 m, .int .i64 i, .int .i64 f] 23 := (At.new w _ _).below hb1 (by simp)
      have b3c := b3.c; have b3f := b3.f; have b3l := b3.lt
      go_wp2_with fail
      refine (lform_calls _ _ _ _).mono ?_
      rintro e w2 ⟨rfl, hb2⟩
      replace b3 := b3.below hb2 b3.lt; have b3c := b3.c; have b3f := b3.f; have b3l := b3.lt
      rw [hf]
      have hB : Below w.heap.size w w2 := by
        (repeat (with_reducible first | exact Below.refl _ _ | assumption | refine Below.setCell ?_ (by first | (simp; done) | (simp; omega) | omega) _ | refine Below.alloc ?_ (by first | (simp; done) | (simp; omega) | omega) _ | refine Below.drew ?_ | refine Below.trans ?_ (Below.mono (by assumption) (by first | (simp; done) | (simp; omega) | omega))))
      have hg' : (decide (st < 0) || decide (549755813888 < st)) = true := by
        simp; simp [hf] at hg; omega
      clear hg
      have hz2 := hb2.size
      go_wp2_with fail
      all_goals
        refine (lawake_calls _).mono ?_
        rintro e w3 ⟨rfl, hb3⟩
        go_wp2
        go_ret
        exact ⟨rfl, hB.trans (hb3.mono (by omega))⟩
    · go_enter Try.func10, Try.ntmps10
      go_wp2_with fail
      refine (lawake_calls _).mono ?_
      rintro e w1 ⟨rfl, hb1⟩
      have b3 : At w1 w.heap.size #[.int .i64 m, .int .i64 i, .int .i64 f] 23 := (At.new w _ _).below hb1 (by simp)
      have b3c := b3.c; have b3f := b3.f; have b3l := b3.lt
      go_wp2_with fail
      refine (lform_calls _ _ _ _).mono ?_
      rintro e w2 ⟨rfl, hb2⟩
      rw [Bool.eq_false_iff.2 hf]
      have hz2 := hb2.size
      go_wp2_with fail
      refine (lawake_calls _).mono ?_
      rintro e w3 ⟨rfl, hb3⟩
      go_wp2
      go_ret
      refine ⟨rfl, ?_⟩
      (repeat (with_reducible first | exact Below.refl _ _ | assumption | refine Below.setCell ?_ (by first | (simp; done) | (simp; omega) | omega) _ | refine Below.alloc ?_ (by first | (simp; done) | (simp; omega) | omega) _ | refine Below.drew ?_ | refine Below.trans ?_ (Below.mono (by assumption) (by first | (simp; done) | (simp; omega) | omega))))
end Go.Proofs.Ytbpdjcjhdjkinaa
