/- LockoutSlow: the walk of the law. -/
import Derived.Test.YtbpdjcjhdjkinaaLockA
import Derived.Deep.LoopGhost
namespace Go.Proofs.Ytbpdjcjhdjkinaa
open Go.RowKit
theorem slow_step (m i f : Int) (s : St) (n : Int) (h : frmB m i f = true) (hm : 2 ≤ m) (n1 : 0 ≤ n) (n2 : n ≤ 1099511627776) (hc : s.c ≤ n) (hs : s.a < 1 ∨ s.b ≤ n - i) : wrongF m i f s n = (⟨1, n, 0⟩, 0) := by
  have hf' := h
  unfold frmB at hf'
  simp at hf'
  have wn : wrap64 (n - i) = n - i := by unfold wrap64; omega
  unfold wrongF
  rw [if_neg (by simp [h]; omega), if_neg (by omega), wn, if_pos (by omega), if_neg (by omega)]
set_option maxHeartbeats 1000000 in
theorem slow_calls (m i f st n : Int) (w : World) (h0 : 0 ≤ n) (h1 : n ≤ 255) :
    Calls Try.prog 3 #[.agg #[.int .i64 m, .int .i64 i, .int .i64 f], .int .i64 st, .int .u8 n] w fun e w' => e = .returned (.bool true) ∧ Below w.heap.size w w' := by
  by_cases hg : frmB m i f = true ∧ 2 ≤ m ∧ i ≤ 1073741824 ∧ 0 ≤ st ∧ st ≤ 274877906944
  · obtain ⟨hf, m1, i1, s1, s2⟩ := hg
    have hf' := hf
    unfold frmB at hf'
    simp at hf'
    obtain ⟨⟨⟨⟨⟨_, m2⟩, i2⟩, _⟩, f1⟩, f2⟩ := hf'
    go_enter Try.func3, Try.ntmps3
    go_wp2_with fail
    refine (lawake_calls _).mono ?_
    rintro e w1 ⟨rfl, hb1⟩
    have b3 : At w1 w.heap.size #[.int .i64 m, .int .i64 i, .int .i64 f] 23 := (At.new w _ _).below hb1 (by simp)
    have b3c := b3.c; have b3f := b3.f; have b3l := b3.lt
    go_wp2_with fail
    refine (lform_calls _ _ _ _).mono ?_
    rintro e w2 ⟨rfl, hb2⟩
    replace b3 := b3.below hb2 b3.lt; have b3c := b3.c; have b3f := b3.f; have b3l := b3.lt
    rw [hf]
    have hB : Below w.heap.size w w2 := by
      (repeat (with_reducible first | exact Below.refl _ _ | assumption | refine Below.setCell ?_ (by first | (simp; done) | (simp; omega) | omega) _ | refine Below.alloc ?_ (by first | (simp; done) | (simp; omega) | omega) _ | refine Below.drew ?_ | refine Below.trans ?_ (Below.mono (by assumption) (by first | (simp; done) | (simp; omega) | omega))))
    clear hb1 hb2 b3c b3f b3l
    have b3c := b3.c; have b3f := b3.f; have b3l := b3.lt
    have hlt2 := b3.lt
    have b7 : At (w2.alloc (.cells #[.int .i64 0, .int .i64 0, .int .i64 0] 27)) w2.heap.size #[.int .i64 0, .int .i64 0, .int .i64 0] 27 := At.new w2 _ _
    go_wp2
    go_loopw [8, 9, 10] (fun _ v9 v10 wr => ∃ (k : Nat) (t a b : Int), k ≤ 60 ∧ v10 = .int .i64 k ∧ v9 = .int .i64 t ∧ 0 ≤ t ∧ t ≤ 274877906944 + k * 1073741824 ∧ At wr w2.heap.size #[.int .i64 a, .int .i64 b, .int .i64 0] 27 ∧ At wr w.heap.size #[.int .i64 m, .int .i64 i, .int .i64 f] 23 ∧ Below w.heap.size w wr ∧ (a < 1 ∨ b ≤ t - i)) (fun _ _ v10 _ => 60 - (intOf v10).toNat)
    case atStart => exact ⟨0, st, 0, 0, by omega, rfl, rfl, s1, by omega, b7, b3.alloc _, by (repeat (with_reducible first | exact Below.refl _ _ | assumption | refine Below.setCell ?_ (by first | (simp; done) | (simp; omega) | omega) _ | refine Below.alloc ?_ (by first | (simp; done) | (simp; omega) | omega) _ | refine Below.drew ?_ | refine Below.trans ?_ (Below.mono (by assumption) (by first | (simp; done) | (simp; omega) | omega)))), Or.inl (by omega)⟩
    case round =>
      obtain ⟨k, t, a, b, hk, rfl, rfl, t0, t1, q7, q3, hB1, hab⟩ := hrel
      clear b3c b3f b3l b3 b7 hB
      by_cases hlt : (k : Int) < n % 60
      · have hstep := Lib.hid (slow_step m i f ⟨a, b, 0⟩ t hf (by omega) t0 (by omega) t0 (by simpa using hab))
        have q3c := q3.c; have q3f := q3.f; have q3l := q3.lt
        have q7c := q7.c; have q7f := q7.f; have q7l := q7.lt
        clear hab
        go_wp2_with fail
        refine (wrong_at m i f ⟨a, b, 0⟩ t _ _ hstep.out _).mono ?_
        rintro e w4 ⟨rfl, hb4⟩
        replace q3 := q3.below hb4 q3.lt; have q3c := q3.c; have q3f := q3.f; have q3l := q3.lt
        replace q7 := q7.below hb4 q7.lt; have q7c := q7.c; have q7f := q7.f; have q7l := q7.lt
        go_wp2_with fail
        refine (locked_calls 1 t 0 t _).mono ?_
        rintro e w5 ⟨rfl, hb5⟩
        replace q7 : At w5 w2.heap.size #[.int .i64 1, .int .i64 t, .int .i64 0] 27 := ((q7.set.set.set).to rfl).below hb5 (by simp; omega)
        have hne : w.heap.size ≠ w2.heap.size := by omega
        replace q3 : At w5 w.heap.size #[.int .i64 m, .int .i64 i, .int .i64 f] 23 := (((q3.set_ne hne).set_ne hne).set_ne hne).below hb5 (by simp; omega)
        have hB2 : Below w.heap.size w w5 := by
          (repeat (with_reducible first | exact Below.refl _ _ | assumption | refine Below.setCell ?_ (by first | (simp; done) | (simp; omega) | omega) _ | refine Below.alloc ?_ (by first | (simp; done) | (simp; omega) | omega) _ | refine Below.drew ?_ | refine Below.trans ?_ (Below.mono (by assumption) (by first | (simp; done) | (simp; omega) | omega))))
        clear hb4 hb5 q3c q3f q3l q7c q7f q7l
        have q3c := q3.c; have q3f := q3.f; have q3l := q3.lt
        have q7c := q7.c; have q7f := q7.f; have q7l := q7.lt
        go_wp2
        go_roundw
        case rel => exact ⟨k + 1, t + i, 1, t, by omega, by go_num, rfl, by omega, by omega, q7, q3, hB2, Or.inr (by omega)⟩
        case measure => simp [intOf]; omega
      · go_wp2
        go_ret
        exact ⟨rfl, hB1⟩
  · by_cases hf : frmB m i f = true
    · go_enter Try.func3, Try.ntmps3
      go_wp2_with fail
      refine (lawake_calls _).mono ?_
      rintro e w1 ⟨rfl, hb1⟩
      have b3 : At w1 w.heap.size #[.int .i64 m, .int .i64 i, .int .i64 f] 23 := (At.new w _ _).below hb1 (by simp)
      have b3c := b3.c; have b3f := b3.f; have b3l := b3.lt
      go_wp2_with fail
      refine (lform_calls _ _ _ _).mono ?_
      rintro e w2 ⟨rfl, hb2⟩
      replace b3 := b3.below hb2 b3.lt; have b3c := b3.c; have b3f := b3.f; have b3l := b3.lt
      rw [hf]
      have hB : Below w.heap.size w w2 := by
        (repeat (with_reducible first | exact Below.refl _ _ | assumption | refine Below.setCell ?_ (by first | (simp; done) | (simp; omega) | omega) _ | refine Below.alloc ?_ (by first | (simp; done) | (simp; omega) | omega) _ | refine Below.drew ?_ | refine Below.trans ?_ (Below.mono (by assumption) (by first | (simp; done) | (simp; omega) | omega))))
      have hg' : (((decide (m < 2) || decide (1073741824 < i)) || decide (st < 0)) || decide (274877906944 < st)) = true := by
        simp; simp [hf] at hg; omega
      clear hg
      have hz2 := hb2.size
      go_wp2_with fail
      all_goals
        refine (lawake_calls _).mono ?_
        rintro e w3 ⟨rfl, hb3⟩
        go_wp2
        go_ret
        exact ⟨rfl, hB.trans (hb3.mono (by omega))⟩
    · go_enter Try.func3, Try.ntmps3
      go_wp2_with fail
      refine (lawake_calls _).mono ?_
      rintro e w1 ⟨rfl, hb1⟩
      have b3 : At w1 w.heap.size #[.int .i64 m, .int .i64 i, .int .i64 f] 23 := (At.new w _ _).below hb1 (by simp)
      have b3c := b3.c; have b3f := b3.f; have b3l := b3.lt
      go_wp2_with fail
      refine (lform_calls _ _ _ _).mono ?_
      rintro e w2 ⟨rfl, hb2⟩
      rw [Bool.eq_false_iff.2 hf]
      have hz2 := hb2.size
      go_wp2_with fail
      refine (lawake_calls _).mono ?_
      rintro e w3 ⟨rfl, hb3⟩
      go_wp2
      go_ret
      refine ⟨rfl, ?_⟩
      (repeat (with_reducible first | exact Below.refl _ _ | assumption | refine Below.setCell ?_ (by first | (simp; done) | (simp; omega) | omega) _ | refine Below.alloc ?_ (by first | (simp; done) | (simp; omega) | omega) _ | refine Below.drew ?_ | refine Below.trans ?_ (Below.mono (by assumption) (by first | (simp; done) | (simp; omega) | omega))))
end Go.Proofs.Ytbpdjcjhdjkinaa
