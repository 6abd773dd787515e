/- LockoutSteps: the walk of the law. -/
import Derived.Test.YtbpdjcjhdjkinaaLockA
namespace Go.Proofs.Ytbpdjcjhdjkinaa
open Go.RowKit
set_option maxRecDepth 100000 in
set_option maxHeartbeats 1000000 in
theorem steps_noa (m i f a b c n : Int) (w : World) (h : frmB m i f = false) (hc : n < c) :
    Calls Try.prog 8 #[.agg #[.int .i64 m, .int .i64 i, .int .i64 f], .agg #[.int .i64 a, .int .i64 b, .int .i64 c], .int .i64 n] w fun e w' => e = .returned (.bool true) ∧ Below w.heap.size w w' := by
  have hr := Lib.hid (show wrongF m i f ⟨a, b, c⟩ n = (St.zero, 1) by simp [wrongF, h])
  go_enter Try.func8, Try.ntmps8
  go_wp2_with fail
  have k3 : At ((w.alloc (.cells #[.int .i64 m, .int .i64 i, .int .i64 f] 23)).alloc (.cells #[.int .i64 a, .int .i64 b, .int .i64 c] 27)) w.heap.size #[.int .i64 m, .int .i64 i, .int .i64 f] 23 := (At.new w _ _).alloc _
  have k4 : At ((w.alloc (.cells #[.int .i64 m, .int .i64 i, .int .i64 f] 23)).alloc (.cells #[.int .i64 a, .int .i64 b, .int .i64 c] 27)) (w.heap.size + 1) #[.int .i64 a, .int .i64 b, .int .i64 c] 27 := At.new' (by simp)
  have hB : Below w.heap.size w ((w.alloc (.cells #[.int .i64 m, .int .i64 i, .int .i64 f] 23)).alloc (.cells #[.int .i64 a, .int .i64 b, .int .i64 c] 27)) := by
    (repeat (with_reducible first | exact Below.refl _ _ | assumption | refine Below.setCell ?_ (by first | (simp; done) | (simp; omega) | omega) _ | refine Below.alloc ?_ (by first | (simp; done) | (simp; omega) | omega) _ | refine Below.drew ?_ | refine Below.trans ?_ (Below.mono (by assumption) (by first | (simp; done) | (simp; omega) | omega))))
  generalize ((w.alloc (.cells #[.int .i64 m, .int .i64 i, .int .i64 f] 23)).alloc (.cells #[.int .i64 a, .int .i64 b, .int .i64 c] 27)) = w0 at *
  have k3c := k3.c; have k4c := k4.c
  go_region_held3 (fun w' => Below w0.heap.size w0 w' ∧ At w' (w.heap.size) #[.int .i64 m, .int .i64 i, .int .i64 f] 23 ∧ (∀ o, w'.cell? ⟨w.heap.size, o, none⟩ = #[.int .i64 m, .int .i64 i, .int .i64 f][o]?) ∧ At w' (w.heap.size + 1) #[.int .i64 a, .int .i64 b, .int .i64 c] 27 ∧ (∀ o, w'.cell? ⟨w.heap.size + 1, o, none⟩ = #[.int .i64 a, .int .i64 b, .int .i64 c][o]?))
    (first
      | (exact ⟨(Below.refl _ _).drew, k3.drew, k3.drew.c, k4.drew, k4.drew.c⟩)
      | (go_split_ands
         have hk3 := At.keep hbK (by assumption : At _ (w.heap.size) #[.int .i64 m, .int .i64 i, .int .i64 f] 23)
         have hk4 := At.keep hbK (by assumption : At _ (w.heap.size + 1) #[.int .i64 a, .int .i64 b, .int .i64 c] 27)
         refine ⟨?_, hk3, hk3.c, hk4, hk4.c⟩
         exact below_keep hbK (by assumption)))
    (first | (go_at_call 13; refine (lawake_calls _).mono ?_; rintro e wK ⟨rfl, hbK⟩) | (go_at_call 14; refine (lform_calls _ _ _ _).mono ?_; rintro e wK ⟨rfl, hbK⟩) | (go_at_call 20; refine (form_calls _ _ _ _).mono ?_; rintro e wK ⟨rfl, hbK⟩) | (go_at_call 16; refine (locked_calls _ _ _ _ _).mono ?_; rintro e wK ⟨rfl, hbK⟩))
  rename_i hHeld
  obtain ⟨hB1, k3, -, k4, -⟩ := hHeld
  have hB2 : Below w.heap.size w wK := hB.trans (hB1.mono hB.size)
  clear hB hB1
  have k3c := k3.c; have k3f := k3.f; have k3l := k3.lt
  have k4c := k4.c; have k4f := k4.f; have k4l := k4.lt
  go_wp2_with fail
  refine (right_lock a b c n _ hc).mono ?_
  rintro e wR ⟨rfl, hbR⟩
  replace k3 := k3.below hbR k3.lt; have k3c := k3.c; have k3f := k3.f; have k3l := k3.lt
  replace k4 := k4.below hbR k4.lt; have k4c := k4.c; have k4f := k4.f; have k4l := k4.lt
  have hB3 := below_keep hbR hB2
  clear hB2 hbR
  go_wp2_with fail
  refine (wrong_at m i f ⟨a, b, c⟩ n _ _ hr.out _).mono ?_
  rintro e wW ⟨rfl, hbW⟩
  replace k3 := At.keep hbW (k3.alloc _)
  replace k4 := At.keep hbW (k4.alloc _)
  have hB4 : Below w.heap.size w wW := below_keep hbW (hB3.alloc hB3.size _)
  clear hB3 hbW
  have k3c := k3.c; have k3f := k3.f; have k3l := k3.lt
  have k4c := k4.c; have k4f := k4.f; have k4l := k4.lt
  go_wp2_with fail
  have k9 := At.new wW #[.int .i64 0, .int .i64 0, .int .i64 0] 27
  refine (lform_calls _ _ _ _).mono ?_
  rintro e wF ⟨rfl, hbF⟩
  replace k3 := At.keep hbF (k3.alloc _)
  replace k4 := At.keep hbF (k4.alloc _)
  replace k9 := At.keep hbF k9
  have hB5 : Below w.heap.size w wF := below_keep hbF (hB4.alloc hB4.size _)
  clear hB4 hbF
  have k3c := k3.c; have k3f := k3.f; have k3l := k3.lt
  have k4c := k4.c; have k4f := k4.f; have k4l := k4.lt
  have k9c := k9.c; have k9f := k9.f; have k9l := k9.lt
  rw [h]
  go_wp2
  go_ret
  exact ⟨rfl, hB5⟩
set_option maxRecDepth 100000 in
set_option maxHeartbeats 1000000 in
theorem steps_nob (m i f a b c n : Int) (w : World) (h : frmB m i f = false) (hc : c ≤ n) :
    Calls Try.prog 8 #[.agg #[.int .i64 m, .int .i64 i, .int .i64 f], .agg #[.int .i64 a, .int .i64 b, .int .i64 c], .int .i64 n] w fun e w' => e = .returned (.bool true) ∧ Below w.heap.size w w' := by
  have hr := Lib.hid (show wrongF m i f ⟨a, b, c⟩ n = (St.zero, 1) by simp [wrongF, h])
  go_enter Try.func8, Try.ntmps8
  go_wp2_with fail
  have k3 : At ((w.alloc (.cells #[.int .i64 m, .int .i64 i, .int .i64 f] 23)).alloc (.cells #[.int .i64 a, .int .i64 b, .int .i64 c] 27)) w.heap.size #[.int .i64 m, .int .i64 i, .int .i64 f] 23 := (At.new w _ _).alloc _
  have k4 : At ((w.alloc (.cells #[.int .i64 m, .int .i64 i, .int .i64 f] 23)).alloc (.cells #[.int .i64 a, .int .i64 b, .int .i64 c] 27)) (w.heap.size + 1) #[.int .i64 a, .int .i64 b, .int .i64 c] 27 := At.new' (by simp)
  have hB : Below w.heap.size w ((w.alloc (.cells #[.int .i64 m, .int .i64 i, .int .i64 f] 23)).alloc (.cells #[.int .i64 a, .int .i64 b, .int .i64 c] 27)) := by
    (repeat (with_reducible first | exact Below.refl _ _ | assumption | refine Below.setCell ?_ (by first | (simp; done) | (simp; omega) | omega) _ | refine Below.alloc ?_ (by first | (simp; done) | (simp; omega) | omega) _ | refine Below.drew ?_ | refine Below.trans ?_ (Below.mono (by assumption) (by first | (simp; done) | (simp; omega) | omega))))
  generalize ((w.alloc (.cells #[.int .i64 m, .int .i64 i, .int .i64 f] 23)).alloc (.cells #[.int .i64 a, .int .i64 b, .int .i64 c] 27)) = w0 at *
  have k3c := k3.c; have k4c := k4.c
  go_region_held3 (fun w' => Below w0.heap.size w0 w' ∧ At w' (w.heap.size) #[.int .i64 m, .int .i64 i, .int .i64 f] 23 ∧ (∀ o, w'.cell? ⟨w.heap.size, o, none⟩ = #[.int .i64 m, .int .i64 i, .int .i64 f][o]?) ∧ At w' (w.heap.size + 1) #[.int .i64 a, .int .i64 b, .int .i64 c] 27 ∧ (∀ o, w'.cell? ⟨w.heap.size + 1, o, none⟩ = #[.int .i64 a, .int .i64 b, .int .i64 c][o]?))
    (first
      | (exact ⟨(Below.refl _ _).drew, k3.drew, k3.drew.c, k4.drew, k4.drew.c⟩)
      | (go_split_ands
         have hk3 := At.keep hbK (by assumption : At _ (w.heap.size) #[.int .i64 m, .int .i64 i, .int .i64 f] 23)
         have hk4 := At.keep hbK (by assumption : At _ (w.heap.size + 1) #[.int .i64 a, .int .i64 b, .int .i64 c] 27)
         refine ⟨?_, hk3, hk3.c, hk4, hk4.c⟩
         exact below_keep hbK (by assumption)))
    (first | (go_at_call 13; refine (lawake_calls _).mono ?_; rintro e wK ⟨rfl, hbK⟩) | (go_at_call 14; refine (lform_calls _ _ _ _).mono ?_; rintro e wK ⟨rfl, hbK⟩) | (go_at_call 20; refine (form_calls _ _ _ _).mono ?_; rintro e wK ⟨rfl, hbK⟩) | (go_at_call 16; refine (locked_calls _ _ _ _ _).mono ?_; rintro e wK ⟨rfl, hbK⟩))
  rename_i hHeld
  obtain ⟨hB1, k3, -, k4, -⟩ := hHeld
  have hB2 : Below w.heap.size w wK := hB.trans (hB1.mono hB.size)
  clear hB hB1
  have k3c := k3.c; have k3f := k3.f; have k3l := k3.lt
  have k4c := k4.c; have k4f := k4.f; have k4l := k4.lt
  go_wp2_with fail
  refine (right_open a b c n _ hc).mono ?_
  rintro e wR ⟨rfl, hbR⟩
  replace k3 := k3.below hbR k3.lt; have k3c := k3.c; have k3f := k3.f; have k3l := k3.lt
  replace k4 := k4.below hbR k4.lt; have k4c := k4.c; have k4f := k4.f; have k4l := k4.lt
  have hB3 := below_keep hbR hB2
  clear hB2 hbR
  go_wp2_with fail
  refine (wrong_at m i f ⟨a, b, c⟩ n _ _ hr.out _).mono ?_
  rintro e wW ⟨rfl, hbW⟩
  replace k3 := At.keep hbW (k3.alloc _)
  replace k4 := At.keep hbW (k4.alloc _)
  have hB4 : Below w.heap.size w wW := below_keep hbW (hB3.alloc hB3.size _)
  clear hB3 hbW
  have k3c := k3.c; have k3f := k3.f; have k3l := k3.lt
  have k4c := k4.c; have k4f := k4.f; have k4l := k4.lt
  go_wp2_with fail
  have k9 := At.new wW #[.int .i64 0, .int .i64 0, .int .i64 0] 27
  refine (lform_calls _ _ _ _).mono ?_
  rintro e wF ⟨rfl, hbF⟩
  replace k3 := At.keep hbF (k3.alloc _)
  replace k4 := At.keep hbF (k4.alloc _)
  replace k9 := At.keep hbF k9
  have hB5 : Below w.heap.size w wF := below_keep hbF (hB4.alloc hB4.size _)
  clear hB4 hbF
  have k3c := k3.c; have k3f := k3.f; have k3l := k3.lt
  have k4c := k4.c; have k4f := k4.f; have k4l := k4.lt
  have k9c := k9.c; have k9f := k9.f; have k9l := k9.lt
  rw [h]
  go_wp2
  go_ret
  exact ⟨rfl, hB5⟩
set_option maxRecDepth 100000 in
set_option maxHeartbeats 1000000 in
theorem steps_tloa (m i f a b c n : Int) (w : World) (h : frmB m i f = true) (hn : n < 0) (hc : n < c) :
    Calls Try.prog 8 #[.agg #[.int .i64 m, .int .i64 i, .int .i64 f], .agg #[.int .i64 a, .int .i64 b, .int .i64 c], .int .i64 n] w fun e w' => e = .returned (.bool true) ∧ Below w.heap.size w w' := by
  have hf' := h
  unfold frmB at hf'
  simp at hf'
  obtain ⟨⟨⟨⟨⟨m1, m2⟩, i1⟩, i2⟩, f1⟩, f2⟩ := hf'
  have hr := Lib.hid (show wrongF m i f ⟨a, b, c⟩ n = (St.zero, 1) by simp [wrongF, h, hn])
  skip
  go_enter Try.func8, Try.ntmps8
  go_wp2_with fail
  have k3 : At ((w.alloc (.cells #[.int .i64 m, .int .i64 i, .int .i64 f] 23)).alloc (.cells #[.int .i64 a, .int .i64 b, .int .i64 c] 27)) w.heap.size #[.int .i64 m, .int .i64 i, .int .i64 f] 23 := (At.new w _ _).alloc _
  have k4 : At ((w.alloc (.cells #[.int .i64 m, .int .i64 i, .int .i64 f] 23)).alloc (.cells #[.int .i64 a, .int .i64 b, .int .i64 c] 27)) (w.heap.size + 1) #[.int .i64 a, .int .i64 b, .int .i64 c] 27 := At.new' (by simp)
  have hB : Below w.heap.size w ((w.alloc (.cells #[.int .i64 m, .int .i64 i, .int .i64 f] 23)).alloc (.cells #[.int .i64 a, .int .i64 b, .int .i64 c] 27)) := by
    (repeat (with_reducible first | exact Below.refl _ _ | assumption | refine Below.setCell ?_ (by first | (simp; done) | (simp; omega) | omega) _ | refine Below.alloc ?_ (by first | (simp; done) | (simp; omega) | omega) _ | refine Below.drew ?_ | refine Below.trans ?_ (Below.mono (by assumption) (by first | (simp; done) | (simp; omega) | omega))))
  generalize ((w.alloc (.cells #[.int .i64 m, .int .i64 i, .int .i64 f] 23)).alloc (.cells #[.int .i64 a, .int .i64 b, .int .i64 c] 27)) = w0 at *
  have k3c := k3.c; have k4c := k4.c
  go_region_held3 (fun w' => Below w0.heap.size w0 w' ∧ At w' (w.heap.size) #[.int .i64 m, .int .i64 i, .int .i64 f] 23 ∧ (∀ o, w'.cell? ⟨w.heap.size, o, none⟩ = #[.int .i64 m, .int .i64 i, .int .i64 f][o]?) ∧ At w' (w.heap.size + 1) #[.int .i64 a, .int .i64 b, .int .i64 c] 27 ∧ (∀ o, w'.cell? ⟨w.heap.size + 1, o, none⟩ = #[.int .i64 a, .int .i64 b, .int .i64 c][o]?))
    (first
      | (exact ⟨(Below.refl _ _).drew, k3.drew, k3.drew.c, k4.drew, k4.drew.c⟩)
      | (go_split_ands
         have hk3 := At.keep hbK (by assumption : At _ (w.heap.size) #[.int .i64 m, .int .i64 i, .int .i64 f] 23)
         have hk4 := At.keep hbK (by assumption : At _ (w.heap.size + 1) #[.int .i64 a, .int .i64 b, .int .i64 c] 27)
         refine ⟨?_, hk3, hk3.c, hk4, hk4.c⟩
         exact below_keep hbK (by assumption)))
    (first | (go_at_call 13; refine (lawake_calls _).mono ?_; rintro e wK ⟨rfl, hbK⟩) | (go_at_call 14; refine (lform_calls _ _ _ _).mono ?_; rintro e wK ⟨rfl, hbK⟩) | (go_at_call 20; refine (form_calls _ _ _ _).mono ?_; rintro e wK ⟨rfl, hbK⟩) | (go_at_call 16; refine (locked_calls _ _ _ _ _).mono ?_; rintro e wK ⟨rfl, hbK⟩))
  rename_i hHeld
  obtain ⟨hB1, k3, -, k4, -⟩ := hHeld
  have hB2 : Below w.heap.size w wK := hB.trans (hB1.mono hB.size)
  clear hB hB1
  have k3c := k3.c; have k3f := k3.f; have k3l := k3.lt
  have k4c := k4.c; have k4f := k4.f; have k4l := k4.lt
  go_wp2_with fail
  refine (right_lock a b c n _ hc).mono ?_
  rintro e wR ⟨rfl, hbR⟩
  replace k3 := k3.below hbR k3.lt; have k3c := k3.c; have k3f := k3.f; have k3l := k3.lt
  replace k4 := k4.below hbR k4.lt; have k4c := k4.c; have k4f := k4.f; have k4l := k4.lt
  have hB3 := below_keep hbR hB2
  clear hB2 hbR
  go_wp2_with fail
  refine (wrong_at m i f ⟨a, b, c⟩ n _ _ hr.out _).mono ?_
  rintro e wW ⟨rfl, hbW⟩
  replace k3 := At.keep hbW (k3.alloc _)
  replace k4 := At.keep hbW (k4.alloc _)
  have hB4 : Below w.heap.size w wW := below_keep hbW (hB3.alloc hB3.size _)
  clear hB3 hbW
  have k3c := k3.c; have k3f := k3.f; have k3l := k3.lt
  have k4c := k4.c; have k4f := k4.f; have k4l := k4.lt
  go_wp2_with fail
  have k9 := At.new wW #[.int .i64 0, .int .i64 0, .int .i64 0] 27
  refine (lform_calls _ _ _ _).mono ?_
  rintro e wF ⟨rfl, hbF⟩
  replace k3 := At.keep hbF (k3.alloc _)
  replace k4 := At.keep hbF (k4.alloc _)
  replace k9 := At.keep hbF k9
  have hB5 : Below w.heap.size w wF := below_keep hbF (hB4.alloc hB4.size _)
  clear hB4 hbF
  have k3c := k3.c; have k3f := k3.f; have k3l := k3.lt
  have k4c := k4.c; have k4f := k4.f; have k4l := k4.lt
  have k9c := k9.c; have k9f := k9.f; have k9l := k9.lt
  rw [h]
  go_wp2
  go_ret
  refine ⟨?_, ?_⟩
  · first | rfl | simp
  · have hwB := hB5.size
    (repeat (with_reducible first | exact Below.refl _ _ | assumption | refine Below.setCell ?_ (by first | (simp; done) | (simp; omega) | omega) _ | refine Below.alloc ?_ (by first | (simp; done) | (simp; omega) | omega) _ | refine Below.drew ?_ | refine Below.trans ?_ (Below.mono (by assumption) (by first | (simp; done) | (simp; omega) | omega))))
set_option maxRecDepth 100000 in
set_option maxHeartbeats 1000000 in
theorem steps_thia (m i f a b c n : Int) (w : World) (h : frmB m i f = true) (hn : 1099511627776 < n) (hn0 : 0 ≤ n) (hc : n < c) :
    Calls Try.prog 8 #[.agg #[.int .i64 m, .int .i64 i, .int .i64 f], .agg #[.int .i64 a, .int .i64 b, .int .i64 c], .int .i64 n] w fun e w' => e = .returned (.bool true) ∧ Below w.heap.size w w' := by
  have hf' := h
  unfold frmB at hf'
  simp at hf'
  obtain ⟨⟨⟨⟨⟨m1, m2⟩, i1⟩, i2⟩, f1⟩, f2⟩ := hf'
  have hr := Lib.hid (show wrongF m i f ⟨a, b, c⟩ n = (St.zero, 1) by simp [wrongF, h, hn])
  skip
  go_enter Try.func8, Try.ntmps8
  go_wp2_with fail
  have k3 : At ((w.alloc (.cells #[.int .i64 m, .int .i64 i, .int .i64 f] 23)).alloc (.cells #[.int .i64 a, .int .i64 b, .int .i64 c] 27)) w.heap.size #[.int .i64 m, .int .i64 i, .int .i64 f] 23 := (At.new w _ _).alloc _
  have k4 : At ((w.alloc (.cells #[.int .i64 m, .int .i64 i, .int .i64 f] 23)).alloc (.cells #[.int .i64 a, .int .i64 b, .int .i64 c] 27)) (w.heap.size + 1) #[.int .i64 a, .int .i64 b, .int .i64 c] 27 := At.new' (by simp)
  have hB : Below w.heap.size w ((w.alloc (.cells #[.int .i64 m, .int .i64 i, .int .i64 f] 23)).alloc (.cells #[.int .i64 a, .int .i64 b, .int .i64 c] 27)) := by
    (repeat (with_reducible first | exact Below.refl _ _ | assumption | refine Below.setCell ?_ (by first | (simp; done) | (simp; omega) | omega) _ | refine Below.alloc ?_ (by first | (simp; done) | (simp; omega) | omega) _ | refine Below.drew ?_ | refine Below.trans ?_ (Below.mono (by assumption) (by first | (simp; done) | (simp; omega) | omega))))
  generalize ((w.alloc (.cells #[.int .i64 m, .int .i64 i, .int .i64 f] 23)).alloc (.cells #[.int .i64 a, .int .i64 b, .int .i64 c] 27)) = w0 at *
  have k3c := k3.c; have k4c := k4.c
  go_region_held3 (fun w' => Below w0.heap.size w0 w' ∧ At w' (w.heap.size) #[.int .i64 m, .int .i64 i, .int .i64 f] 23 ∧ (∀ o, w'.cell? ⟨w.heap.size, o, none⟩ = #[.int .i64 m, .int .i64 i, .int .i64 f][o]?) ∧ At w' (w.heap.size + 1) #[.int .i64 a, .int .i64 b, .int .i64 c] 27 ∧ (∀ o, w'.cell? ⟨w.heap.size + 1, o, none⟩ = #[.int .i64 a, .int .i64 b, .int .i64 c][o]?))
    (first
      | (exact ⟨(Below.refl _ _).drew, k3.drew, k3.drew.c, k4.drew, k4.drew.c⟩)
      | (go_split_ands
         have hk3 := At.keep hbK (by assumption : At _ (w.heap.size) #[.int .i64 m, .int .i64 i, .int .i64 f] 23)
         have hk4 := At.keep hbK (by assumption : At _ (w.heap.size + 1) #[.int .i64 a, .int .i64 b, .int .i64 c] 27)
         refine ⟨?_, hk3, hk3.c, hk4, hk4.c⟩
         exact below_keep hbK (by assumption)))
    (first | (go_at_call 13; refine (lawake_calls _).mono ?_; rintro e wK ⟨rfl, hbK⟩) | (go_at_call 14; refine (lform_calls _ _ _ _).mono ?_; rintro e wK ⟨rfl, hbK⟩) | (go_at_call 20; refine (form_calls _ _ _ _).mono ?_; rintro e wK ⟨rfl, hbK⟩) | (go_at_call 16; refine (locked_calls _ _ _ _ _).mono ?_; rintro e wK ⟨rfl, hbK⟩))
  rename_i hHeld
  obtain ⟨hB1, k3, -, k4, -⟩ := hHeld
  have hB2 : Below w.heap.size w wK := hB.trans (hB1.mono hB.size)
  clear hB hB1
  have k3c := k3.c; have k3f := k3.f; have k3l := k3.lt
  have k4c := k4.c; have k4f := k4.f; have k4l := k4.lt
  go_wp2_with fail
  refine (right_lock a b c n _ hc).mono ?_
  rintro e wR ⟨rfl, hbR⟩
  replace k3 := k3.below hbR k3.lt; have k3c := k3.c; have k3f := k3.f; have k3l := k3.lt
  replace k4 := k4.below hbR k4.lt; have k4c := k4.c; have k4f := k4.f; have k4l := k4.lt
  have hB3 := below_keep hbR hB2
  clear hB2 hbR
  go_wp2_with fail
  refine (wrong_at m i f ⟨a, b, c⟩ n _ _ hr.out _).mono ?_
  rintro e wW ⟨rfl, hbW⟩
  replace k3 := At.keep hbW (k3.alloc _)
  replace k4 := At.keep hbW (k4.alloc _)
  have hB4 : Below w.heap.size w wW := below_keep hbW (hB3.alloc hB3.size _)
  clear hB3 hbW
  have k3c := k3.c; have k3f := k3.f; have k3l := k3.lt
  have k4c := k4.c; have k4f := k4.f; have k4l := k4.lt
  go_wp2_with fail
  have k9 := At.new wW #[.int .i64 0, .int .i64 0, .int .i64 0] 27
  refine (lform_calls _ _ _ _).mono ?_
  rintro e wF ⟨rfl, hbF⟩
  replace k3 := At.keep hbF (k3.alloc _)
  replace k4 := At.keep hbF (k4.alloc _)
  replace k9 := At.keep hbF k9
  have hB5 : Below w.heap.size w wF := below_keep hbF (hB4.alloc hB4.size _)
  clear hB4 hbF
  have k3c := k3.c; have k3f := k3.f; have k3l := k3.lt
  have k4c := k4.c; have k4f := k4.f; have k4l := k4.lt
  have k9c := k9.c; have k9f := k9.f; have k9l := k9.lt
  rw [h]
  go_wp2
  go_ret
  refine ⟨?_, ?_⟩
  · first | rfl | simp
  · have hwB := hB5.size
    (repeat (with_reducible first | exact Below.refl _ _ | assumption | refine Below.setCell ?_ (by first | (simp; done) | (simp; omega) | omega) _ | refine Below.alloc ?_ (by first | (simp; done) | (simp; omega) | omega) _ | refine Below.drew ?_ | refine Below.trans ?_ (Below.mono (by assumption) (by first | (simp; done) | (simp; omega) | omega))))
set_option maxRecDepth 100000 in
set_option maxHeartbeats 1000000 in
theorem steps_tlob (m i f a b c n : Int) (w : World) (h : frmB m i f = true) (hn : n < 0) (hc : c ≤ n) :
    Calls Try.prog 8 #[.agg #[.int .i64 m, .int .i64 i, .int .i64 f], .agg #[.int .i64 a, .int .i64 b, .int .i64 c], .int .i64 n] w fun e w' => e = .returned (.bool true) ∧ Below w.heap.size w w' := by
  have hf' := h
  unfold frmB at hf'
  simp at hf'
  obtain ⟨⟨⟨⟨⟨m1, m2⟩, i1⟩, i2⟩, f1⟩, f2⟩ := hf'
  have hr := Lib.hid (show wrongF m i f ⟨a, b, c⟩ n = (St.zero, 1) by simp [wrongF, h, hn])
  skip
  go_enter Try.func8, Try.ntmps8
  go_wp2_with fail
  have k3 : At ((w.alloc (.cells #[.int .i64 m, .int .i64 i, .int .i64 f] 23)).alloc (.cells #[.int .i64 a, .int .i64 b, .int .i64 c] 27)) w.heap.size #[.int .i64 m, .int .i64 i, .int .i64 f] 23 := (At.new w _ _).alloc _
  have k4 : At ((w.alloc (.cells #[.int .i64 m, .int .i64 i, .int .i64 f] 23)).alloc (.cells #[.int .i64 a, .int .i64 b, .int .i64 c] 27)) (w.heap.size + 1) #[.int .i64 a, .int .i64 b, .int .i64 c] 27 := At.new' (by simp)
  have hB : Below w.heap.size w ((w.alloc (.cells #[.int .i64 m, .int .i64 i, .int .i64 f] 23)).alloc (.cells #[.int .i64 a, .int .i64 b, .int .i64 c] 27)) := by
    (repeat (with_reducible first | exact Below.refl _ _ | assumption | refine Below.setCell ?_ (by first | (simp; done) | (simp; omega) | omega) _ | refine Below.alloc ?_ (by first | (simp; done) | (simp; omega) | omega) _ | refine Below.drew ?_ | refine Below.trans ?_ (Below.mono (by assumption) (by first | (simp; done) | (simp; omega) | omega))))
  generalize ((w.alloc (.cells #[.int .i64 m, .int .i64 i, .int .i64 f] 23)).alloc (.cells #[.int .i64 a, .int .i64 b, .int .i64 c] 27)) = w0 at *
  have k3c := k3.c; have k4c := k4.c
  go_region_held3 (fun w' => Below w0.heap.size w0 w' ∧ At w' (w.heap.size) #[.int .i64 m, .int .i64 i, .int .i64 f] 23 ∧ (∀ o, w'.cell? ⟨w.heap.size, o, none⟩ = #[.int .i64 m, .int .i64 i, .int .i64 f][o]?) ∧ At w' (w.heap.size + 1) #[.int .i64 a, .int .i64 b, .int .i64 c] 27 ∧ (∀ o, w'.cell? ⟨w.heap.size + 1, o, none⟩ = #[.int .i64 a, .int .i64 b, .int .i64 c][o]?))
    (first
      | (exact ⟨(Below.refl _ _).drew, k3.drew, k3.drew.c, k4.drew, k4.drew.c⟩)
      | (go_split_ands
         have hk3 := At.keep hbK (by assumption : At _ (w.heap.size) #[.int .i64 m, .int .i64 i, .int .i64 f] 23)
         have hk4 := At.keep hbK (by assumption : At _ (w.heap.size + 1) #[.int .i64 a, .int .i64 b, .int .i64 c] 27)
         refine ⟨?_, hk3, hk3.c, hk4, hk4.c⟩
         exact below_keep hbK (by assumption)))
    (first | (go_at_call 13; refine (lawake_calls _).mono ?_; rintro e wK ⟨rfl, hbK⟩) | (go_at_call 14; refine (lform_calls _ _ _ _).mono ?_; rintro e wK ⟨rfl, hbK⟩) | (go_at_call 20; refine (form_calls _ _ _ _).mono ?_; rintro e wK ⟨rfl, hbK⟩) | (go_at_call 16; refine (locked_calls _ _ _ _ _).mono ?_; rintro e wK ⟨rfl, hbK⟩))
  rename_i hHeld
  obtain ⟨hB1, k3, -, k4, -⟩ := hHeld
  have hB2 : Below w.heap.size w wK := hB.trans (hB1.mono hB.size)
  clear hB hB1
  have k3c := k3.c; have k3f := k3.f; have k3l := k3.lt
  have k4c := k4.c; have k4f := k4.f; have k4l := k4.lt
  go_wp2_with fail
  refine (right_open a b c n _ hc).mono ?_
  rintro e wR ⟨rfl, hbR⟩
  replace k3 := k3.below hbR k3.lt; have k3c := k3.c; have k3f := k3.f; have k3l := k3.lt
  replace k4 := k4.below hbR k4.lt; have k4c := k4.c; have k4f := k4.f; have k4l := k4.lt
  have hB3 := below_keep hbR hB2
  clear hB2 hbR
  go_wp2_with fail
  refine (wrong_at m i f ⟨a, b, c⟩ n _ _ hr.out _).mono ?_
  rintro e wW ⟨rfl, hbW⟩
  replace k3 := At.keep hbW (k3.alloc _)
  replace k4 := At.keep hbW (k4.alloc _)
  have hB4 : Below w.heap.size w wW := below_keep hbW (hB3.alloc hB3.size _)
  clear hB3 hbW
  have k3c := k3.c; have k3f := k3.f; have k3l := k3.lt
  have k4c := k4.c; have k4f := k4.f; have k4l := k4.lt
  go_wp2_with fail
  have k9 := At.new wW #[.int .i64 0, .int .i64 0, .int .i64 0] 27
  refine (lform_calls _ _ _ _).mono ?_
  rintro e wF ⟨rfl, hbF⟩
  replace k3 := At.keep hbF (k3.alloc _)
  replace k4 := At.keep hbF (k4.alloc _)
  replace k9 := At.keep hbF k9
  have hB5 : Below w.heap.size w wF := below_keep hbF (hB4.alloc hB4.size _)
  clear hB4 hbF
  have k3c := k3.c; have k3f := k3.f; have k3l := k3.lt
  have k4c := k4.c; have k4f := k4.f; have k4l := k4.lt
  have k9c := k9.c; have k9f := k9.f; have k9l := k9.lt
  rw [h]
  go_wp2
  go_ret
  refine ⟨?_, ?_⟩
  · first | rfl | simp
  · have hwB := hB5.size
    (repeat (with_reducible first | exact Below.refl _ _ | assumption | refine Below.setCell ?_ (by first | (simp; done) | (simp; omega) | omega) _ | refine Below.alloc ?_ (by first | (simp; done) | (simp; omega) | omega) _ | refine Below.drew ?_ | refine Below.trans ?_ (Below.mono (by assumption) (by first | (simp; done) | (simp; omega) | omega))))
set_option maxRecDepth 100000 in
set_option maxHeartbeats 1000000 in
theorem steps_thib (m i f a b c n : Int) (w : World) (h : frmB m i f = true) (hn : 1099511627776 < n) (hn0 : 0 ≤ n) (hc : c ≤ n) :
    Calls Try.prog 8 #[.agg #[.int .i64 m, .int .i64 i, .int .i64 f], .agg #[.int .i64 a, .int .i64 b, .int .i64 c], .int .i64 n] w fun e w' => e = .returned (.bool true) ∧ Below w.heap.size w w' := by
  have hf' := h
  unfold frmB at hf'
  simp at hf'
  obtain ⟨⟨⟨⟨⟨m1, m2⟩, i1⟩, i2⟩, f1⟩, f2⟩ := hf'
  have hr := Lib.hid (show wrongF m i f ⟨a, b, c⟩ n = (St.zero, 1) by simp [wrongF, h, hn])
  skip
  go_enter Try.func8, Try.ntmps8
  go_wp2_with fail
  have k3 : At ((w.alloc (.cells #[.int .i64 m, .int .i64 i, .int .i64 f] 23)).alloc (.cells #[.int .i64 a, .int .i64 b, .int .i64 c] 27)) w.heap.size #[.int .i64 m, .int .i64 i, .int .i64 f] 23 := (At.new w _ _).alloc _
  have k4 : At ((w.alloc (.cells #[.int .i64 m, .int .i64 i, .int .i64 f] 23)).alloc (.cells #[.int .i64 a, .int .i64 b, .int .i64 c] 27)) (w.heap.size + 1) #[.int .i64 a, .int .i64 b, .int .i64 c] 27 := At.new' (by simp)
  have hB : Below w.heap.size w ((w.alloc (.cells #[.int .i64 m, .int .i64 i, .int .i64 f] 23)).alloc (.cells #[.int .i64 a, .int .i64 b, .int .i64 c] 27)) := by
    (repeat (with_reducible first | exact Below.refl _ _ | assumption | refine Below.setCell ?_ (by first | (simp; done) | (simp; omega) | omega) _ | refine Below.alloc ?_ (by first | (simp; done) | (simp; omega) | omega) _ | refine Below.drew ?_ | refine Below.trans ?_ (Below.mono (by assumption) (by first | (simp; done) | (simp; omega) | omega))))
  generalize ((w.alloc (.cells #[.int .i64 m, .int .i64 i, .int .i64 f] 23)).alloc (.cells #[.int .i64 a, .int .i64 b, .int .i64 c] 27)) = w0 at *
  have k3c := k3.c; have k4c := k4.c
  go_region_held3 (fun w' => Below w0.heap.size w0 w' ∧ At w' (w.heap.size) #[.int .i64 m, .int .i64 i, .int .i64 f] 23 ∧ (∀ o, w'.cell? ⟨w.heap.size, o, none⟩ = #[.int .i64 m, .int .i64 i, .int .i64 f][o]?) ∧ At w' (w.heap.size + 1) #[.int .i64 a, .int .i64 b, .int .i64 c] 27 ∧ (∀ o, w'.cell? ⟨w.heap.size + 1, o, none⟩ = #[.int .i64 a, .int .i64 b, .int .i64 c][o]?))
    (first
      | (exact ⟨(Below.refl _ _).drew, k3.drew, k3.drew.c, k4.drew, k4.drew.c⟩)
      | (go_split_ands
         have hk3 := At.keep hbK (by assumption : At _ (w.heap.size) #[.int .i64 m, .int .i64 i, .int .i64 f] 23)
         have hk4 := At.keep hbK (by assumption : At _ (w.heap.size + 1) #[.int .i64 a, .int .i64 b, .int .i64 c] 27)
         refine ⟨?_, hk3, hk3.c, hk4, hk4.c⟩
         exact below_keep hbK (by assumption)))
    (first | (go_at_call 13; refine (lawake_calls _).mono ?_; rintro e wK ⟨rfl, hbK⟩) | (go_at_call 14; refine (lform_calls _ _ _ _).mono ?_; rintro e wK ⟨rfl, hbK⟩) | (go_at_call 20; refine (form_calls _ _ _ _).mono ?_; rintro e wK ⟨rfl, hbK⟩) | (go_at_call 16; refine (locked_calls _ _ _ _ _).mono ?_; rintro e wK ⟨rfl, hbK⟩))
  rename_i hHeld
  obtain ⟨hB1, k3, -, k4, -⟩ := hHeld
  have hB2 : Below w.heap.size w wK := hB.trans (hB1.mono hB.size)
  clear hB hB1
  have k3c := k3.c; have k3f := k3.f; have k3l := k3.lt
  have k4c := k4.c; have k4f := k4.f; have k4l := k4.lt
  go_wp2_with fail
  refine (right_open a b c n _ hc).mono ?_
  rintro e wR ⟨rfl, hbR⟩
  replace k3 := k3.below hbR k3.lt; have k3c := k3.c; have k3f := k3.f; have k3l := k3.lt
  replace k4 := k4.below hbR k4.lt; have k4c := k4.c; have k4f := k4.f; have k4l := k4.lt
  have hB3 := below_keep hbR hB2
  clear hB2 hbR
  go_wp2_with fail
  refine (wrong_at m i f ⟨a, b, c⟩ n _ _ hr.out _).mono ?_
  rintro e wW ⟨rfl, hbW⟩
  replace k3 := At.keep hbW (k3.alloc _)
  replace k4 := At.keep hbW (k4.alloc _)
  have hB4 : Below w.heap.size w wW := below_keep hbW (hB3.alloc hB3.size _)
  clear hB3 hbW
  have k3c := k3.c; have k3f := k3.f; have k3l := k3.lt
  have k4c := k4.c; have k4f := k4.f; have k4l := k4.lt
  go_wp2_with fail
  have k9 := At.new wW #[.int .i64 0, .int .i64 0, .int .i64 0] 27
  refine (lform_calls _ _ _ _).mono ?_
  rintro e wF ⟨rfl, hbF⟩
  replace k3 := At.keep hbF (k3.alloc _)
  replace k4 := At.keep hbF (k4.alloc _)
  replace k9 := At.keep hbF k9
  have hB5 : Below w.heap.size w wF := below_keep hbF (hB4.alloc hB4.size _)
  clear hB4 hbF
  have k3c := k3.c; have k3f := k3.f; have k3l := k3.lt
  have k4c := k4.c; have k4f := k4.f; have k4l := k4.lt
  have k9c := k9.c; have k9f := k9.f; have k9l := k9.lt
  rw [h]
  go_wp2
  go_ret
  refine ⟨?_, ?_⟩
  · first | rfl | simp
  · have hwB := hB5.size
    (repeat (with_reducible first | exact Below.refl _ _ | assumption | refine Below.setCell ?_ (by first | (simp; done) | (simp; omega) | omega) _ | refine Below.alloc ?_ (by first | (simp; done) | (simp; omega) | omega) _ | refine Below.drew ?_ | refine Below.trans ?_ (Below.mono (by assumption) (by first | (simp; done) | (simp; omega) | omega))))
set_option maxRecDepth 100000 in
set_option maxHeartbeats 1000000 in
theorem steps_held (m i f a b c n : Int) (w : World) (h : frmB m i f = true) (n1 : 0 ≤ n) (n2 : n ≤ 1099511627776) (hc : n < c) :
    Calls Try.prog 8 #[.agg #[.int .i64 m, .int .i64 i, .int .i64 f], .agg #[.int .i64 a, .int .i64 b, .int .i64 c], .int .i64 n] w fun e w' => e = .returned (.bool true) ∧ Below w.heap.size w w' := by
  have hf' := h
  unfold frmB at hf'
  simp at hf'
  obtain ⟨⟨⟨⟨⟨m1, m2⟩, i1⟩, i2⟩, f1⟩, f2⟩ := hf'
  have hr := Lib.hid (show wrongF m i f ⟨a, b, c⟩ n = (⟨a, b, c⟩, 0) by unfold wrongF; rw [if_neg (by simp [h]; omega), if_pos hc])
  skip
  go_enter Try.func8, Try.ntmps8
  go_wp2_with fail
  have k3 : At ((w.alloc (.cells #[.int .i64 m, .int .i64 i, .int .i64 f] 23)).alloc (.cells #[.int .i64 a, .int .i64 b, .int .i64 c] 27)) w.heap.size #[.int .i64 m, .int .i64 i, .int .i64 f] 23 := (At.new w _ _).alloc _
  have k4 : At ((w.alloc (.cells #[.int .i64 m, .int .i64 i, .int .i64 f] 23)).alloc (.cells #[.int .i64 a, .int .i64 b, .int .i64 c] 27)) (w.heap.size + 1) #[.int .i64 a, .int .i64 b, .int .i64 c] 27 := At.new' (by simp)
  have hB : Below w.heap.size w ((w.alloc (.cells #[.int .i64 m, .int .i64 i, .int .i64 f] 23)).alloc (.cells #[.int .i64 a, .int .i64 b, .int .i64 c] 27)) := by
    (repeat (with_reducible first | exact Below.refl _ _ | assumption | refine Below.setCell ?_ (by first | (simp; done) | (simp; omega) | omega) _ | refine Below.alloc ?_ (by first | (simp; done) | (simp; omega) | omega) _ | refine Below.drew ?_ | refine Below.trans ?_ (Below.mono (by assumption) (by first | (simp; done) | (simp; omega) | omega))))
  generalize ((w.alloc (.cells #[.int .i64 m, .int .i64 i, .int .i64 f] 23)).alloc (.cells #[.int .i64 a, .int .i64 b, .int .i64 c] 27)) = w0 at *
  have k3c := k3.c; have k4c := k4.c
  go_region_held3 (fun w' => Below w0.heap.size w0 w' ∧ At w' (w.heap.size) #[.int .i64 m, .int .i64 i, .int .i64 f] 23 ∧ (∀ o, w'.cell? ⟨w.heap.size, o, none⟩ = #[.int .i64 m, .int .i64 i, .int .i64 f][o]?) ∧ At w' (w.heap.size + 1) #[.int .i64 a, .int .i64 b, .int .i64 c] 27 ∧ (∀ o, w'.cell? ⟨w.heap.size + 1, o, none⟩ = #[.int .i64 a, .int .i64 b, .int .i64 c][o]?))
    (first
      | (exact ⟨(Below.refl _ _).drew, k3.drew, k3.drew.c, k4.drew, k4.drew.c⟩)
      | (go_split_ands
         have hk3 := At.keep hbK (by assumption : At _ (w.heap.size) #[.int .i64 m, .int .i64 i, .int .i64 f] 23)
         have hk4 := At.keep hbK (by assumption : At _ (w.heap.size + 1) #[.int .i64 a, .int .i64 b, .int .i64 c] 27)
         refine ⟨?_, hk3, hk3.c, hk4, hk4.c⟩
         exact below_keep hbK (by assumption)))
    (first | (go_at_call 13; refine (lawake_calls _).mono ?_; rintro e wK ⟨rfl, hbK⟩) | (go_at_call 14; refine (lform_calls _ _ _ _).mono ?_; rintro e wK ⟨rfl, hbK⟩) | (go_at_call 20; refine (form_calls _ _ _ _).mono ?_; rintro e wK ⟨rfl, hbK⟩) | (go_at_call 16; refine (locked_calls _ _ _ _ _).mono ?_; rintro e wK ⟨rfl, hbK⟩))
  rename_i hHeld
  obtain ⟨hB1, k3, -, k4, -⟩ := hHeld
  have hB2 : Below w.heap.size w wK := hB.trans (hB1.mono hB.size)
  clear hB hB1
  have k3c := k3.c; have k3f := k3.f; have k3l := k3.lt
  have k4c := k4.c; have k4f := k4.f; have k4l := k4.lt
  go_wp2_with fail
  refine (right_lock a b c n _ hc).mono ?_
  rintro e wR ⟨rfl, hbR⟩
  replace k3 := k3.below hbR k3.lt; have k3c := k3.c; have k3f := k3.f; have k3l := k3.lt
  replace k4 := k4.below hbR k4.lt; have k4c := k4.c; have k4f := k4.f; have k4l := k4.lt
  have hB3 := below_keep hbR hB2
  clear hB2 hbR
  go_wp2_with fail
  refine (wrong_at m i f ⟨a, b, c⟩ n _ _ hr.out _).mono ?_
  rintro e wW ⟨rfl, hbW⟩
  replace k3 := At.keep hbW (k3.alloc _)
  replace k4 := At.keep hbW (k4.alloc _)
  have hB4 : Below w.heap.size w wW := below_keep hbW (hB3.alloc hB3.size _)
  clear hB3 hbW
  have k3c := k3.c; have k3f := k3.f; have k3l := k3.lt
  have k4c := k4.c; have k4f := k4.f; have k4l := k4.lt
  go_wp2_with fail
  have k9 := At.new wW #[.int .i64 a, .int .i64 b, .int .i64 c] 27
  refine (lform_calls _ _ _ _).mono ?_
  rintro e wF ⟨rfl, hbF⟩
  replace k3 := At.keep hbF (k3.alloc _)
  replace k4 := At.keep hbF (k4.alloc _)
  replace k9 := At.keep hbF k9
  have hB5 : Below w.heap.size w wF := below_keep hbF (hB4.alloc hB4.size _)
  clear hB4 hbF
  have k3c := k3.c; have k3f := k3.f; have k3l := k3.lt
  have k4c := k4.c; have k4f := k4.f; have k4l := k4.lt
  have k9c := k9.c; have k9f := k9.f; have k9l := k9.lt
  rw [h]
  go_wp2
  go_ret
  refine ⟨?_, ?_⟩
  · first | rfl | simp
  · have hwB := hB5.size
    (repeat (with_reducible first | exact Below.refl _ _ | assumption | refine Below.setCell ?_ (by first | (simp; done) | (simp; omega) | omega) _ | refine Below.alloc ?_ (by first | (simp; done) | (simp; omega) | omega) _ | refine Below.drew ?_ | refine Below.trans ?_ (Below.mono (by assumption) (by first | (simp; done) | (simp; omega) | omega))))
set_option maxRecDepth 100000 in
set_option maxHeartbeats 1000000 in
theorem steps_lockx (m i f a b c n : Int) (w : World) (h : frmB m i f = true) (n1 : 0 ≤ n) (n2 : n ≤ 1099511627776) (hc : c ≤ n) (ho : a < 1) (hm : m ≤ 1) :
    Calls Try.prog 8 #[.agg #[.int .i64 m, .int .i64 i, .int .i64 f], .agg #[.int .i64 a, .int .i64 b, .int .i64 c], .int .i64 n] w fun e w' => e = .returned (.bool true) ∧ Below w.heap.size w w' := by
  have hf' := h
  unfold frmB at hf'
  simp at hf'
  obtain ⟨⟨⟨⟨⟨m1, m2⟩, i1⟩, i2⟩, f1⟩, f2⟩ := hf'
  have wn : wrap64 (n - i) = n - i := by unfold wrap64; omega
  have hr := Lib.hid (show wrongF m i f ⟨a, b, c⟩ n = (⟨0, 0, n + f⟩, 0) by unfold wrongF; rw [if_neg (by simp [h]; omega), if_neg (by simp only; omega), wn]; simp only; rw [if_pos (by omega), if_pos hm])
  clear wn
  have ha := decide_eq_true ho; clear ho; have hm0 : decide (m - 1 ≤ 0) = true := decide_eq_true (by omega); have hm1 := decide_eq_true hm; clear hm
  go_enter Try.func8, Try.ntmps8
  go_wp2_with fail
  have k3 : At ((w.alloc (.cells #[.int .i64 m, .int .i64 i, .int .i64 f] 23)).alloc (.cells #[.int .i64 a, .int .i64 b, .int .i64 c] 27)) w.heap.size #[.int .i64 m, .int .i64 i, .int .i64 f] 23 := (At.new w _ _).alloc _
  have k4 : At ((w.alloc (.cells #[.int .i64 m, .int .i64 i, .int .i64 f] 23)).alloc (.cells #[.int .i64 a, .int .i64 b, .int .i64 c] 27)) (w.heap.size + 1) #[.int .i64 a, .int .i64 b, .int .i64 c] 27 := At.new' (by simp)
  have hB : Below w.heap.size w ((w.alloc (.cells #[.int .i64 m, .int .i64 i, .int .i64 f] 23)).alloc (.cells #[.int .i64 a, .int .i64 b, .int .i64 c] 27)) := by
    (repeat (with_reducible first | exact Below.refl _ _ | assumption | refine Below.setCell ?_ (by first | (simp; done) | (simp; omega) | omega) _ | refine Below.alloc ?_ (by first | (simp; done) | (simp; omega) | omega) _ | refine Below.drew ?_ | refine Below.trans ?_ (Below.mono (by assumption) (by first | (simp; done) | (simp; omega) | omega))))
  generalize ((w.alloc (.cells #[.int .i64 m, .int .i64 i, .int .i64 f] 23)).alloc (.cells #[.int .i64 a, .int .i64 b, .int .i64 c] 27)) = w0 at *
  have k3c := k3.c; have k4c := k4.c
  go_region_held3 (fun w' => Below w0.heap.size w0 w' ∧ At w' (w.heap.size) #[.int .i64 m, .int .i64 i, .int .i64 f] 23 ∧ (∀ o, w'.cell? ⟨w.heap.size, o, none⟩ = #[.int .i64 m, .int .i64 i, .int .i64 f][o]?) ∧ At w' (w.heap.size + 1) #[.int .i64 a, .int .i64 b, .int .i64 c] 27 ∧ (∀ o, w'.cell? ⟨w.heap.size + 1, o, none⟩ = #[.int .i64 a, .int .i64 b, .int .i64 c][o]?))
    (first
      | (exact ⟨(Below.refl _ _).drew, k3.drew, k3.drew.c, k4.drew, k4.drew.c⟩)
      | (go_split_ands
         have hk3 := At.keep hbK (by assumption : At _ (w.heap.size) #[.int .i64 m, .int .i64 i, .int .i64 f] 23)
         have hk4 := At.keep hbK (by assumption : At _ (w.heap.size + 1) #[.int .i64 a, .int .i64 b, .int .i64 c] 27)
         refine ⟨?_, hk3, hk3.c, hk4, hk4.c⟩
         exact below_keep hbK (by assumption)))
    (first | (go_at_call 13; refine (lawake_calls _).mono ?_; rintro e wK ⟨rfl, hbK⟩) | (go_at_call 14; refine (lform_calls _ _ _ _).mono ?_; rintro e wK ⟨rfl, hbK⟩) | (go_at_call 20; refine (form_calls _ _ _ _).mono ?_; rintro e wK ⟨rfl, hbK⟩) | (go_at_call 16; refine (locked_calls _ _ _ _ _).mono ?_; rintro e wK ⟨rfl, hbK⟩))
  rename_i hHeld
  obtain ⟨hB1, k3, -, k4, -⟩ := hHeld
  have hB2 : Below w.heap.size w wK := hB.trans (hB1.mono hB.size)
  clear hB hB1
  have k3c := k3.c; have k3f := k3.f; have k3l := k3.lt
  have k4c := k4.c; have k4f := k4.f; have k4l := k4.lt
  go_wp2_with fail
  refine (right_open a b c n _ hc).mono ?_
  rintro e wR ⟨rfl, hbR⟩
  replace k3 := k3.below hbR k3.lt; have k3c := k3.c; have k3f := k3.f; have k3l := k3.lt
  replace k4 := k4.below hbR k4.lt; have k4c := k4.c; have k4f := k4.f; have k4l := k4.lt
  have hB3 := below_keep hbR hB2
  clear hB2 hbR
  go_wp2_with fail
  refine (wrong_at m i f ⟨a, b, c⟩ n _ _ hr.out _).mono ?_
  rintro e wW ⟨rfl, hbW⟩
  replace k3 := At.keep hbW (k3.alloc _)
  replace k4 := At.keep hbW (k4.alloc _)
  have hB4 : Below w.heap.size w wW := below_keep hbW (hB3.alloc hB3.size _)
  clear hB3 hbW
  have k3c := k3.c; have k3f := k3.f; have k3l := k3.lt
  have k4c := k4.c; have k4f := k4.f; have k4l := k4.lt
  go_wp2_with fail
  have k9 := At.new wW #[.int .i64 0, .int .i64 0, .int .i64 (n + f)] 27
  refine (lform_calls _ _ _ _).mono ?_
  rintro e wF ⟨rfl, hbF⟩
  replace k3 := At.keep hbF (k3.alloc _)
  replace k4 := At.keep hbF (k4.alloc _)
  replace k9 := At.keep hbF k9
  have hB5 : Below w.heap.size w wF := below_keep hbF (hB4.alloc hB4.size _)
  clear hB4 hbF
  have k3c := k3.c; have k3f := k3.f; have k3l := k3.lt
  have k4c := k4.c; have k4f := k4.f; have k4l := k4.lt
  have k9c := k9.c; have k9f := k9.f; have k9l := k9.lt
  rw [h]
  go_wp2
  go_ret
  refine ⟨?_, ?_⟩
  · first | rfl | simp
  · have hwB := hB5.size
    (repeat (with_reducible first | exact Below.refl _ _ | assumption | refine Below.setCell ?_ (by first | (simp; done) | (simp; omega) | omega) _ | refine Below.alloc ?_ (by first | (simp; done) | (simp; omega) | omega) _ | refine Below.drew ?_ | refine Below.trans ?_ (Below.mono (by assumption) (by first | (simp; done) | (simp; omega) | omega))))
set_option maxRecDepth 100000 in
set_option maxHeartbeats 1000000 in
theorem steps_newx (m i f a b c n : Int) (w : World) (h : frmB m i f = true) (ho : a < 1) (n1 : 0 ≤ n) (n2 : n ≤ 1099511627776) (hc : c ≤ n) (hm : 1 < m) :
    Calls Try.prog 8 #[.agg #[.int .i64 m, .int .i64 i, .int .i64 f], .agg #[.int .i64 a, .int .i64 b, .int .i64 c], .int .i64 n] w fun e w' => e = .returned (.bool true) ∧ Below w.heap.size w w' := by
  have hf' := h
  unfold frmB at hf'
  simp at hf'
  obtain ⟨⟨⟨⟨⟨m1, m2⟩, i1⟩, i2⟩, f1⟩, f2⟩ := hf'
  have wn : wrap64 (n - i) = n - i := by unfold wrap64; omega
  have hr := Lib.hid (show wrongF m i f ⟨a, b, c⟩ n = (⟨1, n, 0⟩, 0) by
    unfold wrongF; rw [if_neg (by simp [h]; omega), if_neg (by simp only; omega), wn]; simp only; rw [if_pos (by omega), if_neg (by omega)])
  clear wn
  have ha := decide_eq_true ho; clear ho
  go_enter Try.func8, Try.ntmps8
  go_wp2_with fail
  have k3 : At ((w.alloc (.cells #[.int .i64 m, .int .i64 i, .int .i64 f] 23)).alloc (.cells #[.int .i64 a, .int .i64 b, .int .i64 c] 27)) w.heap.size #[.int .i64 m, .int .i64 i, .int .i64 f] 23 := (At.new w _ _).alloc _
  have k4 : At ((w.alloc (.cells #[.int .i64 m, .int .i64 i, .int .i64 f] 23)).alloc (.cells #[.int .i64 a, .int .i64 b, .int .i64 c] 27)) (w.heap.size + 1) #[.int .i64 a, .int .i64 b, .int .i64 c] 27 := At.new' (by simp)
  have hB : Below w.heap.size w ((w.alloc (.cells #[.int .i64 m, .int .i64 i, .int .i64 f] 23)).alloc (.cells #[.int .i64 a, .int .i64 b, .int .i64 c] 27)) := by
    (repeat (with_reducible first | exact Below.refl _ _ | assumption | refine Below.setCell ?_ (by first | (simp; done) | (simp; omega) | omega) _ | refine Below.alloc ?_ (by first | (simp; done) | (simp; omega) | omega) _ | refine Below.drew ?_ | refine Below.trans ?_ (Below.mono (by assumption) (by first | (simp; done) | (simp; omega) | omega))))
  generalize ((w.alloc (.cells #[.int .i64 m, .int .i64 i, .int .i64 f] 23)).alloc (.cells #[.int .i64 a, .int .i64 b, .int .i64 c] 27)) = w0 at *
  have k3c := k3.c; have k4c := k4.c
  go_region_held3 (fun w' => Below w0.heap.size w0 w' ∧ At w' (w.heap.size) #[.int .i64 m, .int .i64 i, .int .i64 f] 23 ∧ (∀ o, w'.cell? ⟨w.heap.size, o, none⟩ = #[.int .i64 m, .int .i64 i, .int .i64 f][o]?) ∧ At w' (w.heap.size + 1) #[.int .i64 a, .int .i64 b, .int .i64 c] 27 ∧ (∀ o, w'.cell? ⟨w.heap.size + 1, o, none⟩ = #[.int .i64 a, .int .i64 b, .int .i64 c][o]?))
    (first
      | (exact ⟨(Below.refl _ _).drew, k3.drew, k3.drew.c, k4.drew, k4.drew.c⟩)
      | (go_split_ands
         have hk3 := At.keep hbK (by assumption : At _ (w.heap.size) #[.int .i64 m, .int .i64 i, .int .i64 f] 23)
         have hk4 := At.keep hbK (by assumption : At _ (w.heap.size + 1) #[.int .i64 a, .int .i64 b, .int .i64 c] 27)
         refine ⟨?_, hk3, hk3.c, hk4, hk4.c⟩
         exact below_keep hbK (by assumption)))
    (first | (go_at_call 13; refine (lawake_calls _).mono ?_; rintro e wK ⟨rfl, hbK⟩) | (go_at_call 14; refine (lform_calls _ _ _ _).mono ?_; rintro e wK ⟨rfl, hbK⟩) | (go_at_call 20; refine (form_calls _ _ _ _).mono ?_; rintro e wK ⟨rfl, hbK⟩) | (go_at_call 16; refine (locked_calls _ _ _ _ _).mono ?_; rintro e wK ⟨rfl, hbK⟩))
  rename_i hHeld
  obtain ⟨hB1, k3, -, k4, -⟩ := hHeld
  have hB2 : Below w.heap.size w wK := hB.trans (hB1.mono hB.size)
  clear hB hB1
  have k3c := k3.c; have k3f := k3.f; have k3l := k3.lt
  have k4c := k4.c; have k4f := k4.f; have k4l := k4.lt
  go_wp2_with fail
  refine (right_open a b c n _ hc).mono ?_
  rintro e wR ⟨rfl, hbR⟩
  replace k3 := k3.below hbR k3.lt; have k3c := k3.c; have k3f := k3.f; have k3l := k3.lt
  replace k4 := k4.below hbR k4.lt; have k4c := k4.c; have k4f := k4.f; have k4l := k4.lt
  have hB3 := below_keep hbR hB2
  clear hB2 hbR
  go_wp2_with fail
  refine (wrong_at m i f ⟨a, b, c⟩ n _ _ hr.out _).mono ?_
  rintro e wW ⟨rfl, hbW⟩
  replace k3 := At.keep hbW (k3.alloc _)
  replace k4 := At.keep hbW (k4.alloc _)
  have hB4 : Below w.heap.size w wW := below_keep hbW (hB3.alloc hB3.size _)
  clear hB3 hbW
  have k3c := k3.c; have k3f := k3.f; have k3l := k3.lt
  have k4c := k4.c; have k4f := k4.f; have k4l := k4.lt
  go_wp2_with fail
  have k9 := At.new wW #[.int .i64 1, .int .i64 n, .int .i64 0] 27
  refine (lform_calls _ _ _ _).mono ?_
  rintro e wF ⟨rfl, hbF⟩
  replace k3 := At.keep hbF (k3.alloc _)
  replace k4 := At.keep hbF (k4.alloc _)
  replace k9 := At.keep hbF k9
  have hB5 : Below w.heap.size w wF := below_keep hbF (hB4.alloc hB4.size _)
  clear hB4 hbF
  have k3c := k3.c; have k3f := k3.f; have k3l := k3.lt
  have k4c := k4.c; have k4f := k4.f; have k4l := k4.lt
  have k9c := k9.c; have k9f := k9.f; have k9l := k9.lt
  rw [h]
  go_upto_region 18 with (fail)
  generalize hw5 : World.alloc wF _ = w5
  have k11 : At w5 wF.heap.size #[.int .i64 0, .int .i64 n, .int .i64 0] 27 := by
    rw [← hw5]; exact At.new _ _ _
  have hwF : w.heap.size < wF.heap.size := k3l
  have n3 : w.heap.size ≠ wF.heap.size := Nat.ne_of_lt k3l
  have n9 : wW.heap.size ≠ wF.heap.size := Nat.ne_of_lt k9l
  replace k3 : At w5 w.heap.size #[.int .i64 m, .int .i64 i, .int .i64 f] 23 := by
    rw [← hw5]; exact k3.alloc _
  replace k9 : At w5 wW.heap.size #[.int .i64 1, .int .i64 n, .int .i64 0] 27 := by
    rw [← hw5]; exact k9.alloc _
  have hB6 : Below w.heap.size w w5 := by
    rw [← hw5]; exact hB5.alloc hB5.size _
  clear hw5 k3c k3f k3l k4c k4f k4l k9c k9f k9l k4
  obtain ⟨z, z0, k11⟩ : ∃ z : Int, z = 0 ∧ At w5 wF.heap.size #[.int .i64 z, .int .i64 n, .int .i64 0] 27 := ⟨0, rfl, k11⟩
  have z1 : 0 ≤ z := by omega
  have z2 : z ≤ 0 := by omega
  have hz0 := Lib.hid z0
  clear z0
  have hm' : z < m - 1 := by omega
  have hq : (1 == z + 1) = true := by rw [hz0.out]; rfl
  have hwB := hB6.size
  have k3c := k3.c; have k3f := k3.f; have k3l := k3.lt
  have k9c := k9.c; have k9f := k9.f; have k9l := k9.lt
  have k11c := k11.c; have k11f := k11.f; have k11l := k11.lt
  go_wp2
  go_ret
  refine ⟨?_, ?_⟩
  · simp [hz0.out]
  · exact hB6.setCell (by simp; omega) _
set_option maxRecDepth 100000 in
set_option maxHeartbeats 1000000 in
theorem steps_locky (m i f a b c n : Int) (w : World) (h : frmB m i f = true) (n1 : 0 ≤ n) (n2 : n ≤ 1099511627776) (hc : c ≤ n) (hp : 1 ≤ a) (ho : n < b) (hm : m ≤ 1) :
    Calls Try.prog 8 #[.agg #[.int .i64 m, .int .i64 i, .int .i64 f], .agg #[.int .i64 a, .int .i64 b, .int .i64 c], .int .i64 n] w fun e w' => e = .returned (.bool true) ∧ Below w.heap.size w w' := by
  have hf' := h
  unfold frmB at hf'
  simp at hf'
  obtain ⟨⟨⟨⟨⟨m1, m2⟩, i1⟩, i2⟩, f1⟩, f2⟩ := hf'
  have wn : wrap64 (n - i) = n - i := by unfold wrap64; omega
  have hr := Lib.hid (show wrongF m i f ⟨a, b, c⟩ n = (⟨0, 0, n + f⟩, 0) by unfold wrongF; rw [if_neg (by simp [h]; omega), if_neg (by simp only; omega), wn]; simp only; rw [if_pos (by omega), if_pos hm])
  clear wn
  have ha : decide (a < 1) = false := decide_eq_false (by omega); have hb := decide_eq_true ho; clear ho hp; have hm0 : decide (m - 1 ≤ 0) = true := decide_eq_true (by omega); have hm1 := decide_eq_true hm; clear hm
  go_enter Try.func8, Try.ntmps8
  go_wp2_with fail
  have k3 : At ((w.alloc (.cells #[.int .i64 m, .int .i64 i, .int .i64 f] 23)).alloc (.cells #[.int .i64 a, .int .i64 b, .int .i64 c] 27)) w.heap.size #[.int .i64 m, .int .i64 i, .int .i64 f] 23 := (At.new w _ _).alloc _
  have k4 : At ((w.alloc (.cells #[.int .i64 m, .int .i64 i, .int .i64 f] 23)).alloc (.cells #[.int .i64 a, .int .i64 b, .int .i64 c] 27)) (w.heap.size + 1) #[.int .i64 a, .int .i64 b, .int .i64 c] 27 := At.new' (by simp)
  have hB : Below w.heap.size w ((w.alloc (.cells #[.int .i64 m, .int .i64 i, .int .i64 f] 23)).alloc (.cells #[.int .i64 a, .int .i64 b, .int .i64 c] 27)) := by
    (repeat (with_reducible first | exact Below.refl _ _ | assumption | refine Below.setCell ?_ (by first | (simp; done) | (simp; omega) | omega) _ | refine Below.alloc ?_ (by first | (simp; done) | (simp; omega) | omega) _ | refine Below.drew ?_ | refine Below.trans ?_ (Below.mono (by assumption) (by first | (simp; done) | (simp; omega) | omega))))
  generalize ((w.alloc (.cells #[.int .i64 m, .int .i64 i, .int .i64 f] 23)).alloc (.cells #[.int .i64 a, .int .i64 b, .int .i64 c] 27)) = w0 at *
  have k3c := k3.c; have k4c := k4.c
  go_region_held3 (fun w' => Below w0.heap.size w0 w' ∧ At w' (w.heap.size) #[.int .i64 m, .int .i64 i, .int .i64 f] 23 ∧ (∀ o, w'.cell? ⟨w.heap.size, o, none⟩ = #[.int .i64 m, .int .i64 i, .int .i64 f][o]?) ∧ At w' (w.heap.size + 1) #[.int .i64 a, .int .i64 b, .int .i64 c] 27 ∧ (∀ o, w'.cell? ⟨w.heap.size + 1, o, none⟩ = #[.int .i64 a, .int .i64 b, .int .i64 c][o]?))
    (first
      | (exact ⟨(Below.refl _ _).drew, k3.drew, k3.drew.c, k4.drew, k4.drew.c⟩)
      | (go_split_ands
         have hk3 := At.keep hbK (by assumption : At _ (w.heap.size) #[.int .i64 m, .int .i64 i, .int .i64 f] 23)
         have hk4 := At.keep hbK (by assumption : At _ (w.heap.size + 1) #[.int .i64 a, .int .i64 b, .int .i64 c] 27)
         refine ⟨?_, hk3, hk3.c, hk4, hk4.c⟩
         exact below_keep hbK (by assumption)))
    (first | (go_at_call 13; refine (lawake_calls _).mono ?_; rintro e wK ⟨rfl, hbK⟩) | (go_at_call 14; refine (lform_calls _ _ _ _).mono ?_; rintro e wK ⟨rfl, hbK⟩) | (go_at_call 20; refine (form_calls _ _ _ _).mono ?_; rintro e wK ⟨rfl, hbK⟩) | (go_at_call 16; refine (locked_calls _ _ _ _ _).mono ?_; rintro e wK ⟨rfl, hbK⟩))
  rename_i hHeld
  obtain ⟨hB1, k3, -, k4, -⟩ := hHeld
  have hB2 : Below w.heap.size w wK := hB.trans (hB1.mono hB.size)
  clear hB hB1
  have k3c := k3.c; have k3f := k3.f; have k3l := k3.lt
  have k4c := k4.c; have k4f := k4.f; have k4l := k4.lt
  go_wp2_with fail
  refine (right_open a b c n _ hc).mono ?_
  rintro e wR ⟨rfl, hbR⟩
  replace k3 := k3.below hbR k3.lt; have k3c := k3.c; have k3f := k3.f; have k3l := k3.lt
  replace k4 := k4.below hbR k4.lt; have k4c := k4.c; have k4f := k4.f; have k4l := k4.lt
  have hB3 := below_keep hbR hB2
  clear hB2 hbR
  go_wp2_with fail
  refine (wrong_at m i f ⟨a, b, c⟩ n _ _ hr.out _).mono ?_
  rintro e wW ⟨rfl, hbW⟩
  replace k3 := At.keep hbW (k3.alloc _)
  replace k4 := At.keep hbW (k4.alloc _)
  have hB4 : Below w.heap.size w wW := below_keep hbW (hB3.alloc hB3.size _)
  clear hB3 hbW
  have k3c := k3.c; have k3f := k3.f; have k3l := k3.lt
  have k4c := k4.c; have k4f := k4.f; have k4l := k4.lt
  go_wp2_with fail
  have k9 := At.new wW #[.int .i64 0, .int .i64 0, .int .i64 (n + f)] 27
  refine (lform_calls _ _ _ _).mono ?_
  rintro e wF ⟨rfl, hbF⟩
  replace k3 := At.keep hbF (k3.alloc _)
  replace k4 := At.keep hbF (k4.alloc _)
  replace k9 := At.keep hbF k9
  have hB5 : Below w.heap.size w wF := below_keep hbF (hB4.alloc hB4.size _)
  clear hB4 hbF
  have k3c := k3.c; have k3f := k3.f; have k3l := k3.lt
  have k4c := k4.c; have k4f := k4.f; have k4l := k4.lt
  have k9c := k9.c; have k9f := k9.f; have k9l := k9.lt
  rw [h]
  go_wp2
  go_ret
  refine ⟨?_, ?_⟩
  · first | rfl | simp
  · have hwB := hB5.size
    (repeat (with_reducible first | exact Below.refl _ _ | assumption | refine Below.setCell ?_ (by first | (simp; done) | (simp; omega) | omega) _ | refine Below.alloc ?_ (by first | (simp; done) | (simp; omega) | omega) _ | refine Below.drew ?_ | refine Below.trans ?_ (Below.mono (by assumption) (by first | (simp; done) | (simp; omega) | omega))))
set_option maxRecDepth 100000 in
set_option maxHeartbeats 1000000 in
theorem steps_newy (m i f a b c n : Int) (w : World) (h : frmB m i f = true) (hp : 1 ≤ a) (ho : n < b) (n1 : 0 ≤ n) (n2 : n ≤ 1099511627776) (hc : c ≤ n) (hm : 1 < m) :
    Calls Try.prog 8 #[.agg #[.int .i64 m, .int .i64 i, .int .i64 f], .agg #[.int .i64 a, .int .i64 b, .int .i64 c], .int .i64 n] w fun e w' => e = .returned (.bool true) ∧ Below w.heap.size w w' := by
  have hf' := h
  unfold frmB at hf'
  simp at hf'
  obtain ⟨⟨⟨⟨⟨m1, m2⟩, i1⟩, i2⟩, f1⟩, f2⟩ := hf'
  have wn : wrap64 (n - i) = n - i := by unfold wrap64; omega
  have hr := Lib.hid (show wrongF m i f ⟨a, b, c⟩ n = (⟨1, n, 0⟩, 0) by
    unfold wrongF; rw [if_neg (by simp [h]; omega), if_neg (by simp only; omega), wn]; simp only; rw [if_pos (by omega), if_neg (by omega)])
  clear wn
  have ha : decide (a < 1) = false := decide_eq_false (by omega); have hb := decide_eq_true ho; clear ho hp
  go_enter Try.func8, Try.ntmps8
  go_wp2_with fail
  have k3 : At ((w.alloc (.cells #[.int .i64 m, .int .i64 i, .int .i64 f] 23)).alloc (.cells #[.int .i64 a, .int .i64 b, .int .i64 c] 27)) w.heap.size #[.int .i64 m, .int .i64 i, .int .i64 f] 23 := (At.new w _ _).alloc _
  have k4 : At ((w.alloc (.cells #[.int .i64 m, .int .i64 i, .int .i64 f] 23)).alloc (.cells #[.int .i64 a, .int .i64 b, .int .i64 c] 27)) (w.heap.size + 1) #[.int .i64 a, .int .i64 b, .int .i64 c] 27 := At.new' (by simp)
  have hB : Below w.heap.size w ((w.alloc (.cells #[.int .i64 m, .int .i64 i, .int .i64 f] 23)).alloc (.cells #[.int .i64 a, .int .i64 b, .int .i64 c] 27)) := by
    (repeat (with_reducible first | exact Below.refl _ _ | assumption | refine Below.setCell ?_ (by first | (simp; done) | (simp; omega) | omega) _ | refine Below.alloc ?_ (by first | (simp; done) | (simp; omega) | omega) _ | refine Below.drew ?_ | refine Below.trans ?_ (Below.mono (by assumption) (by first | (simp; done) | (simp; omega) | omega))))
  generalize ((w.alloc (.cells #[.int .i64 m, .int .i64 i, .int .i64 f] 23)).alloc (.cells #[.int .i64 a, .int .i64 b, .int .i64 c] 27)) = w0 at *
  have k3c := k3.c; have k4c := k4.c
  go_region_held3 (fun w' => Below w0.heap.size w0 w' ∧ At w' (w.heap.size) #[.int .i64 m, .int .i64 i, .int .i64 f] 23 ∧ (∀ o, w'.cell? ⟨w.heap.size, o, none⟩ = #[.int .i64 m, .int .i64 i, .int .i64 f][o]?) ∧ At w' (w.heap.size + 1) #[.int .i64 a, .int .i64 b, .int .i64 c] 27 ∧ (∀ o, w'.cell? ⟨w.heap.size + 1, o, none⟩ = #[.int .i64 a, .int .i64 b, .int .i64 c][o]?))
    (first
      | (exact ⟨(Below.refl _ _).drew, k3.drew, k3.drew.c, k4.drew, k4.drew.c⟩)
      | (go_split_ands
         have hk3 := At.keep hbK (by assumption : At _ (w.heap.size) #[.int .i64 m, .int .i64 i, .int .i64 f] 23)
         have hk4 := At.keep hbK (by assumption : At _ (w.heap.size + 1) #[.int .i64 a, .int .i64 b, .int .i64 c] 27)
         refine ⟨?_, hk3, hk3.c, hk4, hk4.c⟩
         exact below_keep hbK (by assumption)))
    (first | (go_at_call 13; refine (lawake_calls _).mono ?_; rintro e wK ⟨rfl, hbK⟩) | (go_at_call 14; refine (lform_calls _ _ _ _).mono ?_; rintro e wK ⟨rfl, hbK⟩) | (go_at_call 20; refine (form_calls _ _ _ _).mono ?_; rintro e wK ⟨rfl, hbK⟩) | (go_at_call 16; refine (locked_calls _ _ _ _ _).mono ?_; rintro e wK ⟨rfl, hbK⟩))
  rename_i hHeld
  obtain ⟨hB1, k3, -, k4, -⟩ := hHeld
  have hB2 : Below w.heap.size w wK := hB.trans (hB1.mono hB.size)
  clear hB hB1
  have k3c := k3.c; have k3f := k3.f; have k3l := k3.lt
  have k4c := k4.c; have k4f := k4.f; have k4l := k4.lt
  go_wp2_with fail
  refine (right_open a b c n _ hc).mono ?_
  rintro e wR ⟨rfl, hbR⟩
  replace k3 := k3.below hbR k3.lt; have k3c := k3.c; have k3f := k3.f; have k3l := k3.lt
  replace k4 := k4.below hbR k4.lt; have k4c := k4.c; have k4f := k4.f; have k4l := k4.lt
  have hB3 := below_keep hbR hB2
  clear hB2 hbR
  go_wp2_with fail
  refine (wrong_at m i f ⟨a, b, c⟩ n _ _ hr.out _).mono ?_
  rintro e wW ⟨rfl, hbW⟩
  replace k3 := At.keep hbW (k3.alloc _)
  replace k4 := At.keep hbW (k4.alloc _)
  have hB4 : Below w.heap.size w wW := below_keep hbW (hB3.alloc hB3.size _)
  clear hB3 hbW
  have k3c := k3.c; have k3f := k3.f; have k3l := k3.lt
  have k4c := k4.c; have k4f := k4.f; have k4l := k4.lt
  go_wp2_with fail
  have k9 := At.new wW #[.int .i64 1, .int .i64 n, .int .i64 0] 27
  refine (lform_calls _ _ _ _).mono ?_
  rintro e wF ⟨rfl, hbF⟩
  replace k3 := At.keep hbF (k3.alloc _)
  replace k4 := At.keep hbF (k4.alloc _)
  replace k9 := At.keep hbF k9
  have hB5 : Below w.heap.size w wF := below_keep hbF (hB4.alloc hB4.size _)
  clear hB4 hbF
  have k3c := k3.c; have k3f := k3.f; have k3l := k3.lt
  have k4c := k4.c; have k4f := k4.f; have k4l := k4.lt
  have k9c := k9.c; have k9f := k9.f; have k9l := k9.lt
  rw [h]
  go_upto_region 18 with (fail)
  generalize hw5 : World.alloc wF _ = w5
  have k11 : At w5 wF.heap.size #[.int .i64 0, .int .i64 n, .int .i64 0] 27 := by
    rw [← hw5]; exact At.new _ _ _
  have hwF : w.heap.size < wF.heap.size := k3l
  have n3 : w.heap.size ≠ wF.heap.size := Nat.ne_of_lt k3l
  have n9 : wW.heap.size ≠ wF.heap.size := Nat.ne_of_lt k9l
  replace k3 : At w5 w.heap.size #[.int .i64 m, .int .i64 i, .int .i64 f] 23 := by
    rw [← hw5]; exact k3.alloc _
  replace k9 : At w5 wW.heap.size #[.int .i64 1, .int .i64 n, .int .i64 0] 27 := by
    rw [← hw5]; exact k9.alloc _
  have hB6 : Below w.heap.size w w5 := by
    rw [← hw5]; exact hB5.alloc hB5.size _
  clear hw5 k3c k3f k3l k4c k4f k4l k9c k9f k9l k4
  obtain ⟨z, z0, k11⟩ : ∃ z : Int, z = 0 ∧ At w5 wF.heap.size #[.int .i64 z, .int .i64 n, .int .i64 0] 27 := ⟨0, rfl, k11⟩
  have z1 : 0 ≤ z := by omega
  have z2 : z ≤ 0 := by omega
  have hz0 := Lib.hid z0
  clear z0
  have hm' : z < m - 1 := by omega
  have hq : (1 == z + 1) = true := by rw [hz0.out]; rfl
  have hwB := hB6.size
  have k3c := k3.c; have k3f := k3.f; have k3l := k3.lt
  have k9c := k9.c; have k9f := k9.f; have k9l := k9.lt
  have k11c := k11.c; have k11f := k11.f; have k11l := k11.lt
  go_wp2
  go_ret
  refine ⟨?_, ?_⟩
  · simp [hz0.out]
  · exact hB6.setCell (by simp; omega) _
set_option maxRecDepth 100000 in
set_option maxHeartbeats 1000000 in
theorem steps_lockz (m i f a b c n : Int) (w : World) (h : frmB m i f = true) (n1 : 0 ≤ n) (n2 : n ≤ 1099511627776) (hc : c ≤ n) (hp : 1 ≤ a) (hq : b ≤ n) (ho : b ≤ n - i) (hm : m ≤ 1) :
    Calls Try.prog 8 #[.agg #[.int .i64 m, .int .i64 i, .int .i64 f], .agg #[.int .i64 a, .int .i64 b, .int .i64 c], .int .i64 n] w fun e w' => e = .returned (.bool true) ∧ Below w.heap.size w w' := by
  have hf' := h
  unfold frmB at hf'
  simp at hf'
  obtain ⟨⟨⟨⟨⟨m1, m2⟩, i1⟩, i2⟩, f1⟩, f2⟩ := hf'
  have wn : wrap64 (n - i) = n - i := by unfold wrap64; omega
  have hr := Lib.hid (show wrongF m i f ⟨a, b, c⟩ n = (⟨0, 0, n + f⟩, 0) by unfold wrongF; rw [if_neg (by simp [h]; omega), if_neg (by simp only; omega), wn]; simp only; rw [if_pos (by omega), if_pos hm])
  clear wn
  have ha : decide (a < 1) = false := decide_eq_false (by omega); have hb : decide (n < b) = false := decide_eq_false (by omega); have hd := decide_eq_true ho; clear ho hp hq; have hm0 : decide (m - 1 ≤ 0) = true := decide_eq_true (by omega); have hm1 := decide_eq_true hm; clear hm
  go_enter Try.func8, Try.ntmps8
  go_wp2_with fail
  have k3 : At ((w.alloc (.cells #[.int .i64 m, .int .i64 i, .int .i64 f] 23)).alloc (.cells #[.int .i64 a, .int .i64 b, .int .i64 c] 27)) w.heap.size #[.int .i64 m, .int .i64 i, .int .i64 f] 23 := (At.new w _ _).alloc _
  have k4 : At ((w.alloc (.cells #[.int .i64 m, .int .i64 i, .int .i64 f] 23)).alloc (.cells #[.int .i64 a, .int .i64 b, .int .i64 c] 27)) (w.heap.size + 1) #[.int .i64 a, .int .i64 b, .int .i64 c] 27 := At.new' (by simp)
  have hB : Below w.heap.size w ((w.alloc (.cells #[.int .i64 m, .int .i64 i, .int .i64 f] 23)).alloc (.cells #[.int .i64 a, .int .i64 b, .int .i64 c] 27)) := by
    (repeat (with_reducible first | exact Below.refl _ _ | assumption | refine Below.setCell ?_ (by first | (simp; done) | (simp; omega) | omega) _ | refine Below.alloc ?_ (by first | (simp; done) | (simp; omega) | omega) _ | refine Below.drew ?_ | refine Below.trans ?_ (Below.mono (by assumption) (by first | (simp; done) | (simp; omega) | omega))))
  generalize ((w.alloc (.cells #[.int .i64 m, .int .i64 i, .int .i64 f] 23)).alloc (.cells #[.int .i64 a, .int .i64 b, .int .i64 c] 27)) = w0 at *
  have k3c := k3.c; have k4c := k4.c
  go_region_held3 (fun w' => Below w0.heap.size w0 w' ∧ At w' (w.heap.size) #[.int .i64 m, .int .i64 i, .int .i64 f] 23 ∧ (∀ o, w'.cell? ⟨w.heap.size, o, none⟩ = #[.int .i64 m, .int .i64 i, .int .i64 f][o]?) ∧ At w' (w.heap.size + 1) #[.int .i64 a, .int .i64 b, .int .i64 c] 27 ∧ (∀ o, w'.cell? ⟨w.heap.size + 1, o, none⟩ = #[.int .i64 a, .int .i64 b, .int .i64 c][o]?))
    (first
      | (exact ⟨(Below.refl _ _).drew, k3.drew, k3.drew.c, k4.drew, k4.drew.c⟩)
      | (go_split_ands
         have hk3 := At.keep hbK (by assumption : At _ (w.heap.size) #[.int .i64 m, .int .i64 i, .int .i64 f] 23)
         have hk4 := At.keep hbK (by assumption : At _ (w.heap.size + 1) #[.int .i64 a, .int .i64 b, .int .i64 c] 27)
         refine ⟨?_, hk3, hk3.c, hk4, hk4.c⟩
         exact below_keep hbK (by assumption)))
    (first | (go_at_call 13; refine (lawake_calls _).mono ?_; rintro e wK ⟨rfl, hbK⟩) | (go_at_call 14; refine (lform_calls _ _ _ _).mono ?_; rintro e wK ⟨rfl, hbK⟩) | (go_at_call 20; refine (form_calls _ _ _ _).mono ?_; rintro e wK ⟨rfl, hbK⟩) | (go_at_call 16; refine (locked_calls _ _ _ _ _).mono ?_; rintro e wK ⟨rfl, hbK⟩))
  rename_i hHeld
  obtain ⟨hB1, k3, -, k4, -⟩ := hHeld
  have hB2 : Below w.heap.size w wK := hB.trans (hB1.mono hB.size)
  clear hB hB1
  have k3c := k3.c; have k3f := k3.f; have k3l := k3.lt
  have k4c := k4.c; have k4f := k4.f; have k4l := k4.lt
  go_wp2_with fail
  refine (right_open a b c n _ hc).mono ?_
  rintro e wR ⟨rfl, hbR⟩
  replace k3 := k3.below hbR k3.lt; have k3c := k3.c; have k3f := k3.f; have k3l := k3.lt
  replace k4 := k4.below hbR k4.lt; have k4c := k4.c; have k4f := k4.f; have k4l := k4.lt
  have hB3 := below_keep hbR hB2
  clear hB2 hbR
  go_wp2_with fail
  refine (wrong_at m i f ⟨a, b, c⟩ n _ _ hr.out _).mono ?_
  rintro e wW ⟨rfl, hbW⟩
  replace k3 := At.keep hbW (k3.alloc _)
  replace k4 := At.keep hbW (k4.alloc _)
  have hB4 : Below w.heap.size w wW := below_keep hbW (hB3.alloc hB3.size _)
  clear hB3 hbW
  have k3c := k3.c; have k3f := k3.f; have k3l := k3.lt
  have k4c := k4.c; have k4f := k4.f; have k4l := k4.lt
  go_wp2_with fail
  have k9 := At.new wW #[.int .i64 0, .int .i64 0, .int .i64 (n + f)] 27
  refine (lform_calls _ _ _ _).mono ?_
  rintro e wF ⟨rfl, hbF⟩
  replace k3 := At.keep hbF (k3.alloc _)
  replace k4 := At.keep hbF (k4.alloc _)
  replace k9 := At.keep hbF k9
  have hB5 : Below w.heap.size w wF := below_keep hbF (hB4.alloc hB4.size _)
  clear hB4 hbF
  have k3c := k3.c; have k3f := k3.f; have k3l := k3.lt
  have k4c := k4.c; have k4f := k4.f; have k4l := k4.lt
  have k9c := k9.c; have k9f := k9.f; have k9l := k9.lt
  rw [h]
  go_wp2
  go_ret
  refine ⟨?_, ?_⟩
  · first | rfl | simp
  · have hwB := hB5.size
    (repeat (with_reducible first | exact Below.refl _ _ | assumption | refine Below.setCell ?_ (by first | (simp; done) | (simp; omega) | omega) _ | refine Below.alloc ?_ (by first | (simp; done) | (simp; omega) | omega) _ | refine Below.drew ?_ | refine Below.trans ?_ (Below.mono (by assumption) (by first | (simp; done) | (simp; omega) | omega))))
set_option maxRecDepth 100000 in
set_option maxHeartbeats 1000000 in
theorem steps_newz (m i f a b c n : Int) (w : World) (h : frmB m i f = true) (hp : 1 ≤ a) (hq : b ≤ n) (ho : b ≤ n - i) (n1 : 0 ≤ n) (n2 : n ≤ 1099511627776) (hc : c ≤ n) (hm : 1 < m) :
    Calls Try.prog 8 #[.agg #[.int .i64 m, .int .i64 i, .int .i64 f], .agg #[.int .i64 a, .int .i64 b, .int .i64 c], .int .i64 n] w fun e w' => e = .returned (.bool true) ∧ Below w.heap.size w w' := by
  have hf' := h
  unfold frmB at hf'
  simp at hf'
  obtain ⟨⟨⟨⟨⟨m1, m2⟩, i1⟩, i2⟩, f1⟩, f2⟩ := hf'
  have wn : wrap64 (n - i) = n - i := by unfold wrap64; omega
  have hr := Lib.hid (show wrongF m i f ⟨a, b, c⟩ n = (⟨1, n, 0⟩, 0) by
    unfold wrongF; rw [if_neg (by simp [h]; omega), if_neg (by simp only; omega), wn]; simp only; rw [if_pos (by omega), if_neg (by omega)])
  clear wn
  have ha : decide (a < 1) = false := decide_eq_false (by omega); have hb : decide (n < b) = false := decide_eq_false (by omega); have hd := decide_eq_true ho; clear ho hp hq
  go_enter Try.func8, Try.ntmps8
  go_wp2_with fail
  have k3 : At ((w.alloc (.cells #[.int .i64 m, .int .i64 i, .int .i64 f] 23)).alloc (.cells #[.int .i64 a, .int .i64 b, .int .i64 c] 27)) w.heap.size #[.int .i64 m, .int .i64 i, .int .i64 f] 23 := (At.new w _ _).alloc _
  have k4 : At ((w.alloc (.cells #[.int .i64 m, .int .i64 i, .int .i64 f] 23)).alloc (.cells #[.int .i64 a, .int .i64 b, .int .i64 c] 27)) (w.heap.size + 1) #[.int .i64 a, .int .i64 b, .int .i64 c] 27 := At.new' (by simp)
  have hB : Below w.heap.size w ((w.alloc (.cells #[.int .i64 m, .int .i64 i, .int .i64 f] 23)).alloc (.cells #[.int .i64 a, .int .i64 b, .int .i64 c] 27)) := by
    (repeat (with_reducible first | exact Below.refl _ _ | assumption | refine Below.setCell ?_ (by first | (simp; done) | (simp; omega) | omega) _ | refine Below.alloc ?_ (by first | (simp; done) | (simp; omega) | omega) _ | refine Below.drew ?_ | refine Below.trans ?_ (Below.mono (by assumption) (by first | (simp; done) | (simp; omega) | omega))))
  generalize ((w.alloc (.cells #[.int .i64 m, .int .i64 i, .int .i64 f] 23)).alloc (.cells #[.int .i64 a, .int .i64 b, .int .i64 c] 27)) = w0 at *
  have k3c := k3.c; have k4c := k4.c
  go_region_held3 (fun w' => Below w0.heap.size w0 w' ∧ At w' (w.heap.size) #[.int .i64 m, .int .i64 i, .int .i64 f] 23 ∧ (∀ o, w'.cell? ⟨w.heap.size, o, none⟩ = #[.int .i64 m, .int .i64 i, .int .i64 f][o]?) ∧ At w' (w.heap.size + 1) #[.int .i64 a, .int .i64 b, .int .i64 c] 27 ∧ (∀ o, w'.cell? ⟨w.heap.size + 1, o, none⟩ = #[.int .i64 a, .int .i64 b, .int .i64 c][o]?))
    (first
      | (exact ⟨(Below.refl _ _).drew, k3.drew, k3.drew.c, k4.drew, k4.drew.c⟩)
      | (go_split_ands
         have hk3 := At.keep hbK (by assumption : At _ (w.heap.size) #[.int .i64 m, .int .i64 i, .int .i64 f] 23)
         have hk4 := At.keep hbK (by assumption : At _ (w.heap.size + 1) #[.int .i64 a, .int .i64 b, .int .i64 c] 27)
         refine ⟨?_, hk3, hk3.c, hk4, hk4.c⟩
         exact below_keep hbK (by assumption)))
    (first | (go_at_call 13; refine (lawake_calls _).mono ?_; rintro e wK ⟨rfl, hbK⟩) | (go_at_call 14; refine (lform_calls _ _ _ _).mono ?_; rintro e wK ⟨rfl, hbK⟩) | (go_at_call 20; refine (form_calls _ _ _ _).mono ?_; rintro e wK ⟨rfl, hbK⟩) | (go_at_call 16; refine (locked_calls _ _ _ _ _).mono ?_; rintro e wK ⟨rfl, hbK⟩))
  rename_i hHeld
  obtain ⟨hB1, k3, -, k4, -⟩ := hHeld
  have hB2 : Below w.heap.size w wK := hB.trans (hB1.mono hB.size)
  clear hB hB1
  have k3c := k3.c; have k3f := k3.f; have k3l := k3.lt
  have k4c := k4.c; have k4f := k4.f; have k4l := k4.lt
  go_wp2_with fail
  refine (right_open a b c n _ hc).mono ?_
  rintro e wR ⟨rfl, hbR⟩
  replace k3 := k3.below hbR k3.lt; have k3c := k3.c; have k3f := k3.f; have k3l := k3.lt
  replace k4 := k4.below hbR k4.lt; have k4c := k4.c; have k4f := k4.f; have k4l := k4.lt
  have hB3 := below_keep hbR hB2
  clear hB2 hbR
  go_wp2_with fail
  refine (wrong_at m i f ⟨a, b, c⟩ n _ _ hr.out _).mono ?_
  rintro e wW ⟨rfl, hbW⟩
  replace k3 := At.keep hbW (k3.alloc _)
  replace k4 := At.keep hbW (k4.alloc _)
  have hB4 : Below w.heap.size w wW := below_keep hbW (hB3.alloc hB3.size _)
  clear hB3 hbW
  have k3c := k3.c; have k3f := k3.f; have k3l := k3.lt
  have k4c := k4.c; have k4f := k4.f; have k4l := k4.lt
  go_wp2_with fail
  have k9 := At.new wW #[.int .i64 1, .int .i64 n, .int .i64 0] 27
  refine (lform_calls _ _ _ _).mono ?_
  rintro e wF ⟨rfl, hbF⟩
  replace k3 := At.keep hbF (k3.alloc _)
  replace k4 := At.keep hbF (k4.alloc _)
  replace k9 := At.keep hbF k9
  have hB5 : Below w.heap.size w wF := below_keep hbF (hB4.alloc hB4.size _)
  clear hB4 hbF
  have k3c := k3.c; have k3f := k3.f; have k3l := k3.lt
  have k4c := k4.c; have k4f := k4.f; have k4l := k4.lt
  have k9c := k9.c; have k9f := k9.f; have k9l := k9.lt
  rw [h]
  go_upto_region 18 with (fail)
  generalize hw5 : World.alloc wF _ = w5
  have k11 : At w5 wF.heap.size #[.int .i64 0, .int .i64 n, .int .i64 0] 27 := by
    rw [← hw5]; exact At.new _ _ _
  have hwF : w.heap.size < wF.heap.size := k3l
  have n3 : w.heap.size ≠ wF.heap.size := Nat.ne_of_lt k3l
  have n9 : wW.heap.size ≠ wF.heap.size := Nat.ne_of_lt k9l
  replace k3 : At w5 w.heap.size #[.int .i64 m, .int .i64 i, .int .i64 f] 23 := by
    rw [← hw5]; exact k3.alloc _
  replace k9 : At w5 wW.heap.size #[.int .i64 1, .int .i64 n, .int .i64 0] 27 := by
    rw [← hw5]; exact k9.alloc _
  have hB6 : Below w.heap.size w w5 := by
    rw [← hw5]; exact hB5.alloc hB5.size _
  clear hw5 k3c k3f k3l k4c k4f k4l k9c k9f k9l k4
  obtain ⟨z, z0, k11⟩ : ∃ z : Int, z = 0 ∧ At w5 wF.heap.size #[.int .i64 z, .int .i64 n, .int .i64 0] 27 := ⟨0, rfl, k11⟩
  have z1 : 0 ≤ z := by omega
  have z2 : z ≤ 0 := by omega
  have hz0 := Lib.hid z0
  clear z0
  have hm' : z < m - 1 := by omega
  have hq : (1 == z + 1) = true := by rw [hz0.out]; rfl
  have hwB := hB6.size
  have k3c := k3.c; have k3f := k3.f; have k3l := k3.lt
  have k9c := k9.c; have k9f := k9.f; have k9l := k9.lt
  have k11c := k11.c; have k11f := k11.f; have k11l := k11.lt
  go_wp2
  go_ret
  refine ⟨?_, ?_⟩
  · simp [hz0.out]
  · exact hB6.setCell (by simp; omega) _
set_option maxRecDepth 100000 in
set_option maxHeartbeats 1000000 in
theorem steps_lockn (m i f a b c n : Int) (w : World) (h : frmB m i f = true) (n1 : 0 ≤ n) (n2 : n ≤ 1099511627776) (hc : c ≤ n) (hp : 1 ≤ a) (hq : b ≤ n) (ho : n - i < b) (hm : m - 1 ≤ a) :
    Calls Try.prog 8 #[.agg #[.int .i64 m, .int .i64 i, .int .i64 f], .agg #[.int .i64 a, .int .i64 b, .int .i64 c], .int .i64 n] w fun e w' => e = .returned (.bool true) ∧ Below w.heap.size w w' := by
  have hf' := h
  unfold frmB at hf'
  simp at hf'
  obtain ⟨⟨⟨⟨⟨m1, m2⟩, i1⟩, i2⟩, f1⟩, f2⟩ := hf'
  have wn : wrap64 (n - i) = n - i := by unfold wrap64; omega
  have hr := Lib.hid (show wrongF m i f ⟨a, b, c⟩ n = (⟨0, 0, n + f⟩, 0) by unfold wrongF; rw [if_neg (by simp [h]; omega), if_neg (by simp only; omega), wn]; simp only; rw [if_neg (by omega), if_pos hm])
  clear wn
  skip
  go_enter Try.func8, Try.ntmps8
  go_wp2_with fail
  have k3 : At ((w.alloc (.cells #[.int .i64 m, .int .i64 i, .int .i64 f] 23)).alloc (.cells #[.int .i64 a, .int .i64 b, .int .i64 c] 27)) w.heap.size #[.int .i64 m, .int .i64 i, .int .i64 f] 23 := (At.new w _ _).alloc _
  have k4 : At ((w.alloc (.cells #[.int .i64 m, .int .i64 i, .int .i64 f] 23)).alloc (.cells #[.int .i64 a, .int .i64 b, .int .i64 c] 27)) (w.heap.size + 1) #[.int .i64 a, .int .i64 b, .int .i64 c] 27 := At.new' (by simp)
  have hB : Below w.heap.size w ((w.alloc (.cells #[.int .i64 m, .int .i64 i, .int .i64 f] 23)).alloc (.cells #[.int .i64 a, .int .i64 b, .int .i64 c] 27)) := by
    (repeat (with_reducible first | exact Below.refl _ _ | assumption | refine Below.setCell ?_ (by first | (simp; done) | (simp; omega) | omega) _ | refine Below.alloc ?_ (by first | (simp; done) | (simp; omega) | omega) _ | refine Below.drew ?_ | refine Below.trans ?_ (Below.mono (by assumption) (by first | (simp; done) | (simp; omega) | omega))))
  generalize ((w.alloc (.cells #[.int .i64 m, .int .i64 i, .int .i64 f] 23)).alloc (.cells #[.int .i64 a, .int .i64 b, .int .i64 c] 27)) = w0 at *
  have k3c := k3.c; have k4c := k4.c
  go_region_held3 (fun w' => Below w0.heap.size w0 w' ∧ At w' (w.heap.size) #[.int .i64 m, .int .i64 i, .int .i64 f] 23 ∧ (∀ o, w'.cell? ⟨w.heap.size, o, none⟩ = #[.int .i64 m, .int .i64 i, .int .i64 f][o]?) ∧ At w' (w.heap.size + 1) #[.int .i64 a, .int .i64 b, .int .i64 c] 27 ∧ (∀ o, w'.cell? ⟨w.heap.size + 1, o, none⟩ = #[.int .i64 a, .int .i64 b, .int .i64 c][o]?))
    (first
      | (exact ⟨(Below.refl _ _).drew, k3.drew, k3.drew.c, k4.drew, k4.drew.c⟩)
      | (go_split_ands
         have hk3 := At.keep hbK (by assumption : At _ (w.heap.size) #[.int .i64 m, .int .i64 i, .int .i64 f] 23)
         have hk4 := At.keep hbK (by assumption : At _ (w.heap.size + 1) #[.int .i64 a, .int .i64 b, .int .i64 c] 27)
         refine ⟨?_, hk3, hk3.c, hk4, hk4.c⟩
         exact below_keep hbK (by assumption)))
    (first | (go_at_call 13; refine (lawake_calls _).mono ?_; rintro e wK ⟨rfl, hbK⟩) | (go_at_call 14; refine (lform_calls _ _ _ _).mono ?_; rintro e wK ⟨rfl, hbK⟩) | (go_at_call 20; refine (form_calls _ _ _ _).mono ?_; rintro e wK ⟨rfl, hbK⟩) | (go_at_call 16; refine (locked_calls _ _ _ _ _).mono ?_; rintro e wK ⟨rfl, hbK⟩))
  rename_i hHeld
  obtain ⟨hB1, k3, -, k4, -⟩ := hHeld
  have hB2 : Below w.heap.size w wK := hB.trans (hB1.mono hB.size)
  clear hB hB1
  have k3c := k3.c; have k3f := k3.f; have k3l := k3.lt
  have k4c := k4.c; have k4f := k4.f; have k4l := k4.lt
  go_wp2_with fail
  refine (right_open a b c n _ hc).mono ?_
  rintro e wR ⟨rfl, hbR⟩
  replace k3 := k3.below hbR k3.lt; have k3c := k3.c; have k3f := k3.f; have k3l := k3.lt
  replace k4 := k4.below hbR k4.lt; have k4c := k4.c; have k4f := k4.f; have k4l := k4.lt
  have hB3 := below_keep hbR hB2
  clear hB2 hbR
  go_wp2_with fail
  refine (wrong_at m i f ⟨a, b, c⟩ n _ _ hr.out _).mono ?_
  rintro e wW ⟨rfl, hbW⟩
  replace k3 := At.keep hbW (k3.alloc _)
  replace k4 := At.keep hbW (k4.alloc _)
  have hB4 : Below w.heap.size w wW := below_keep hbW (hB3.alloc hB3.size _)
  clear hB3 hbW
  have k3c := k3.c; have k3f := k3.f; have k3l := k3.lt
  have k4c := k4.c; have k4f := k4.f; have k4l := k4.lt
  go_wp2_with fail
  have k9 := At.new wW #[.int .i64 0, .int .i64 0, .int .i64 (n + f)] 27
  refine (lform_calls _ _ _ _).mono ?_
  rintro e wF ⟨rfl, hbF⟩
  replace k3 := At.keep hbF (k3.alloc _)
  replace k4 := At.keep hbF (k4.alloc _)
  replace k9 := At.keep hbF k9
  have hB5 : Below w.heap.size w wF := below_keep hbF (hB4.alloc hB4.size _)
  clear hB4 hbF
  have k3c := k3.c; have k3f := k3.f; have k3l := k3.lt
  have k4c := k4.c; have k4f := k4.f; have k4l := k4.lt
  have k9c := k9.c; have k9f := k9.f; have k9l := k9.lt
  rw [h]
  go_wp2
  go_ret
  refine ⟨?_, ?_⟩
  · first | rfl | simp
  · have hwB := hB5.size
    (repeat (with_reducible first | exact Below.refl _ _ | assumption | refine Below.setCell ?_ (by first | (simp; done) | (simp; omega) | omega) _ | refine Below.alloc ?_ (by first | (simp; done) | (simp; omega) | omega) _ | refine Below.drew ?_ | refine Below.trans ?_ (Below.mono (by assumption) (by first | (simp; done) | (simp; omega) | omega))))
set_option maxRecDepth 100000 in
set_option maxHeartbeats 1000000 in
theorem steps_one (m i f a b c n : Int) (w : World) (h : frmB m i f = true) (n1 : 0 ≤ n) (n2 : n ≤ 1099511627776) (hc : c ≤ n) (hp : 1 ≤ a) (hq : b ≤ n) (ho : n - i < b) (hm : a < m - 1) :
    Calls Try.prog 8 #[.agg #[.int .i64 m, .int .i64 i, .int .i64 f], .agg #[.int .i64 a, .int .i64 b, .int .i64 c], .int .i64 n] w fun e w' => e = .returned (.bool true) ∧ Below w.heap.size w w' := by
  have hf' := h
  unfold frmB at hf'
  simp at hf'
  obtain ⟨⟨⟨⟨⟨m1, m2⟩, i1⟩, i2⟩, f1⟩, f2⟩ := hf'
  have wn : wrap64 (n - i) = n - i := by unfold wrap64; omega
  have hr := Lib.hid (show wrongF m i f ⟨a, b, c⟩ n = (⟨a + 1, b, 0⟩, 0) by unfold wrongF; rw [if_neg (by simp [h]; omega), if_neg (by simp only; omega), wn]; simp only; rw [if_neg (by omega), if_neg (by omega)])
  clear wn
  skip
  go_enter Try.func8, Try.ntmps8
  go_wp2_with fail
  have k3 : At ((w.alloc (.cells #[.int .i64 m, .int .i64 i, .int .i64 f] 23)).alloc (.cells #[.int .i64 a, .int .i64 b, .int .i64 c] 27)) w.heap.size #[.int .i64 m, .int .i64 i, .int .i64 f] 23 := (At.new w _ _).alloc _
  have k4 : At ((w.alloc (.cells #[.int .i64 m, .int .i64 i, .int .i64 f] 23)).alloc (.cells #[.int .i64 a, .int .i64 b, .int .i64 c] 27)) (w.heap.size + 1) #[.int .i64 a, .int .i64 b, .int .i64 c] 27 := At.new' (by simp)
  have hB : Below w.heap.size w ((w.alloc (.cells #[.int .i64 m, .int .i64 i, .int .i64 f] 23)).alloc (.cells #[.int .i64 a, .int .i64 b, .int .i64 c] 27)) := by
    (repeat (with_reducible first | exact Below.refl _ _ | assumption | refine Below.setCell ?_ (by first | (simp; done) | (simp; omega) | omega) _ | refine Below.alloc ?_ (by first | (simp; done) | (simp; omega) | omega) _ | refine Below.drew ?_ | refine Below.trans ?_ (Below.mono (by assumption) (by first | (simp; done) | (simp; omega) | omega))))
  generalize ((w.alloc (.cells #[.int .i64 m, .int .i64 i, .int .i64 f] 23)).alloc (.cells #[.int .i64 a, .int .i64 b, .int .i64 c] 27)) = w0 at *
  have k3c := k3.c; have k4c := k4.c
  go_region_held3 (fun w' => Below w0.heap.size w0 w' ∧ At w' (w.heap.size) #[.int .i64 m, .int .i64 i, .int .i64 f] 23 ∧ (∀ o, w'.cell? ⟨w.heap.size, o, none⟩ = #[.int .i64 m, .int .i64 i, .int .i64 f][o]?) ∧ At w' (w.heap.size + 1) #[.int .i64 a, .int .i64 b, .int .i64 c] 27 ∧ (∀ o, w'.cell? ⟨w.heap.size + 1, o, none⟩ = #[.int .i64 a, .int .i64 b, .int .i64 c][o]?))
    (first
      | (exact ⟨(Below.refl _ _).drew, k3.drew, k3.drew.c, k4.drew, k4.drew.c⟩)
      | (go_split_ands
         have hk3 := At.keep hbK (by assumption : At _ (w.heap.size) #[.int .i64 m, .int .i64 i, .int .i64 f] 23)
         have hk4 := At.keep hbK (by assumption : At _ (w.heap.size + 1) #[.int .i64 a, .int .i64 b, .int .i64 c] 27)
         refine ⟨?_, hk3, hk3.c, hk4, hk4.c⟩
         exact below_keep hbK (by assumption)))
    (first | (go_at_call 13; refine (lawake_calls _).mono ?_; rintro e wK ⟨rfl, hbK⟩) | (go_at_call 14; refine (lform_calls _ _ _ _).mono ?_; rintro e wK ⟨rfl, hbK⟩) | (go_at_call 20; refine (form_calls _ _ _ _).mono ?_; rintro e wK ⟨rfl, hbK⟩) | (go_at_call 16; refine (locked_calls _ _ _ _ _).mono ?_; rintro e wK ⟨rfl, hbK⟩))
  rename_i hHeld
  obtain ⟨hB1, k3, -, k4, -⟩ := hHeld
  have hB2 : Below w.heap.size w wK := hB.trans (hB1.mono hB.size)
  clear hB hB1
  have k3c := k3.c; have k3f := k3.f; have k3l := k3.lt
  have k4c := k4.c; have k4f := k4.f; have k4l := k4.lt
  go_wp2_with fail
  refine (right_open a b c n _ hc).mono ?_
  rintro e wR ⟨rfl, hbR⟩
  replace k3 := k3.below hbR k3.lt; have k3c := k3.c; have k3f := k3.f; have k3l := k3.lt
  replace k4 := k4.below hbR k4.lt; have k4c := k4.c; have k4f := k4.f; have k4l := k4.lt
  have hB3 := below_keep hbR hB2
  clear hB2 hbR
  go_wp2_with fail
  refine (wrong_at m i f ⟨a, b, c⟩ n _ _ hr.out _).mono ?_
  rintro e wW ⟨rfl, hbW⟩
  replace k3 := At.keep hbW (k3.alloc _)
  replace k4 := At.keep hbW (k4.alloc _)
  have hB4 : Below w.heap.size w wW := below_keep hbW (hB3.alloc hB3.size _)
  clear hB3 hbW
  have k3c := k3.c; have k3f := k3.f; have k3l := k3.lt
  have k4c := k4.c; have k4f := k4.f; have k4l := k4.lt
  go_wp2_with fail
  have k9 := At.new wW #[.int .i64 (a + 1), .int .i64 b, .int .i64 0] 27
  refine (lform_calls _ _ _ _).mono ?_
  rintro e wF ⟨rfl, hbF⟩
  replace k3 := At.keep hbF (k3.alloc _)
  replace k4 := At.keep hbF (k4.alloc _)
  replace k9 := At.keep hbF k9
  have hB5 : Below w.heap.size w wF := below_keep hbF (hB4.alloc hB4.size _)
  clear hB4 hbF
  have k3c := k3.c; have k3f := k3.f; have k3l := k3.lt
  have k4c := k4.c; have k4f := k4.f; have k4l := k4.lt
  have k9c := k9.c; have k9f := k9.f; have k9l := k9.lt
  rw [h]
  go_wp2
  go_ret
  refine ⟨?_, ?_⟩
  · first | rfl | simp
  · have hwB := hB5.size
    (repeat (with_reducible first | exact Below.refl _ _ | assumption | refine Below.setCell ?_ (by first | (simp; done) | (simp; omega) | omega) _ | refine Below.alloc ?_ (by first | (simp; done) | (simp; omega) | omega) _ | refine Below.drew ?_ | refine Below.trans ?_ (Below.mono (by assumption) (by first | (simp; done) | (simp; omega) | omega))))
theorem steps_calls (m i f a b c n : Int) (w : World) :
    Calls Try.prog 8 #[.agg #[.int .i64 m, .int .i64 i, .int .i64 f], .agg #[.int .i64 a, .int .i64 b, .int .i64 c], .int .i64 n] w fun e w' => e = .returned (.bool true) ∧ Below w.heap.size w w' := by
  by_cases hc : n < c
  · by_cases h : frmB m i f = true
    · by_cases h1 : n < 0
      · exact steps_tloa m i f a b c n w h h1 hc
      · by_cases h2 : 1099511627776 < n
        · exact steps_thia m i f a b c n w h h2 (by omega) hc
        · exact steps_held m i f a b c n w h (by omega) (by omega) hc
    · exact steps_noa m i f a b c n w (by simpa using h) hc
  · have hc : c ≤ n := by omega
    by_cases h : frmB m i f = true
    · by_cases h1 : n < 0
      · exact steps_tlob m i f a b c n w h h1 hc
      · by_cases h2 : 1099511627776 < n
        · exact steps_thib m i f a b c n w h h2 (by omega) hc
        · by_cases o1 : a < 1
          · by_cases hm : m ≤ 1
            · exact steps_lockx m i f a b c n w h (by omega) (by omega) hc o1 hm
            · exact steps_newx m i f a b c n w h o1 (by omega) (by omega) hc (by omega)
          · by_cases o2 : n < b
            · by_cases hm : m ≤ 1
              · exact steps_locky m i f a b c n w h (by omega) (by omega) hc (by omega) o2 hm
              · exact steps_newy m i f a b c n w h (by omega) o2 (by omega) (by omega) hc (by omega)
            · by_cases o3 : b ≤ n - i
              · by_cases hm : m ≤ 1
                · exact steps_lockz m i f a b c n w h (by omega) (by omega) hc (by omega) (by omega) o3 hm
                · exact steps_newz m i f a b c n w h (by omega) (by omega) o3 (by omega) (by omega) hc (by omega)
              · by_cases hm : m - 1 ≤ a
                · exact steps_lockn m i f a b c n w h (by omega) (by omega) hc (by omega) (by omega) (by omega) hm
                · exact steps_one m i f a b c n w h (by omega) (by omega) hc (by omega) (by omega) (by omega) (by omega)
    · exact steps_nob m i f a b c n w (by simpa using h) hc
end Go.Proofs.Ytbpdjcjhdjkinaa
