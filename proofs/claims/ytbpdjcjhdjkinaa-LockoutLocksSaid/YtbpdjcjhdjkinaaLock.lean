/- The functions of package lockout, each by its contract. -/
import Derived.Test.YtbpdjcjhdjkinaaBase
namespace Go.Proofs.Ytbpdjcjhdjkinaa
open Go.RowKit
theorem locked_calls (a b c n : Int) (w : World) :
    Calls Try.prog 16 #[.agg #[.int .i64 a, .int .i64 b, .int .i64 c], .int .i64 n] w fun e w' => e = .returned (.bool (decide (n < c))) ∧ Below w.heap.size w w' := by
  go_enter Try.func16, Try.ntmps16
  go_wp2
  go_ret
  exact ⟨rfl, (Below.refl _ _).alloc (Nat.le_refl _) _⟩
def frmB (m i f : Int) : Bool := decide (1 ≤ m) && decide (m ≤ 100) && decide (1 ≤ i) && decide (i ≤ 1099511627776) && decide (1 ≤ f) && decide (f ≤ 1099511627776)
set_option maxHeartbeats 1000000 in
theorem form_calls (m i f : Int) (w : World) :
    Calls Try.prog 20 #[.agg #[.int .i64 m, .int .i64 i, .int .i64 f]] w fun e w' => e = .returned (.bool (frmB m i f)) ∧ Below w.heap.size w w' := by
  go_enter Try.func20, Try.ntmps20
  go_wp2
  all_goals go_ret
  all_goals refine ⟨ret_bool ?_, (Below.refl _ _).alloc (Nat.le_refl _) _⟩
  all_goals unfold frmB
  all_goals first | (simp [*]; done) | (simp [*]; omega)
set_option maxHeartbeats 1000000 in
theorem lform_calls (m i f : Int) (w : World) :
    Calls Try.prog 14 #[.agg #[.int .i64 m, .int .i64 i, .int .i64 f]] w fun e w' => e = .returned (.bool (frmB m i f)) ∧ Below w.heap.size w w' := by
  go_enter Try.func14, Try.ntmps14
  go_wp2
  all_goals go_ret
  all_goals refine ⟨ret_bool ?_, (Below.refl _ _).alloc (Nat.le_refl _) _⟩
  all_goals unfold frmB
  all_goals first | (simp [*]; done) | (simp [*]; omega)
structure St where
  a : Int
  b : Int
  c : Int
  deriving DecidableEq
def St.v (s : St) : Value := .agg #[.int .i64 s.a, .int .i64 s.b, .int .i64 s.c]
def St.zero : St := ⟨0, 0, 0⟩
def wrongF (m i f : Int) (s : St) (n : Int) : St × Int :=
  if (!frmB m i f || decide (n < 0) || decide (1099511627776 < n)) = true then (St.zero, 1)
  else if n < s.c then (s, 0)
  else if s.a < 1 ∨ n < s.b ∨ s.b ≤ wrap64 (n - i) then (if m ≤ 1 then (⟨0, 0, n + f⟩, 0) else (⟨1, n, 0⟩, 0))
  else if m - 1 ≤ s.a then (⟨0, 0, n + f⟩, 0) else (⟨s.a + 1, s.b, 0⟩, 0)
def WPost (r : St × Int) (w : World) (e : Ending) (w' : World) : Prop :=
  e = .returned (.tuple #[r.1.v, .int .i64 r.2]) ∧ Below w.heap.size w w'
theorem WPost.mk {r : St × Int} {w w' : World} {s : St} {k : Int} (h : r = (s, k)) (hb : Below w.heap.size w w') : WPost r w (.returned (.tuple #[.agg #[.int .i64 s.a, .int .i64 s.b, .int .i64 s.c], .int .i64 k])) w' := by
  subst h; exact ⟨rfl, hb⟩
set_option maxHeartbeats 2000000 in
theorem wrong_no (m i f a b c n : Int) (w : World) (h : frmB m i f = false) :
    Calls Try.prog 15 #[.agg #[.int .i64 m, .int .i64 i, .int .i64 f], .agg #[.int .i64 a, .int .i64 b, .int .i64 c], .int .i64 n] w (WPost (wrongF m i f ⟨a, b, c⟩ n) w) := by
  have hr := Lib.hid (show wrongF m i f ⟨a, b, c⟩ n = (St.zero, 1) by simp [wrongF, h])
  go_enter Try.func15, Try.ntmps15
  go_wp2_with (go_at_call 20; refine (form_calls _ _ _ _).mono ?_; rintro e w1 ⟨rfl, hb1⟩; have b3 : At w1 w.heap.size #[.int .i64 m, .int .i64 i, .int .i64 f] 23 := (((At.new w _ _).alloc _).alloc _).below hb1 (by first | (simp; done) | (simp; omega) | omega); have b4 : At w1 (w.heap.size + 1) #[.int .i64 a, .int .i64 b, .int .i64 c] 27 := ((At.new' (by simp)).alloc _).below hb1 (by simp); have b6 : At w1 (w.heap.size + 1 + 1) #[.int .i64 0, .int .i64 0, .int .i64 0] 27 := (At.new' (by simp)).below hb1 (by simp); have hz1 := hb1.size; simp only [World.size_alloc] at hz1; have b3c := b3.c; have b3f := b3.f; have b3l := b3.lt; have b4c := b4.c; have b4f := b4.f; have b4l := b4.lt; have b6c := b6.c; have b6f := b6.f; have b6l := b6.lt)
  refine bodyPost_ret (v := .tuple #[.agg #[.int .i64 0, .int .i64 0, .int .i64 0], .int .i64 1]) (by simp [results, Try.results15, go_sem, b6c]) rfl (WPost.mk (s := St.zero) hr.out ?_)
  (repeat (with_reducible first | exact Below.refl _ _ | assumption | refine Below.setCell ?_ (by first | (simp; done) | (simp; omega) | omega) _ | refine Below.alloc ?_ (by first | (simp; done) | (simp; omega) | omega) _ | refine Below.drew ?_ | refine Below.trans ?_ (Below.mono (by assumption) (by first | (simp; done) | (simp; omega) | omega))))
set_option maxHeartbeats 2000000 in
theorem wrong_time (m i f a b c n : Int) (w : World) (h : frmB m i f = true) (hn : n < 0 ∨ 1099511627776 < n) :
    Calls Try.prog 15 #[.agg #[.int .i64 m, .int .i64 i, .int .i64 f], .agg #[.int .i64 a, .int .i64 b, .int .i64 c], .int .i64 n] w (WPost (wrongF m i f ⟨a, b, c⟩ n) w) := by
  have hr := Lib.hid (show wrongF m i f ⟨a, b, c⟩ n = (St.zero, 1) by simp [wrongF, h, hn])
  rcases hn with hn | hn
  · go_enter Try.func15, Try.ntmps15
    go_wp2_with (go_at_call 20; refine (form_calls _ _ _ _).mono ?_; rintro e w1 ⟨rfl, hb1⟩; have b3 : At w1 w.heap.size #[.int .i64 m, .int .i64 i, .int .i64 f] 23 := (((At.new w _ _).alloc _).alloc _).below hb1 (by first | (simp; done) | (simp; omega) | omega); have b4 : At w1 (w.heap.size + 1) #[.int .i64 a, .int .i64 b, .int .i64 c] 27 := ((At.new' (by simp)).alloc _).below hb1 (by simp); have b6 : At w1 (w.heap.size + 1 + 1) #[.int .i64 0, .int .i64 0, .int .i64 0] 27 := (At.new' (by simp)).below hb1 (by simp); have hz1 := hb1.size; simp only [World.size_alloc] at hz1; have b3c := b3.c; have b3f := b3.f; have b3l := b3.lt; have b4c := b4.c; have b4f := b4.f; have b4l := b4.lt; have b6c := b6.c; have b6f := b6.f; have b6l := b6.lt)
    refine bodyPost_ret (v := .tuple #[.agg #[.int .i64 0, .int .i64 0, .int .i64 0], .int .i64 1]) (by simp [results, Try.results15, go_sem, b6c]) rfl (WPost.mk (s := St.zero) hr.out ?_)
    (repeat (with_reducible first | exact Below.refl _ _ | assumption | refine Below.setCell ?_ (by first | (simp; done) | (simp; omega) | omega) _ | refine Below.alloc ?_ (by first | (simp; done) | (simp; omega) | omega) _ | refine Below.drew ?_ | refine Below.trans ?_ (Below.mono (by assumption) (by first | (simp; done) | (simp; omega) | omega))))
  · have hn0 : 0 ≤ n := by omega
    go_enter Try.func15, Try.ntmps15
    go_wp2_with (go_at_call 20; refine (form_calls _ _ _ _).mono ?_; rintro e w1 ⟨rfl, hb1⟩; have b3 : At w1 w.heap.size #[.int .i64 m, .int .i64 i, .int .i64 f] 23 := (((At.new w _ _).alloc _).alloc _).below hb1 (by first | (simp; done) | (simp; omega) | omega); have b4 : At w1 (w.heap.size + 1) #[.int .i64 a, .int .i64 b, .int .i64 c] 27 := ((At.new' (by simp)).alloc _).below hb1 (by simp); have b6 : At w1 (w.heap.size + 1 + 1) #[.int .i64 0, .int .i64 0, .int .i64 0] 27 := (At.new' (by simp)).below hb1 (by simp); have hz1 := hb1.size; simp only [World.size_alloc] at hz1; have b3c := b3.c; have b3f := b3.f; have b3l := b3.lt; have b4c := b4.c; have b4f := b4.f; have b4l := b4.lt; have b6c := b6.c; have b6f := b6.f; have b6l := b6.lt)
    refine bodyPost_ret (v := .tuple #[.agg #[.int .i64 0, .int .i64 0, .int .i64 0], .int .i64 1]) (by simp [results, Try.results15, go_sem, b6c]) rfl (WPost.mk (s := St.zero) hr.out ?_)
    (repeat (with_reducible first | exact Below.refl _ _ | assumption | refine Below.setCell ?_ (by first | (simp; done) | (simp; omega) | omega) _ | refine Below.alloc ?_ (by first | (simp; done) | (simp; omega) | omega) _ | refine Below.drew ?_ | refine Below.trans ?_ (Below.mono (by assumption) (by first | (simp; done) | (simp; omega) | omega))))
set_option maxHeartbeats 1000000 in
theorem wrong_lock (m i f a b c n : Int) (w : World) (h : frmB m i f = true) (n1 : 0 ≤ n) (n2 : n ≤ 1099511627776) (hc : n < c) :
    Calls Try.prog 15 #[.agg #[.int .i64 m, .int .i64 i, .int .i64 f], .agg #[.int .i64 a, .int .i64 b, .int .i64 c], .int .i64 n] w (WPost (wrongF m i f ⟨a, b, c⟩ n) w) := by
  have hr := Lib.hid (show wrongF m i f ⟨a, b, c⟩ n = (⟨a, b, c⟩, 0) by
    unfold wrongF; rw [if_neg (by simp [h]; omega), if_pos hc])
  go_enter Try.func15, Try.ntmps15
  go_wp2_with (first | (go_at_call 20; refine (form_calls _ _ _ _).mono ?_; rintro e w1 ⟨rfl, hb1⟩; have b3 : At w1 w.heap.size #[.int .i64 m, .int .i64 i, .int .i64 f] 23 := (((At.new w _ _).alloc _).alloc _).below hb1 (by first | (simp; done) | (simp; omega) | omega); have b4 : At w1 (w.heap.size + 1) #[.int .i64 a, .int .i64 b, .int .i64 c] 27 := ((At.new' (by simp)).alloc _).below hb1 (by simp); have b6 : At w1 (w.heap.size + 1 + 1) #[.int .i64 0, .int .i64 0, .int .i64 0] 27 := (At.new' (by simp)).below hb1 (by simp); have hz1 := hb1.size; simp only [World.size_alloc] at hz1; have b3c := b3.c; have b3f := b3.f; have b3l := b3.lt; have b4c := b4.c; have b4f := b4.f; have b4l := b4.lt; have b6c := b6.c; have b6f := b6.f; have b6l := b6.lt) | (go_at_call 16; refine (locked_calls _ _ _ _ _).mono ?_; rintro e w2 ⟨rfl, hb2⟩; have hz2 := hb2.size; replace b3 := b3.below hb2 b3.lt; have b3c := b3.c; have b3f := b3.f; have b3l := b3.lt; replace b4 := b4.below hb2 b4.lt; have b4c := b4.c; have b4f := b4.f; have b4l := b4.lt; replace b6 := b6.below hb2 b6.lt; have b6c := b6.c; have b6f := b6.f; have b6l := b6.lt))
  refine bodyPost_ret (v := .tuple #[.agg #[.int .i64 a, .int .i64 b, .int .i64 c], .int .i64 0]) (by simp [results, Try.results15, go_sem, b6c]) rfl (WPost.mk (s := ⟨a, b, c⟩) hr.out ?_)
  (repeat (with_reducible first | exact Below.refl _ _ | assumption | refine Below.setCell ?_ (by first | (simp; done) | (simp; omega) | omega) _ | refine Below.alloc ?_ (by first | (simp; done) | (simp; omega) | omega) _ | refine Below.drew ?_ | refine Below.trans ?_ (Below.mono (by assumption) (by first | (simp; done) | (simp; omega) | omega))))
set_option maxHeartbeats 1000000 in
theorem wrong_lockx (m i f a b c n : Int) (w : World) (h : frmB m i f = true) (n1 : 0 ≤ n) (n2 : n ≤ 1099511627776) (hc : c ≤ n) (ho : a < 1) (hm : m ≤ 1) :
    Calls Try.prog 15 #[.agg #[.int .i64 m, .int .i64 i, .int .i64 f], .agg #[.int .i64 a, .int .i64 b, .int .i64 c], .int .i64 n] w (WPost (wrongF m i f ⟨a, b, c⟩ n) w) := by
  have hf' := h
  unfold frmB at hf'
  simp at hf'
  obtain ⟨⟨⟨⟨⟨m1, m2⟩, i1⟩, i2⟩, f1⟩, f2⟩ := hf'
  have wn : wrap64 (n - i) = n - i := by unfold wrap64; omega
  have hr := Lib.hid (show wrongF m i f ⟨a, b, c⟩ n = (⟨0, 0, n + f⟩, 0) by
    unfold wrongF; rw [if_neg (by simp [h]; omega), if_neg (by simp only; omega), wn]; simp only; rw [if_pos (by omega), if_pos hm])
  clear wn
  have ha := decide_eq_true ho; clear ho; have hm0 : decide (m - 1 ≤ 0) = true := decide_eq_true (by omega); have hm1 := decide_eq_true hm; clear hm
  go_enter Try.func15, Try.ntmps15
  go_wp2_with (first | (go_at_call 20; refine (form_calls _ _ _ _).mono ?_; rintro e w1 ⟨rfl, hb1⟩; have b3 : At w1 w.heap.size #[.int .i64 m, .int .i64 i, .int .i64 f] 23 := (((At.new w _ _).alloc _).alloc _).below hb1 (by first | (simp; done) | (simp; omega) | omega); have b4 : At w1 (w.heap.size + 1) #[.int .i64 a, .int .i64 b, .int .i64 c] 27 := ((At.new' (by simp)).alloc _).below hb1 (by simp); have b6 : At w1 (w.heap.size + 1 + 1) #[.int .i64 0, .int .i64 0, .int .i64 0] 27 := (At.new' (by simp)).below hb1 (by simp); have hz1 := hb1.size; simp only [World.size_alloc] at hz1; have b3c := b3.c; have b3f := b3.f; have b3l := b3.lt; have b4c := b4.c; have b4f := b4.f; have b4l := b4.lt; have b6c := b6.c; have b6f := b6.f; have b6l := b6.lt) | (go_at_call 16; refine (locked_calls _ _ _ _ _).mono ?_; rintro e w2 ⟨rfl, hb2⟩; have hz2 := hb2.size; replace b3 := b3.below hb2 b3.lt; have b3c := b3.c; have b3f := b3.f; have b3l := b3.lt; replace b4 := b4.below hb2 b4.lt; have b4c := b4.c; have b4f := b4.f; have b4l := b4.lt; replace b6 := b6.below hb2 b6.lt; have b6c := b6.c; have b6f := b6.f; have b6l := b6.lt))
  refine bodyPost_ret (v := .tuple #[.agg #[.int .i64 0, .int .i64 0, .int .i64 (n + f)], .int .i64 0]) (by simp [results, Try.results15, go_sem, b6c]) rfl (WPost.mk (s := ⟨0, 0, n + f⟩) hr.out ?_)
  (repeat (with_reducible first | exact Below.refl _ _ | assumption | refine Below.setCell ?_ (by first | (simp; done) | (simp; omega) | omega) _ | refine Below.alloc ?_ (by first | (simp; done) | (simp; omega) | omega) _ | refine Below.drew ?_ | refine Below.trans ?_ (Below.mono (by assumption) (by first | (simp; done) | (simp; omega) | omega))))
set_option maxHeartbeats 1000000 in
theorem wrong_newx (m i f a b c n : Int) (w : World) (h : frmB m i f = true) (n1 : 0 ≤ n) (n2 : n ≤ 1099511627776) (hc : c ≤ n) (ho : a < 1) (hm : 1 < m) :
    Calls Try.prog 15 #[.agg #[.int .i64 m, .int .i64 i, .int .i64 f], .agg #[.int .i64 a, .int .i64 b, .int .i64 c], .int .i64 n] w (WPost (wrongF m i f ⟨a, b, c⟩ n) w) := by
  have hf' := h
  unfold frmB at hf'
  simp at hf'
  obtain ⟨⟨⟨⟨⟨m1, m2⟩, i1⟩, i2⟩, f1⟩, f2⟩ := hf'
  have wn : wrap64 (n - i) = n - i := by unfold wrap64; omega
  have hr := Lib.hid (show wrongF m i f ⟨a, b, c⟩ n = (⟨1, n, 0⟩, 0) by
    unfold wrongF; rw [if_neg (by simp [h]; omega), if_neg (by simp only; omega), wn]; simp only; rw [if_pos (by omega), if_neg (by omega)])
  clear wn
  have ha := decide_eq_true ho; clear ho
  go_enter Try.func15, Try.ntmps15
  go_upto_region 8 with (first | (go_at_call 20; refine (form_calls _ _ _ _).mono ?_; rintro e w1 ⟨rfl, hb1⟩; have b3 : At w1 w.heap.size #[.int .i64 m, .int .i64 i, .int .i64 f] 23 := (((At.new w _ _).alloc _).alloc _).below hb1 (by first | (simp; done) | (simp; omega) | omega); have b4 : At w1 (w.heap.size + 1) #[.int .i64 a, .int .i64 b, .int .i64 c] 27 := ((At.new' (by simp)).alloc _).below hb1 (by simp); have b6 : At w1 (w.heap.size + 1 + 1) #[.int .i64 0, .int .i64 0, .int .i64 0] 27 := (At.new' (by simp)).below hb1 (by simp); have hz1 := hb1.size; simp only [World.size_alloc] at hz1; have b3c := b3.c; have b3f := b3.f; have b3l := b3.lt; have b4c := b4.c; have b4f := b4.f; have b4l := b4.lt; have b6c := b6.c; have b6f := b6.f; have b6l := b6.lt) | (go_at_call 16; refine (locked_calls _ _ _ _ _).mono ?_; rintro e w2 ⟨rfl, hb2⟩; have hz2 := hb2.size; replace b3 := b3.below hb2 b3.lt; have b3c := b3.c; have b3f := b3.f; have b3l := b3.lt; replace b4 := b4.below hb2 b4.lt; have b4c := b4.c; have b4f := b4.f; have b4l := b4.lt; replace b6 := b6.below hb2 b6.lt; have b6c := b6.c; have b6f := b6.f; have b6l := b6.lt))
  generalize hw5 : World.setCell (World.setCell (World.setCell (World.setCell w2 _ _) _ _) _ _) _ _ = w5
  have k4 : At w5 (w.heap.size + 1) #[.int .i64 0, .int .i64 n, .int .i64 0] 27 := hw5 ▸ (b4.set.set.set.set).to rfl
  have k6 : At w5 (w.heap.size + 1 + 1) #[.int .i64 0, .int .i64 0, .int .i64 0] 27 := hw5 ▸ ((((b6.set_ne (by simp)).set_ne (by simp)).set_ne (by simp)).set_ne (by simp))
  have k3 : At w5 w.heap.size #[.int .i64 m, .int .i64 i, .int .i64 f] 23 := hw5 ▸ ((((b3.set_ne (by simp)).set_ne (by simp)).set_ne (by simp)).set_ne (by simp))
  have hb5 : Below w.heap.size w w5 := by
    rw [← hw5]
    (repeat (with_reducible first | exact Below.refl _ _ | assumption | refine Below.setCell ?_ (by first | (simp; done) | (simp; omega) | omega) _ | refine Below.alloc ?_ (by first | (simp; done) | (simp; omega) | omega) _ | refine Below.drew ?_ | refine Below.trans ?_ (Below.mono (by assumption) (by first | (simp; done) | (simp; omega) | omega))))
  have hz5 := k6.lt
  clear hw5 b3c b3f b4c b4f b6c b6f b3l b4l b6l b3 b4 b6 hb1 hb2 hz1 hz2
  obtain ⟨z, z0, k4⟩ : ∃ z : Int, z = 0 ∧ At w5 (w.heap.size + 1) #[.int .i64 z, .int .i64 n, .int .i64 0] 27 := ⟨0, rfl, k4⟩
  have z1 : 0 ≤ z := by omega
  have z2 : z ≤ 0 := by omega
  have hz0 := Lib.hid z0
  clear z0
  have hm : z < m - 1 := by omega
  have k3c := k3.c; have k3f := k3.f; have k3l := k3.lt; have k4c := k4.c; have k4f := k4.f; have k4l := k4.lt; have k6c := k6.c; have k6f := k6.f; have k6l := k6.lt
  go_wp2
  refine bodyPost_ret (v := .tuple #[.agg #[.int .i64 (z + 1), .int .i64 n, .int .i64 0], .int .i64 0]) (by simp [results, Try.results15, go_sem, k6c]) rfl (WPost.mk (s := ⟨z + 1, n, 0⟩) (by rw [hr.out, hz0.out]; rfl) ?_)
  (repeat (with_reducible first | exact Below.refl _ _ | assumption | refine Below.setCell ?_ (by first | (simp; done) | (simp; omega) | omega) _ | refine Below.alloc ?_ (by first | (simp; done) | (simp; omega) | omega) _ | refine Below.drew ?_ | refine Below.trans ?_ (Below.mono (by assumption) (by first | (simp; done) | (simp; omega) | omega))))
set_option maxHeartbeats 1000000 in
theorem wrong_locky (m i f a b c n : Int) (w : World) (h : frmB m i f = true) (n1 : 0 ≤ n) (n2 : n ≤ 1099511627776) (hc : c ≤ n) (hp : 1 ≤ a) (ho : n < b) (hm : m ≤ 1) :
    Calls Try.prog 15 #[.agg #[.int .i64 m, .int .i64 i, .int .i64 f], .agg #[.int .i64 a, .int .i64 b, .int .i64 c], .int .i64 n] w (WPost (wrongF m i f ⟨a, b, c⟩ n) w) := by
  have hf' := h
  unfold frmB at hf'
  simp at hf'
  obtain ⟨⟨⟨⟨⟨m1, m2⟩, i1⟩, i2⟩, f1⟩, f2⟩ := hf'
  have wn : wrap64 (n - i) = n - i := by unfold wrap64; omega
  have hr := Lib.hid (show wrongF m i f ⟨a, b, c⟩ n = (⟨0, 0, n + f⟩, 0) by
    unfold wrongF; rw [if_neg (by simp [h]; omega), if_neg (by simp only; omega), wn]; simp only; rw [if_pos (by omega), if_pos hm])
  clear wn
  have ha : decide (a < 1) = false := decide_eq_false (by omega); have hb := decide_eq_true ho; clear ho hp; have hm0 : decide (m - 1 ≤ 0) = true := decide_eq_true (by omega); have hm1 := decide_eq_true hm; clear hm
  go_enter Try.func15, Try.ntmps15
  go_wp2_with (first | (go_at_call 20; refine (form_calls _ _ _ _).mono ?_; rintro e w1 ⟨rfl, hb1⟩; have b3 : At w1 w.heap.size #[.int .i64 m, .int .i64 i, .int .i64 f] 23 := (((At.new w _ _).alloc _).alloc _).below hb1 (by first | (simp; done) | (simp; omega) | omega); have b4 : At w1 (w.heap.size + 1) #[.int .i64 a, .int .i64 b, .int .i64 c] 27 := ((At.new' (by simp)).alloc _).below hb1 (by simp); have b6 : At w1 (w.heap.size + 1 + 1) #[.int .i64 0, .int .i64 0, .int .i64 0] 27 := (At.new' (by simp)).below hb1 (by simp); have hz1 := hb1.size; simp only [World.size_alloc] at hz1; have b3c := b3.c; have b3f := b3.f; have b3l := b3.lt; have b4c := b4.c; have b4f := b4.f; have b4l := b4.lt; have b6c := b6.c; have b6f := b6.f; have b6l := b6.lt) | (go_at_call 16; refine (locked_calls _ _ _ _ _).mono ?_; rintro e w2 ⟨rfl, hb2⟩; have hz2 := hb2.size; replace b3 := b3.below hb2 b3.lt; have b3c := b3.c; have b3f := b3.f; have b3l := b3.lt; replace b4 := b4.below hb2 b4.lt; have b4c := b4.c; have b4f := b4.f; have b4l := b4.lt; replace b6 := b6.below hb2 b6.lt; have b6c := b6.c; have b6f := b6.f; have b6l := b6.lt))
  refine bodyPost_ret (v := .tuple #[.agg #[.int .i64 0, .int .i64 0, .int .i64 (n + f)], .int .i64 0]) (by simp [results, Try.results15, go_sem, b6c]) rfl (WPost.mk (s := ⟨0, 0, n + f⟩) hr.out ?_)
  (repeat (with_reducible first | exact Below.refl _ _ | assumption | refine Below.setCell ?_ (by first | (simp; done) | (simp; omega) | omega) _ | refine Below.alloc ?_ (by first | (simp; done) | (simp; omega) | omega) _ | refine Below.drew ?_ | refine Below.trans ?_ (Below.mono (by assumption) (by first | (simp; done) | (simp; omega) | omega))))
set_option maxHeartbeats 1000000 in
theorem wrong_newy (m i f a b c n : Int) (w : World) (h : frmB m i f = true) (n1 : 0 ≤ n) (n2 : n ≤ 1099511627776) (hc : c ≤ n) (hp : 1 ≤ a) (ho : n < b) (hm : 1 < m) :
    Calls Try.prog 15 #[.agg #[.int .i64 m, .int .i64 i, .int .i64 f], .agg #[.int .i64 a, .int .i64 b, .int .i64 c], .int .i64 n] w (WPost (wrongF m i f ⟨a, b, c⟩ n) w) := by
  have hf' := h
  unfold frmB at hf'
  simp at hf'
  obtain ⟨⟨⟨⟨⟨m1, m2⟩, i1⟩, i2⟩, f1⟩, f2⟩ := hf'
  have wn : wrap64 (n - i) = n - i := by unfold wrap64; omega
  have hr := Lib.hid (show wrongF m i f ⟨a, b, c⟩ n = (⟨1, n, 0⟩, 0) by
    unfold wrongF; rw [if_neg (by simp [h]; omega), if_neg (by simp only; omega), wn]; simp only; rw [if_pos (by omega), if_neg (by omega)])
  clear wn
  have ha : decide (a < 1) = false := decide_eq_false (by omega); have hb := decide_eq_true ho; clear ho hp
  go_enter Try.func15, Try.ntmps15
  go_upto_region 8 with (first | (go_at_call 20; refine (form_calls _ _ _ _).mono ?_; rintro e w1 ⟨rfl, hb1⟩; have b3 : At w1 w.heap.size #[.int .i64 m, .int .i64 i, .int .i64 f] 23 := (((At.new w _ _).alloc _).alloc _).below hb1 (by first | (simp; done) | (simp; omega) | omega); have b4 : At w1 (w.heap.size + 1) #[.int .i64 a, .int .i64 b, .int .i64 c] 27 := ((At.new' (by simp)).alloc _).below hb1 (by simp); have b6 : At w1 (w.heap.size + 1 + 1) #[.int .i64 0, .int .i64 0, .int .i64 0] 27 := (At.new' (by simp)).below hb1 (by simp); have hz1 := hb1.size; simp only [World.size_alloc] at hz1; have b3c := b3.c; have b3f := b3.f; have b3l := b3.lt; have b4c := b4.c; have b4f := b4.f; have b4l := b4.lt; have b6c := b6.c; have b6f := b6.f; have b6l := b6.lt) | (go_at_call 16; refine (locked_calls _ _ _ _ _).mono ?_; rintro e w2 ⟨rfl, hb2⟩; have hz2 := hb2.size; replace b3 := b3.below hb2 b3.lt; have b3c := b3.c; have b3f := b3.f; have b3l := b3.lt; replace b4 := b4.below hb2 b4.lt; have b4c := b4.c; have b4f := b4.f; have b4l := b4.lt; replace b6 := b6.below hb2 b6.lt; have b6c := b6.c; have b6f := b6.f; have b6l := b6.lt))
  generalize hw5 : World.setCell (World.setCell (World.setCell (World.setCell w2 _ _) _ _) _ _) _ _ = w5
  have k4 : At w5 (w.heap.size + 1) #[.int .i64 0, .int .i64 n, .int .i64 0] 27 := hw5 ▸ (b4.set.set.set.set).to rfl
  have k6 : At w5 (w.heap.size + 1 + 1) #[.int .i64 0, .int .i64 0, .int .i64 0] 27 := hw5 ▸ ((((b6.set_ne (by simp)).set_ne (by simp)).set_ne (by simp)).set_ne (by simp))
  have k3 : At w5 w.heap.size #[.int .i64 m, .int .i64 i, .int .i64 f] 23 := hw5 ▸ ((((b3.set_ne (by simp)).set_ne (by simp)).set_ne (by simp)).set_ne (by simp))
  have hb5 : Below w.heap.size w w5 := by
    rw [← hw5]
    (repeat (with_reducible first | exact Below.refl _ _ | assumption | refine Below.setCell ?_ (by first | (simp; done) | (simp; omega) | omega) _ | refine Below.alloc ?_ (by first | (simp; done) | (simp; omega) | omega) _ | refine Below.drew ?_ | refine Below.trans ?_ (Below.mono (by assumption) (by first | (simp; done) | (simp; omega) | omega))))
  have hz5 := k6.lt
  clear hw5 b3c b3f b4c b4f b6c b6f b3l b4l b6l b3 b4 b6 hb1 hb2 hz1 hz2
  obtain ⟨z, z0, k4⟩ : ∃ z : Int, z = 0 ∧ At w5 (w.heap.size + 1) #[.int .i64 z, .int .i64 n, .int .i64 0] 27 := ⟨0, rfl, k4⟩
  have z1 : 0 ≤ z := by omega
  have z2 : z ≤ 0 := by omega
  have hz0 := Lib.hid z0
  clear z0
  have hm : z < m - 1 := by omega
  have k3c := k3.c; have k3f := k3.f; have k3l := k3.lt; have k4c := k4.c; have k4f := k4.f; have k4l := k4.lt; have k6c := k6.c; have k6f := k6.f; have k6l := k6.lt
  go_wp2
  refine bodyPost_ret (v := .tuple #[.agg #[.int .i64 (z + 1), .int .i64 n, .int .i64 0], .int .i64 0]) (by simp [results, Try.results15, go_sem, k6c]) rfl (WPost.mk (s := ⟨z + 1, n, 0⟩) (by rw [hr.out, hz0.out]; rfl) ?_)
  (repeat (with_reducible first | exact Below.refl _ _ | assumption | refine Below.setCell ?_ (by first | (simp; done) | (simp; omega) | omega) _ | refine Below.alloc ?_ (by first | (simp; done) | (simp; omega) | omega) _ | refine Below.drew ?_ | refine Below.trans ?_ (Below.mono (by assumption) (by first | (simp; done) | (simp; omega) | omega))))
set_option maxHeartbeats 1000000 in
theorem wrong_lockz (m i f a b c n : Int) (w : World) (h : frmB m i f = true) (n1 : 0 ≤ n) (n2 : n ≤ 1099511627776) (hc : c ≤ n) (hp : 1 ≤ a) (hq : b ≤ n) (ho : b ≤ n - i) (hm : m ≤ 1) :
    Calls Try.prog 15 #[.agg #[.int .i64 m, .int .i64 i, .int .i64 f], .agg #[.int .i64 a, .int .i64 b, .int .i64 c], .int .i64 n] w (WPost (wrongF m i f ⟨a, b, c⟩ n) w) := by
  have hf' := h
  unfold frmB at hf'
  simp at hf'
  obtain ⟨⟨⟨⟨⟨m1, m2⟩, i1⟩, i2⟩, f1⟩, f2⟩ := hf'
  have wn : wrap64 (n - i) = n - i := by unfold wrap64; omega
  have hr := Lib.hid (show wrongF m i f ⟨a, b, c⟩ n = (⟨0, 0, n + f⟩, 0) by
    unfold wrongF; rw [if_neg (by simp [h]; omega), if_neg (by simp only; omega), wn]; simp only; rw [if_pos (by omega), if_pos hm])
  clear wn
  have ha : decide (a < 1) = false := decide_eq_false (by omega); have hb : decide (n < b) = false := decide_eq_false (by omega); have hd := decide_eq_true ho; clear ho hp hq; have hm0 : decide (m - 1 ≤ 0) = true := decide_eq_true (by omega); have hm1 := decide_eq_true hm; clear hm
  go_enter Try.func15, Try.ntmps15
  go_wp2_with (first | (go_at_call 20; refine (form_calls _ _ _ _).mono ?_; rintro e w1 ⟨rfl, hb1⟩; have b3 : At w1 w.heap.size #[.int .i64 m, .int .i64 i, .int .i64 f] 23 := (((At.new w _ _).alloc _).alloc _).below hb1 (by first | (simp; done) | (simp; omega) | omega); have b4 : At w1 (w.heap.size + 1) #[.int .i64 a, .int .i64 b, .int .i64 c] 27 := ((At.new' (by simp)).alloc _).below hb1 (by simp); have b6 : At w1 (w.heap.size + 1 + 1) #[.int .i64 0, .int .i64 0, .int .i64 0] 27 := (At.new' (by simp)).below hb1 (by simp); have hz1 := hb1.size; simp only [World.size_alloc] at hz1; have b3c := b3.c; have b3f := b3.f; have b3l := b3.lt; have b4c := b4.c; have b4f := b4.f; have b4l := b4.lt; have b6c := b6.c; have b6f := b6.f; have b6l := b6.lt) | (go_at_call 16; refine (locked_calls _ _ _ _ _).mono ?_; rintro e w2 ⟨rfl, hb2⟩; have hz2 := hb2.size; replace b3 := b3.below hb2 b3.lt; have b3c := b3.c; have b3f := b3.f; have b3l := b3.lt; replace b4 := b4.below hb2 b4.lt; have b4c := b4.c; have b4f := b4.f; have b4l := b4.lt; replace b6 := b6.below hb2 b6.lt; have b6c := b6.c; have b6f := b6.f; have b6l := b6.lt))
  refine bodyPost_ret (v := .tuple #[.agg #[.int .i64 0, .int .i64 0, .int .i64 (n + f)], .int .i64 0]) (by simp [results, Try.results15, go_sem, b6c]) rfl (WPost.mk (s := ⟨0, 0, n + f⟩) hr.out ?_)
  (repeat (with_reducible first | exact Below.refl _ _ | assumption | refine Below.setCell ?_ (by first | (simp; done) | (simp; omega) | omega) _ | refine Below.alloc ?_ (by first | (simp; done) | (simp; omega) | omega) _ | refine Below.drew ?_ | refine Below.trans ?_ (Below.mono (by assumption) (by first | (simp; done) | (simp; omega) | omega))))
set_option maxHeartbeats 1000000 in
theorem wrong_newz (m i f a b c n : Int) (w : World) (h : frmB m i f = true) (n1 : 0 ≤ n) (n2 : n ≤ 1099511627776) (hc : c ≤ n) (hp : 1 ≤ a) (hq : b ≤ n) (ho : b ≤ n - i) (hm : 1 < m) :
    Calls Try.prog 15 #[.agg #[.int .i64 m, .int .i64 i, .int .i64 f], .agg #[.int .i64 a, .int .i64 b, .int .i64 c], .int .i64 n] w (WPost (wrongF m i f ⟨a, b, c⟩ n) w) := by
  have hf' := h
  unfold frmB at hf'
  simp at hf'
  obtain ⟨⟨⟨⟨⟨m1, m2⟩, i1⟩, i2⟩, f1⟩, f2⟩ := hf'
  have wn : wrap64 (n - i) = n - i := by unfold wrap64; omega
  have hr := Lib.hid (show wrongF m i f ⟨a, b, c⟩ n = (⟨1, n, 0⟩, 0) by
    unfold wrongF; rw [if_neg (by simp [h]; omega), if_neg (by simp only; omega), wn]; simp only; rw [if_pos (by omega), if_neg (by omega)])
  clear wn
  have ha : decide (a < 1) = false := decide_eq_false (by omega); have hb : decide (n < b) = false := decide_eq_false (by omega); have hd := decide_eq_true ho; clear ho hp hq
  go_enter Try.func15, Try.ntmps15
  go_upto_region 8 with (first | (go_at_call 20; refine (form_calls _ _ _ _).mono ?_; rintro e w1 ⟨rfl, hb1⟩; have b3 : At w1 w.heap.size #[.int .i64 m, .int .i64 i, .int .i64 f] 23 := (((At.new w _ _).alloc _).alloc _).below hb1 (by first | (simp; done) | (simp; omega) | omega); have b4 : At w1 (w.heap.size + 1) #[.int .i64 a, .int .i64 b, .int .i64 c] 27 := ((At.new' (by simp)).alloc _).below hb1 (by simp); have b6 : At w1 (w.heap.size + 1 + 1) #[.int .i64 0, .int .i64 0, .int .i64 0] 27 := (At.new' (by simp)).below hb1 (by simp); have hz1 := hb1.size; simp only [World.size_alloc] at hz1; have b3c := b3.c; have b3f := b3.f; have b3l := b3.lt; have b4c := b4.c; have b4f := b4.f; have b4l := b4.lt; have b6c := b6.c; have b6f := b6.f; have b6l := b6.lt) | (go_at_call 16; refine (locked_calls _ _ _ _ _).mono ?_; rintro e w2 ⟨rfl, hb2⟩; have hz2 := hb2.size; replace b3 := b3.below hb2 b3.lt; have b3c := b3.c; have b3f := b3.f; have b3l := b3.lt; replace b4 := b4.below hb2 b4.lt; have b4c := b4.c; have b4f := b4.f; have b4l := b4.lt; replace b6 := b6.below hb2 b6.lt; have b6c := b6.c; have b6f := b6.f; have b6l := b6.lt))
  generalize hw5 : World.setCell (World.setCell (World.setCell (World.setCell w2 _ _) _ _) _ _) _ _ = w5
  have k4 : At w5 (w.heap.size + 1) #[.int .i64 0, .int .i64 n, .int .i64 0] 27 := hw5 ▸ (b4.set.set.set.set).to rfl
  have k6 : At w5 (w.heap.size + 1 + 1) #[.int .i64 0, .int .i64 0, .int .i64 0] 27 := hw5 ▸ ((((b6.set_ne (by simp)).set_ne (by simp)).set_ne (by simp)).set_ne (by simp))
  have k3 : At w5 w.heap.size #[.int .i64 m, .int .i64 i, .int .i64 f] 23 := hw5 ▸ ((((b3.set_ne (by simp)).set_ne (by simp)).set_ne (by simp)).set_ne (by simp))
  have hb5 : Below w.heap.size w w5 := by
    rw [← hw5]
    (repeat (with_reducible first | exact Below.refl _ _ | assumption | refine Below.setCell ?_ (by first | (simp; done) | (simp; omega) | omega) _ | refine Below.alloc ?_ (by first | (simp; done) | (simp; omega) | omega) _ | refine Below.drew ?_ | refine Below.trans ?_ (Below.mono (by assumption) (by first | (simp; done) | (simp; omega) | omega))))
  have hz5 := k6.lt
  clear hw5 b3c b3f b4c b4f b6c b6f b3l b4l b6l b3 b4 b6 hb1 hb2 hz1 hz2
  obtain ⟨z, z0, k4⟩ : ∃ z : Int, z = 0 ∧ At w5 (w.heap.size + 1) #[.int .i64 z, .int .i64 n, .int .i64 0] 27 := ⟨0, rfl, k4⟩
  have z1 : 0 ≤ z := by omega
  have z2 : z ≤ 0 := by omega
  have hz0 := Lib.hid z0
  clear z0
  have hm : z < m - 1 := by omega
  have k3c := k3.c; have k3f := k3.f; have k3l := k3.lt; have k4c := k4.c; have k4f := k4.f; have k4l := k4.lt; have k6c := k6.c; have k6f := k6.f; have k6l := k6.lt
  go_wp2
  refine bodyPost_ret (v := .tuple #[.agg #[.int .i64 (z + 1), .int .i64 n, .int .i64 0], .int .i64 0]) (by simp [results, Try.results15, go_sem, k6c]) rfl (WPost.mk (s := ⟨z + 1, n, 0⟩) (by rw [hr.out, hz0.out]; rfl) ?_)
  (repeat (with_reducible first | exact Below.refl _ _ | assumption | refine Below.setCell ?_ (by first | (simp; done) | (simp; omega) | omega) _ | refine Below.alloc ?_ (by first | (simp; done) | (simp; omega) | omega) _ | refine Below.drew ?_ | refine Below.trans ?_ (Below.mono (by assumption) (by first | (simp; done) | (simp; omega) | omega))))
set_option maxHeartbeats 1000000 in
theorem wrong_lockn (m i f a b c n : Int) (w : World) (h : frmB m i f = true) (n1 : 0 ≤ n) (n2 : n ≤ 1099511627776) (hc : c ≤ n) (hp : 1 ≤ a) (hq : b ≤ n) (ho : n - i < b) (hm : m - 1 ≤ a) :
    Calls Try.prog 15 #[.agg #[.int .i64 m, .int .i64 i, .int .i64 f], .agg #[.int .i64 a, .int .i64 b, .int .i64 c], .int .i64 n] w (WPost (wrongF m i f ⟨a, b, c⟩ n) w) := by
  have hf' := h
  unfold frmB at hf'
  simp at hf'
  obtain ⟨⟨⟨⟨⟨m1, m2⟩, i1⟩, i2⟩, f1⟩, f2⟩ := hf'
  have wn : wrap64 (n - i) = n - i := by unfold wrap64; omega
  have hr := Lib.hid (show wrongF m i f ⟨a, b, c⟩ n = (⟨0, 0, n + f⟩, 0) by
    unfold wrongF; rw [if_neg (by simp [h]; omega), if_neg (by simp only; omega), wn]; simp only; rw [if_neg (by omega), if_pos hm])
  clear wn
  
  go_enter Try.func15, Try.ntmps15
  go_wp2_with (first | (go_at_call 20; refine (form_calls _ _ _ _).mono ?_; rintro e w1 ⟨rfl, hb1⟩; have b3 : At w1 w.heap.size #[.int .i64 m, .int .i64 i, .int .i64 f] 23 := (((At.new w _ _).alloc _).alloc _).below hb1 (by first | (simp; done) | (simp; omega) | omega); have b4 : At w1 (w.heap.size + 1) #[.int .i64 a, .int .i64 b, .int .i64 c] 27 := ((At.new' (by simp)).alloc _).below hb1 (by simp); have b6 : At w1 (w.heap.size + 1 + 1) #[.int .i64 0, .int .i64 0, .int .i64 0] 27 := (At.new' (by simp)).below hb1 (by simp); have hz1 := hb1.size; simp only [World.size_alloc] at hz1; have b3c := b3.c; have b3f := b3.f; have b3l := b3.lt; have b4c := b4.c; have b4f := b4.f; have b4l := b4.lt; have b6c := b6.c; have b6f := b6.f; have b6l := b6.lt) | (go_at_call 16; refine (locked_calls _ _ _ _ _).mono ?_; rintro e w2 ⟨rfl, hb2⟩; have hz2 := hb2.size; replace b3 := b3.below hb2 b3.lt; have b3c := b3.c; have b3f := b3.f; have b3l := b3.lt; replace b4 := b4.below hb2 b4.lt; have b4c := b4.c; have b4f := b4.f; have b4l := b4.lt; replace b6 := b6.below hb2 b6.lt; have b6c := b6.c; have b6f := b6.f; have b6l := b6.lt))
  refine bodyPost_ret (v := .tuple #[.agg #[.int .i64 0, .int .i64 0, .int .i64 (n + f)], .int .i64 0]) (by simp [results, Try.results15, go_sem, b6c]) rfl (WPost.mk (s := ⟨0, 0, n + f⟩) hr.out ?_)
  (repeat (with_reducible first | exact Below.refl _ _ | assumption | refine Below.setCell ?_ (by first | (simp; done) | (simp; omega) | omega) _ | refine Below.alloc ?_ (by first | (simp; done) | (simp; omega) | omega) _ | refine Below.drew ?_ | refine Below.trans ?_ (Below.mono (by assumption) (by first | (simp; done) | (simp; omega) | omega))))
set_option maxHeartbeats 1000000 in
theorem wrong_one (m i f a b c n : Int) (w : World) (h : frmB m i f = true) (n1 : 0 ≤ n) (n2 : n ≤ 1099511627776) (hc : c ≤ n) (hp : 1 ≤ a) (hq : b ≤ n) (ho : n - i < b) (hm : a < m - 1) :
    Calls Try.prog 15 #[.agg #[.int .i64 m, .int .i64 i, .int .i64 f], .agg #[.int .i64 a, .int .i64 b, .int .i64 c], .int .i64 n] w (WPost (wrongF m i f ⟨a, b, c⟩ n) w) := by
  have hf' := h
  unfold frmB at hf'
  simp at hf'
  obtain ⟨⟨⟨⟨⟨m1, m2⟩, i1⟩, i2⟩, f1⟩, f2⟩ := hf'
  have wn : wrap64 (n - i) = n - i := by unfold wrap64; omega
  have hr := Lib.hid (show wrongF m i f ⟨a, b, c⟩ n = (⟨a + 1, b, 0⟩, 0) by
    unfold wrongF; rw [if_neg (by simp [h]; omega), if_neg (by simp only; omega), wn]; simp only; rw [if_neg (by omega), if_neg (by omega)])
  clear wn
  
  go_enter Try.func15, Try.ntmps15
  go_wp2_with (first | (go_at_call 20; refine (form_calls _ _ _ _).mono ?_; rintro e w1 ⟨rfl, hb1⟩; have b3 : At w1 w.heap.size #[.int .i64 m, .int .i64 i, .int .i64 f] 23 := (((At.new w _ _).alloc _).alloc _).below hb1 (by first | (simp; done) | (simp; omega) | omega); have b4 : At w1 (w.heap.size + 1) #[.int .i64 a, .int .i64 b, .int .i64 c] 27 := ((At.new' (by simp)).alloc _).below hb1 (by simp); have b6 : At w1 (w.heap.size + 1 + 1) #[.int .i64 0, .int .i64 0, .int .i64 0] 27 := (At.new' (by simp)).below hb1 (by simp); have hz1 := hb1.size; simp only [World.size_alloc] at hz1; have b3c := b3.c; have b3f := b3.f; have b3l := b3.lt; have b4c := b4.c; have b4f := b4.f; have b4l := b4.lt; have b6c := b6.c; have b6f := b6.f; have b6l := b6.lt) | (go_at_call 16; refine (locked_calls _ _ _ _ _).mono ?_; rintro e w2 ⟨rfl, hb2⟩; have hz2 := hb2.size; replace b3 := b3.below hb2 b3.lt; have b3c := b3.c; have b3f := b3.f; have b3l := b3.lt; replace b4 := b4.below hb2 b4.lt; have b4c := b4.c; have b4f := b4.f; have b4l := b4.lt; replace b6 := b6.below hb2 b6.lt; have b6c := b6.c; have b6f := b6.f; have b6l := b6.lt))
  refine bodyPost_ret (v := .tuple #[.agg #[.int .i64 (a + 1), .int .i64 b, .int .i64 0], .int .i64 0]) (by simp [results, Try.results15, go_sem, b6c]) rfl (WPost.mk (s := ⟨a + 1, b, 0⟩) hr.out ?_)
  (repeat (with_reducible first | exact Below.refl _ _ | assumption | refine Below.setCell ?_ (by first | (simp; done) | (simp; omega) | omega) _ | refine Below.alloc ?_ (by first | (simp; done) | (simp; omega) | omega) _ | refine Below.drew ?_ | refine Below.trans ?_ (Below.mono (by assumption) (by first | (simp; done) | (simp; omega) | omega))))
theorem wrong_calls (m i f : Int) (s : St) (n : Int) (w : World) :
    Calls Try.prog 15 #[.agg #[.int .i64 m, .int .i64 i, .int .i64 f], .agg #[.int .i64 s.a, .int .i64 s.b, .int .i64 s.c], .int .i64 n] w (WPost (wrongF m i f s n) w) := by
  obtain ⟨a, b, c⟩ := s
  by_cases h : frmB m i f = true
  · by_cases hn : n < 0 ∨ 1099511627776 < n
    · exact wrong_time m i f a b c n w h hn
    · have n1 : 0 ≤ n := by omega
      have n2 : n ≤ 1099511627776 := by omega
      by_cases hc : n < c
      · exact wrong_lock m i f a b c n w h n1 n2 hc
      · have hc : c ≤ n := by omega
        by_cases o1 : a < 1
        · by_cases hm : m ≤ 1
          · exact wrong_lockx m i f a b c n w h n1 n2 hc o1 hm
          · exact wrong_newx m i f a b c n w h n1 n2 hc o1 (by omega)
        · by_cases o2 : n < b
          · by_cases hm : m ≤ 1
            · exact wrong_locky m i f a b c n w h n1 n2 hc (by omega) o2 hm
            · exact wrong_newy m i f a b c n w h n1 n2 hc (by omega) o2 (by omega)
          · by_cases o3 : b ≤ n - i
            · by_cases hm : m ≤ 1
              · exact wrong_lockz m i f a b c n w h n1 n2 hc (by omega) (by omega) o3 hm
              · exact wrong_newz m i f a b c n w h n1 n2 hc (by omega) (by omega) o3 (by omega)
            · by_cases hm : m - 1 ≤ a
              · exact wrong_lockn m i f a b c n w h n1 n2 hc (by omega) (by omega) (by omega) hm
              · exact wrong_one m i f a b c n w h n1 n2 hc (by omega) (by omega) (by omega) (by omega)
  · exact wrong_no m i f a b c n w (by simpa using h)
set_option maxHeartbeats 1000000 in
theorem right_lock (a b c n : Int) (w : World) (hc : n < c) :
    Calls Try.prog 21 #[.agg #[.int .i64 a, .int .i64 b, .int .i64 c], .int .i64 n] w fun e w' => e = .returned (.tuple #[.agg #[.int .i64 a, .int .i64 b, .int .i64 c], .int .i64 13]) ∧ Below w.heap.size w w' := by
  go_enter Try.func21, Try.ntmps21
  go_wp2_with (go_at_call 16; refine (locked_calls _ _ _ _ _).mono ?_; rintro e w1 ⟨rfl, hb1⟩; have b4 : At w1 w.heap.size #[.int .i64 a, .int .i64 b, .int .i64 c] 27 := ((At.new w _ _).alloc _).below hb1 (by first | (simp; done) | (simp; omega) | omega); have b6 : At w1 (w.heap.size + 1) #[.int .i64 0, .int .i64 0, .int .i64 0] 27 := (At.new' (by simp)).below hb1 (by simp); have hz1 := hb1.size; simp only [World.size_alloc] at hz1; have b4c := b4.c; have b4f := b4.f; have b4l := b4.lt; have b6c := b6.c; have b6f := b6.f; have b6l := b6.lt)
  refine bodyPost_ret (v := .tuple #[.agg #[.int .i64 a, .int .i64 b, .int .i64 c], .int .i64 13]) (by simp [results, Try.results21, go_sem, b6c]) rfl ⟨rfl, ?_⟩
  (repeat (with_reducible first | exact Below.refl _ _ | assumption | refine Below.setCell ?_ (by first | (simp; done) | (simp; omega) | omega) _ | refine Below.alloc ?_ (by first | (simp; done) | (simp; omega) | omega) _ | refine Below.drew ?_ | refine Below.trans ?_ (Below.mono (by assumption) (by first | (simp; done) | (simp; omega) | omega))))
set_option maxHeartbeats 1000000 in
theorem right_open (a b c n : Int) (w : World) (hc : c ≤ n) :
    Calls Try.prog 21 #[.agg #[.int .i64 a, .int .i64 b, .int .i64 c], .int .i64 n] w fun e w' => e = .returned (.tuple #[.agg #[.int .i64 0, .int .i64 0, .int .i64 0], .int .i64 0]) ∧ Below w.heap.size w w' := by
  go_enter Try.func21, Try.ntmps21
  go_wp2_with (go_at_call 16; refine (locked_calls _ _ _ _ _).mono ?_; rintro e w1 ⟨rfl, hb1⟩; have b4 : At w1 w.heap.size #[.int .i64 a, .int .i64 b, .int .i64 c] 27 := ((At.new w _ _).alloc _).below hb1 (by first | (simp; done) | (simp; omega) | omega); have b6 : At w1 (w.heap.size + 1) #[.int .i64 0, .int .i64 0, .int .i64 0] 27 := (At.new' (by simp)).below hb1 (by simp); have hz1 := hb1.size; simp only [World.size_alloc] at hz1; have b4c := b4.c; have b4f := b4.f; have b4l := b4.lt; have b6c := b6.c; have b6f := b6.f; have b6l := b6.lt)
  refine bodyPost_ret (v := .tuple #[.agg #[.int .i64 0, .int .i64 0, .int .i64 0], .int .i64 0]) (by simp [results, Try.results21, go_sem, b6c]) rfl ⟨rfl, ?_⟩
  (repeat (with_reducible first | exact Below.refl _ _ | assumption | refine Below.setCell ?_ (by first | (simp; done) | (simp; omega) | omega) _ | refine Below.alloc ?_ (by first | (simp; done) | (simp; omega) | omega) _ | refine Below.drew ?_ | refine Below.trans ?_ (Below.mono (by assumption) (by first | (simp; done) | (simp; omega) | omega))))
end Go.Proofs.Ytbpdjcjhdjkinaa
