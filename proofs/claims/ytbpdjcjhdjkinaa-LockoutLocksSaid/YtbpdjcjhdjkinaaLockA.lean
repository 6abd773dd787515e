/- The law's 'awake' of package munimentlaw20 answers true. -/
import Derived.Test.YtbpdjcjhdjkinaaLock
namespace Go.Proofs.Ytbpdjcjhdjkinaa
open Go.RowKit
theorem wrong_at (m i f : Int) (s : St) (n : Int) (s' : St) (k : Int) (hw : wrongF m i f s n = (s', k)) (w : World) :
    Calls Try.prog 15 #[.agg #[.int .i64 m, .int .i64 i, .int .i64 f], .agg #[.int .i64 s.a, .int .i64 s.b, .int .i64 s.c], .int .i64 n] w fun e w' =>
      e = .returned (.tuple #[.agg #[.int .i64 s'.a, .int .i64 s'.b, .int .i64 s'.c], .int .i64 k]) ∧ Below w.heap.size w w' :=
  (wrong_calls m i f s n w).mono fun _ _ ⟨he, hb⟩ => ⟨by rw [he, hw]; rfl, hb⟩
set_option maxHeartbeats 1000000 in
theorem lawake_calls (w : World) :
    Calls Try.prog 13 #[] w fun e w' => e = .returned (.bool true) ∧ Below w.heap.size w w' := by
  go_enter Try.func13, Try.ntmps13
  go_wp2_with fail
  refine (wrong_at 2 10 5 ⟨0, 0, 0⟩ 0 ⟨1, 0, 0⟩ 0 (by simp [wrongF, frmB, wrap64]) _).mono ?_
  rintro e w1 ⟨rfl, hb1⟩
  have b1 : At w1 w.heap.size #[.int .i64 2, .int .i64 10, .int .i64 5] 23 := (At.new w _ _).below hb1 (by simp)
  have b1c := b1.c; have b1f := b1.f; have b1l := b1.lt
  go_wp2_with fail
  refine (wrong_at 2 10 5 ⟨1, 0, 0⟩ 9 ⟨0, 0, 14⟩ 0 (by simp [wrongF, frmB, wrap64]) _).mono ?_
  rintro e w2 ⟨rfl, hb2⟩
  have b2 : At w2 w1.heap.size #[.int .i64 1, .int .i64 0, .int .i64 0] 27 := (At.new w1 _ _).below hb2 (by simp)
  replace b1 := (b1.alloc _).below hb2 (by simp; omega)
  have b1c := b1.c; have b1f := b1.f; have b1l := b1.lt
  have b2c := b2.c; have b2f := b2.f; have b2l := b2.lt
  go_wp2_with fail
  refine (wrong_at 2 10 5 ⟨1, 0, 0⟩ 10 ⟨1, 10, 0⟩ 0 (by simp [wrongF, frmB, wrap64]) _).mono ?_
  rintro e w3 ⟨rfl, hb3⟩
  have b4 : At w3 w2.heap.size #[.int .i64 0, .int .i64 0, .int .i64 14] 27 := (At.new w2 _ _).below hb3 (by simp)
  replace b1 := (b1.alloc _).below hb3 (by simp; omega)
  replace b2 := (b2.alloc _).below hb3 (by simp; omega)
  have b1c := b1.c; have b1f := b1.f; have b1l := b1.lt
  have b2c := b2.c; have b2f := b2.f; have b2l := b2.lt
  have b4c := b4.c; have b4f := b4.f; have b4l := b4.lt
  go_wp2_with fail
  refine (locked_calls 0 0 14 13 _).mono ?_
  rintro e w4 ⟨rfl, hb4⟩
  have b6 : At w4 w3.heap.size #[.int .i64 1, .int .i64 10, .int .i64 0] 27 := (At.new w3 _ _).below hb4 (by simp)
  replace b4 := (b4.alloc _).below hb4 (by simp; omega)
  have b6c := b6.c; have b6f := b6.f; have b6l := b6.lt
  have b4c := b4.c; have b4f := b4.f; have b4l := b4.lt
  go_wp2_with fail
  refine (locked_calls 0 0 14 14 _).mono ?_
  rintro e w5 ⟨rfl, hb5⟩
  replace b6 := b6.below hb5 b6.lt; have b6c := b6.c; have b6f := b6.f; have b6l := b6.lt
  go_wp2_with fail
  refine (locked_calls 1 10 0 10 _).mono ?_
  rintro e w6 ⟨rfl, hb6⟩
  replace b6 := b6.below hb6 b6.lt; have b6c := b6.c; have b6f := b6.f; have b6l := b6.lt
  go_wp2
  go_ret
  refine ⟨rfl, ?_⟩
  (repeat (with_reducible first | exact Below.refl _ _ | assumption | refine Below.setCell ?_ (by first | (simp; done) | (simp; omega) | omega) _ | refine Below.alloc ?_ (by first | (simp; done) | (simp; omega) | omega) _ | refine Below.drew ?_ | refine Below.trans ?_ (Below.mono (by assumption) (by first | (simp; done) | (simp; omega) | omega))))
end Go.Proofs.Ytbpdjcjhdjkinaa
