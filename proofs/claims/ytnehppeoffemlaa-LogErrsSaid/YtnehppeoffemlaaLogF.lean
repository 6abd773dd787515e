/- The log's first sector, as bytes. -/
import Derived.Test.YtnehppeoffemlaaLogB
import Derived.Test.YtnehppeoffemlaaLogE
import Derived.Test.YtnehppeoffemlaaU8
import Derived.Test.YtnehppeoffemlaaAppZ
namespace Go.Proofs.Ytnehppeoffemlaa
set_option linter.unusedVariables false
set_option linter.unusedSimpArgs false
open Go.RowKit
def headL (L : Lg) : List Int := [77, 76, 79, 71] ++ u8L L.epoch ++ u8L L.start ++ u8L L.check
def masterL (L : Lg) : List Int := headL L ++ u8L (sumL (headL L)) ++ List.replicate 476 0
theorem headL_len (L : Lg) : (headL L).length = 28 := by simp [headL, u8L]
theorem u8L_len (u : Int) : (u8L u).length = 8 := rfl
theorem masterL_len (L : Lg) : (masterL L).length = 512 := by unfold masterL; rw [List.length_append, List.length_append, headL_len, u8L_len, List.length_replicate]
theorem lit4_at (w : World) (l : Array Value) (hn : l.size = 4) : ∃ wf, (convert 32 32 (.slice (some ⟨w.heap.size, 0, none⟩) 4 4)).run Try.prog (w.alloc (.cells l 5)) = .ok (.slice (some ⟨w.heap.size, 0, none⟩) 4 4) wf ∧ Below w.heap.size w wf ∧ w.heap.size < wf.heap.size ∧ ∀ o, wf.cell? ⟨w.heap.size, o, none⟩ = l[o]? := lits_gen _ _ Try.underlying32 Try.underlying5 w l 4 hn
set_option maxRecDepth 100000 in
set_option maxHeartbeats 4000000 in
theorem lmaster_calls {d g bc : Nat} {bA : Option Addr} {L : Lg} (w : World) (k0 : At w g #[.pointer (some ⟨d, 0, none⟩), .int .i64 L.pos, .int .i64 L.count, .int .u64 L.epoch, .int .u64 L.start, .int .u64 L.check, .int .u64 L.sure, .int .i64 L.held, .int .u64 L.base, .slice bA L.buf.length bc] 95)
    (hep : 0 ≤ L.epoch ∧ L.epoch < 18446744073709551616) (hst : 0 ≤ L.start ∧ L.start < 18446744073709551616) (hck : 0 ≤ L.check ∧ L.check < 18446744073709551616) :
    Calls Try.prog 82 #[.pointer (some ⟨g, 0, none⟩)] w fun e w' => ∃ A c, e = .returned (.slice A 512 c) ∧ OwB w' w.heap.size A 512 c (masterL L) ∧ Below w.heap.size w w' := by
  obtain ⟨wf, ef, bf, lf, xf⟩ := lit4_at w #[.int .u8 77, .int .u8 76, .int .u8 79, .int .u8 71] rfl
  have kf := At.keep bf k0
  have kfc := kf.c; have kff := kf.f; have kfl := kf.lt
  have hlit : BsR wf w.heap.size (w.heap.size + 1) (some ⟨w.heap.size, 0, none⟩) 4 [77, 76, 79, 71] := ⟨rfl, Byt.cons (by omega) (by omega) (Byt.cons (by omega) (by omega) (Byt.cons (by omega) (by omega) (Byt.cons (by omega) (by omega) Byt.nil))), fun _ => ⟨w.heap.size, 0, rfl, Nat.le_refl _, Nat.lt_succ_self _, fun j hj => by
    rw [Nat.zero_add, xf]
    rcases j with _ | _ | _ | _ | j
    all_goals first | rfl | omega⟩⟩
  go_enter Try.func82, Try.ntmps82
  go_wp2_with fail
  refine (uint_g L.epoch hep.1 (by omega) wf).mono ?_
  rintro e v1 ⟨g1, rfl, hr1, hg1a, hg1b, hb1⟩
  have hB1 : Below w.heap.size w v1 := below_keep hb1 bf
  have k1 := At.below k0 hB1 k0.lt
  have k1c := k1.c; have k1f := k1.f; have k1l := k1.lt
  clear kf kfc kff kfl
  go_wp2_with (first
    | (at_builtin; refine wpList_appR rfl (.tmp 5) (.tmp 10) rfl w.heap.size 4 4 ⟨w.heap.size, 0, none⟩ ⟨g1, 0, none⟩ [77, 76, 79, 71] _ _ _ _ 8 8 rfl (hlit.below hb1 lf) (u8L L.epoch) rfl hr1 (by omega) (by omega) hB1.size ?_; intro c2 w2 ho2 hb2; have hB2 : Below w.heap.size w w2 := below_keep hb2 hB1; have k2 := At.below k0 hB2 k0.lt; have k2c := k2.c; have k2f := k2.f; have k2l := k2.lt)
    | fail)
  refine (uint_g L.start hst.1 (by omega) w2).mono ?_
  rintro e v3 ⟨g3, rfl, hr3, hg3a, hg3b, hb3⟩
  have hB3 : Below w.heap.size w v3 := below_keep hb3 hB2
  have ho3 := ho2.later hb3
  have k3 := At.below k0 hB3 k0.lt
  have k3c := k3.c; have k3f := k3.f; have k3l := k3.lt
  clear k1 k1c k1f k1l k2 k2c k2f k2l
  go_wp2_with (first
    | (at_builtin; refine wpList_app rfl (.tmp 12) (.tmp 17) rfl w.heap.size 12 c2 _ _ rfl ho3 _ _ 8 8 (some ⟨g3, 0, none⟩) (u8L L.start) rfl hr3 (by omega) hB3.size ?_; intro A4 c4 w4 ho4 hg4 hb4 hat4; have hB4 : Below w.heap.size w w4 := below_tr hB3 hb4; have k4 := At.below k0 hB4 k0.lt; have k4c := k4.c; have k4f := k4.f; have k4l := k4.lt)
    | fail)
  refine (uint_g L.check hck.1 (by omega) w4).mono ?_
  rintro e v5 ⟨g5, rfl, hr5, hg5a, hg5b, hb5⟩
  have hB5 : Below w.heap.size w v5 := below_keep hb5 hB4
  have ho5 := ho4.later hb5
  clear k3 k3c k3f k3l k4 k4c k4f k4l
  go_wp2_with (first
    | (at_builtin; refine wpList_app rfl (.tmp 19) (.tmp 24) rfl w.heap.size 20 c4 A4 _ rfl ho5 _ _ 8 8 (some ⟨g5, 0, none⟩) (u8L L.check) rfl hr5 (by omega) hB5.size ?_; intro A6 c6 w6 ho6 hg6 hb6 hat6; have hB6 : Below w.heap.size w w6 := below_tr hB5 hb6; change OwB w6 w.heap.size A6 28 c6 (headL L) at ho6)
    | fail)
  refine (sum_calls A6 28 c6 (headL L) w6 (ho6.reads.bs (Nat.le_refl _)) (by omega)).mono ?_
  rintro e _ ⟨rfl, rfl⟩
  have hsr := sumL_range (headL L)
  have hz : IntKind.u64.wrap (sumL (headL L)) = sumL (headL L) := IntWalk.u64_in _ (by omega)
  go_wp2_with fail
  refine (uint_g (sumL (headL L)) hsr.1 (by omega) w6).mono ?_
  rintro e v7 ⟨g7, rfl, hr7, hg7a, hg7b, hb7⟩
  have hB7 : Below w.heap.size w v7 := below_keep hb7 hB6
  have ho7 := ho6.later hb7
  go_wp2_with (first
    | (at_builtin; refine wpList_app rfl (.tmp 26) (.tmp 30) rfl w.heap.size 28 c6 A6 _ rfl ho7 _ _ 8 8 (some ⟨g7, 0, none⟩) (u8L (sumL (headL L))) rfl hr7 (by omega) hB7.size ?_; intro A8 c8 w8 ho8 hg8 hb8 hat8; have hB8 : Below w.heap.size w w8 := below_tr hB7 hb8)
    | (at_builtin; refine wpList_appZ rfl (.tmp 32) (.tmp 35) rfl w.heap.size 36 c8 A8 _ rfl ho8 476 _ rfl rfl (by omega) hB8.size ?_; intro A9 c9 w9 ho9 hg9 hb9 hat9)
    | fail)
  go_ret
  exact ⟨A9, c9, by first | rfl | simp, ho9, below_tr hB8 hb9⟩
end Go.Proofs.Ytnehppeoffemlaa
