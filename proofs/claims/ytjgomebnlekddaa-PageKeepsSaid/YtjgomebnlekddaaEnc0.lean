/- page.Form and page.Encode of the empty leaf; the laws' awake. -/
import Derived.Test.YtjgomebnlekddaaAppZ
import Derived.Test.YtjgomebnlekddaaDrop
namespace Go.Proofs.Ytjgomebnlekddaa
set_option linter.unusedVariables false
set_option linter.unusedSimpArgs false
open Go.RowKit
set_option maxRecDepth 100000 in
theorem pform0_calls (w : World) : Calls Try.prog 44 #[.agg #[.int .u8 1, .int .i64 0, .slice none 0 0]] w fun e w' => e = .returned (.bool true) ∧ Below w.heap.size w w' := by
  go_enter Try.func44, Try.ntmps44
  go_upto_region 4 with (fail)
  have k0 := At.new w #[.int .u8 1, .int .i64 0, .slice none 0 0] 54
  have hB := below_new w (.cells #[.int .u8 1, .int .i64 0, .slice none 0 0] 54)
  generalize (w.alloc (.cells #[.int .u8 1, .int .i64 0, .slice none 0 0] 54)) = w0 at *
  go_loopw [21] (fun v21 wr => v21 = .int .i64 0 ∧ wr = w0) (fun _ _ => 0)
  case atStart => exact ⟨rfl, rfl⟩
  case round =>
    obtain ⟨rfl, rfl⟩ := hrel
    have k0c := k0.c; have k0f := k0.f; have k0l := k0.lt
    go_wp2_with fail
    refine (psize_calls 0 _ (CsR.nil _ 0 0 none) (Nat.zero_le _) (by decide)).mono ?_
    rintro e w1 ⟨rfl, hb1⟩
    go_wp2
    go_ret
    exact ⟨rfl, below_keep hb1 hB⟩
set_option maxRecDepth 100000 in
theorem penc0_calls (w : World) : Calls Try.prog 46 #[.agg #[.int .u8 1, .int .i64 0, .slice none 0 0]] w fun e w' => ∃ A c, e = .returned (.tuple #[.slice A 504 c, .int .i64 0]) ∧ OwB w' w.heap.size A 504 c ([1, 0, 0, 0, 0, 0] ++ List.replicate 498 0) ∧ Below w.heap.size w w' := by
  go_enter Try.func46, Try.ntmps46
  go_wp2_with fail
  have k0 := At.new w #[.int .u8 1, .int .i64 0, .slice none 0 0] 54
  have hB := below_new w (.cells #[.int .u8 1, .int .i64 0, .slice none 0 0] 54)
  generalize (w.alloc (.cells #[.int .u8 1, .int .i64 0, .slice none 0 0] 54)) = w0 at *
  refine (pform0_calls _).mono ?_
  rintro e w1 ⟨rfl, hb1⟩
  have hB1 := below_keep hb1 hB
  replace k0 := k0.below hb1 k0.lt; have k0c := k0.c; have k0f := k0.f; have k0l := k0.lt
  go_upto_region 5 with (fail)
  generalize hw2 : (w1.alloc _) = w2
  have ho : OwB w2 w.heap.size (some ⟨w1.heap.size, 0, none⟩) 6 6 [1, 0, 0, 0, 0, 0] := by
    rw [← hw2]; exact OwB.made (l := [1, 0, 0, 0, 0, 0]) (At.new w1 _ _) rfl (by intro x hx; simp at hx; omega) hB1.size (by decide)
  have hB2 : Below w.heap.size w w2 := by rw [← hw2]; exact below_al hB1
  clear hw2
  go_loopw [4, 31] (fun v4 v31 wr => v4 = .slice (some ⟨w1.heap.size, 0, none⟩) 6 6 ∧ v31 = .int .i64 0 ∧ wr = w2) (fun _ _ _ => 0)
  case atStart => exact ⟨rfl, rfl, rfl⟩
  case round =>
    obtain ⟨rfl, rfl, rfl⟩ := hrel
    go_wp2_with (at_builtin; refine wpList_appZ rfl (.tmp 54) (.tmp 57) rfl w.heap.size 6 6 (some ⟨w1.heap.size, 0, none⟩) [1, 0, 0, 0, 0, 0] rfl ho 498 _ rfl rfl (by omega) hB2.size ?_; intro A3 c3 w3 ho3 hg3 hb3 hat3)
    go_ret2
    exact ⟨A3, c3, rfl, ho3, below_tr hB2 hb3⟩
end Go.Proofs.Ytjgomebnlekddaa
