/- PoolErrs holds: for all numbers and bytes the law answers true; no condition. -/
import Derived.Test.YtggeepihkeocmaaJPool28
import Derived.Test.YtggeepihkeocmaaJPool29
namespace Go.Proofs.Ytggeepihkeocmaa.poolErrs
set_option linter.unusedVariables false
set_option linter.unusedSimpArgs false
open Go.ChangeShapes Go.WideShapes Go.ChangeAt Go.RowKit Go.Joins
set_option linter.unusedVariables false
set_option maxRecDepth 100000 in
theorem lifted (os : Os) (started : os.Started) (H : Type) (enc : TypeId × Value → H) :
    ReturnsInHanded {} Try.checked os 5 .any (Rows.poolErrsSpec.pre6 enc Try.prog Try.f5 Rows.poolErrsRow.domain false) (Rows.poolErrsSpec.post enc Try.prog Try.f5 false true false false) := by
  refine returnsInHanded_of_change_sized (C := Try.checked) ownk started (by kernel_rfl) Try.func5
    (ChangeSpec.witness6 (enc := enc) (C := Try.checked) false ⟨#[], #[.int .i64 0, .int .i64 0, .int .i64 0, .int .i64 0, .int .i64 0, .slice none 0 0], []⟩ 8 (by kernel_rfl) (by kernel_rfl) (by kernel_rfl) (by kernel_rfl)) ?_
  intro W base args ds gs before hval0 hW hcnd hsz0 _
  have hsz : (DataW.weightsEach Try.prog (Try.f5.params.toList ++ Rows.poolErrsSpec.plain.varTypes Try.prog) (ds ++ gs)).all (· ≤ reachBytes) = true := hsz0
  have hval : ∀ (j : Nat) t v, Try.f5.params[j]? = some t → args[j]? = some v → Value.okWide Try.prog W .any base t v := hval0
  have hW' := hW
  obtain ⟨p, q, hA0, hV, rfl, hfz, hnd⟩ := hW
  have hA : DataW.TrodAll enc Try.prog W 0 (fun _ => true) true Try.f5.params.toList args.toList ds p := hA0
  have hlt : ∀ x ∈ p, x.block < W.heap.size := fun x hx => hW'.lt x (by simp [hx])
  have hback : ∀ W', Below W.heap.size W W' → DataW.TrodAll enc Try.prog W' 0 (fun b => decide (b < W.heap.size)) true Try.f5.params.toList args.toList ds p := fun W' hb => trodAll_below laidOut hb (by kernel_rfl) hA hlt
  rw [Try.params5] at hA hval hsz
  obtain ⟨v0, vs0, d0, ds0, p0, q0, hargs, rfl, rfl, h0, r0⟩ := trodAll_cons hA
  obtain ⟨v1, vs1, d1, ds1, p1, q1, rfl, rfl, rfl, h1, r1⟩ := trodAll_cons r0
  obtain ⟨v2, vs2, d2, ds2, p2, q2, rfl, rfl, rfl, h2, r2⟩ := trodAll_cons r1
  obtain ⟨v3, vs3, d3, ds3, p3, q3, rfl, rfl, rfl, h3, r3⟩ := trodAll_cons r2
  obtain ⟨v4, vs4, d4, ds4, p4, q4, rfl, rfl, rfl, h4, r4⟩ := trodAll_cons r3
  obtain ⟨v5, vs5, d5, ds5, p5, q5, rfl, rfl, rfl, h5, r5⟩ := trodAll_cons r4
  obtain ⟨rfl, rfl, rfl⟩ := trodAll_nil r5
  obtain rfl : args = #[v0, v1, v2, v3, v4, v5] := by cases args; simp_all
  obtain ⟨rfl, rfl⟩ := trodVars_none hV
  have hw5 : ∀ n ∈ d5.weights Try.prog 32, n ≤ reachBytes := fun n hn => by have := List.all_eq_true.1 hsz n (DataW.weights_mem_each (j := 5) rfl rfl n hn); simpa using this
  obtain ⟨x0, rfl, a0⟩ := open_n64 (hval 0 3 v0 rfl rfl) h0
  obtain ⟨x1, rfl, a1⟩ := open_n64 (hval 1 3 v1 rfl rfl) h1
  obtain ⟨x2, rfl, a2⟩ := open_n64 (hval 2 3 v2 rfl rfl) h2
  obtain ⟨x3, rfl, a3⟩ := open_n64 (hval 3 3 v3 rfl rfl) h3
  obtain ⟨x4, rfl, a4⟩ := open_n64 (hval 4 3 v4 rfl rfl) h4
  obtain ⟨f5, hf5⟩ := h5
  obtain ⟨A, n, c, l, hv5, hbs, hnc, -, hn⟩ := open_bytes hf5
  have hn' := hn hw5
  obtain ⟨b5, n5, c5, rfl⟩ := okWide_slice Try.underlying32 (hval 5 32 v5 rfl rfl)
  obtain ⟨rfl, rfl, rfl⟩ : b5 = A ∧ n5 = n ∧ c5 = c := by simpa [Value.cells] using hv5
  clear hA0 hval0 hsz0 hsz
  refine (poolerrs_calls x0 x1 x2 x3 x4 W a0 a1 a2 a3 a4 hbs hn').mono fun e W' ⟨he, bel⟩ => ?_
  subst he
  exact ⟨_, rfl, _, _, _, [], _, [], hW', trodAll_mk1 (shut_bool Try.underlying4 _), hback _ bel, rfl, bel.frame _, fun h => by cases h⟩
theorem over : Rows.poolErrsRow.holds Try.pinned (OpenSpec.ofChange Rows.poolErrsSpec) :=
  OpenClaim.holds_of_wide 5 Try.f5 rfl rfl rfl rfl rfl rfl rfl ⟨rfl, rfl, rfl, rfl, rfl⟩ rfl rfl rfl rfl rfl (by kernel_rfl) Try.func5 (by kernel_rfl)
    (of_decide_eq_true (by kernel_rfl)) (by unfold Func.isWrapper; first | (rw [if_pos (by decide +kernel)]; kernel_rfl) | (rw [if_neg (by decide +kernel)]; exact ⟨rfl, rfl⟩))
    (fun os started H enc _ => lifted os started H enc)
theorem proved : Rows.PoolErrsSaid := over
end Go.Proofs.Ytggeepihkeocmaa.poolErrs
namespace Go.Proofs.Ytggeepihkeocmaa
theorem poolErrs_holds : Rows.PoolErrsSaid := poolErrs.proved
#print axioms poolErrs_holds
end Go.Proofs.Ytggeepihkeocmaa
