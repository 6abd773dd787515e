/- DiskLasts holds: for all bytes, lists and bools the law answers true; no condition. -/
import Derived.Test.YtjgomebnlekddaaRowKit
import Derived.Test.YtjgomebnlekddaaOpenList
namespace Go.Proofs.Ytjgomebnlekddaa.diskLasts
set_option linter.unusedVariables false
set_option linter.unusedSimpArgs false
open Go.ChangeShapes Go.WideShapes Go.ChangeAt Go.RowKit Go.Joins
set_option linter.unusedVariables false
set_option maxRecDepth 100000 in
theorem lifted (os : Os) (started : os.Started) (H : Type) (enc : TypeId × Value → H) :
    ReturnsInHanded {} Try.checked os 14 .any (Rows.diskLastsSpec.pre6 enc Try.prog Try.f14 Rows.diskLastsRow.domain false) (Rows.diskLastsSpec.post enc Try.prog Try.f14 false true false false) := by
  refine returnsInHanded_of_change_sized (C := Try.checked) ownk started (by kernel_rfl) Try.func14
    (ChangeSpec.witness6 (enc := enc) (C := Try.checked) false ⟨#[], #[.slice none 0 0, .slice none 0 0, .int .u8 0, .slice none 0 0], []⟩ 8 (by kernel_rfl) (by kernel_rfl) (by kernel_rfl) (by kernel_rfl)) ?_
  intro W base args ds gs before hval0 hW hcnd hsz0 _
  have hsz : (DataW.weightsEach Try.prog (Try.f14.params.toList ++ Rows.diskLastsSpec.plain.varTypes Try.prog) (ds ++ gs)).all (· ≤ reachBytes) = true := hsz0
  have hval : ∀ (j : Nat) t v, Try.f14.params[j]? = some t → args[j]? = some v → Value.okWide Try.prog W .any base t v := hval0
  have hW' := hW
  obtain ⟨p, q, hA0, hV, rfl, hfz, hnd⟩ := hW
  have hA : DataW.TrodAll enc Try.prog W 0 (fun _ => true) true Try.f14.params.toList args.toList ds p := hA0
  have hlt : ∀ x ∈ p, x.block < W.heap.size := fun x hx => hW'.lt x (by simp [hx])
  have hback : ∀ W', Below W.heap.size W W' → DataW.TrodAll enc Try.prog W' 0 (fun b => decide (b < W.heap.size)) true Try.f14.params.toList args.toList ds p := fun W' hb => trodAll_below laidOut hb (by kernel_rfl) hA hlt
  rw [Try.params14] at hA hval hsz
  obtain ⟨v0, vs0, d0, ds0, p0, q0, hargs, rfl, rfl, h0, r0⟩ := trodAll_cons hA
  obtain ⟨v1, vs1, d1, ds1, p1, q1, rfl, rfl, rfl, h1, r1⟩ := trodAll_cons r0
  obtain ⟨v2, vs2, d2, ds2, p2, q2, rfl, rfl, rfl, h2, r2⟩ := trodAll_cons r1
  obtain ⟨v3, vs3, d3, ds3, p3, q3, rfl, rfl, rfl, h3, r3⟩ := trodAll_cons r2
  obtain ⟨rfl, rfl, rfl⟩ := trodAll_nil r3
  obtain rfl : args = #[v0, v1, v2, v3] := by cases args; simp_all
  obtain ⟨rfl, rfl⟩ := trodVars_none hV
  obtain ⟨f0, hf0⟩ := h0
  obtain ⟨A, n, c, l, hv0, hbs, -, -, -⟩ := open_bytes hf0
  obtain ⟨a0, n0, c0, rfl⟩ := okWide_slice Try.underlying23 (hval 0 23 v0 rfl rfl)
  obtain ⟨rfl, rfl, rfl⟩ : a0 = A ∧ n0 = n ∧ c0 = c := by simpa [Value.cells] using hv0
  obtain ⟨f1, hf1⟩ := h1
  obtain ⟨A1, n1, c1, L, hv1, hlt⟩ := open_list hf1
  obtain ⟨b1, m1, d1, rfl⟩ := okWide_slice Try.underlying68 (hval 1 68 v1 rfl rfl)
  obtain ⟨rfl, rfl, rfl⟩ : b1 = A1 ∧ m1 = n1 ∧ d1 = c1 := by simpa [Value.cells] using hv1
  obtain ⟨x2, rfl, x20, x21⟩ := open_u8 (hval 2 5 v2 rfl rfl) h2
  obtain ⟨f3, hf3⟩ := h3
  obtain ⟨A3, n3, c3, l3, hv3, hbo⟩ := open_keep hf3
  obtain ⟨b3, m3, d3, rfl⟩ := okWide_slice Try.underlying57 (hval 3 57 v3 rfl rfl)
  obtain ⟨rfl, rfl, rfl⟩ : b3 = A3 ∧ m3 = n3 ∧ d3 = c3 := by simpa [Value.cells] using hv3
  clear hA0 hval0 hsz0 hsz
  refine (dlasts_calls x2 W hbs hlt hbo x20 x21).mono fun e W' ⟨he, bel⟩ => ?_
  subst he
  exact ⟨_, rfl, _, _, _, [], _, [], hW', trodAll_mk1 (shut_bool Try.underlying4 _), hback _ bel, rfl, bel.frame _, fun h => by cases h⟩
theorem over : Rows.diskLastsRow.holds Try.pinned (OpenSpec.ofChange Rows.diskLastsSpec) :=
  OpenClaim.holds_of_wide 14 Try.f14 rfl rfl rfl rfl rfl rfl rfl ⟨rfl, rfl, rfl, rfl, rfl⟩ rfl rfl rfl rfl rfl (by kernel_rfl) Try.func14 (by kernel_rfl)
    (of_decide_eq_true (by kernel_rfl)) (by unfold Func.isWrapper; first | (rw [if_pos (by decide +kernel)]; kernel_rfl) | (rw [if_neg (by decide +kernel)]; exact ⟨rfl, rfl⟩))
    (fun os started H enc _ => lifted os started H enc)
theorem proved : Rows.DiskLastsSaid := over
end Go.Proofs.Ytjgomebnlekddaa.diskLasts
namespace Go.Proofs.Ytjgomebnlekddaa
theorem diskLasts_holds : Rows.DiskLastsSaid := diskLasts.proved
#print axioms diskLasts_holds
end Go.Proofs.Ytjgomebnlekddaa
