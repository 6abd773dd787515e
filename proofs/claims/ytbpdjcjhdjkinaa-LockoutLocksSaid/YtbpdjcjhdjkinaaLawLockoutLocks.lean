/- LockoutLocks holds: for every input the law answers true; no condition. -/
import Derived.Test.YtbpdjcjhdjkinaaRowKit
import Derived.Test.YtbpdjcjhdjkinaaLockL
namespace Go.Proofs.Ytbpdjcjhdjkinaa.lockoutLocks
open Go.ChangeShapes Go.WideShapes Go.ChangeAt Go.RowKit Go.Joins
theorem cells23 : Try.prog.cellsOf 23 = 3 := by kernel_rfl
theorem cells5 : Try.prog.cellsOf 5 = 1 := by kernel_rfl
set_option linter.unusedVariables false
set_option maxRecDepth 100000 in
theorem lifted (os : Os) (started : os.Started) (H : Type) (enc : TypeId × Value → H) :
    ReturnsInHanded {} Try.checked os 9 .any (Rows.lockoutLocksSpec.pre6 enc Try.prog Try.f9 Rows.lockoutLocksRow.domain false) (Rows.lockoutLocksSpec.post enc Try.prog Try.f9 false true false false) := by
  refine returnsInHanded_of_change_sized (C := Try.checked) ownk started (by kernel_rfl) Try.func9
    (ChangeSpec.witness6 (enc := enc) (C := Try.checked) false ⟨#[], #[.agg #[.int .i64 0, .int .i64 0, .int .i64 0], .int .i64 0, .slice none 0 0], []⟩ 8 (by kernel_rfl) (by kernel_rfl) (by kernel_rfl) (by kernel_rfl)) ?_
  intro W base args ds gs before hval0 hW hcnd hsz0 _
  have hsz : (DataW.weightsEach Try.prog (Try.f9.params.toList ++ Rows.lockoutLocksSpec.plain.varTypes Try.prog) (ds ++ gs)).all (· ≤ reachBytes) = true := hsz0
  have hval : ∀ (j : Nat) t v, Try.f9.params[j]? = some t → args[j]? = some v → Value.okWide Try.prog W .any base t v := hval0
  have hW' := hW
  obtain ⟨p, q, hA0, hV, rfl, hfz, hnd⟩ := hW
  have hA : DataW.TrodAll enc Try.prog W 0 (fun _ => true) true Try.f9.params.toList args.toList ds p := hA0
  have hlt : ∀ x ∈ p, x.block < W.heap.size := fun x hx => hW'.lt x (by simp [hx])
  have hback : ∀ W', Below W.heap.size W W' → DataW.TrodAll enc Try.prog W' 0 (fun b => decide (b < W.heap.size)) true Try.f9.params.toList args.toList ds p := fun W' hb => trodAll_below laidOut hb (by kernel_rfl) hA hlt
  rw [Try.params9] at hA hval hsz
  obtain ⟨v0, vs0, d0, ds0, p0, q0, hargs, rfl, rfl, h0, r0⟩ := trodAll_cons hA
  obtain ⟨v1, vs1, d1, ds1, p1, q1, rfl, rfl, rfl, h1, r1⟩ := trodAll_cons r0
  obtain ⟨v2, vs2, d2, ds2, p2, q2, rfl, rfl, rfl, h2, r2⟩ := trodAll_cons r1
  obtain ⟨rfl, rfl, rfl⟩ := trodAll_nil r2
  obtain rfl : args = #[v0, v1, v2] := by cases args; simp_all
  obtain ⟨rfl, rfl⟩ := trodVars_none hV
  obtain ⟨c0, c1, c2, y0, y1, y2, m, rfl, rfl, rfl, hy0, hy1, hy2⟩ := open_agg3 Try.underlying23 (by kernel_rfl) cells23 (hval 0 23 v0 rfl rfl) h0
  obtain ⟨a0, e0, -, wa0⟩ := DataW.trod_int Try.underlying3 hy0
  obtain ⟨a1, e1, -, wa1⟩ := DataW.trod_int Try.underlying2 hy1
  obtain ⟨a2, e2, -, wa2⟩ := DataW.trod_int Try.underlying2 hy2
  simp at e0 e1 e2
  subst e0 e1 e2
  obtain ⟨b1, rfl, rfl, rfl, w1⟩ := open_int Try.underlying2 (hval 1 2 v1 rfl rfl) h1
  obtain ⟨sa, len, cap, rfl⟩ := okWide_slice Try.underlying38 (hval 2 38 v2 rfl rfl)
  obtain ⟨fuel, hf⟩ := h2
  have hG : ∃ g : Nat → Int, Gaps W sa len g := by
    rcases open_ints Try.underlying38 Try.underlying5 cells5 hf with ⟨hcs, hx⟩ | ⟨a, len', cap', zs, hcs, _, hl, hm, hz, hx, hcell, hwz⟩
    · simp [Value.cells] at hcs
      obtain ⟨rfl, rfl, rfl⟩ := hcs
      exact ⟨fun _ => 0, fun j hj => absurd hj (by omega)⟩
    · simp [Value.cells] at hcs
      obtain ⟨rfl, rfl, rfl⟩ := hcs
      simp at hz
      refine ⟨fun j => zs.getD j 0, fun j hj => ?_⟩
      have hp : 0 < zs.length := by omega
      obtain ⟨b, off, rfl, hc⟩ := ints_at hcell hp
      have hr := range_u8 hwz j
      have hcj := hc j (by omega)
      exact ⟨by simpa using hr.1, by simpa using hr.2, b, off, rfl, World.block_lt_of_cell? W _ hcj, hcj⟩
  obtain ⟨g, hG⟩ := hG
  clear hA0 hval0 hsz0 hsz
  refine (locks_calls a0 a1 a2 b1 sa len cap g W hG).mono fun e W' ⟨he, bel⟩ => ?_
  subst he
  exact ⟨_, rfl, _, _, _, [], _, [], hW', trodAll_mk1 (shut_bool Try.underlying4 _), hback _ bel, rfl, bel.frame _, fun h => by cases h⟩
theorem over : Rows.lockoutLocksRow.holds Try.pinned (OpenSpec.ofChange Rows.lockoutLocksSpec) :=
  OpenClaim.holds_of_wide 9 Try.f9 rfl rfl rfl rfl rfl rfl rfl ⟨rfl, rfl, rfl, rfl, rfl⟩ rfl rfl rfl rfl rfl (by kernel_rfl) Try.func9 (by kernel_rfl)
    (of_decide_eq_true (by kernel_rfl)) (by unfold Func.isWrapper; first | (rw [if_pos (by decide +kernel)]; kernel_rfl) | (rw [if_neg (by decide +kernel)]; exact ⟨rfl, rfl⟩))
    (fun os started H enc _ => lifted os started H enc)
theorem proved : Rows.LockoutLocksSaid := over
end Go.Proofs.Ytbpdjcjhdjkinaa.lockoutLocks
namespace Go.Proofs.Ytbpdjcjhdjkinaa
theorem lockoutLocks_holds : Rows.LockoutLocksSaid := lockoutLocks.proved
#print axioms lockoutLocks_holds
end Go.Proofs.Ytbpdjcjhdjkinaa
