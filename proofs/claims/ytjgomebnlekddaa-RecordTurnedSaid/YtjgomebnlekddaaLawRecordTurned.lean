/- RecordTurned holds: for every record, place and byte the law answers true; no condition. -/
import Derived.Test.YtjgomebnlekddaaRowKit
import Derived.Test.YtjgomebnlekddaaOpenRec
import Derived.Test.YtjgomebnlekddaaRecTurnL
namespace Go.Proofs.Ytjgomebnlekddaa.recordTurned
set_option linter.unusedVariables false
set_option linter.unusedSimpArgs false
open Go.ChangeShapes Go.WideShapes Go.ChangeAt Go.RowKit Go.Joins
set_option maxRecDepth 100000 in
theorem open_8 {H : Type} {enc : TypeId × Value → H} {w : World} {held : Bool} {r : Reach} {b0 : Nat} {v : Value} {d : DataW H} {p : List MemPlace} {spare : Nat → Bool} (hv : Value.okWide Try.prog w r b0 5 v) (h : DataW.Trod enc Try.prog w 0 spare held 5 v d p) : ∃ x : Int, v = .int .u8 x ∧ 0 ≤ x ∧ x ≤ 255 := by
  obtain ⟨x, rfl⟩ := okWide_int Try.underlying5 hv
  obtain ⟨f, hf⟩ := h
  obtain ⟨a, q, -, z⟩ := DataW.trod_int Try.underlying5 hf
  have e : [Value.int .u8 x] = [Value.int .u8 a] := q
  injection e with e _
  injection e with _ e
  subst e
  have := bounds_u8 z
  exact ⟨x, rfl, by omega, by omega⟩
set_option maxRecDepth 100000 in
theorem open_16 {H : Type} {enc : TypeId × Value → H} {w : World} {held : Bool} {r : Reach} {b0 : Nat} {v : Value} {d : DataW H} {p : List MemPlace} {spare : Nat → Bool} (hv : Value.okWide Try.prog w r b0 91 v) (h : DataW.Trod enc Try.prog w 0 spare held 91 v d p) : ∃ x : Int, v = .int .u16 x ∧ 0 ≤ x ∧ x ≤ 65535 := by
  obtain ⟨x, rfl⟩ := okWide_int Try.underlying91 hv
  obtain ⟨f, hf⟩ := h
  obtain ⟨a, q, -, z⟩ := DataW.trod_int Try.underlying91 hf
  have e : [Value.int .u16 x] = [Value.int .u16 a] := q
  injection e with e _
  injection e with _ e
  subst e
  have := bounds_u16 z
  exact ⟨x, rfl, by omega, by omega⟩
set_option linter.unusedVariables false
set_option maxRecDepth 100000 in
theorem lifted (os : Os) (started : os.Started) (H : Type) (enc : TypeId × Value → H) :
    ReturnsInHanded {} Try.checked os 19 .any (Rows.recordTurnedSpec.pre6 enc Try.prog Try.f19 Rows.recordTurnedRow.domain false) (Rows.recordTurnedSpec.post enc Try.prog Try.f19 false true false false) := by
  refine returnsInHanded_of_change_sized (C := Try.checked) ownk started (by kernel_rfl) Try.func19
    (ChangeSpec.witness6 (enc := enc) (C := Try.checked) false ⟨#[], #[.agg #[.int .u8 0, .int .u64 0, .int .u64 0, .int .i64 0, .int .i64 0, .slice none 0 0, .slice none 0 0, .int .u64 0, .slice none 0 0, .bool false], .int .u16 0, .int .u8 0], []⟩ 8 (by kernel_rfl) (by kernel_rfl) (by kernel_rfl) (by kernel_rfl)) ?_
  intro W base args ds gs before hval0 hW hcnd hsz0 _
  have hsz : (DataW.weightsEach Try.prog (Try.f19.params.toList ++ Rows.recordTurnedSpec.plain.varTypes Try.prog) (ds ++ gs)).all (· ≤ reachBytes) = true := hsz0
  have hval : ∀ (j : Nat) t v, Try.f19.params[j]? = some t → args[j]? = some v → Value.okWide Try.prog W .any base t v := hval0
  have hW' := hW
  obtain ⟨p, q, hA0, hV, rfl, hfz, hnd⟩ := hW
  have hA : DataW.TrodAll enc Try.prog W 0 (fun _ => true) true Try.f19.params.toList args.toList ds p := hA0
  have hlt : ∀ x ∈ p, x.block < W.heap.size := fun x hx => hW'.lt x (by simp [hx])
  have hback : ∀ W', Below W.heap.size W W' → DataW.TrodAll enc Try.prog W' 0 (fun b => decide (b < W.heap.size)) true Try.f19.params.toList args.toList ds p := fun W' hb => trodAll_below laidOut hb (by kernel_rfl) hA hlt
  rw [Try.params19] at hA hval hsz
  obtain ⟨v0, vs0, d0, ds0, p0, q0, hargs, rfl, rfl, h0, r0⟩ := trodAll_cons hA
  obtain ⟨v1, vs1, d1, ds1, p1, q1, rfl, rfl, rfl, h1, r1⟩ := trodAll_cons r0
  obtain ⟨v2, vs2, d2, ds2, p2, q2, rfl, rfl, rfl, h2, r2⟩ := trodAll_cons r1
  obtain ⟨rfl, rfl, rfl⟩ := trodAll_nil r2
  obtain rfl : args = #[v0, v1, v2] := by cases args; simp_all
  obtain ⟨rfl, rfl⟩ := trodVars_none hV
  obtain ⟨k, tx, prev, page, off, next, bA, aA, dA, bN, bC, aN, aC, dN, dC, opn, bl, al, dl, rfl, hR⟩ := open_rec (hval 0 26 v0 rfl rfl) h0 (fun n hn => by have := List.all_eq_true.1 hsz n (DataW.weights_mem_each (j := 0) rfl rfl n hn); simpa using this)
  obtain ⟨x1, rfl, x10, x11⟩ := open_16 (hval 1 91 v1 rfl rfl) h1
  obtain ⟨x2, rfl, x20, x21⟩ := open_8 (hval 2 5 v2 rfl rfl) h2
  clear hA0 hval0 hsz0 hsz
  refine (turned_rec k tx prev page off next bA aA dA bN bC aN aC dN dC opn bl al dl x1 x2 W hR x10 x11 x20 x21).mono fun e W' ⟨he, bel⟩ => ?_
  subst he
  exact ⟨_, rfl, _, _, _, [], _, [], hW', trodAll_mk1 (shut_bool Try.underlying4 _), hback _ bel, rfl, bel.frame _, fun h => by cases h⟩
theorem over : Rows.recordTurnedRow.holds Try.pinned (OpenSpec.ofChange Rows.recordTurnedSpec) :=
  OpenClaim.holds_of_wide 19 Try.f19 rfl rfl rfl rfl rfl rfl rfl ⟨rfl, rfl, rfl, rfl, rfl⟩ rfl rfl rfl rfl rfl (by kernel_rfl) Try.func19 (by kernel_rfl)
    (of_decide_eq_true (by kernel_rfl)) (by unfold Func.isWrapper; first | (rw [if_pos (by decide +kernel)]; kernel_rfl) | (rw [if_neg (by decide +kernel)]; exact ⟨rfl, rfl⟩))
    (fun os started H enc _ => lifted os started H enc)
theorem proved : Rows.RecordTurnedSaid := over
end Go.Proofs.Ytjgomebnlekddaa.recordTurned
namespace Go.Proofs.Ytjgomebnlekddaa
theorem recordTurned_holds : Rows.RecordTurnedSaid := recordTurned.proved
#print axioms recordTurned_holds
end Go.Proofs.Ytjgomebnlekddaa
