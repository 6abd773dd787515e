/- Joined texts: DiskT. -/
import Derived.Test.YtnehppeoffemlaaJLogRings12
import Derived.Deep.WholeRow
/- Great values: zero sectors, a write built, a slice of one write built; regions with two operations at once. -/
namespace Go.Proofs.Ytnehppeoffemlaa
set_option linter.unusedVariables false
set_option linter.unusedSimpArgs false
open Go.RowKit
theorem u107 : Try.prog.underlying 107 = some (.array 512 5) := by kernel_rfl
theorem i107 : (Try.prog.info? 107).map (·.size) = some 512 := by kernel_rfl
theorem i109 : (Try.prog.info? 109).map (·.size) = some 513 := by kernel_rfl
def zeroS : List Int := List.replicate 512 0
theorem zeroS_sec : Sec zeroS := ⟨List.length_replicate, fun x hx => by rw [List.eq_of_mem_replicate hx]; omega⟩
theorem secV_zero : secV zeroS = List.replicate 512 (Value.int .u8 0) := by
  unfold secV zeroS; exact List.map_replicate
def zS : Value := .agg (List.replicate 512 (Value.int .u8 0)).toArray
def zW : Value := .agg (Value.int .i64 0 :: List.replicate 512 (Value.int .u8 0)).toArray
theorem zS_eq : zS = .agg (secV zeroS).toArray := by unfold zS; rw [secV_zero]
theorem zW_eq : zW = .agg (wrV (0, zeroS)).toArray := by unfold zW wrV; rw [secV_zero]; rfl
theorem secZ_len : (secV zeroS).length = 512 := secV_len zeroS_sec
theorem zS_size : zS.cells.size = 512 := by rw [zS_eq]; show (secV zeroS).length = 512; exact secZ_len
theorem zW_size : zW.cells.size = 513 := by rw [zW_eq]; show (wrV (0, zeroS)).length = 513; exact wrV_len zeroS_sec
theorem z107 : (Try.prog.info? 107).map (fun i => (i.zero, i.size)) = some (some zS, 512) := by kernel_rfl
theorem z109 : (Try.prog.info? 109).map (fun i => (i.zero, i.size)) = some (some zW, 513) := by kernel_rfl
theorem zero107 (w : World) : (zeroValue 107).run Try.prog w = .ok (.agg (secV zeroS).toArray) w := by
  rw [← zS_eq]; exact (zero_of_info z107).1 w
theorem zero109 (w : World) : (zeroValue 109).run Try.prog w = .ok (.agg (wrV (0, zeroS)).toArray) w := by
  rw [← zW_eq]; exact (zero_of_info z109).1 w
theorem fill_foldl : ∀ (cs : List Value) (k off : Nat) (arr : Array Value), off + k + cs.length ≤ arr.size →
    ((cs.zipIdx k).foldl (fun (a : Array Value) (x : Value × Nat) => a.setIfInBounds (off + x.2) x.1) arr).toList = arr.toList.take (off + k) ++ cs ++ arr.toList.drop (off + k + cs.length)
  | [], k, off, arr, _ => by simp
  | c :: cs, k, off, arr, h => by
    simp only [List.length_cons] at h
    rw [List.zipIdx_cons, List.foldl_cons, fill_foldl cs (k + 1) off _ (by simp; omega)]
    simp only [Array.toList_setIfInBounds, List.length_cons]
    have h1 : (arr.toList.set (off + k) c).take (off + (k + 1)) = arr.toList.take (off + k) ++ [c] := by
      rw [show off + (k + 1) = off + k + 1 by omega, List.take_succ_eq_append_getElem (by simp; omega), List.take_set_of_le (by omega)]
      simp
    rw [h1, List.drop_set_of_lt (by omega), show off + (k + 1) + cs.length = off + k + (cs.length + 1) by omega]
    simp
theorem built_two {P : Program} {t : TypeId} {fields : Array Field} {z : Value} {n : Nat} (hi : (P.info? t).map (fun i => (i.zero, i.size)) = some (some z, n + 1)) (hu : P.underlying t = some (.struct fields)) (hp : fields.toList.mapM (fun f => (P.info? f.type).map fun i => (f.offset, i.size)) = some [(0, 1), (1, n)]) (hzs : z.cells.size = n + 1)
    (v : Value) (hv : v.cells = #[v]) (cs : List Value) (h : cs.length = n) : P.built t [(0, v), (1, .agg cs.toArray)] = some (v :: cs).toArray := by
  cases hq : P.info? t with
  | none => simp [hq] at hi
  | some it =>
    simp only [hq, Option.map_some, Option.some.injEq, Prod.mk.injEq] at hi
    unfold Program.built
    simp only [hq, hu, hi.1, hp]
    have hc : (Value.agg cs.toArray).cells = cs.toArray := rfl
    have hff := fill_foldl cs 0 1 (z.cells.setIfInBounds 0 v) (by simp; omega)
    simp only [Instr.fill, hv, hc, List.size_toArray, h]
    simp [hzs]
    refine ⟨by omega, Array.toList_inj.1 ?_⟩
    rw [hff]
    have h1 : (z.cells.setIfInBounds 0 v).toList.take (1 + 0) = [v] := by
      rw [Array.toList_setIfInBounds]
      cases hz : z.cells.toList with
      | nil => have := congrArg List.length hz; rw [Array.length_toList, hzs] at this; simp at this
      | cons a r => simp
    have h2 : (z.cells.setIfInBounds 0 v).toList.drop (1 + 0 + cs.length) = [] := by
      rw [List.drop_eq_nil_iff, Array.length_toList, Array.size_setIfInBounds, hzs, h]; omega
    rw [h1, h2]
    simp
theorem built109 (i : Int) (cs : List Value) (h : cs.length = 512) (w : World) : (Instr.build 109 #[(0, .int .i64 i), (1, .agg cs.toArray)]).run Try.prog w = .ok (.agg (Value.int .i64 i :: cs).toArray) w :=
  run_build w _ _ _ (built_two z109 Try.underlying109 (by kernel_rfl) zW_size (.int .i64 i) rfl cs h)
/-- A slice of one great element, written out. -/
theorem slice_one {P : Program} {t e : TypeId} {z : Value} {n : Nat} (ht : P.underlying t = some (.slice e)) (hi : (P.info? e).map (fun i => (i.zero, i.size)) = some (some z, n)) (hz : z.cells.size = n) (h0 : 0 < n) (hn : n ≤ 1000000) (cs : List Value) (h : cs.length = n) (w : World) :
    (Instr.buildSlice t 1 #[(0, .agg cs.toArray)]).run P w = .ok (.slice (some ⟨w.heap.size, 0, none⟩) 1 1) (w.alloc (.cells cs.toArray e)) := by
  cases hq : P.info? e with
  | none => simp [hq] at hi
  | some it =>
    simp only [hq, Option.map_some, Option.some.injEq, Prod.mk.injEq] at hi
    have hc : (Value.agg cs.toArray).cells = cs.toArray := rfl
    have hlen : ((Array.range n).map (fun x => z.cells[x % z.cells.size]!)).size = n := by simp
    have hff := fill_foldl cs 0 0 ((Array.range n).map (fun x => z.cells[x % z.cells.size]!)) (by rw [hlen]; omega)
    have hr : (cs.zipIdx.foldl (fun (a : Array Value) (x : Value × Nat) => a.setIfInBounds (0 + x.2) x.1) ((Array.range n).map (fun x => z.cells[x % z.cells.size]!))) = cs.toArray := by
      refine Array.toList_inj.1 ?_
      rw [hff]
      have h2 : ((Array.range n).map (fun x => z.cells[x % z.cells.size]!)).toList.drop (0 + 0 + cs.length) = [] := by
        rw [List.drop_eq_nil_iff, Array.length_toList, hlen]; omega
      rw [h2]; simp
    simp only [Nat.zero_add] at hr
    have hn0 : ¬ n = 0 := by omega
    have hn1 : ¬ 16777216 < n := by omega
    simp [Instr.buildSlice, run_underlying ht, sizeOf, typeInfo, zeroValue, hq, hi.1, hi.2, hn0, hn1, Instr.fill, hc, h, hr, newRow]
theorem slice109 (cs : List Value) (h : cs.length = 513) (w : World) : (Instr.buildSlice 99 1 #[(0, .agg cs.toArray)]).run Try.prog w = .ok (.slice (some ⟨w.heap.size, 0, none⟩) 1 1) (w.alloc (.cells cs.toArray 109)) :=
  slice_one Try.underlying99 z109 zW_size (by omega) (by omega) cs h w
section
variable {P : Program} {ops : Array Oper} {Q : Exit → Act → World → Prop} {md : Region.Mode} {S : World → Prop}
theorem wpAnyH_loadL {i : Nat} {oi : Oper} {r : List Oper} {fuel : Nat} {listed : Array Bool} {a : Act} {w : World} (hd : ops.toList.drop i = oi :: r)
    (hs : Region.noSelect ops = true) (hf : Region.free md ops listed i = true) (hr : (Region.ready md ops listed).contains i = true) (cs : List Value)
    (hQ : ∀ c a w, Q (.panic c) (a.put oi.dst (.agg cs.toArray)) w → Q (.panic c) a w) (hw : Region.wanted oi (yielded ops a.tmps) = true) (ty : TypeId) (x : Operand) (ho : oi.op = .load ty x) (b o : Nat) (hx : a.eval x = .pointer (some ⟨b, o, none⟩)) (d : TypeDesc) (hS' : ∀ w, S w → w.rangeAt b o cs)
    (hu : P.underlying ty = some d) (hdr : d.isRow = true) (hi : (P.info? ty).map (·.size) = some cs.length) (hS : S w)
    (h : wpAnyH P md ops Q S fuel (listed.setIfInBounds i true) (a.put oi.dst (.agg cs.toArray)) w) : wpAnyH P md ops Q S (fuel + 1) listed a w :=
  wpAnyH_take (getElem?_of_drop hd) hs hf hr hQ (yieldsIf_load_mid hw ty x ho b o hx cs d hS' hu hdr hi) hS h
theorem wpAnyH_two {i j : Nat} {oi oj : Oper} {ri rj : List Oper} {fuel : Nat} {listed : Array Bool} {a : Act} {w : World} (hi : ops.toList.drop i = oi :: ri) (hj : ops.toList.drop j = oj :: rj)
    (hr : Region.ready md ops listed = [i, j]) (hwi : Region.wanted oi (yielded ops a.tmps) = true) (hwj : Region.wanted oj (yielded ops a.tmps) = true)
    (h1 : ∀ K' : Act → World → Prop, Shut (∀ a w, S w → (S w → wpAnyH P md ops Q S fuel (listed.setIfInBounds i true) a w) → K' a w) → Oper.wp P oi a w K' Q)
    (h2 : ∀ K' : Act → World → Prop, Shut (∀ a w, S w → (S w → wpAnyH P md ops Q S fuel (listed.setIfInBounds j true) a w) → K' a w) → Oper.wp P oj a w K' Q) : wpAnyH P md ops Q S (fuel + 1) listed a w :=
  wpAnyH_ready hr (by simp) (AllReadyH.cons (getElem?_of_drop hi) (fun K' hK => by rw [if_pos hwi]; exact h1 K' hK) (AllReadyH.cons (getElem?_of_drop hj) (fun K' hK => by rw [if_pos hwj]; exact h2 K' hK) AllReadyH.nil))
end
theorem exec_build {P : Program} {o : Oper} {ρ : Operand → Value} {t : TypeId} {parts : Array (Nat × Operand)} {v : Value} {w : World} (ho : o.op = .build t parts) (h : (Instr.build t (parts.map fun (i, x) => (i, ρ x))).run P w = .ok v w) : (execOp ρ o).run P w = .ok (.value v) w := by
  unfold execOp
  simp only [ho, Sem.run_bind, h, Result.andThen_ok, Sem.run_pure]
theorem wp_buildSlice {P : Program} {Q : Exit → Act → World → Prop} {o : Oper} {a : Act} {K : Act → World → Prop} {t : TypeId} {n : Nat} {parts : Array (Nat × Operand)} {v : Value} {w w' : World} (ho : o.op = .buildSlice t n parts) (h : (Instr.buildSlice t n (parts.map fun (i, x) => (i, a.eval x))).run P w = .ok v w') (hK : K (a.put o.dst v) w') : Oper.wp P o a w K Q := by
  unfold Oper.wp execOp
  simp only [ho, Sem.run_bind, h, Result.andThen_ok, Sem.run_pure]
  exact hK
theorem z109b : (Try.prog.info? 109).map (fun i => (i.zero, i.size, i.bytes)) = some (some zW, 513, 520) := by kernel_rfl
theorem writeElt : EltOk Try.prog 99 109 513 520 zW := ⟨Try.underlying99, info_parts z109b, zW_size, by decide⟩
end Go.Proofs.Ytnehppeoffemlaa
