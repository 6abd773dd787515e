/- Joined texts: DiskT, DiskB, DiskR. -/
import Derived.Test.YtggeepihkeocmaaJPlays05
import Derived.Deep.WholeRow
/- Great values: zero sectors, a write built, a slice of one write built; regions with two operations at once. -/
namespace Go.Proofs.Ytggeepihkeocmaa
set_option linter.unusedVariables false
set_option linter.unusedSimpArgs false
open Go.RowKit
theorem u107 : Try.prog.underlying 126 = some (.array 512 5) := by kernel_rfl
theorem i107 : (Try.prog.info? 126).map (·.size) = some 512 := by kernel_rfl
theorem i109 : (Try.prog.info? 128).map (·.size) = some 513 := by kernel_rfl
def zeroS : List Int := List.replicate 512 0
theorem zeroS_sec : Sec zeroS := ⟨List.length_replicate, fun x hx => by rw [List.eq_of_mem_replicate hx]; omega⟩
theorem secV_zero : secV zeroS = List.replicate 512 (Value.int .u8 0) := by
  unfold secV zeroS; exact List.map_replicate
def zS : Value := .agg (List.replicate 512 (Value.int .u8 0)).toArray
def zW : Value := .agg (Value.int .i64 0 :: List.replicate 512 (Value.int .u8 0)).toArray
theorem zS_eq : zS = .agg (secV zeroS).toArray := by unfold zS; rw [secV_zero]
theorem zW_eq : zW = .agg (wrV (0, zeroS)).toArray := by unfold zW wrV; rw [secV_zero]; rfl
theorem secZ_len : (secV zeroS).length = 512 := secV_len zeroS_sec
theorem zS_size : zS.cells.size = 512 := by rw [zS_eq]; show (secV zeroS).length = 512; exact secZ_len
theorem zW_size : zW.cells.size = 513 := by rw [zW_eq]; show (wrV (0, zeroS)).length = 513; exact wrV_len zeroS_sec
theorem z107 : (Try.prog.info? 126).map (fun i => (i.zero, i.size)) = some (some zS, 512) := by kernel_rfl
theorem z109 : (Try.prog.info? 128).map (fun i => (i.zero, i.size)) = some (some zW, 513) := by kernel_rfl
theorem zero107 (w : World) : (zeroValue 126).run Try.prog w = .ok (.agg (secV zeroS).toArray) w := by
  rw [← zS_eq]; exact (zero_of_info z107).1 w
theorem zero109 (w : World) : (zeroValue 128).run Try.prog w = .ok (.agg (wrV (0, zeroS)).toArray) w := by
  rw [← zW_eq]; exact (zero_of_info z109).1 w
theorem fill_foldl : ∀ (cs : List Value) (k off : Nat) (arr : Array Value), off + k + cs.length ≤ arr.size →
    ((cs.zipIdx k).foldl (fun (a : Array Value) (x : Value × Nat) => a.setIfInBounds (off + x.2) x.1) arr).toList = arr.toList.take (off + k) ++ cs ++ arr.toList.drop (off + k + cs.length)
  | [], k, off, arr, _ => by simp
  | c :: cs, k, off, arr, h => by
    simp only [List.length_cons] at h
    rw [List.zipIdx_cons, List.foldl_cons, fill_foldl cs (k + 1) off _ (by simp; omega)]
    simp only [Array.toList_setIfInBounds, List.length_cons]
    have h1 : (arr.toList.set (off + k) c).take (off + (k + 1)) = arr.toList.take (off + k) ++ [c] := by
      rw [show off + (k + 1) = off + k + 1 by omega, List.take_succ_eq_append_getElem (by simp; omega), List.take_set_of_le (by omega)]
      simp
    rw [h1, List.drop_set_of_lt (by omega), show off + (k + 1) + cs.length = off + k + (cs.length + 1) by omega]
    simp
theorem built_two {P : Program} {t : TypeId} {fields : Array Field} {z : Value} {n : Nat} (hi : (P.info? t).map (fun i => (i.zero, i.size)) = some (some z, n + 1)) (hu : P.underlying t = some (.struct fields)) (hp : fields.toList.mapM (fun f => (P.info? f.type).map fun i => (f.offset, i.size)) = some [(0, 1), (1, n)]) (hzs : z.cells.size = n + 1)
    (v : Value) (hv : v.cells = #[v]) (cs : List Value) (h : cs.length = n) : P.built t [(0, v), (1, .agg cs.toArray)] = some (v :: cs).toArray := by
  cases hq : P.info? t with
  | none => simp [hq] at hi
  | some it =>
    simp only [hq, Option.map_some, Option.some.injEq, Prod.mk.injEq] at hi
    unfold Program.built
    simp only [hq, hu, hi.1, hp]
    have hc : (Value.agg cs.toArray).cells = cs.toArray := rfl
    have hff := fill_foldl cs 0 1 (z.cells.setIfInBounds 0 v) (by simp; omega)
    simp only [Instr.fill, hv, hc, List.size_toArray, h]
    simp [hzs]
    refine ⟨by omega, Array.toList_inj.1 ?_⟩
    rw [hff]
    have h1 : (z.cells.setIfInBounds 0 v).toList.take (1 + 0) = [v] := by
      rw [Array.toList_setIfInBounds]
      cases hz : z.cells.toList with
      | nil => have := congrArg List.length hz; rw [Array.length_toList, hzs] at this; simp at this
      | cons a r => simp
    have h2 : (z.cells.setIfInBounds 0 v).toList.drop (1 + 0 + cs.length) = [] := by
      rw [List.drop_eq_nil_iff, Array.length_toList, Array.size_setIfInBounds, hzs, h]; omega
    rw [h1, h2]
    simp
theorem built109 (i : Int) (cs : List Value) (h : cs.length = 512) (w : World) : (Instr.build 128 #[(0, .int .i64 i), (1, .agg cs.toArray)]).run Try.prog w = .ok (.agg (Value.int .i64 i :: cs).toArray) w :=
  run_build w _ _ _ (built_two z109 Try.underlying128 (by kernel_rfl) zW_size (.int .i64 i) rfl cs h)
/-- A slice of one great element, written out. -/
theorem slice_one {P : Program} {t e : TypeId} {z : Value} {n : Nat} (ht : P.underlying t = some (.slice e)) (hi : (P.info? e).map (fun i => (i.zero, i.size)) = some (some z, n)) (hz : z.cells.size = n) (h0 : 0 < n) (hn : n ≤ 1000000) (cs : List Value) (h : cs.length = n) (w : World) :
    (Instr.buildSlice t 1 #[(0, .agg cs.toArray)]).run P w = .ok (.slice (some ⟨w.heap.size, 0, none⟩) 1 1) (w.alloc (.cells cs.toArray e)) := by
  cases hq : P.info? e with
  | none => simp [hq] at hi
  | some it =>
    simp only [hq, Option.map_some, Option.some.injEq, Prod.mk.injEq] at hi
    have hc : (Value.agg cs.toArray).cells = cs.toArray := rfl
    have hlen : ((Array.range n).map (fun x => z.cells[x % z.cells.size]!)).size = n := by simp
    have hff := fill_foldl cs 0 0 ((Array.range n).map (fun x => z.cells[x % z.cells.size]!)) (by rw [hlen]; omega)
    have hr : (cs.zipIdx.foldl (fun (a : Array Value) (x : Value × Nat) => a.setIfInBounds (0 + x.2) x.1) ((Array.range n).map (fun x => z.cells[x % z.cells.size]!))) = cs.toArray := by
      refine Array.toList_inj.1 ?_
      rw [hff]
      have h2 : ((Array.range n).map (fun x => z.cells[x % z.cells.size]!)).toList.drop (0 + 0 + cs.length) = [] := by
        rw [List.drop_eq_nil_iff, Array.length_toList, hlen]; omega
      rw [h2]; simp
    simp only [Nat.zero_add] at hr
    have hn0 : ¬ n = 0 := by omega
    have hn1 : ¬ 16777216 < n := by omega
    simp [Instr.buildSlice, run_underlying ht, sizeOf, typeInfo, zeroValue, hq, hi.1, hi.2, hn0, hn1, Instr.fill, hc, h, hr, newRow]
theorem slice109 (cs : List Value) (h : cs.length = 513) (w : World) : (Instr.buildSlice 122 1 #[(0, .agg cs.toArray)]).run Try.prog w = .ok (.slice (some ⟨w.heap.size, 0, none⟩) 1 1) (w.alloc (.cells cs.toArray 128)) :=
  slice_one Try.underlying122 z109 zW_size (by omega) (by omega) cs h w
section
variable {P : Program} {ops : Array Oper} {Q : Exit → Act → World → Prop} {md : Region.Mode} {S : World → Prop}
theorem wpAnyH_loadL {i : Nat} {oi : Oper} {r : List Oper} {fuel : Nat} {listed : Array Bool} {a : Act} {w : World} (hd : ops.toList.drop i = oi :: r)
    (hs : Region.noSelect ops = true) (hf : Region.free md ops listed i = true) (hr : (Region.ready md ops listed).contains i = true) (cs : List Value)
    (hQ : ∀ c a w, Q (.panic c) (a.put oi.dst (.agg cs.toArray)) w → Q (.panic c) a w) (hw : Region.wanted oi (yielded ops a.tmps) = true) (ty : TypeId) (x : Operand) (ho : oi.op = .load ty x) (b o : Nat) (hx : a.eval x = .pointer (some ⟨b, o, none⟩)) (d : TypeDesc) (hS' : ∀ w, S w → w.rangeAt b o cs)
    (hu : P.underlying ty = some d) (hdr : d.isRow = true) (hi : (P.info? ty).map (·.size) = some cs.length) (hS : S w)
    (h : wpAnyH P md ops Q S fuel (listed.setIfInBounds i true) (a.put oi.dst (.agg cs.toArray)) w) : wpAnyH P md ops Q S (fuel + 1) listed a w :=
  wpAnyH_take (getElem?_of_drop hd) hs hf hr hQ (yieldsIf_load_mid hw ty x ho b o hx cs d hS' hu hdr hi) hS h
theorem wpAnyH_two {i j : Nat} {oi oj : Oper} {ri rj : List Oper} {fuel : Nat} {listed : Array Bool} {a : Act} {w : World} (hi : ops.toList.drop i = oi :: ri) (hj : ops.toList.drop j = oj :: rj)
    (hr : Region.ready md ops listed = [i, j]) (hwi : Region.wanted oi (yielded ops a.tmps) = true) (hwj : Region.wanted oj (yielded ops a.tmps) = true)
    (h1 : ∀ K' : Act → World → Prop, Shut (∀ a w, S w → (S w → wpAnyH P md ops Q S fuel (listed.setIfInBounds i true) a w) → K' a w) → Oper.wp P oi a w K' Q)
    (h2 : ∀ K' : Act → World → Prop, Shut (∀ a w, S w → (S w → wpAnyH P md ops Q S fuel (listed.setIfInBounds j true) a w) → K' a w) → Oper.wp P oj a w K' Q) : wpAnyH P md ops Q S (fuel + 1) listed a w :=
  wpAnyH_ready hr (by simp) (AllReadyH.cons (getElem?_of_drop hi) (fun K' hK => by rw [if_pos hwi]; exact h1 K' hK) (AllReadyH.cons (getElem?_of_drop hj) (fun K' hK => by rw [if_pos hwj]; exact h2 K' hK) AllReadyH.nil))
end
theorem exec_build {P : Program} {o : Oper} {ρ : Operand → Value} {t : TypeId} {parts : Array (Nat × Operand)} {v : Value} {w : World} (ho : o.op = .build t parts) (h : (Instr.build t (parts.map fun (i, x) => (i, ρ x))).run P w = .ok v w) : (execOp ρ o).run P w = .ok (.value v) w := by
  unfold execOp
  simp only [ho, Sem.run_bind, h, Result.andThen_ok, Sem.run_pure]
theorem wp_buildSlice {P : Program} {Q : Exit → Act → World → Prop} {o : Oper} {a : Act} {K : Act → World → Prop} {t : TypeId} {n : Nat} {parts : Array (Nat × Operand)} {v : Value} {w w' : World} (ho : o.op = .buildSlice t n parts) (h : (Instr.buildSlice t n (parts.map fun (i, x) => (i, a.eval x))).run P w = .ok v w') (hK : K (a.put o.dst v) w') : Oper.wp P o a w K Q := by
  unfold Oper.wp execOp
  simp only [ho, Sem.run_bind, h, Result.andThen_ok, Sem.run_pure]
  exact hK
theorem z109b : (Try.prog.info? 128).map (fun i => (i.zero, i.size, i.bytes)) = some (some zW, 513, 520) := by kernel_rfl
theorem writeElt : EltOk Try.prog 122 128 513 520 zW := ⟨Try.underlying122, info_parts z109b, zW_size, by decide⟩
end Go.Proofs.Ytggeepihkeocmaa
/- disk.New, Arm, and a look at a sector: by their contracts. -/
namespace Go.Proofs.Ytggeepihkeocmaa
set_option linter.unusedVariables false
set_option linter.unusedSimpArgs false
open Go.RowKit
theorem made_zero (n : Nat) : (madeCells zS.cells (n * 512)).toList = (List.replicate n zeroS).flatMap secV := by
  have h1 : (madeCells zS.cells (n * 512)).toList = List.replicate (n * 512) (Value.int .u8 0) := by
    refine List.eq_replicate_iff.2 ⟨by rw [Array.length_toList, size_madeCells], fun v hv => ?_⟩
    unfold madeCells at hv
    rw [Array.toList_map] at hv
    obtain ⟨x, -, rfl⟩ := List.mem_map.1 hv
    have hs := zS_size
    have hlt : x % zS.cells.size < zS.cells.size := Nat.mod_lt _ (by omega)
    rw [getElem!_pos zS.cells _ hlt]
    have hm : zS.cells[x % zS.cells.size] ∈ zS.cells := Array.getElem_mem hlt
    generalize zS.cells[x % zS.cells.size] = v at *
    have hm' : v ∈ List.replicate 512 (Value.int .u8 0) := List.mem_toArray.1 (show v ∈ (List.replicate 512 (Value.int .u8 0)).toArray from hm)
    exact List.eq_of_mem_replicate hm'
  have h2 : (List.replicate n zeroS).flatMap secV = List.replicate (n * 512) (Value.int .u8 0) := by
    refine List.eq_replicate_iff.2 ⟨?_, fun v hv => ?_⟩
    · rw [flat_len_m (sz := 512) _ (fun x hx => by rw [List.eq_of_mem_replicate hx]; exact secZ_len), List.length_replicate]
    · obtain ⟨x, hx, hv⟩ := List.mem_flatMap.1 hv
      rw [List.eq_of_mem_replicate hx, secV_zero] at hv
      exact List.eq_of_mem_replicate hv
  rw [h1, h2]
theorem newD_ok (n : Nat) (h1 : 1 ≤ n) (h2 : n ≤ 4096) : DkOk ⟨List.replicate n zeroS, [], 0, false, 0⟩ :=
  ⟨fun s hs => by rw [List.eq_of_mem_replicate hs]; exact zeroS_sec, fun x hx => absurd hx (by simp), by simp only [List.length_replicate]; omega, by simp only; omega, by simp only; omega, by simp⟩
theorem z107b : (Try.prog.info? 126).map (fun i => (i.zero, i.size, i.bytes)) = some (some zS, 512, 512) := by kernel_rfl
theorem new_no (i : Int) (h : i < 1 ∨ 4096 < i) (w : World) : Calls Try.prog 47 #[.int .i64 i] w fun e w' => e = .returned (.tuple #[.pointer none, .int .i64 1]) ∧ w = w' := by
  by_cases h1 : i < 1
  · go_enter Try.func47, Try.ntmps47
    go_wp2
    go_ret2
    exact ⟨rfl, rfl⟩
  · have h2 : 4096 < i := by omega
    go_enter Try.func47, Try.ntmps47
    go_wp2
    go_ret2
    exact ⟨rfl, rfl⟩
set_option maxRecDepth 100000 in
theorem new_calls (n : Nat) (h1 : 1 ≤ n) (h2 : n ≤ 4096) (w : World) : Calls Try.prog 47 #[.int .i64 n] w fun e w' => ∃ d lb, e = .returned (.tuple #[.pointer (some ⟨d, 0, none⟩), .int .i64 0]) ∧ Dsk w' d lb none 0 0 ⟨List.replicate n zeroS, [], 0, false, 0⟩ ∧ Below w.heap.size w w' ∧ w.heap.size ≤ d ∧ w.heap.size ≤ lb := by
  have i1 : ¬ (n : Int) < 1 := by omega
  have i2 : ¬ (4096 : Int) < n := by omega
  obtain ⟨it, hi, hz, hs, hb⟩ := info_parts z107b
  have hbb : it.bytes * n ≤ 281474976710656 := by rw [hb]; omega
  have hmx : n ≤ maxLen := by unfold maxLen; omega
  have hbb' := Lib.hid hbb
  have hi' := Lib.hid hi
  have hz' := Lib.hid hz
  have hs' := Lib.hid hs
  clear hi hz hs hb hbb
  go_enter Try.func47, Try.ntmps47
  go_wp2_with (at_make; refine wpList_make_full w rfl (.tmp 10) (.tmp 10) 121 rfl w.heap.size 126 it zS 512 Try.underlying121 hi'.out hz'.out hs'.out .i64 .i64 _ _ n rfl rfl rfl rfl hbb'.out hmx (Nat.le_refl _) ?_; intro w1 ho1 hg1)
  go_ret2
  obtain ⟨g, cap, cur, hv, -, hat, -, -, hcs, htk⟩ : ∃ g cap cur, Value.slice (some ⟨w.heap.size, 0, none⟩) n n = .slice (some ⟨g, 0, none⟩) n cap ∧ w.heap.size ≤ g ∧ At w1 g cur 126 ∧ n ≤ cap ∧ cap ≤ maxLen ∧ cur.size = cap * 512 ∧ cur.toList.take (n * 512) = (madeCells zS.cells (n * 512)).toList := by
    rcases ho1.2 with ⟨hv, h0⟩ | ⟨g, cap, cur, hv, h3, h4, h5, h6, h7, h8⟩
    · cases hv
    · exact ⟨g, cap, cur, hv, h3, h4, h5, h6, h7, h8⟩
  injection hv with e1 _ e3
  injection e1 with e1
  injection e1 with e1
  subst e1; subst e3
  rw [List.take_of_length_le (by rw [Array.length_toList, hcs]; exact Nat.le_refl _), made_zero] at htk
  have hrow : At w1 w.heap.size ((List.replicate n zeroS).flatMap secV).toArray 126 := by
    rw [← htk]; exact hat
  have hlt := hrow.lt
  refine ⟨w1.heap.size, rfl, w.heap.size, ⟨?_, hrow.alloc _, World.ownsRow_nil _ _ _ _, rfl, newD_ok n h1 h2⟩, below_tr ⟨hg1.os, hg1.tape, hg1.output, hg1.size, fun k hk => hg1.block k hk (by simp)⟩ ((below_new w1 _).mono hg1.size), by omega, Nat.le_refl _⟩
  have := At.new w1 #[.slice (some ⟨w.heap.size, 0, none⟩) n n, .slice none 0 0, .int .i64 0, .bool false, .int .i64 0] 124
  simpa using this
def armD (D : Dk) (i : Int) : Dk := { D with arm := i }
theorem Dsk.arms {w : World} {d lb m mc : Nat} {pA : Option Addr} {D : Dk} (h : Dsk w d lb pA m mc D) {i : Int} (h0 : 0 ≤ i) (h1 : i ≤ 9223372036854775807) : Dsk (w.setCell ⟨d, 2, none⟩ (.int .i64 i)) d lb pA m mc (armD D i) :=
  ⟨(h.at_.set (o := 2) (v := .int .i64 i)).to (by simp [armD]), h.row.set_ne h.ne1.symm, owns_heap h.way (fun b hb => by
      rw [ownBlk_eq] at hb
      exact Below.heap_setCell _ _ _ _ (fun e => h.ne2 (by rw [hb, e]))), h.wl, ⟨h.ok.l, h.ok.way, h.ok.len, ⟨h0, h1⟩, h.ok.ops, h.ok.cnt⟩⟩
theorem arm_no {d lb m mc : Nat} {pA : Option Addr} {D : Dk} (i : Int) (w : World) (h : Dsk w d lb pA m mc D) (h0 : i < 0) : Calls Try.prog 56 #[.pointer (some ⟨d, 0, none⟩), .int .i64 i] w fun e w' => e = .returned (.int .i64 1) ∧ w = w' := by
  go_enter Try.func56, Try.ntmps56
  go_wp2
  go_ret
  exact ⟨rfl, rfl⟩
theorem arm_calls {d lb m mc : Nat} {pA : Option Addr} {D : Dk} (i : Int) (w : World) (h : Dsk w d lb pA m mc D) (h0 : 0 ≤ i) (h1 : i ≤ 9223372036854775807) : Calls Try.prog 56 #[.pointer (some ⟨d, 0, none⟩), .int .i64 i] w fun e w' => e = .returned (.int .i64 0) ∧ Dsk w' d lb pA m mc (armD D i) ∧ Mod (fun k => k = d) w w' := by
  have k0 := h.at_
  have hn : ¬ i < 0 := by omega
  have k0c := k0.c; have k0f := k0.f; have k0l := k0.lt
  have hd := Lib.hid (h.arms h0 h1)
  go_enter Try.func56, Try.ntmps56
  go_wp2
  go_ret
  exact ⟨rfl, hd.out, (Mod.refl (fun k => k = d) w).set (.inl rfl) _⟩
end Go.Proofs.Ytggeepihkeocmaa
/- disk.Read by its contract. -/
namespace Go.Proofs.Ytggeepihkeocmaa
set_option linter.unusedVariables false
set_option linter.unusedSimpArgs false
open Go.RowKit
def wayAt (D : Dk) (k : Nat) : Wr := D.way.getD k (0, [])
def readTo (D : Dk) (i : Nat) : Nat → List Int
  | 0 => D.l.getD i []
  | k + 1 => if (wayAt D k).1 = i then (wayAt D k).2 else readTo D i k
def readD (D : Dk) (i : Nat) : List Int := readTo D i D.way.length
theorem readTo_sec {D : Dk} (h : DkOk D) {i : Nat} (hi : i < D.l.length) : ∀ k, k ≤ D.way.length → Sec (readTo D i k)
  | 0, _ => sec_at h.l hi
  | k + 1, hk => by
    unfold readTo
    split
    · exact (way_at h (by omega)).2
    · exact readTo_sec h hi k (by omega)
/-- A block that is one sector. -/
def SecB (w : World) (b : Nat) (s : List Int) : Prop := At w b (secV s).toArray 126 ∧ Sec s
theorem SecB.range {w : World} {b : Nat} {s : List Int} (h : SecB w b s) : w.rangeAt b 0 (secV s) := by
  have h1 : At w b ([] ++ secV s ++ []).toArray 126 := by simpa using h.1
  exact h1.rangeAt
theorem SecB.there {w : World} {b : Nat} {s : List Int} (h : SecB w b s) : w.there b 0 512 := by
  have h1 : At w b ([] ++ secV s ++ []).toArray 126 := by simpa using h.1
  have h2 := h1.there
  rw [secV_len h.2] at h2
  exact h2
theorem SecB.store {w : World} {b : Nat} {s s' : List Int} (h : SecB w b s) (h' : Sec s') : SecB (w.setCells b 0 (secV s')) b s' := by
  have h1 : At w b ([] ++ secV s ++ []).toArray 126 := by simpa using h.1
  have h2 := At.setCells (w := w) (secV s') h1 (by rw [secV_len h.2, secV_len h'])
  refine ⟨by simpa using h2, h'⟩
theorem zc107 : Try.zeroCells126 = (secV zeroS).toArray := by kernel_rfl
theorem SecB.new (w : World) : SecB (w.alloc (.cells Try.zeroCells126 126)) w.heap.size zeroS := ⟨zc107 ▸ At.new w _ _, zeroS_sec⟩
theorem thereS {w : World} {b : Nat} {s s' : List Int} (h : SecB w b s) (h' : Sec s') : w.there b 0 (secV s').toArray.size := by
  have := h.there
  rwa [← secV_len h'] at this
theorem oneS (s : List Int) : (secV s).toArray.all (·.oneCell') = true := all_oneCell_toArray (secV_one s)
theorem SecB.keep {w w' : World} {b : Nat} {s : List Int} (h : SecB w b s) (hb : Below w.heap.size w w') : SecB w' b s := ⟨At.keep hb h.1, h.2⟩
/-- A block that is one write. -/
def WrB (w : World) (b : Nat) (x : Wr) : Prop := At w b (wrV x).toArray 128 ∧ Sec x.2
theorem zc109 : Try.zeroCells128 = (wrV (0, zeroS)).toArray := by kernel_rfl
theorem WrB.new (w : World) : WrB (w.alloc (.cells Try.zeroCells128 128)) w.heap.size (0, zeroS) := ⟨zc109 ▸ At.new w _ _, zeroS_sec⟩
theorem WrB.there {w : World} {b : Nat} {x : Wr} (h : WrB w b x) : w.there b 0 513 := by
  have h1 : At w b ([] ++ wrV x ++ []).toArray 128 := by simpa using h.1
  have h2 := h1.there
  rw [wrV_len h.2] at h2
  exact h2
theorem WrB.store {w : World} {b : Nat} {x x' : Wr} (h : WrB w b x) (h' : Sec x'.2) : WrB (w.setCells b 0 (wrV x')) b x' := by
  have h1 : At w b ([] ++ wrV x ++ []).toArray 128 := by simpa using h.1
  have h2 := At.setCells (w := w) (wrV x') h1 (by rw [wrV_len h.2, wrV_len h'])
  refine ⟨by simpa using h2, h'⟩
theorem WrB.at_ {w : World} {b : Nat} {x : Wr} (h : WrB w b x) : w.cell? ⟨b, 0, none⟩ = some (.int .i64 x.1) := by
  rw [h.1.c]; simp [wrV]
theorem WrB.sec {w : World} {b : Nat} {x : Wr} (h : WrB w b x) : w.rangeAt b 1 (secV x.2) := by
  have h1 : At w b ([Value.int .i64 x.1] ++ secV x.2 ++ []).toArray 128 := by
    have := h.1
    simpa [wrV] using this
  exact h1.rangeAt
theorem wrV_one (x : Wr) : ∀ v ∈ wrV x, v.oneCell' = true := by
  intro v hv
  rcases List.mem_cons.1 hv with rfl | hv
  · rfl
  · exact secV_one _ v hv
theorem i107n {s : List Int} (h : Sec s) : (Try.prog.info? 126).map (·.size) = some (secV s).length := by rw [secV_len h]; exact i107
theorem i109n {x : Wr} (h : Sec x.2) : (Try.prog.info? 128).map (·.size) = some (wrV x).length := by rw [wrV_len h]; exact i109
theorem below_setCells {B b : Nat} {a w : World} (h : Below B a w) (hb : B ≤ b) (o : Nat) (vs : List Value) : Below B a (w.setCells b o vs) := by
  obtain ⟨s1, s2, s3, s4⟩ := setCells_size (b := b) vs o w
  exact ⟨s2.trans h.os, s3.trans h.tape, s4.trans h.output, by rw [s1]; exact h.size, fun k hk => by rw [setCells_ne vs o w (by omega)]; exact h.block k hk⟩
theorem thereW {w : World} {b : Nat} {x x' : Wr} (h : WrB w b x) (h' : Sec x'.2) : w.there b 0 (wrV x').toArray.size := by
  have := h.there
  rwa [← wrV_len h'] at this
theorem oneW (x : Wr) : (wrV x).toArray.all (·.oneCell') = true := all_oneCell_toArray (wrV_one x)
theorem SecB.set_ne {w : World} {b b' : Nat} {s : List Int} (h : SecB w b s) (hne : b ≠ b') (o : Nat) (vs : List Value) : SecB (w.setCells b' o vs) b s := ⟨h.1.of_heap (setCells_ne vs o w hne), h.2⟩
theorem readTo_yes {D : Dk} {i k : Nat} (h : (wayAt D k).1 = i) : readTo D i (k + 1) = (wayAt D k).2 := if_pos h
theorem readTo_no {D : Dk} {i k : Nat} (h : (wayAt D k).1 ≠ i) : readTo D i (k + 1) = readTo D i k := if_neg h
set_option maxRecDepth 100000 in
set_option maxHeartbeats 1000000 in
theorem read_calls {d lb m mc : Nat} {pA : Option Addr} {D : Dk} (i : Nat) (w : World) (h : Dsk w d lb pA m mc D) (hi : i < D.l.length) (hoff : D.off = false) :
    Calls Try.prog 26 #[.pointer (some ⟨d, 0, none⟩), .int .i64 i] w fun e w' => ∃ b, e = .returned (.tuple #[.slice (some ⟨b, 0, none⟩) 512 512, .int .i64 0]) ∧ SecB w' b (readD D i) ∧ Below w.heap.size w w' ∧ w.heap.size ≤ b := by
  have k0 := h.at_
  rw [hoff] at k0
  have k0c := k0.c; have k0f := k0.f; have k0l := k0.lt
  have hlk : lookE D i = 0 := if_pos (by omega)
  have hsec := sec_at h.ok.l hi
  have hrg := (h.sector hi).1
  have hz := zero107
  have hl1 := h.ok.len.2
  have hi0 : (0 : Int) ≤ i := by omega
  have hi1 : (i : Int) < D.l.length := by omega
  have hsec' := Lib.hid hsec
  have hrg' := Lib.hid hrg
  have hz' := Lib.hid hz
  have hh := Lib.hid h
  clear hsec hrg hz h
  go_enter Try.func26, Try.ntmps26
  go_wp2_with fail
  refine (look_calls i w hh.out).mono ?_
  rintro e w' ⟨rfl, rfl⟩
  rw [hlk]
  have hlast := Lib.hid (show readTo D i 0 = D.l.getD i [] from rfl)
  generalize D.l.getD i [] = s at *
  have hst := Lib.hid (thereS (SecB.new w) hsec'.out)
  have hsz := Lib.hid (i107n hsec'.out)
  go_upto_region 7 with (first
    | (refine wpList_load_mid rfl 126 (.tmp 25) rfl lb (i * 512) rfl (secV s) _ hrg'.out u107 rfl hsz.out ?_)
    | (refine wpList_store_mid rfl 126 (.tmp 7) (.tmp 26) rfl w.heap.size 0 (secV s).toArray rfl rfl hst.out hsz.out (oneS s) ?_))
  generalize hw1 : World.setCells (w.alloc _) w.heap.size 0 _ = w1
  have kS : SecB w1 w.heap.size (readTo D i 0) := by rw [← hw1, hlast.out]; exact (SecB.new w).store hsec'.out
  have hB1 : Below w.heap.size w w1 := by rw [← hw1]; exact below_setCells (below_new w _) (Nat.le_refl _) _ _
  clear hw1 hst hlast hrg' hsec' hsz
  replace k0 := k0.below hB1 k0l
  clear k0c k0f k0l
  have k0c := k0.c; have k0f := k0.f; have k0l := k0.lt
  go_upto_region 8 with (fail)
  clear k0 k0c k0f k0l
  have hcn := hh.out.ok.cnt
  have hwl := hh.out.wl
  rw [hwl] at hcn
  have hwl' := Lib.hid hwl
  clear hwl
  go_loopw [9, 32] (fun _ v32 wr => ∃ k : Nat, k ≤ m ∧ v32 = .int .i64 k ∧ SecB wr w.heap.size (readTo D i k) ∧ Below w.heap.size w wr) (fun _ v32 _ => m - (intOf v32).toNat)
  case atStart => exact ⟨0, by omega, rfl, kS, hB1⟩
  case round =>
    clear kS hB1
    obtain ⟨k, hk, rfl, kS, hB⟩ := hrel
    by_cases hlt : k < m
    · obtain ⟨g, rfl, hg, hmc, hrg⟩ := (hh.out.later hB).write hlt
      have hxs := (way_at hh.out.ok (i := k) (by rw [hwl'.out]; exact hlt)).2
      have hyes := Lib.hid (readTo_yes (D := D) (i := i) (k := k))
      have hno := Lib.hid (readTo_no (D := D) (i := i) (k := k))
      unfold wayAt at hyes hno
      generalize D.way.getD k (0, []) = x at *
      have hj0 : (0 : Int) ≤ k := by omega
      have hj1 : (k : Int) < m := by omega
      have hrg' := Lib.hid hrg
      have hxs' := Lib.hid hxs
      have hst := Lib.hid (thereW (WrB.new wr) hxs)
      have hsz := Lib.hid (i109n hxs)
      clear hrg hxs
      go_upto_region 10 with (first
        | (refine wpList_load_mid rfl 128 (.tmp 34) rfl g (k * 513) rfl (wrV x) _ hrg'.out Try.underlying128 rfl hsz.out ?_)
        | (refine wpList_store_mid rfl 128 (.tmp 9) (.tmp 35) rfl wr.heap.size 0 (wrV x).toArray rfl rfl hst.out hsz.out (oneW x) ?_))
      generalize hw2 : World.setCells (wr.alloc _) wr.heap.size 0 _ = w2
      have kW : WrB w2 wr.heap.size x := by rw [← hw2]; exact (WrB.new wr).store hxs'.out
      have hne : w.heap.size ≠ wr.heap.size := fun e => by have := kS.1.lt; omega
      have kS2 : SecB w2 w.heap.size (readTo D i k) := by rw [← hw2]; exact (kS.keep (below_new wr _)).set_ne hne _ _
      have hB2 : Below w.heap.size w w2 := by rw [← hw2]; exact below_setCells (below_al hB) hB.size _ _
      clear hw2 hst hrg' hsz kS hB
      have kWc := kW.at_
      have kWs := Lib.hid kW.sec
      by_cases hx : x.1 = i
      · have hx' : (x.1 : Int) = i := by omega
        rw [hx'] at kWc
        have hst := Lib.hid (thereS kS2 hxs'.out)
        have hsz := Lib.hid (i107n hxs'.out)
        go_upto_region 12 with (first
          | (refine wpList_load_mid rfl 126 (.tmp 40) rfl wr.heap.size 1 rfl (secV x.2) _ kWs.out u107 rfl hsz.out ?_)
          | (refine wpList_store_mid rfl 126 (.tmp 7) (.tmp 41) rfl w.heap.size 0 (secV x.2).toArray rfl rfl hst.out hsz.out (oneS x.2) ?_))
        generalize hw3 : World.setCells w2 w.heap.size 0 _ = w3
        have kS3 : SecB w3 w.heap.size (readTo D i (k + 1)) := by rw [← hw3, hyes.out hx]; exact kS2.store hxs'.out
        have hB3 : Below w.heap.size w w3 := by rw [← hw3]; exact below_setCells hB2 (Nat.le_refl _) _ _
        clear hw3 hst hsz kWc
        go_wp2
        go_roundw
        case rel => exact ⟨k + 1, by omega, by go_num, kS3, hB3⟩
        case measure => simp [intOf]; omega
      · have hx' : ¬ (x.1 : Int) = i := by omega
        go_wp2
        go_roundw
        case rel => exact ⟨k + 1, by omega, by go_num, by rw [hno.out hx]; exact kS2, hB2⟩
        case measure => simp [intOf]; omega
    · obtain rfl : k = m := by omega
      go_wp2
      go_ret2
      refine ⟨w.heap.size, rfl, ?_, hB, Nat.le_refl _⟩
      unfold readD
      rw [hwl'.out]
      exact kS
end Go.Proofs.Ytggeepihkeocmaa
