/- Joined texts: AppZ, LogF, LogG, AppG. -/
import Derived.Test.YtggeepihkeocmaaJPlays00
import Derived.Lib.AppendZerosOnto
import Derived.Test.YtggeepihkeocmaaJPlays01
/- append of zeros (append(b, make([]byte, n)...)) to a row of bytes that the call owns. -/
namespace Go.Proofs.Ytggeepihkeocmaa
set_option linter.unusedVariables false
set_option linter.unusedSimpArgs false
open Go.RowKit
theorem zero_list (m : Nat) : Builtin.zeroCells (Value.int .u8 0).cells m = ((List.replicate m (0 : Int)).map (Value.int .u8)).toArray := by
  apply Array.ext
  · simp [Builtin.zeroCells, Value.cells]
  · intro i h1 h2
    simp [Builtin.zeroCells, Value.cells, Nat.mod_one]
theorem byt_zero (m : Nat) : Byt (List.replicate m (0 : Int)) := fun x hx => by
  rw [List.eq_of_mem_replicate hx]; omega
theorem run_appZ_gen {P : Program} (t8 tn : TypeId) (kn : IntKind) (i0 : TypeInfo) (ht : P.underlying t8 = some (.slice 5)) (htn : P.underlying tn = some (.int kn)) (hi0 : P.info? 5 = some i0) (hz0 : i0.zero = some (.int .u8 0)) (hz1 : i0.size = 1) (hz2 : i0.bytes = 1) (w : World) (ty : TypeId) (base n c : Nat) (A : Option Addr) (xs : List Int) (hown : OwB w base A n c xs) (m : Nat)
    (hsz : n + m ≤ 70368744177664) (hbase : base ≤ w.heap.size) :
    ∃ A' c'' w', (Builtin.append_ #[t8, tn] ty #[.slice A n c, .int .i64 m]).run P w = .ok (.slice A' (n + m) c'') w' ∧ OwB w' base A' (n + m) c'' (xs ++ List.replicate m 0) ∧ w.grownBy w' (ownBlk A) ∧ Below base w w' ∧ (ownBlk A' = ownBlk A ∨ ownBlk A' = some w.heap.size) := by
  have hbel : ∀ w', w.grownBy w' (ownBlk A) → Below base w w' := fun w' hg => (Below.refl _ _).grown (by rw [← ownBlk_eq A n c] at hg; exact hg) hbase (fun k hk => (hown.2.2.lt k hk).1)
  have hw : IntKind.i64.wrap (m : Int) = m := by rw [IntKind.wrap_i64]; omega
  have hw0 : IntKind.i64.wrap 0 = 0 := by decide
  have h48i : ¬ (281474976710656 < (m : Int)) := by omega
  have hmn : ¬ ((m : Int) < 0) := by omega
  have hxl : (xs.map (Value.int .u8)).length = n := by simpa using hown.1
  have hmk : ∀ (w' : World) (A' : Option Addr) (c'' : Nat), w'.ownsRow base 5 1 (.slice A' (n + m) c'') (n + m) (xs.map (Value.int .u8) ++ (List.replicate m (0 : Int)).map (Value.int .u8)) → OwB w' base A' (n + m) c'' (xs ++ List.replicate m 0) := fun w' A' c'' h =>
    ⟨by simp [hown.1], hown.2.1.app (byt_zero m), by rw [List.map_append]; exact h⟩
  have grown : ∀ (old : Nat), old < n + m → ∀ (row : Option Nat),
      (w.drew.alloc (.cells ((xs.map (Value.int .u8)).toArray ++ ((List.replicate m (0 : Int)).map (Value.int .u8)).toArray ++ Builtin.zeroCells (Value.int .u8 0).cells (grownCap w (n + m) old 5 - (n + m))) 5)).ownsRow base 5 1
        (.slice (some ⟨w.heap.size, 0, none⟩) (n + m) (grownCap w (n + m) old 5)) (n + m) (xs.map (Value.int .u8) ++ (List.replicate m (0 : Int)).map (Value.int .u8)) ∧
      w.grownBy (w.drew.alloc (.cells ((xs.map (Value.int .u8)).toArray ++ ((List.replicate m (0 : Int)).map (Value.int .u8)).toArray ++ Builtin.zeroCells (Value.int .u8 0).cells (grownCap w (n + m) old 5 - (n + m))) 5)) row := by
    intro old ho row
    have hge := grownCap_ge w (n + m) old 5
    have hcm : grownCap w (n + m) old 5 ≤ maxLen := grownCap_le_maxLen w (n + m) old 5 (by simp only [maxLen]; omega)
    have hlen : (xs.map (Value.int .u8) ++ (List.replicate m (0 : Int)).map (Value.int .u8)).length = n + m := by simp [hown.1]
    refine ⟨⟨by rw [hlen]; omega, .inr ⟨w.heap.size, _, _, rfl, hbase, heap_alloc_new w.drew _, hge, hcm, ?_, ?_⟩⟩, ⟨rfl, rfl, rfl, by simp, fun k hk _ => heap_alloc_old w.drew _ hk⟩⟩
    · simp only [Array.size_append, List.size_toArray, size_zeroCells, List.length_map, List.length_replicate, hown.1, Value.cells, List.size_toArray, List.length_singleton]
      omega
    · simp only [Array.toList_append, List.append_assoc]
      rw [← List.append_assoc]
      have : (n + m) * 1 = (xs.map (Value.int .u8) ++ (List.replicate m (0 : Int)).map (Value.int .u8)).length := by rw [hlen]; omega
      rw [this]
      exact List.take_left
  rcases hown.2.2.2 with ⟨hv, h0⟩ | ⟨g, cap, cur, hv, hbg, hg, hnc, hcm, hcs, htake⟩
  · injection hv with h1 _ h3
    subst h1; subst h3; subst h0
    obtain rfl : xs = [] := List.eq_nil_of_length_eq_zero hown.1
    by_cases hm : m = 0
    · subst hm
      refine ⟨none, 0, w, ?_, by simpa using hown, World.grownBy.refl w _, hbel w (World.grownBy.refl w _), .inl rfl⟩
      simp [Builtin.append_, run_underlying ht, run_underlying htn, sizeOf, typeInfo, hi0, asInt, asIntOf, hw0]
    · have hr := Lib.run_append_nil_zeros (P := P) w t8 tn ty 5 i0 (.int .u8 0) .i64 kn ht htn hi0 hz0 m (by omega) (by omega) (by omega) (by rw [hz2]; omega)
      have hgr := grown 0 (by omega) (ownBlk none)
      simp only [List.map_nil, Nat.zero_add, List.nil_append, Array.empty_append] at hgr hmk ⊢
      rw [zero_list m] at hr
      exact ⟨_, _, _, hr, hmk _ _ _ hgr.1, hgr.2, hbel _ hgr.2, .inr rfl⟩
  · injection hv with h1 _ h3
    subst h1; subst h3
    by_cases hroom : n + m ≤ c
    · by_cases hm : m = 0
      · subst hm
        refine ⟨some ⟨g, 0, none⟩, c, w, ?_, by simpa using hown, World.grownBy.refl w _, hbel w (World.grownBy.refl w _), .inl rfl⟩
        simp [Builtin.append_, run_underlying ht, run_underlying htn, sizeOf, typeInfo, hi0, asInt, asIntOf, hw0, hnc, storeCells]
      · have hst := run_storeCells_at P g (n * 1) 5 ((List.replicate m (0 : Int)).map (Value.int .u8)) 0 cur w hg (by simp; omega) (u8_oneCell _)
        simp only [Nat.add_zero] at hst
        have hr : (Builtin.append_ #[t8, tn] ty #[.slice (some ⟨g, 0, none⟩) n c, .int .i64 m]).run P w =
            .ok (.slice (some ⟨g, 0, none⟩) (n + m) c) (w.setRow g (cur.toList.take (n * 1) ++ (List.replicate m (0 : Int)).map (Value.int .u8) ++ cur.toList.drop (n * 1 + ((List.replicate m (0 : Int)).map (Value.int .u8)).length)).toArray) := by
          have hz := zero_list m
          simp only [Nat.mul_one] at hst ⊢
          simp [Builtin.append_, run_underlying ht, run_underlying htn, sizeOf, typeInfo, zeroValue, hi0, hz0, hz1, hz2, asInt, asIntOf, hw, h48i, hmn, hm, hroom, Addr.add_lit, hz]
          simp at hst
          rw [hst]
          rfl
        have hgr : w.grownBy (w.setRow g (cur.toList.take (n * 1) ++ (List.replicate m (0 : Int)).map (Value.int .u8) ++ cur.toList.drop (n * 1 + ((List.replicate m (0 : Int)).map (Value.int .u8)).length)).toArray) (ownBlk (some ⟨g, 0, none⟩)) :=
          ⟨rfl, rfl, rfl, by simp, fun k _ hk => setRow_other w g k _ (fun e => hk (by simp [ownBlk, e]))⟩
        refine ⟨_, _, _, hr, hmk _ _ _ ⟨by simp [hown.1], .inr ⟨g, c, _, rfl, hbg, setRow_heap w g cur _ 5 _ hg, hroom, hcm, ?_, ?_⟩⟩, hgr, hbel _ hgr, .inl rfl⟩
        · simp only [List.size_toArray, List.length_append, List.length_take, List.length_drop, Array.length_toList, List.length_map, List.length_replicate]
          omega
        · have : (n + m) * 1 = (cur.toList.take (n * 1) ++ (List.replicate m (0 : Int)).map (Value.int .u8)).length := by
            simp only [List.length_append, List.length_take, Array.length_toList, List.length_map, List.length_replicate]
            omega
          rw [htake, this]
          rw [htake]
          exact List.take_left
    · have holds : ∀ j u, (xs.map (Value.int .u8))[j]? = some u → w.drew.cell? ((⟨g, 0, none⟩ : Addr).add j) = some u := hown.2.2.cells (g := g) rfl
      have hr := Lib.run_append_grow_zeros (P := P) w t8 tn ty 5 i0 (.int .u8 0) .i64 kn ht htn hi0 hz0 (some ⟨g, 0, none⟩) n c (xs.map (Value.int .u8)) (run_firstCells_some (P := P) w.drew i0.size n ⟨g, 0, none⟩ n c (xs.map (Value.int .u8)) (by rw [hz1]; omega) holds) m (by omega) (by omega) (by omega) (by omega) (by rw [hz2]; omega) (growslice_fits (by omega) (by rw [hz2]; omega))
      have hgr := grown c (by omega) (ownBlk (some ⟨g, 0, none⟩))
      rw [zero_list m] at hr
      exact ⟨_, _, _, hr, hmk _ _ _ hgr.1, hgr.2, hbel _ hgr.2, .inr rfl⟩
theorem run_appZ (w : World) (ty : TypeId) (base n c : Nat) (A : Option Addr) (xs : List Int) (hown : OwB w base A n c xs) (m : Nat) (hsz : n + m ≤ 70368744177664) (hbase : base ≤ w.heap.size) :
    ∃ A' c'' w', (Builtin.append_ #[32, 3] ty #[.slice A n c, .int .i64 m]).run Try.prog w = .ok (.slice A' (n + m) c'') w' ∧ OwB w' base A' (n + m) c'' (xs ++ List.replicate m 0) ∧ w.grownBy w' (ownBlk A) ∧ Below base w w' ∧ (ownBlk A' = ownBlk A ∨ ownBlk A' = some w.heap.size) := by
  obtain ⟨i0, hi0, hz0, hz1, hz2⟩ := info_parts info8
  exact run_appZ_gen 32 3 .i64 i0 Try.underlying32 Try.underlying3 hi0 hz0 hz1 hz2 w ty base n c A xs hown m hsz hbase
section
variable {w : World} {ops : Array Oper} {rest : List Oper} {o : Oper} {a : Act} {Q : Exit → Act → World → Prop}
theorem wpList_appZ (hgd : o.guard = none) (s x : Operand) (ho : o.op = .call { callee := .builtin .append, args := #[s, x], argTypes := #[32, 3] })
    (base n c : Nat) (A : Option Addr) (xs : List Int) (hs : a.eval s = .slice A n c) (hown : OwB w base A n c xs) (m : Nat) (mi : Int) (hmi : mi = m) (hx : a.eval x = .int .i64 mi)
    (hsz : n + m ≤ 70368744177664) (hbase : base ≤ w.heap.size)
    (h : ∀ A' c'' w', OwB w' base A' (n + m) c'' (xs ++ List.replicate m 0) → w.grownBy w' (ownBlk A) → Below base w w' → (ownBlk A' = ownBlk A ∨ ownBlk A' = some w.heap.size) → wpList Try.prog ops Q rest (a.put o.dst (.slice A' (n + m) c'')) w') : wpList Try.prog ops Q (o :: rest) a w := by
  subst hmi
  obtain ⟨A', c'', w', hrun, h2, h3, h4, h5⟩ := run_appZ w o.type base n c A xs hown m hsz hbase
  exact Lib.wpList_append_run w hgd s x _ _ ho _ _ hs hx _ _ hrun (h A' c'' w' h2 h3 h4 h5)
end
end Go.Proofs.Ytggeepihkeocmaa
/- The log's first sector, as bytes. -/
namespace Go.Proofs.Ytggeepihkeocmaa
set_option linter.unusedVariables false
set_option linter.unusedSimpArgs false
open Go.RowKit
def headL (L : Lg) : List Int := [77, 76, 79, 71] ++ u8L L.epoch ++ u8L L.start ++ u8L L.check
def masterL (L : Lg) : List Int := headL L ++ u8L (sumL (headL L)) ++ List.replicate 476 0
theorem headL_len (L : Lg) : (headL L).length = 28 := by simp [headL, u8L]
theorem u8L_len (u : Int) : (u8L u).length = 8 := rfl
theorem masterL_len (L : Lg) : (masterL L).length = 512 := by unfold masterL; rw [List.length_append, List.length_append, headL_len, u8L_len, List.length_replicate]
theorem lit4_at (w : World) (l : Array Value) (hn : l.size = 4) : ∃ wf, (convert 32 32 (.slice (some ⟨w.heap.size, 0, none⟩) 4 4)).run Try.prog (w.alloc (.cells l 5)) = .ok (.slice (some ⟨w.heap.size, 0, none⟩) 4 4) wf ∧ Below w.heap.size w wf ∧ w.heap.size < wf.heap.size ∧ ∀ o, wf.cell? ⟨w.heap.size, o, none⟩ = l[o]? := lits_gen _ _ Try.underlying32 Try.underlying5 w l 4 hn
set_option maxRecDepth 100000 in
set_option maxHeartbeats 4000000 in
theorem lmaster_calls {d g bc : Nat} {bA : Option Addr} {L : Lg} (w : World) (k0 : At w g #[.pointer (some ⟨d, 0, none⟩), .int .i64 L.pos, .int .i64 L.count, .int .u64 L.epoch, .int .u64 L.start, .int .u64 L.check, .int .u64 L.sure, .int .i64 L.held, .int .u64 L.base, .slice bA L.buf.length bc] 113)
    (hep : 0 ≤ L.epoch ∧ L.epoch < 18446744073709551616) (hst : 0 ≤ L.start ∧ L.start < 18446744073709551616) (hck : 0 ≤ L.check ∧ L.check < 18446744073709551616) :
    Calls Try.prog 107 #[.pointer (some ⟨g, 0, none⟩)] w fun e w' => ∃ A c, e = .returned (.slice A 512 c) ∧ OwB w' w.heap.size A 512 c (masterL L) ∧ Below w.heap.size w w' := by
  obtain ⟨wf, ef, bf, lf, xf⟩ := lit4_at w #[.int .u8 77, .int .u8 76, .int .u8 79, .int .u8 71] rfl
  have kf := At.keep bf k0
  have kfc := kf.c; have kff := kf.f; have kfl := kf.lt
  have hlit : BsR wf w.heap.size (w.heap.size + 1) (some ⟨w.heap.size, 0, none⟩) 4 [77, 76, 79, 71] := ⟨rfl, Byt.cons (by omega) (by omega) (Byt.cons (by omega) (by omega) (Byt.cons (by omega) (by omega) (Byt.cons (by omega) (by omega) Byt.nil))), fun _ => ⟨w.heap.size, 0, rfl, Nat.le_refl _, Nat.lt_succ_self _, fun j hj => by
    rw [Nat.zero_add, xf]
    rcases j with _ | _ | _ | _ | j
    all_goals first | rfl | omega⟩⟩
  go_enter Try.func107, Try.ntmps107
  go_wp2_with fail
  refine (uint_g L.epoch hep.1 (by omega) wf).mono ?_
  rintro e v1 ⟨g1, rfl, hr1, hg1a, hg1b, hb1⟩
  have hB1 : Below w.heap.size w v1 := below_keep hb1 bf
  have k1 := At.below k0 hB1 k0.lt
  have k1c := k1.c; have k1f := k1.f; have k1l := k1.lt
  clear kf kfc kff kfl
  go_wp2_with (first
    | (at_builtin; refine wpList_appR rfl (.tmp 5) (.tmp 10) rfl w.heap.size 4 4 ⟨w.heap.size, 0, none⟩ ⟨g1, 0, none⟩ [77, 76, 79, 71] _ _ _ _ 8 8 rfl (hlit.below hb1 lf) (u8L L.epoch) rfl hr1 (by omega) (by omega) hB1.size ?_; intro c2 w2 ho2 hb2; have hB2 : Below w.heap.size w w2 := below_keep hb2 hB1; have k2 := At.below k0 hB2 k0.lt; have k2c := k2.c; have k2f := k2.f; have k2l := k2.lt)
    | fail)
  refine (uint_g L.start hst.1 (by omega) w2).mono ?_
  rintro e v3 ⟨g3, rfl, hr3, hg3a, hg3b, hb3⟩
  have hB3 : Below w.heap.size w v3 := below_keep hb3 hB2
  have ho3 := ho2.later hb3
  have k3 := At.below k0 hB3 k0.lt
  have k3c := k3.c; have k3f := k3.f; have k3l := k3.lt
  clear k1 k1c k1f k1l k2 k2c k2f k2l
  go_wp2_with (first
    | (at_builtin; refine wpList_app rfl (.tmp 12) (.tmp 17) rfl w.heap.size 12 c2 _ _ rfl ho3 _ _ 8 8 (some ⟨g3, 0, none⟩) (u8L L.start) rfl hr3 (by omega) hB3.size ?_; intro A4 c4 w4 ho4 hg4 hb4 hat4; have hB4 : Below w.heap.size w w4 := below_tr hB3 hb4; have k4 := At.below k0 hB4 k0.lt; have k4c := k4.c; have k4f := k4.f; have k4l := k4.lt)
    | fail)
  refine (uint_g L.check hck.1 (by omega) w4).mono ?_
  rintro e v5 ⟨g5, rfl, hr5, hg5a, hg5b, hb5⟩
  have hB5 : Below w.heap.size w v5 := below_keep hb5 hB4
  have ho5 := ho4.later hb5
  clear k3 k3c k3f k3l k4 k4c k4f k4l
  go_wp2_with (first
    | (at_builtin; refine wpList_app rfl (.tmp 19) (.tmp 24) rfl w.heap.size 20 c4 A4 _ rfl ho5 _ _ 8 8 (some ⟨g5, 0, none⟩) (u8L L.check) rfl hr5 (by omega) hB5.size ?_; intro A6 c6 w6 ho6 hg6 hb6 hat6; have hB6 : Below w.heap.size w w6 := below_tr hB5 hb6; change OwB w6 w.heap.size A6 28 c6 (headL L) at ho6)
    | fail)
  refine (sum_calls A6 28 c6 (headL L) w6 (ho6.reads.bs (Nat.le_refl _)) (by omega)).mono ?_
  rintro e _ ⟨rfl, rfl⟩
  have hsr := sumL_range (headL L)
  have hz : IntKind.u64.wrap (sumL (headL L)) = sumL (headL L) := IntWalk.u64_in _ (by omega)
  go_wp2_with fail
  refine (uint_g (sumL (headL L)) hsr.1 (by omega) w6).mono ?_
  rintro e v7 ⟨g7, rfl, hr7, hg7a, hg7b, hb7⟩
  have hB7 : Below w.heap.size w v7 := below_keep hb7 hB6
  have ho7 := ho6.later hb7
  go_wp2_with (first
    | (at_builtin; refine wpList_app rfl (.tmp 26) (.tmp 30) rfl w.heap.size 28 c6 A6 _ rfl ho7 _ _ 8 8 (some ⟨g7, 0, none⟩) (u8L (sumL (headL L))) rfl hr7 (by omega) hB7.size ?_; intro A8 c8 w8 ho8 hg8 hb8 hat8; have hB8 : Below w.heap.size w w8 := below_tr hB7 hb8)
    | (at_builtin; refine wpList_appZ rfl (.tmp 32) (.tmp 35) rfl w.heap.size 36 c8 A8 _ rfl ho8 476 _ rfl rfl (by omega) hB8.size ?_; intro A9 c9 w9 ho9 hg9 hb9 hat9)
    | fail)
  go_ret
  exact ⟨A9, c9, by first | rfl | simp, ho9, below_tr hB8 hb9⟩
end Go.Proofs.Ytggeepihkeocmaa
/- A sector of the log, as bytes (plain). -/
namespace Go.Proofs.Ytggeepihkeocmaa
set_option linter.unusedVariables false
set_option linter.unusedSimpArgs false
open Go.RowKit
/-- Ahead of the noughts: the sector's number, the epoch, the part's length, the part. -/
def layH (k ep : Int) (p : List Int) : List Int := u8L k ++ u8L ep ++ two2 p.length ++ p
def layB (k ep : Int) (p : List Int) : List Int := layH k ep p ++ List.replicate (486 - p.length) 0
def layL (k ep : Int) (p : List Int) : List Int := layB k ep p ++ u8L (sumL (layB k ep p))
theorem layH_len (k ep : Int) (p : List Int) : (layH k ep p).length = 18 + p.length := by unfold layH two2; simp [u8L_len]; omega
theorem layB_len {k ep : Int} {p : List Int} (hp : p.length ≤ 480) : (layB k ep p).length = 504 := by unfold layB; rw [List.length_append, layH_len, List.length_replicate]; omega
theorem layL_len {k ep : Int} {p : List Int} (hp : p.length ≤ 480) : (layL k ep p).length = 512 := by unfold layL; rw [List.length_append, layB_len hp, u8L_len]
end Go.Proofs.Ytggeepihkeocmaa
/- append to a row that the call owns, of elements of any type. -/
namespace Go.Proofs.Ytggeepihkeocmaa
set_option linter.unusedVariables false
set_option linter.unusedSimpArgs false
open Go.RowKit
/-- Slices of type t have elements of type e, of so many cells and bytes. -/
structure EltOk (P : Program) (t e : TypeId) (size bytes : Nat) (z : Value) : Prop where
  ht : P.underlying t = some (.slice e)
  hi : ∃ i, P.info? e = some i ∧ i.zero = some z ∧ i.size = size ∧ i.bytes = bytes
  hzs : z.cells.size = size
  hsz : 0 < size
/-- What is appended: m elements that read as the cells xs. -/
def Src (w : World) (size : Nat) (B : Option Addr) (m : Nat) (xs : List Value) : Prop := xs.length = m * size ∧ ∀ j u, xs[j]? = some u → u.oneCell' = true ∧ ∃ gb go' : Nat, B = some ⟨gb, go', none⟩ ∧ w.cell? ⟨gb, go' + j, none⟩ = some u
theorem Src.nil (w : World) (size : Nat) (B : Option Addr) : Src w size B 0 [] := ⟨by simp, fun j u h => by simp at h⟩
theorem Src.of_at {w : World} {b T size m : Nat} {c : Array Value} (h : At w b c T) (hl : c.size = m * size) (h1 : ∀ u ∈ c.toList, u.oneCell' = true) : Src w size (some ⟨b, 0, none⟩) m c.toList :=
  ⟨by simpa using hl, fun j u hu => ⟨h1 u (List.mem_of_getElem? hu), b, 0, rfl, by rw [Nat.zero_add, h.c j]; simpa using hu⟩⟩
theorem Src.keep {w w' : World} {size m lo hi : Nat} {B : Option Addr} {xs : List Value} (h : Src w size B m xs) (hB : ∀ ad, B = some ad → lo ≤ ad.block ∧ ad.block < hi) (hk : ∀ b o, lo ≤ b → b < hi → w'.cell? ⟨b, o, none⟩ = w.cell? ⟨b, o, none⟩) : Src w' size B m xs :=
  ⟨h.1, fun j u hu => by
    obtain ⟨h1, gb, go', hA, hc⟩ := h.2 j u hu
    have := hB _ hA
    exact ⟨h1, gb, go', hA, (hk _ _ this.1 this.2).trans hc⟩⟩
theorem run_appG {P : Program} {t e : TypeId} {size bytes : Nat} {z : Value} (E : EltOk P t e size bytes z) (w : World) (ty : TypeId) (base n c : Nat) (A : Option Addr) (xs : List Value) (hown : w.ownsRow base e size (.slice A n c) n xs)
    (m c' : Nat) (B : Option Addr) (ys : List Value) (hr : Src w size B m ys) (h63 : n + m ≤ maxLen) (hb : (n + m) * bytes ≤ 140737488355328) (hbase : base ≤ w.heap.size) :
    ∃ A' c'' w', (Builtin.append_ #[t, t] ty #[.slice A n c, .slice B m c']).run P w = .ok (.slice A' (n + m) c'') w' ∧ w'.ownsRow base e size (.slice A' (n + m) c'') (n + m) (xs ++ ys) ∧ w.grownBy w' (ownBlk A) ∧ Below base w w' ∧ (ownBlk A' = ownBlk A ∨ ownBlk A' = some w.heap.size) := by
  obtain ⟨i0, hi0, hz0, hz1, hz2⟩ := E.hi
  have ht := E.ht
  have hbel : ∀ w', w.grownBy w' (ownBlk A) → Below base w w' := fun w' hg => (Below.refl _ _).grown (by rw [← ownBlk_eq A n c] at hg; exact hg) hbase (fun k hk => (hown.lt k hk).1)
  rcases B with _ | ad
  · have hy : ys = [] := by
      rcases ys with _ | ⟨u, ys⟩
      · rfl
      · obtain ⟨_, _, _, h, _⟩ := hr.2 0 u rfl
        cases h
    subst hy
    have h0 : m = 0 := by
      have h1 := hr.1
      have := E.hsz
      rcases Nat.eq_zero_or_pos m with h0 | h0
      · exact h0
      · have := Nat.mul_pos h0 E.hsz
        simp only [List.length_nil] at h1
        omega
    subst h0
    refine ⟨A, c, w, ?_, by simpa using hown, World.grownBy.refl w _, hbel w (World.grownBy.refl w _), .inl rfl⟩
    rcases hown.2 with ⟨hv, rfl⟩ | ⟨g, cap, cur, hv, _, _, hnc, _⟩
    · injection hv with h1 _ h3
      subst h1; subst h3
      simp [Builtin.append_, run_underlying ht, sizeOf, typeInfo, hi0, Builtin.lenOf, Builtin.firstCells]
    · injection hv with h1 _ h3
      subst h1; subst h3
      simp [Builtin.append_, run_underlying ht, sizeOf, typeInfo, hi0, Builtin.lenOf, Builtin.firstCells, hnc, storeCells]
  · have hnews : ∀ j u, ys[j]? = some u → w.cell? (ad.add j) = some u := by
      intro j u hu
      obtain ⟨_, gb, go', hA, hc⟩ := hr.2 j u hu
      injection hA with hA
      subst hA
      rw [Go.WideShapes.add_plain]
      exact hc
    obtain ⟨v', w', hrun, h2, h3, _, h5⟩ := run_append_own_at (P := P) w base t ty e i0 z size bytes ht hi0 hz0 hz1 hz2 E.hzs E.hsz (.slice A n c) n xs hown ad m c' ys hr.1 hnews (fun u hu => by
      obtain ⟨j, hj⟩ := List.getElem?_of_mem hu
      exact (hr.2 j u hj).1) h63 hb hbase
    rw [ownBlk_eq] at h3
    have hform : ∃ A' c'', v' = .slice A' (n + m) c'' := by
      rcases h2.2 with ⟨h, h0⟩ | ⟨g, cap, cur, h, _⟩
      · exact ⟨none, 0, by rw [h, h0]⟩
      · exact ⟨_, _, h⟩
    obtain ⟨A', c'', rfl⟩ := hform
    rw [ownBlk_eq, ownBlk_eq] at h5
    exact ⟨A', c'', w', hrun, h2, h3, hbel w' h3, h5⟩
section
variable {P : Program} {t e : TypeId} {size bytes : Nat} {z : Value} {w : World} {ops : Array Oper} {rest : List Oper} {o : Oper} {a : Act} {Q : Exit → Act → World → Prop}
theorem wp_appG (E : EltOk P t e size bytes z) {K : Act → World → Prop} (s x : Operand) (ho : o.op = .call { callee := .builtin .append, args := #[s, x], argTypes := #[t, t] })
    (base n c : Nat) (A : Option Addr) (xs : List Value) (hs : a.eval s = .slice A n c) (hown : w.ownsRow base e size (.slice A n c) n xs) (m c' : Nat) (B : Option Addr) (ys : List Value) (hx : a.eval x = .slice B m c') (hr : Src w size B m ys)
    (h63 : n + m ≤ maxLen) (hb : (n + m) * bytes ≤ 140737488355328) (hbase : base ≤ w.heap.size)
    (h : ∀ A' c'' w', w'.ownsRow base e size (.slice A' (n + m) c'') (n + m) (xs ++ ys) → w.grownBy w' (ownBlk A) → Below base w w' → (ownBlk A' = ownBlk A ∨ ownBlk A' = some w.heap.size) → K (a.put o.dst (.slice A' (n + m) c'')) w') : o.wp P a w K Q := by
  obtain ⟨A', c'', w', hrun, h2, h3, h4, h5⟩ := run_appG E w o.type base n c A xs hown m c' B ys hr h63 hb hbase
  unfold Oper.wp execOp
  simp only [ho, resolve, invoke, builtin, Sem.run_bind, Sem.run_pure, Result.andThen_ok, List.map_toArray, List.map_cons, List.map_nil, hs, hx, hrun]
  exact h A' c'' w' h2 h3 h4 h5
theorem wpList_appG (E : EltOk P t e size bytes z) (hgd : o.guard = none) (s x : Operand) (ho : o.op = .call { callee := .builtin .append, args := #[s, x], argTypes := #[t, t] })
    (base n c : Nat) (A : Option Addr) (xs : List Value) (hs : a.eval s = .slice A n c) (hown : w.ownsRow base e size (.slice A n c) n xs) (m c' : Nat) (B : Option Addr) (ys : List Value) (hx : a.eval x = .slice B m c') (hr : Src w size B m ys)
    (h63 : n + m ≤ maxLen) (hb : (n + m) * bytes ≤ 140737488355328) (hbase : base ≤ w.heap.size)
    (h : ∀ A' c'' w', w'.ownsRow base e size (.slice A' (n + m) c'') (n + m) (xs ++ ys) → w.grownBy w' (ownBlk A) → Below base w w' → (ownBlk A' = ownBlk A ∨ ownBlk A' = some w.heap.size) → wpList P ops Q rest (a.put o.dst (.slice A' (n + m) c'')) w') : wpList P ops Q (o :: rest) a w :=
  wpList_plain hgd fun _ hK => wp_appG E s x ho base n c A xs hs hown m c' B ys hx hr h63 hb hbase fun A' c'' w' h2 h3 h4 h5 => hK _ _ (h A' c'' w' h2 h3 h4 h5)
theorem step_appG (E : EltOk P t e size bytes z) {K : Act → World → Prop} {X : Prop} (hgd : o.guard = none) (s x : Operand) (ho : o.op = .call { callee := .builtin .append, args := #[s, x], argTypes := #[t, t] })
    (base n c : Nat) (A : Option Addr) (xs : List Value) (hs : a.eval s = .slice A n c) (hown : w.ownsRow base e size (.slice A n c) n xs) (m c' : Nat) (B : Option Addr) (ys : List Value) (hx : a.eval x = .slice B m c') (hr : Src w size B m ys)
    (h63 : n + m ≤ maxLen) (hb : (n + m) * bytes ≤ 140737488355328) (hbase : base ≤ w.heap.size)
    (h : ∀ A' c'' w', w'.ownsRow base e size (.slice A' (n + m) c'') (n + m) (xs ++ ys) → w.grownBy w' (ownBlk A) → Below base w w' → (ownBlk A' = ownBlk A ∨ ownBlk A' = some w.heap.size) → K (a.put o.dst (.slice A' (n + m) c'')) w') :
    if Region.wanted o (yielded ops a.tmps) = true then Oper.wp P o a w K Q else X := by
  have hw : Region.wanted o (yielded ops a.tmps) = true := by simp [Region.wanted, hgd]
  rw [if_pos hw]
  exact wp_appG E s x ho base n c A xs hs hown m c' B ys hx hr h63 hb hbase h
end
end Go.Proofs.Ytggeepihkeocmaa
