/- Joined texts: Byt, Cells. -/
import Derived.Test.YtnehppeoffemlaaJLogRings02
import Derived.Lib.Bytealg
import Derived.Laws.BytesArg
import Derived.Lib.SliceRun
import Derived.WalkLawsBesides
import Derived.Deep.LoopGhost
import Derived.Deep.QuietTactic
/- bytes.Compare, bytes.Equal, bytes.Clone by their contracts. -/
namespace Go.Proofs.Ytnehppeoffemlaa
set_option linter.unusedVariables false
set_option linter.unusedSimpArgs false
open Go.RowKit
def u8s (l : List Int) : List UInt8 := l.map fun x => x.toNat.toUInt8
theorem u8_inj {x y : Int} (hx : 0 ≤ x ∧ x ≤ 255) (hy : 0 ≤ y ∧ y ≤ 255) (h : x.toNat.toUInt8 = y.toNat.toUInt8) : x = y := by
  have h1 := congrArg UInt8.toNat h
  simp [Nat.toUInt8, UInt8.toNat_ofNat'] at h1
  omega
theorem u8s_inj : ∀ {a b : List Int}, Byt a → Byt b → u8s a = u8s b → a = b
  | [], [], _, _, _ => rfl
  | [], _ :: _, _, _, h => by cases h
  | _ :: _, [], _, _, h => by cases h
  | x :: a, y :: b, ha, hb, h => by
    simp only [u8s, List.map_cons, List.cons.injEq] at h
    rw [u8_inj (ha x (by simp)) (hb y (by simp)) h.1, u8s_inj (fun z hz => ha z (by simp [hz])) (fun z hz => hb z (by simp [hz])) h.2]
/-- Bytes compared. -/
def cmpI : List Int → List Int → Int
  | [], [] => 0
  | [], _ :: _ => -1
  | _ :: _, [] => 1
  | x :: a, y :: b => if x < y then -1 else if y < x then 1 else cmpI a b
theorem u8_lt {x y : Int} (hx : 0 ≤ x ∧ x ≤ 255) (hy : 0 ≤ y ∧ y ≤ 255) : x.toNat.toUInt8 < y.toNat.toUInt8 ↔ x < y := by
  rw [UInt8.lt_iff_toNat_lt]
  simp [Nat.toUInt8, UInt8.toNat_ofNat']
  omega
theorem cmp_u8s : ∀ {a b : List Int}, Byt a → Byt b → Lib.compareBytes (u8s a) (u8s b) = cmpI a b
  | [], [], _, _ => rfl
  | [], _ :: _, _, _ => rfl
  | _ :: _, [], _, _ => rfl
  | x :: a, y :: b, ha, hb => by
    have ih := cmp_u8s (a := a) (b := b) (fun z hz => ha z (by simp [hz])) (fun z hz => hb z (by simp [hz]))
    simp only [u8s, List.map_cons, Lib.compareBytes, cmpI] at ih ⊢
    simp only [u8_lt (ha x (by simp)) (hb y (by simp)), u8_lt (hb y (by simp)) (ha x (by simp)), ih]
theorem run_loadBytes {P : Program} (w : World) (gb : Nat) (l : List Int) : ∀ (go' : Nat) (acc : ByteArray), (∀ j, j < l.length → w.cell? ⟨gb, go' + j, none⟩ = some (.int .u8 (l.getD j 0))) →
    (Extern.Bytes.loadBytes ⟨gb, go', none⟩ l.length acc).run P w = .ok ⟨acc.data ++ (u8s l).toArray⟩ w := by
  induction l with
  | nil => intro go' acc _; simp [Extern.Bytes.loadBytes, u8s]
  | cons x l ih =>
    intro go' acc h
    have h0 := h 0 (by simp)
    simp at h0
    have hs : ∀ j, j < l.length → w.cell? ⟨gb, go' + 1 + j, none⟩ = some (.int .u8 (l.getD j 0)) := fun j hj => by
      have := h (j + 1) (by simpa using hj)
      rw [show go' + (j + 1) = go' + 1 + j from by omega] at this
      simpa using this
    have ih' := ih (go' + 1) (acc.push x.toNat.toUInt8) hs
    simp only [List.length_cons, Extern.Bytes.loadBytes]
    have ha : (⟨gb, go', none⟩ : Addr).add 1 = ⟨gb, go' + 1, none⟩ := rfl
    have ih'' : (Extern.Bytes.loadBytes ⟨gb, go' + 1, none⟩ l.length ⟨acc.data.push (UInt8.ofNat x.toNat)⟩).run P w = .ok ⟨acc.data.push (UInt8.ofNat x.toNat) ++ (u8s l).toArray⟩ w := ih'
    simp [go_sem, h0, ha, ByteArray.push, ih'']
    simp [u8s]
theorem run_bytesOf {P : Program} (w : World) {lo hi n : Nat} (c : Nat) {A : Option Addr} {l : List Int} (h : BsR w lo hi A n l) : (Extern.Bytes.bytesOf (.slice A n c)).run P w = .ok ⟨(u8s l).toArray⟩ w := by
  rcases A with _ | ad
  · have hl : l = [] := by
      rcases Nat.eq_zero_or_pos n with h0 | h0
      · exact List.eq_nil_of_length_eq_zero (h.1.trans h0)
      · obtain ⟨_, _, hA, _⟩ := h.2.2 h0; cases hA
    subst hl
    simp [Extern.Bytes.bytesOf, u8s]; rfl
  · rcases Nat.eq_zero_or_pos n with h0 | h0
    · subst h0
      have hl : l = [] := List.eq_nil_of_length_eq_zero h.1
      subst hl
      simp [Extern.Bytes.bytesOf, Extern.Bytes.loadBytes, u8s]; rfl
    · obtain ⟨gb, go', hA, _, _, hc⟩ := h.2.2 h0
      injection hA with hA
      subst hA
      have := run_loadBytes (P := P) w gb l go' .empty (fun j hj => hc j (by rw [← h.1]; exact hj))
      rw [h.1] at this
      simp only [Extern.Bytes.bytesOf]
      rw [this]
      first | rfl | (simp; rfl) | (simp; done)
theorem run_cmp {P : Program} (w : World) {lo hi n lo' hi' m : Nat} (c d : Nat) {A B : Option Addr} {a b : List Int} (ha : BsR w lo hi A n a) (hb : BsR w lo' hi' B m b) :
    (Extern.BytealgCompare.compare #[.slice A n c, .slice B m d]).run P w = .ok (.int .i64 (cmpI a b)) w := by
  change Sem.run P (do pure (goInt (Extern.BytealgCompare.cmp (← Extern.Bytes.bytesOf (.slice A n c)) (← Extern.Bytes.bytesOf (.slice B m d))))) w = _
  simp only [Sem.run_bind, run_bytesOf w c ha, run_bytesOf w d hb, Result.andThen_ok, Sem.run_pure]
  rw [Lib.cmp_eq]
  simp only [goInt]
  rw [← cmp_u8s ha.2.1 hb.2.1]
set_option maxRecDepth 100000 in
theorem compare_calls {lo hi n lo' hi' m : Nat} (c d : Nat) {A B : Option Addr} {a b : List Int} (w : World) (ha : BsR w lo hi A n a) (hb : BsR w lo' hi' B m b) :
    Calls Try.prog 85 #[.slice A n c, .slice B m d] w fun e w' => e = .returned (.int .i64 (cmpI a b)) ∧ w = w' := by
  have hx := run_cmp (P := Try.prog) w c d ha hb
  have hx' := Lib.hid hx
  clear hx
  go_enter Try.func85, Try.ntmps85
  go_wp2
  rw [run_callFunc_extern Try.func86 (by kernel_rfl) (by kernel_rfl) (by kernel_rfl) (e := Extern.BytealgCompare.compare) (by kernel_rfl), hx'.out]
  simp only [Result.andThen]
  rw [Oper.upon_value]
  go_wp2
  go_ret
  exact ⟨rfl, rfl⟩
set_option maxRecDepth 100000 in
theorem clone_calls {lo hi n : Nat} (c : Nat) {A : Option Addr} {l : List Int} (w : World) (h : BsR w lo hi A n l) (hhi : hi ≤ w.heap.size) (hn : n ≤ 70368744177664) :
    Calls Try.prog 78 #[.slice A n c] w fun e w' => ∃ A' c', e = .returned (.slice A' n c') ∧ OwB w' w.heap.size A' n c' l ∧ Below w.heap.size w w' := by
  rcases A with _ | ad
  · have h0 : n = 0 := by
      rcases Nat.eq_zero_or_pos n with h0 | h0
      · exact h0
      · obtain ⟨_, _, hA, _⟩ := h.2.2 h0; cases hA
    subst h0
    have hl : l = [] := List.eq_nil_of_length_eq_zero h.1
    subst hl
    have hnil : ∀ w : World, (binOp .eql 32 (.slice none 0 c) (.slice none 0 0)).run Try.prog w = .ok (.bool true) w := fun w => Lib.run_eql_slice_nil w _ _ none 0 c 0 0 Try.underlying32
    go_enter Try.func78, Try.ntmps78
    go_wp2
    go_ret
    exact ⟨none, 0, rfl, OwB.nil _ _, Below.refl _ _⟩
  · have h' := Lib.hid h
    clear h
    have hnil : ∀ w : World, (binOp .eql 32 (.slice (some ad) n c) (.slice none 0 0)).run Try.prog w = .ok (.bool false) w := fun w => Lib.run_eql_slice_nil w _ _ (some ad) n c 0 0 Try.underlying32
    go_enter Try.func78, Try.ntmps78
    go_wp2_with (at_builtin; refine wpList_app rfl (.tmp 5) (.tmp 6) rfl w.heap.size 0 0 (some ⟨w.heap.size, 0, none⟩) [] rfl (OwB.made (l := []) (At.new w _ _) rfl Byt.nil (Nat.le_refl _) (by decide)) _ _ n c (some ad) l rfl (h'.out.below (below_new w _) hhi) (by omega) (ge_new _ _) ?_; intro A1 c1 w1 ho1 hg1 hb1 hat1)
    go_ret
    exact ⟨A1, c1, by first | rfl | simp, by simpa using ho1, below_tr (below_new w _) hb1⟩
/-- The text of bytes. -/
def strL (l : List Int) : ByteArray := ⟨(u8s l).toArray⟩
theorem strL_list (l : List Int) : (strL l).data.toList = u8s l := rfl
theorem strNums_eq (l : List Int) : strOfNums l = strL l := rfl
theorem run_str_gen {P : Program} (src e dst : TypeId) (hs : P.underlying src = some (.slice e)) (he : P.underlying e = some (.int .u8)) (hd : P.underlying dst = some .string) {lo hi n : Nat} (c : Nat) {A : Option Addr} {l : List Int} (w : World) (h : BsR w lo hi A n l) : (convert src dst (.slice A n c)).run P w = .ok (.string (strL l)) w := by
  rcases A with _ | ad
  · have h0 : n = 0 := by
      rcases Nat.eq_zero_or_pos n with h0 | h0
      · exact h0
      · obtain ⟨_, _, hA, _⟩ := h.2.2 h0; cases hA
    subst h0
    have hl : l = [] := List.eq_nil_of_length_eq_zero h.1
    subst hl
    exact run_convert_bytes_nil w src e hs he 0 c dst hd
  · rcases Nat.eq_zero_or_pos n with h0 | h0
    · subst h0
      have hl : l = [] := List.eq_nil_of_length_eq_zero h.1
      subst hl
      rw [run_convert_bytes_string w src dst e _ 0 c hs he hd, run_bytesToString w ad 0 c [] (by simp [loadCells, loadCellsFrom])]
      rfl
    · obtain ⟨gb, go', hA, _, _, hc⟩ := h.2.2 h0
      injection hA with hA
      subst hA
      exact run_convert_bytes_arg w src e hs he gb go' n c l h.1 hc dst hd
theorem run_str {lo hi n : Nat} (c : Nat) {A : Option Addr} {l : List Int} (w : World) (h : BsR w lo hi A n l) : (convert 32 9 (.slice A n c)).run Try.prog w = .ok (.string (strL l)) w :=
  run_str_gen _ _ _ Try.underlying32 Try.underlying5 Try.underlying9 c w h
theorem strL_toList (l : List Int) : (strL l).toList = u8s l := ByteArray.toList_eq (strL l)
def eqB (a b : List Int) : Bool := decide (a = b)
theorem str_eq {a b : List Int} (ha : Byt a) (hb : Byt b) : ((strL a).toList == (strL b).toList) = eqB a b := by
  rw [strL_toList, strL_toList, Bool.eq_iff_iff]
  simp only [beq_iff_eq, eqB, decide_eq_true_eq]
  exact ⟨u8s_inj ha hb, fun h => by rw [h]⟩
set_option maxRecDepth 100000 in
theorem equal_calls {lo hi n lo' hi' m : Nat} (c d : Nat) {A B : Option Addr} {a b : List Int} (w : World) (ha : BsR w lo hi A n a) (hb : BsR w lo' hi' B m b) :
    Calls Try.prog 79 #[.slice A n c, .slice B m d] w fun e w' => e = .returned (.bool (eqB a b)) ∧ w = w' := by
  have h1 := run_str c w ha
  have h2 := run_str d w hb
  go_enter Try.func79, Try.ntmps79
  go_wp2
  go_ret
  exact ⟨congrArg (fun b => Ending.returned (.bool b)) (str_eq ha.2.1 hb.2.1), rfl⟩
end Go.Proofs.Ytnehppeoffemlaa
/- Lists of cells in memory; page.Size and the reference's. -/
namespace Go.Proofs.Ytnehppeoffemlaa
set_option linter.unusedVariables false
set_option linter.unusedSimpArgs false
open Go.RowKit
abbrev Cl := List Int × List Int
def clAt (l : List Cl) (i : Nat) : Cl := l.getD i ([], [])
/-- A slice of cells that reads as l, all of it in blocks from lo on and below hi. -/
def CsR (w : World) (lo hi : Nat) (A : Option Addr) (n : Nat) (l : List Cl) : Prop :=
  l.length = n ∧ ∀ i, i < n → ∃ (gb go' : Nat) (kA : Option Addr) (kN kC : Nat) (vA : Option Addr) (vN vC : Nat), A = some ⟨gb, go', none⟩ ∧ lo ≤ gb ∧ gb < hi ∧
    w.cell? ⟨gb, go' + i * 2, none⟩ = some (.slice kA kN kC) ∧ w.cell? ⟨gb, go' + i * 2 + 1, none⟩ = some (.slice vA vN vC) ∧ BsR w lo hi kA kN (clAt l i).1 ∧ BsR w lo hi vA vN (clAt l i).2 ∧ kN ≤ 70368744177664 * 2 ∧ vN ≤ 70368744177664 * 2
theorem CsR.keep {w w' : World} {lo hi n : Nat} {A : Option Addr} {l : List Cl} (h : CsR w lo hi A n l) (hk : ∀ b o, lo ≤ b → b < hi → w'.cell? ⟨b, o, none⟩ = w.cell? ⟨b, o, none⟩) : CsR w' lo hi A n l := by
  refine ⟨h.1, fun i hi' => ?_⟩
  obtain ⟨gb, go', kA, kN, kC, vA, vN, vC, hA, h1, h2, c1, c2, b1, b2, m1, m2⟩ := h.2 i hi'
  exact ⟨gb, go', kA, kN, kC, vA, vN, vC, hA, h1, h2, (hk _ _ h1 h2).trans c1, (hk _ _ h1 h2).trans c2, ⟨b1.1, b1.2.1, b1.2.2.keep hk⟩, ⟨b2.1, b2.2.1, b2.2.2.keep hk⟩, m1, m2⟩
theorem CsR.below {w w' : World} {lo hi n B : Nat} {A : Option Addr} {l : List Cl} (h : CsR w lo hi A n l) (hb : Below B w w') (hB : hi ≤ B) : CsR w' lo hi A n l :=
  h.keep fun b o _ h2 => hb.cell (p := ⟨b, o, none⟩) (Nat.lt_of_lt_of_le h2 hB)
theorem CsR.widen {w : World} {lo hi lo' hi' n : Nat} {A : Option Addr} {l : List Cl} (h : CsR w lo hi A n l) (h1 : lo' ≤ lo) (h2 : hi ≤ hi') : CsR w lo' hi' A n l := by
  refine ⟨h.1, fun i hi' => ?_⟩
  obtain ⟨gb, go', kA, kN, kC, vA, vN, vC, hA, a1, a2, c1, c2, b1, b2, m1, m2⟩ := h.2 i hi'
  exact ⟨gb, go', kA, kN, kC, vA, vN, vC, hA, by omega, by omega, c1, c2, (b1.more h2).less h1, (b2.more h2).less h1, m1, m2⟩
/-- .. kept by a call that leaves all that was there. -/
theorem CsR.later {w w' : World} {n : Nat} {A : Option Addr} {l : List Cl} (h : CsR w 0 w.heap.size A n l) (hb : Below w.heap.size w w') : CsR w' 0 w'.heap.size A n l := (h.below hb (Nat.le_refl _)).widen (Nat.le_refl _) hb.size
theorem CsR.nil (w : World) (lo hi : Nat) (A : Option Addr) : CsR w lo hi A 0 [] := ⟨rfl, fun _ h => absurd h (by omega)⟩
def clSize (c : Cl) : Int := 2 + c.1.length + c.2.length
def sizeL (l : List Cl) : Int := l.foldl (fun s c => s + clSize c) 0
theorem foldl_size (l : List Cl) : ∀ a : Int, l.foldl (fun s c => s + clSize c) a = a + sizeL l := by
  induction l with
  | nil => intro a; simp [sizeL]
  | cons c l ih => intro a; simp only [List.foldl_cons, sizeL]; rw [ih, ih]; omega
theorem sizeL_cons (c : Cl) (l : List Cl) : sizeL (c :: l) = clSize c + sizeL l := by
  show (c :: l).foldl _ 0 = _
  rw [List.foldl_cons, foldl_size]; omega
theorem sizeL_app (a b : List Cl) : sizeL (a ++ b) = sizeL a + sizeL b := by
  induction a with
  | nil => simp [sizeL]
  | cons c a ih => rw [List.cons_append, sizeL_cons, sizeL_cons, ih]; omega
theorem clSize_nn (c : Cl) : 0 ≤ clSize c := by unfold clSize; omega
theorem sizeL_nn (l : List Cl) : 0 ≤ sizeL l := by
  induction l with
  | nil => exact Int.le_refl _
  | cons c l ih => rw [sizeL_cons]; have := clSize_nn c; omega
theorem take_one (l : List Cl) (j : Nat) (h : j < l.length) : l.take (j + 1) = l.take j ++ [clAt l j] := by
  rw [List.take_succ_eq_append_getElem h]; simp [clAt, h]
theorem sizeL_take (l : List Cl) (j : Nat) (h : j < l.length) : sizeL (l.take (j + 1)) = sizeL (l.take j) + clSize (clAt l j) := by
  rw [take_one l j h, sizeL_app, sizeL_cons]; simp [sizeL]
set_option maxHeartbeats 1000000 in
theorem psize_calls {lo hi n : Nat} (c : Nat) {A : Option Addr} {l : List Cl} (w : World) (h : CsR w lo hi A n l) (hhi : hi ≤ w.heap.size) (hn : n ≤ 4096) :
    Calls Try.prog 76 #[.slice A n c] w fun e w' => e = .returned (.int .i64 (sizeL l)) ∧ Below w.heap.size w w' := by
  have hln := Lib.hid h.1
  go_enter Try.func76, Try.ntmps76
  go_wp2
  go_loopw [3, 8] (fun v3 v8 wr => ∃ j : Nat, j ≤ n ∧ v8 = .int .i64 j ∧ v3 = .int .i64 (sizeL (l.take j)) ∧ sizeL (l.take j) ≤ j * 300000000000000 ∧ Below w.heap.size w wr) (fun _ v8 _ => n - (intOf v8).toNat)
  case atStart => exact ⟨0, by omega, rfl, rfl, by simp [sizeL], Below.refl _ _⟩
  case round =>
    obtain ⟨j, hj, rfl, rfl, hb, hB⟩ := hrel
    have hnn := sizeL_nn (l.take j)
    by_cases hlt : j < n
    · obtain ⟨gb, go', kA, kN, kC, vA, vN, vC, rfl, g1, g2, c1, c2, b1, b2, m1, m2⟩ := h.2 j hlt
      have hst := Lib.hid (sizeL_take l j (by rw [hln.out]; exact hlt))
      have e1 := b1.1
      have e2 := b2.1
      have hcz : clSize (clAt l j) = 2 + kN + vN := by unfold clSize; rw [e1, e2]
      have hcz' := Lib.hid hcz
      have hgw : gb < wr.heap.size := by have := hB.size; omega
      replace c1 := (hB.cell (p := ⟨gb, go' + j * 2, none⟩) (Nat.lt_of_lt_of_le g2 hhi)).trans c1
      replace c2 := (hB.cell (p := ⟨gb, go' + j * 2 + 1, none⟩) (Nat.lt_of_lt_of_le g2 hhi)).trans c2
      clear e1 e2 hcz b1 b2 h
      generalize hss : sizeL (l.take j) = s at *
      have hss' := Lib.hid hss
      clear hss
      have hj0 : (0 : Int) ≤ j := by omega
      have hj1 : (j : Int) < n := by omega
      go_wp2
      go_roundw
      case rel => exact ⟨j + 1, by omega, by go_num, by (rw [hst.out, hcz'.out]) <;> go_num, by rw [hst.out, hcz'.out]; omega, below_al hB⟩
      case measure => simp [intOf]; omega
    · obtain rfl : j = n := by omega
      go_wp2
      go_ret
      refine ⟨?_, hB⟩
      show Ending.returned (.int .i64 (sizeL (l.take j))) = _
      rw [List.take_of_length_le (by rw [hln.out]; exact Nat.le_refl _)]
end Go.Proofs.Ytnehppeoffemlaa
