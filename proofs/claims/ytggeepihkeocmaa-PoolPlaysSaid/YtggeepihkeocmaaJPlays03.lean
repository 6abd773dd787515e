/- Joined texts: Byt, Cells, Halves. -/
import Derived.Test.YtggeepihkeocmaaJPlays00
import Derived.Lib.Bytealg
import Derived.Laws.BytesArg
import Derived.Lib.SliceRun
import Derived.WalkLawsBesides
import Derived.Deep.LoopGhost
import Derived.Deep.QuietTactic
/- bytes.Compare, bytes.Equal, bytes.Clone by their contracts. -/
namespace Go.Proofs.Ytggeepihkeocmaa
set_option linter.unusedVariables false
set_option linter.unusedSimpArgs false
open Go.RowKit
def u8s (l : List Int) : List UInt8 := l.map fun x => x.toNat.toUInt8
theorem u8_inj {x y : Int} (hx : 0 ≤ x ∧ x ≤ 255) (hy : 0 ≤ y ∧ y ≤ 255) (h : x.toNat.toUInt8 = y.toNat.toUInt8) : x = y := by
  have h1 := congrArg UInt8.toNat h
  simp [Nat.toUInt8, UInt8.toNat_ofNat'] at h1
  omega
theorem u8s_inj : ∀ {a b : List Int}, Byt a → Byt b → u8s a = u8s b → a = b
  | [], [], _, _, _ => rfl
  | [], _ :: _, _, _, h => by cases h
  | _ :: _, [], _, _, h => by cases h
  | x :: a, y :: b, ha, hb, h => by
    simp only [u8s, List.map_cons, List.cons.injEq] at h
    rw [u8_inj (ha x (by simp)) (hb y (by simp)) h.1, u8s_inj (fun z hz => ha z (by simp [hz])) (fun z hz => hb z (by simp [hz])) h.2]
/-- Bytes compared. -/
def cmpI : List Int → List Int → Int
  | [], [] => 0
  | [], _ :: _ => -1
  | _ :: _, [] => 1
  | x :: a, y :: b => if x < y then -1 else if y < x then 1 else cmpI a b
theorem u8_lt {x y : Int} (hx : 0 ≤ x ∧ x ≤ 255) (hy : 0 ≤ y ∧ y ≤ 255) : x.toNat.toUInt8 < y.toNat.toUInt8 ↔ x < y := by
  rw [UInt8.lt_iff_toNat_lt]
  simp [Nat.toUInt8, UInt8.toNat_ofNat']
  omega
theorem cmp_u8s : ∀ {a b : List Int}, Byt a → Byt b → Lib.compareBytes (u8s a) (u8s b) = cmpI a b
  | [], [], _, _ => rfl
  | [], _ :: _, _, _ => rfl
  | _ :: _, [], _, _ => rfl
  | x :: a, y :: b, ha, hb => by
    have ih := cmp_u8s (a := a) (b := b) (fun z hz => ha z (by simp [hz])) (fun z hz => hb z (by simp [hz]))
    simp only [u8s, List.map_cons, Lib.compareBytes, cmpI] at ih ⊢
    simp only [u8_lt (ha x (by simp)) (hb y (by simp)), u8_lt (hb y (by simp)) (ha x (by simp)), ih]
theorem run_loadBytes {P : Program} (w : World) (gb : Nat) (l : List Int) : ∀ (go' : Nat) (acc : ByteArray), (∀ j, j < l.length → w.cell? ⟨gb, go' + j, none⟩ = some (.int .u8 (l.getD j 0))) →
    (Extern.Bytes.loadBytes ⟨gb, go', none⟩ l.length acc).run P w = .ok ⟨acc.data ++ (u8s l).toArray⟩ w := by
  induction l with
  | nil => intro go' acc _; simp [Extern.Bytes.loadBytes, u8s]
  | cons x l ih =>
    intro go' acc h
    have h0 := h 0 (by simp)
    simp at h0
    have hs : ∀ j, j < l.length → w.cell? ⟨gb, go' + 1 + j, none⟩ = some (.int .u8 (l.getD j 0)) := fun j hj => by
      have := h (j + 1) (by simpa using hj)
      rw [show go' + (j + 1) = go' + 1 + j from by omega] at this
      simpa using this
    have ih' := ih (go' + 1) (acc.push x.toNat.toUInt8) hs
    simp only [List.length_cons, Extern.Bytes.loadBytes]
    have ha : (⟨gb, go', none⟩ : Addr).add 1 = ⟨gb, go' + 1, none⟩ := rfl
    have ih'' : (Extern.Bytes.loadBytes ⟨gb, go' + 1, none⟩ l.length ⟨acc.data.push (UInt8.ofNat x.toNat)⟩).run P w = .ok ⟨acc.data.push (UInt8.ofNat x.toNat) ++ (u8s l).toArray⟩ w := ih'
    simp [go_sem, h0, ha, ByteArray.push, ih'']
    simp [u8s]
theorem run_bytesOf {P : Program} (w : World) {lo hi n : Nat} (c : Nat) {A : Option Addr} {l : List Int} (h : BsR w lo hi A n l) : (Extern.Bytes.bytesOf (.slice A n c)).run P w = .ok ⟨(u8s l).toArray⟩ w := by
  rcases A with _ | ad
  · have hl : l = [] := by
      rcases Nat.eq_zero_or_pos n with h0 | h0
      · exact List.eq_nil_of_length_eq_zero (h.1.trans h0)
      · obtain ⟨_, _, hA, _⟩ := h.2.2 h0; cases hA
    subst hl
    simp [Extern.Bytes.bytesOf, u8s]; rfl
  · rcases Nat.eq_zero_or_pos n with h0 | h0
    · subst h0
      have hl : l = [] := List.eq_nil_of_length_eq_zero h.1
      subst hl
      simp [Extern.Bytes.bytesOf, Extern.Bytes.loadBytes, u8s]; rfl
    · obtain ⟨gb, go', hA, _, _, hc⟩ := h.2.2 h0
      injection hA with hA
      subst hA
      have := run_loadBytes (P := P) w gb l go' .empty (fun j hj => hc j (by rw [← h.1]; exact hj))
      rw [h.1] at this
      simp only [Extern.Bytes.bytesOf]
      rw [this]
      first | rfl | (simp; rfl) | (simp; done)
theorem run_cmp {P : Program} (w : World) {lo hi n lo' hi' m : Nat} (c d : Nat) {A B : Option Addr} {a b : List Int} (ha : BsR w lo hi A n a) (hb : BsR w lo' hi' B m b) :
    (Extern.BytealgCompare.compare #[.slice A n c, .slice B m d]).run P w = .ok (.int .i64 (cmpI a b)) w := by
  change Sem.run P (do pure (goInt (Extern.BytealgCompare.cmp (← Extern.Bytes.bytesOf (.slice A n c)) (← Extern.Bytes.bytesOf (.slice B m d))))) w = _
  simp only [Sem.run_bind, run_bytesOf w c ha, run_bytesOf w d hb, Result.andThen_ok, Sem.run_pure]
  rw [Lib.cmp_eq]
  simp only [goInt]
  rw [← cmp_u8s ha.2.1 hb.2.1]
set_option maxRecDepth 100000 in
theorem compare_calls {lo hi n lo' hi' m : Nat} (c d : Nat) {A B : Option Addr} {a b : List Int} (w : World) (ha : BsR w lo hi A n a) (hb : BsR w lo' hi' B m b) :
    Calls Try.prog 106 #[.slice A n c, .slice B m d] w fun e w' => e = .returned (.int .i64 (cmpI a b)) ∧ w = w' := by
  have hx := run_cmp (P := Try.prog) w c d ha hb
  have hx' := Lib.hid hx
  clear hx
  go_enter Try.func106, Try.ntmps106
  go_wp2
  rw [run_callFunc_extern Try.func113 (by kernel_rfl) (by kernel_rfl) (by kernel_rfl) (e := Extern.BytealgCompare.compare) (by kernel_rfl), hx'.out]
  simp only [Result.andThen]
  rw [Oper.upon_value]
  go_wp2
  go_ret
  exact ⟨rfl, rfl⟩
set_option maxRecDepth 100000 in
theorem clone_calls {lo hi n : Nat} (c : Nat) {A : Option Addr} {l : List Int} (w : World) (h : BsR w lo hi A n l) (hhi : hi ≤ w.heap.size) (hn : n ≤ 70368744177664) :
    Calls Try.prog 88 #[.slice A n c] w fun e w' => ∃ A' c', e = .returned (.slice A' n c') ∧ OwB w' w.heap.size A' n c' l ∧ Below w.heap.size w w' := by
  rcases A with _ | ad
  · have h0 : n = 0 := by
      rcases Nat.eq_zero_or_pos n with h0 | h0
      · exact h0
      · obtain ⟨_, _, hA, _⟩ := h.2.2 h0; cases hA
    subst h0
    have hl : l = [] := List.eq_nil_of_length_eq_zero h.1
    subst hl
    have hnil : ∀ w : World, (binOp .eql 32 (.slice none 0 c) (.slice none 0 0)).run Try.prog w = .ok (.bool true) w := fun w => Lib.run_eql_slice_nil w _ _ none 0 c 0 0 Try.underlying32
    go_enter Try.func88, Try.ntmps88
    go_wp2
    go_ret
    exact ⟨none, 0, rfl, OwB.nil _ _, Below.refl _ _⟩
  · have h' := Lib.hid h
    clear h
    have hnil : ∀ w : World, (binOp .eql 32 (.slice (some ad) n c) (.slice none 0 0)).run Try.prog w = .ok (.bool false) w := fun w => Lib.run_eql_slice_nil w _ _ (some ad) n c 0 0 Try.underlying32
    go_enter Try.func88, Try.ntmps88
    go_wp2_with (at_builtin; refine wpList_app rfl (.tmp 5) (.tmp 6) rfl w.heap.size 0 0 (some ⟨w.heap.size, 0, none⟩) [] rfl (OwB.made (l := []) (At.new w _ _) rfl Byt.nil (Nat.le_refl _) (by decide)) _ _ n c (some ad) l rfl (h'.out.below (below_new w _) hhi) (by omega) (ge_new _ _) ?_; intro A1 c1 w1 ho1 hg1 hb1 hat1)
    go_ret
    exact ⟨A1, c1, by first | rfl | simp, by simpa using ho1, below_tr (below_new w _) hb1⟩
/-- The text of bytes. -/
def strL (l : List Int) : ByteArray := ⟨(u8s l).toArray⟩
theorem strL_list (l : List Int) : (strL l).data.toList = u8s l := rfl
theorem strNums_eq (l : List Int) : strOfNums l = strL l := rfl
theorem run_str_gen {P : Program} (src e dst : TypeId) (hs : P.underlying src = some (.slice e)) (he : P.underlying e = some (.int .u8)) (hd : P.underlying dst = some .string) {lo hi n : Nat} (c : Nat) {A : Option Addr} {l : List Int} (w : World) (h : BsR w lo hi A n l) : (convert src dst (.slice A n c)).run P w = .ok (.string (strL l)) w := by
  rcases A with _ | ad
  · have h0 : n = 0 := by
      rcases Nat.eq_zero_or_pos n with h0 | h0
      · exact h0
      · obtain ⟨_, _, hA, _⟩ := h.2.2 h0; cases hA
    subst h0
    have hl : l = [] := List.eq_nil_of_length_eq_zero h.1
    subst hl
    exact run_convert_bytes_nil w src e hs he 0 c dst hd
  · rcases Nat.eq_zero_or_pos n with h0 | h0
    · subst h0
      have hl : l = [] := List.eq_nil_of_length_eq_zero h.1
      subst hl
      rw [run_convert_bytes_string w src dst e _ 0 c hs he hd, run_bytesToString w ad 0 c [] (by simp [loadCells, loadCellsFrom])]
      rfl
    · obtain ⟨gb, go', hA, _, _, hc⟩ := h.2.2 h0
      injection hA with hA
      subst hA
      exact run_convert_bytes_arg w src e hs he gb go' n c l h.1 hc dst hd
theorem run_str {lo hi n : Nat} (c : Nat) {A : Option Addr} {l : List Int} (w : World) (h : BsR w lo hi A n l) : (convert 32 9 (.slice A n c)).run Try.prog w = .ok (.string (strL l)) w :=
  run_str_gen _ _ _ Try.underlying32 Try.underlying5 Try.underlying9 c w h
theorem strL_toList (l : List Int) : (strL l).toList = u8s l := ByteArray.toList_eq (strL l)
def eqB (a b : List Int) : Bool := decide (a = b)
theorem str_eq {a b : List Int} (ha : Byt a) (hb : Byt b) : ((strL a).toList == (strL b).toList) = eqB a b := by
  rw [strL_toList, strL_toList, Bool.eq_iff_iff]
  simp only [beq_iff_eq, eqB, decide_eq_true_eq]
  exact ⟨u8s_inj ha hb, fun h => by rw [h]⟩
set_option maxRecDepth 100000 in
theorem equal_calls {lo hi n lo' hi' m : Nat} (c d : Nat) {A B : Option Addr} {a b : List Int} (w : World) (ha : BsR w lo hi A n a) (hb : BsR w lo' hi' B m b) :
    Calls Try.prog 89 #[.slice A n c, .slice B m d] w fun e w' => e = .returned (.bool (eqB a b)) ∧ w = w' := by
  have h1 := run_str c w ha
  have h2 := run_str d w hb
  go_enter Try.func89, Try.ntmps89
  go_wp2
  go_ret
  exact ⟨congrArg (fun b => Ending.returned (.bool b)) (str_eq ha.2.1 hb.2.1), rfl⟩
end Go.Proofs.Ytggeepihkeocmaa
/- Lists of cells in memory; page.Size and the reference's. -/
namespace Go.Proofs.Ytggeepihkeocmaa
set_option linter.unusedVariables false
set_option linter.unusedSimpArgs false
open Go.RowKit
abbrev Cl := List Int × List Int
def clAt (l : List Cl) (i : Nat) : Cl := l.getD i ([], [])
/-- A slice of cells that reads as l, all of it in blocks from lo on and below hi. -/
def CsR (w : World) (lo hi : Nat) (A : Option Addr) (n : Nat) (l : List Cl) : Prop :=
  l.length = n ∧ ∀ i, i < n → ∃ (gb go' : Nat) (kA : Option Addr) (kN kC : Nat) (vA : Option Addr) (vN vC : Nat), A = some ⟨gb, go', none⟩ ∧ lo ≤ gb ∧ gb < hi ∧
    w.cell? ⟨gb, go' + i * 2, none⟩ = some (.slice kA kN kC) ∧ w.cell? ⟨gb, go' + i * 2 + 1, none⟩ = some (.slice vA vN vC) ∧ BsR w lo hi kA kN (clAt l i).1 ∧ BsR w lo hi vA vN (clAt l i).2 ∧ kN ≤ 70368744177664 * 2 ∧ vN ≤ 70368744177664 * 2
theorem CsR.keep {w w' : World} {lo hi n : Nat} {A : Option Addr} {l : List Cl} (h : CsR w lo hi A n l) (hk : ∀ b o, lo ≤ b → b < hi → w'.cell? ⟨b, o, none⟩ = w.cell? ⟨b, o, none⟩) : CsR w' lo hi A n l := by
  refine ⟨h.1, fun i hi' => ?_⟩
  obtain ⟨gb, go', kA, kN, kC, vA, vN, vC, hA, h1, h2, c1, c2, b1, b2, m1, m2⟩ := h.2 i hi'
  exact ⟨gb, go', kA, kN, kC, vA, vN, vC, hA, h1, h2, (hk _ _ h1 h2).trans c1, (hk _ _ h1 h2).trans c2, ⟨b1.1, b1.2.1, b1.2.2.keep hk⟩, ⟨b2.1, b2.2.1, b2.2.2.keep hk⟩, m1, m2⟩
theorem CsR.below {w w' : World} {lo hi n B : Nat} {A : Option Addr} {l : List Cl} (h : CsR w lo hi A n l) (hb : Below B w w') (hB : hi ≤ B) : CsR w' lo hi A n l :=
  h.keep fun b o _ h2 => hb.cell (p := ⟨b, o, none⟩) (Nat.lt_of_lt_of_le h2 hB)
theorem CsR.widen {w : World} {lo hi lo' hi' n : Nat} {A : Option Addr} {l : List Cl} (h : CsR w lo hi A n l) (h1 : lo' ≤ lo) (h2 : hi ≤ hi') : CsR w lo' hi' A n l := by
  refine ⟨h.1, fun i hi' => ?_⟩
  obtain ⟨gb, go', kA, kN, kC, vA, vN, vC, hA, a1, a2, c1, c2, b1, b2, m1, m2⟩ := h.2 i hi'
  exact ⟨gb, go', kA, kN, kC, vA, vN, vC, hA, by omega, by omega, c1, c2, (b1.more h2).less h1, (b2.more h2).less h1, m1, m2⟩
/-- .. kept by a call that leaves all that was there. -/
theorem CsR.later {w w' : World} {n : Nat} {A : Option Addr} {l : List Cl} (h : CsR w 0 w.heap.size A n l) (hb : Below w.heap.size w w') : CsR w' 0 w'.heap.size A n l := (h.below hb (Nat.le_refl _)).widen (Nat.le_refl _) hb.size
theorem CsR.nil (w : World) (lo hi : Nat) (A : Option Addr) : CsR w lo hi A 0 [] := ⟨rfl, fun _ h => absurd h (by omega)⟩
def clSize (c : Cl) : Int := 2 + c.1.length + c.2.length
def sizeL (l : List Cl) : Int := l.foldl (fun s c => s + clSize c) 0
theorem foldl_size (l : List Cl) : ∀ a : Int, l.foldl (fun s c => s + clSize c) a = a + sizeL l := by
  induction l with
  | nil => intro a; simp [sizeL]
  | cons c l ih => intro a; simp only [List.foldl_cons, sizeL]; rw [ih, ih]; omega
theorem sizeL_cons (c : Cl) (l : List Cl) : sizeL (c :: l) = clSize c + sizeL l := by
  show (c :: l).foldl _ 0 = _
  rw [List.foldl_cons, foldl_size]; omega
theorem sizeL_app (a b : List Cl) : sizeL (a ++ b) = sizeL a + sizeL b := by
  induction a with
  | nil => simp [sizeL]
  | cons c a ih => rw [List.cons_append, sizeL_cons, sizeL_cons, ih]; omega
theorem clSize_nn (c : Cl) : 0 ≤ clSize c := by unfold clSize; omega
theorem sizeL_nn (l : List Cl) : 0 ≤ sizeL l := by
  induction l with
  | nil => exact Int.le_refl _
  | cons c l ih => rw [sizeL_cons]; have := clSize_nn c; omega
theorem take_one (l : List Cl) (j : Nat) (h : j < l.length) : l.take (j + 1) = l.take j ++ [clAt l j] := by
  rw [List.take_succ_eq_append_getElem h]; simp [clAt, h]
theorem sizeL_take (l : List Cl) (j : Nat) (h : j < l.length) : sizeL (l.take (j + 1)) = sizeL (l.take j) + clSize (clAt l j) := by
  rw [take_one l j h, sizeL_app, sizeL_cons]; simp [sizeL]
set_option maxHeartbeats 1000000 in
theorem psize_calls {lo hi n : Nat} (c : Nat) {A : Option Addr} {l : List Cl} (w : World) (h : CsR w lo hi A n l) (hhi : hi ≤ w.heap.size) (hn : n ≤ 4096) :
    Calls Try.prog 86 #[.slice A n c] w fun e w' => e = .returned (.int .i64 (sizeL l)) ∧ Below w.heap.size w w' := by
  have hln := Lib.hid h.1
  go_enter Try.func86, Try.ntmps86
  go_wp2
  go_loopw [3, 8] (fun v3 v8 wr => ∃ j : Nat, j ≤ n ∧ v8 = .int .i64 j ∧ v3 = .int .i64 (sizeL (l.take j)) ∧ sizeL (l.take j) ≤ j * 300000000000000 ∧ Below w.heap.size w wr) (fun _ v8 _ => n - (intOf v8).toNat)
  case atStart => exact ⟨0, by omega, rfl, rfl, by simp [sizeL], Below.refl _ _⟩
  case round =>
    obtain ⟨j, hj, rfl, rfl, hb, hB⟩ := hrel
    have hnn := sizeL_nn (l.take j)
    by_cases hlt : j < n
    · obtain ⟨gb, go', kA, kN, kC, vA, vN, vC, rfl, g1, g2, c1, c2, b1, b2, m1, m2⟩ := h.2 j hlt
      have hst := Lib.hid (sizeL_take l j (by rw [hln.out]; exact hlt))
      have e1 := b1.1
      have e2 := b2.1
      have hcz : clSize (clAt l j) = 2 + kN + vN := by unfold clSize; rw [e1, e2]
      have hcz' := Lib.hid hcz
      have hgw : gb < wr.heap.size := by have := hB.size; omega
      replace c1 := (hB.cell (p := ⟨gb, go' + j * 2, none⟩) (Nat.lt_of_lt_of_le g2 hhi)).trans c1
      replace c2 := (hB.cell (p := ⟨gb, go' + j * 2 + 1, none⟩) (Nat.lt_of_lt_of_le g2 hhi)).trans c2
      clear e1 e2 hcz b1 b2 h
      generalize hss : sizeL (l.take j) = s at *
      have hss' := Lib.hid hss
      clear hss
      have hj0 : (0 : Int) ≤ j := by omega
      have hj1 : (j : Int) < n := by omega
      go_wp2
      go_roundw
      case rel => exact ⟨j + 1, by omega, by go_num, by (rw [hst.out, hcz'.out]) <;> go_num, by rw [hst.out, hcz'.out]; omega, below_al hB⟩
      case measure => simp [intOf]; omega
    · obtain rfl : j = n := by omega
      go_wp2
      go_ret
      refine ⟨?_, hB⟩
      show Ending.returned (.int .i64 (sizeL (l.take j))) = _
      rw [List.take_of_length_le (by rw [hln.out]; exact Nat.le_refl _)]
end Go.Proofs.Ytggeepihkeocmaa
/- page.Halves and the reference's by their contracts. -/
namespace Go.Proofs.Ytggeepihkeocmaa
set_option linter.unusedVariables false
set_option linter.unusedSimpArgs false
open Go.RowKit
theorem clAt_cut (l : List Cl) (k m i : Nat) (h : i < m - k) (hm : m ≤ l.length) : clAt ((l.take m).drop k) i = clAt l (k + i) := by
  unfold clAt
  simp [List.getD, List.getElem?_drop, List.getElem?_take]
  rw [if_pos (by omega)]
theorem CsR.cut {w : World} {lo hi n c : Nat} {A : Option Addr} {l : List Cl} (h : CsR w lo hi A n l) (k m : Nat) (hk : k ≤ m) (hm : m ≤ n) (hc : n ≤ c) :
    CsR w lo hi (if c = k then A else A.map (·.add (k * 2))) (m - k) ((l.take m).drop k) := by
  refine ⟨by simp [h.1]; omega, fun i hi' => ?_⟩
  obtain ⟨gb, go', kA, kN, kC, vA, vN, vC, rfl, a1, a2, c1, c2, b1, b2, m1, m2⟩ := h.2 (k + i) (by omega)
  rw [if_neg (by omega), clAt_cut l k m i hi' (by rw [h.1]; exact hm)]
  refine ⟨gb, go' + k * 2, kA, kN, kC, vA, vN, vC, ?_, a1, a2, ?_, ?_, b1, b2, m1, m2⟩
  · exact congrArg some (Go.WideShapes.add_plain _ _ _)
  · rw [← c1]; congr 2; omega
  · rw [← c2]; congr 2; omega
def absI (x : Int) : Int := if x < 0 then 0 - x else x
theorem CsR.cutm {w : World} {lo hi n c : Nat} {A : Option Addr} {l : List Cl} (h : CsR w lo hi A n l) (k m : Nat) (hk : k < m) (hm : m ≤ n) (hc : n ≤ c) :
    CsR w lo hi (Option.map (fun x => x.add (k * 2)) A) (m - k) ((l.take m).drop k) := by
  have := h.cut (c := c) k m (by omega) hm hc
  rwa [if_neg (by omega)] at this
theorem CsR.size_le {w : World} {lo hi n : Nat} {A : Option Addr} {l : List Cl} (h : CsR w lo hi A n l) : ∀ j : Nat, j ≤ n → sizeL (l.take j) ≤ j * 300000000000000
  | 0, _ => by simp [sizeL]
  | j + 1, hj => by
    have ih := h.size_le j (by omega)
    rw [sizeL_take l j (by rw [h.1]; omega)]
    obtain ⟨_, _, _, kN, _, _, vN, _, _, _, _, _, _, b1, b2, m1, m2⟩ := h.2 j (by omega)
    have e1 := b1.1
    have e2 := b2.1
    unfold clSize
    omega
theorem CsR.size_all {w : World} {lo hi n : Nat} {A : Option Addr} {l : List Cl} (h : CsR w lo hi A n l) : sizeL l ≤ n * 300000000000000 := by
  have := h.size_le n (Nat.le_refl _)
  rwa [List.take_of_length_le (by rw [h.1]; exact Nat.le_refl _)] at this
theorem sizeL_split (l : List Cl) (j : Nat) : sizeL l = sizeL (l.take j) + sizeL (l.drop j) := by
  rw [← sizeL_app, List.take_append_drop]
theorem absI_bd (l : List Cl) (j : Nat) : 0 ≤ absI (sizeL l - 2 * sizeL (l.take j)) ∧ absI (sizeL l - 2 * sizeL (l.take j)) ≤ sizeL l := by
  have h1 := sizeL_split l j
  have h2 := sizeL_nn (l.take j)
  have h3 := sizeL_nn (l.drop j)
  unfold absI
  split <;> omega
def hStep (l : List Cl) (s : Int × Int) (i : Nat) : Int × Int := if s.1 = 0 ∨ absI (sizeL l - 2 * sizeL (l.take i)) < s.2 then ((i : Int), absI (sizeL l - 2 * sizeL (l.take i))) else s
def halvesTo (l : List Cl) : Nat → Int × Int
  | 0 => (0, 0)
  | j + 1 => hStep l (halvesTo l j) (j + 1)
def halvesL (l : List Cl) : Int := (halvesTo l (l.length - 1)).1
theorem halvesTo_bd (l : List Cl) : ∀ j, 0 ≤ (halvesTo l j).1 ∧ (halvesTo l j).1 ≤ j
  | 0 => by simp [halvesTo]
  | j + 1 => by
    have := halvesTo_bd l j
    unfold halvesTo hStep
    split
    · simp; omega
    · omega
theorem halves_bd (l : List Cl) : ∀ j, 0 ≤ (halvesTo l j).2 ∧ (halvesTo l j).2 ≤ sizeL l
  | 0 => ⟨Int.le_refl _, sizeL_nn l⟩
  | j + 1 => by
    have := halves_bd l j
    unfold halvesTo hStep
    split
    · exact absI_bd l (j + 1)
    · exact this
theorem hStep_yes (l : List Cl) (j : Nat) (b d e : Int) (hb : (halvesTo l j).1 = b) (hd : (halvesTo l j).2 = d) (he : absI (sizeL l - 2 * sizeL (l.take (j + 1))) = e) (h : b = 0 ∨ e < d) : (halvesTo l (j + 1)).1 = j + 1 ∧ (halvesTo l (j + 1)).2 = e := by
  subst hb hd he
  unfold halvesTo hStep
  rw [if_pos h]
  exact ⟨by simp, rfl⟩
theorem hStep_no (l : List Cl) (j : Nat) (b d e : Int) (hb : (halvesTo l j).1 = b) (hd : (halvesTo l j).2 = d) (he : absI (sizeL l - 2 * sizeL (l.take (j + 1))) = e) (h : ¬ (b = 0 ∨ e < d)) : (halvesTo l (j + 1)).1 = b ∧ (halvesTo l (j + 1)).2 = d := by
  subst hb hd he
  have e : halvesTo l (j + 1) = halvesTo l j := by
    show hStep l (halvesTo l j) (j + 1) = _
    unfold hStep
    rw [if_neg h]
  rw [e]
  exact ⟨rfl, rfl⟩
set_option maxRecDepth 100000 in
set_option maxHeartbeats 1000000 in
theorem halves_calls {lo hi n c : Nat} {A : Option Addr} {l : List Cl} (w : World) (h : CsR w lo hi A n l) (hhi : hi ≤ w.heap.size) (hn : n ≤ 4096) (hc : n ≤ c) :
    Calls Try.prog 51 #[.slice A n c] w fun e w' => e = .returned (.int .i64 (halvesL l)) ∧ Below w.heap.size w w' := by
  have hln := Lib.hid h.1
  go_enter Try.func51, Try.ntmps51
  go_wp2_with fail
  refine (psize_calls c _ h hhi hn).mono ?_
  rintro e w1 ⟨rfl, hb1⟩
  have hall : sizeL l ≤ 4096 * 300000000000000 := by have := h.size_all; omega
  have hnn := sizeL_nn l
  have hall' := Lib.hid (rfl : sizeL l = sizeL l)
  generalize hL : sizeL l = L at *
  have hL' := Lib.hid hL
  clear hL hall'
  go_wp2
  go_loopw [3, 4, 6, 7] (fun v3 v4 v6 v7 wr => ∃ j : Nat, (j < n ∨ j = 0) ∧ v7 = .int .i64 ((j : Int) + 1) ∧ v6 = .int .i64 (sizeL (l.take j)) ∧ v3 = .int .i64 (halvesTo l j).1 ∧ v4 = .int .i64 (halvesTo l j).2 ∧ Below w.heap.size w wr) (fun _ _ _ v7 _ => n + 1 - (intOf v7).toNat)
  case atStart => exact ⟨0, by omega, rfl, rfl, rfl, rfl, hb1⟩
  case round =>
    obtain ⟨j, hj, rfl, rfl, rfl, rfl, hB⟩ := hrel
    by_cases hlt : j + 1 < n
    · have hcut := Lib.hid ((h.below hB hhi).cutm (c := c) j (j + 1) (by omega) (by omega) hc)
      have e1 : j + 1 - j = 1 := by omega
      rw [e1] at hcut
      clear e1
      have e2 : (l.take (j + 1)).drop j = [clAt l j] := by rw [take_one l j (by rw [hln.out]; omega), List.drop_append_of_le_length (by simp [hln.out]; omega)]; simp
      have e2' := Lib.hid e2
      clear e2
      have hst := Lib.hid (sizeL_take l j (by rw [hln.out]; omega))
      have e3 : sizeL [clAt l j] = clSize (clAt l j) := by rw [sizeL_cons]; simp [sizeL]
      have e3' := Lib.hid e3
      clear e3
      have hbl := sizeL_split l (j + 1)
      have hbn := sizeL_nn (l.drop (j + 1))
      have hb0 := sizeL_nn (l.take j)
      have hbb := halvesTo_bd l j
      have hbd := halves_bd l j
      rw [hst.out] at hbl
      have hcs := clSize_nn (clAt l j)
      rw [hL'.out] at hbl hbd
      have hy := Lib.hid (hStep_yes l j)
      have hno := Lib.hid (hStep_no l j)
      generalize hb1 : (halvesTo l j).1 = b at *
      generalize hb2 : (halvesTo l j).2 = d at *
      generalize hs1 : sizeL (l.take j) = s at *
      generalize hs2 : clSize (clAt l j) = z at *
      generalize sizeL (l.drop (j + 1)) = t at *
      have hb1' := Lib.hid hb1
      have hb2' := Lib.hid hb2
      have hs1' := Lib.hid hs1
      have hs2' := Lib.hid hs2
      have hb3 : s + z ≤ L := by omega
      clear hb1 hb2 hs1 hs2 hbl hbn
      have hj0 : (0 : Int) ≤ j := by omega
      have hj1 : (j : Int) + 1 < n := by omega
      have hj2 : (j : Int) + 1 ≤ c := by omega
      go_wp2_with fail
      refine (psize_calls _ _ (e2'.out ▸ hcut.out) (Nat.le_trans hhi hB.size) (by omega)).mono ?_
      rintro e w2 ⟨rfl, hb2⟩
      rw [e3'.out]
      have hB2 := below_keep hb2 hB
      have hfin : ∀ e : Int, absI (L - 2 * (s + z)) = e → absI (sizeL l - 2 * sizeL (l.take (j + 1))) = e := fun e he => by rw [hL'.out, hst.out]; exact he
      have hfin' := Lib.hid hfin
      clear hfin hb2 hB
      rcases (show 2 * (s + z) < L ∨ L ≤ 2 * (s + z) from by omega) with hm | hm
      · have hab := Lib.hid (hfin'.out (L - 2 * (s + z)) (by unfold absI; rw [if_neg (by omega)]))
        by_cases hb : b = 0
        · have hbz := Lib.hid hb
          have hq : (b == 0) = true := by simp [hb]
          clear hb
          have hr := Lib.hid (hy.out b d (L - 2 * (s + z)) rfl rfl hab.out (Or.inl hbz.out))
          go_wp2
          go_roundw
          case rel => exact ⟨j + 1, by omega, by go_num, by rw [hst.out], by rw [hr.out.1], by first | (rw [hr.out.2]; done) | (rw [hr.out.2]; split <;> go_num), hB2⟩
          case measure => simp [intOf]; omega
        · by_cases hd : L - 2 * (s + z) < d
          · have hbz := Lib.hid hb
            have hq : (b == 0) = false := by simp [hb]
            clear hb
            have hr := Lib.hid (hy.out b d (L - 2 * (s + z)) rfl rfl hab.out (Or.inr (by omega)))
            go_wp2
            go_roundw
            case rel => exact ⟨j + 1, by omega, by go_num, by rw [hst.out], by rw [hr.out.1], by first | (rw [hr.out.2]; done) | (rw [hr.out.2]; split <;> go_num), hB2⟩
            case measure => simp [intOf]; omega
          · have hbz := Lib.hid hb
            have hq : (b == 0) = false := by simp [hb]
            clear hb
            have hr := Lib.hid (hno.out b d (L - 2 * (s + z)) rfl rfl hab.out ((by intro hh; rcases hh with hh | hh; exact hbz.out hh; omega)))
            go_wp2
            go_roundw
            case rel => exact ⟨j + 1, by omega, by go_num, by rw [hst.out], by rw [hr.out.1], by first | (rw [hr.out.2]; done) | (rw [hr.out.2]; split <;> go_num), hB2⟩
            case measure => simp [intOf]; omega
      · have hab := Lib.hid (hfin'.out (2 * (s + z) - L) (by unfold absI; split <;> omega))
        by_cases hb : b = 0
        · have hbz := Lib.hid hb
          have hq : (b == 0) = true := by simp [hb]
          clear hb
          have hr := Lib.hid (hy.out b d (2 * (s + z) - L) rfl rfl hab.out (Or.inl hbz.out))
          go_wp2
          go_roundw
          case rel => exact ⟨j + 1, by omega, by go_num, by rw [hst.out], by rw [hr.out.1], by first | (rw [hr.out.2]; done) | (rw [hr.out.2]; split <;> go_num), hB2⟩
          case measure => simp [intOf]; omega
        · by_cases hd : 2 * (s + z) - L < d
          · have hbz := Lib.hid hb
            have hq : (b == 0) = false := by simp [hb]
            clear hb
            have hr := Lib.hid (hy.out b d (2 * (s + z) - L) rfl rfl hab.out (Or.inr (by omega)))
            go_wp2
            go_roundw
            case rel => exact ⟨j + 1, by omega, by go_num, by rw [hst.out], by rw [hr.out.1], by first | (rw [hr.out.2]; done) | (rw [hr.out.2]; split <;> go_num), hB2⟩
            case measure => simp [intOf]; omega
          · have hbz := Lib.hid hb
            have hq : (b == 0) = false := by simp [hb]
            clear hb
            have hr := Lib.hid (hno.out b d (2 * (s + z) - L) rfl rfl hab.out ((by intro hh; rcases hh with hh | hh; exact hbz.out hh; omega)))
            go_wp2
            go_roundw
            case rel => exact ⟨j + 1, by omega, by go_num, by rw [hst.out], by rw [hr.out.1], by first | (rw [hr.out.2]; done) | (rw [hr.out.2]; split <;> go_num), hB2⟩
            case measure => simp [intOf]; omega
    · have hj' : j = l.length - 1 := by rw [hln.out]; omega
      have hj'' := Lib.hid hj'
      have hj0 : (n : Int) ≤ (j : Int) + 1 := by omega
      clear hj'
      go_wp2
      go_ret
      refine ⟨?_, hB⟩
      show Ending.returned (.int .i64 (halvesTo l j).1) = Ending.returned (.int .i64 (halvesL l))
      unfold halvesL
      rw [← hj''.out]
end Go.Proofs.Ytggeepihkeocmaa
