/- bytes.Compare, bytes.Equal, bytes.Clone by their contracts. -/
import Derived.Test.YtnehppeoffemlaaApp
import Derived.Lib.Bytealg
import Derived.Laws.BytesArg
import Derived.Lib.SliceRun
import Derived.WalkLawsBesides
namespace Go.Proofs.Ytnehppeoffemlaa
set_option linter.unusedVariables false
set_option linter.unusedSimpArgs false
open Go.RowKit
def u8s (l : List Int) : List UInt8 := l.map fun x => x.toNat.toUInt8
theorem u8_inj {x y : Int} (hx : 0 ≤ x ∧ x ≤ 255) (hy : 0 ≤ y ∧ y ≤ 255) (h : x.toNat.toUInt8 = y.toNat.toUInt8) : x = y := by
  have h1 := congrArg UInt8.toNat h
  simp [Nat.toUInt8, UInt8.toNat_ofNat'] at h1
  omega
theorem u8s_inj : ∀ {a b : List Int}, Byt a → Byt b → u8s a = u8s b → a = b
  | [], [], _, _, _ => rfl
  | [], _ :: _, _, _, h => by cases h
  | _ :: _, [], _, _, h => by cases h
  | x :: a, y :: b, ha, hb, h => by
    simp only [u8s, List.map_cons, List.cons.injEq] at h
    rw [u8_inj (ha x (by simp)) (hb y (by simp)) h.1, u8s_inj (fun z hz => ha z (by simp [hz])) (fun z hz => hb z (by simp [hz])) h.2]
/-- Bytes compared. -/
def cmpI : List Int → List Int → Int
  | [], [] => 0
  | [], _ :: _ => -1
  | _ :: _, [] => 1
  | x :: a, y :: b => if x < y then -1 else if y < x then 1 else cmpI a b
theorem u8_lt {x y : Int} (hx : 0 ≤ x ∧ x ≤ 255) (hy : 0 ≤ y ∧ y ≤ 255) : x.toNat.toUInt8 < y.toNat.toUInt8 ↔ x < y := by
  rw [UInt8.lt_iff_toNat_lt]
  simp [Nat.toUInt8, UInt8.toNat_ofNat']
  omega
theorem cmp_u8s : ∀ {a b : List Int}, Byt a → Byt b → Lib.compareBytes (u8s a) (u8s b) = cmpI a b
  | [], [], _, _ => rfl
  | [], _ :: _, _, _ => rfl
  | _ :: _, [], _, _ => rfl
  | x :: a, y :: b, ha, hb => by
    have ih := cmp_u8s (a := a) (b := b) (fun z hz => ha z (by simp [hz])) (fun z hz => hb z (by simp [hz]))
    simp only [u8s, List.map_cons, Lib.compareBytes, cmpI] at ih ⊢
    simp only [u8_lt (ha x (by simp)) (hb y (by simp)), u8_lt (hb y (by simp)) (ha x (by simp)), ih]
theorem run_loadBytes {P : Program} (w : World) (gb : Nat) (l : List Int) : ∀ (go' : Nat) (acc : ByteArray), (∀ j, j < l.length → w.cell? ⟨gb, go' + j, none⟩ = some (.int .u8 (l.getD j 0))) →
    (Extern.Bytes.loadBytes ⟨gb, go', none⟩ l.length acc).run P w = .ok ⟨acc.data ++ (u8s l).toArray⟩ w := by
  induction l with
  | nil => intro go' acc _; simp [Extern.Bytes.loadBytes, u8s]
  | cons x l ih =>
    intro go' acc h
    have h0 := h 0 (by simp)
    simp at h0
    have hs : ∀ j, j < l.length → w.cell? ⟨gb, go' + 1 + j, none⟩ = some (.int .u8 (l.getD j 0)) := fun j hj => by
      have := h (j + 1) (by simpa using hj)
      rw [show go' + (j + 1) = go' + 1 + j from by omega] at this
      simpa using this
    have ih' := ih (go' + 1) (acc.push x.toNat.toUInt8) hs
    simp only [List.length_cons, Extern.Bytes.loadBytes]
    have ha : (⟨gb, go', none⟩ : Addr).add 1 = ⟨gb, go' + 1, none⟩ := rfl
    have ih'' : (Extern.Bytes.loadBytes ⟨gb, go' + 1, none⟩ l.length ⟨acc.data.push (UInt8.ofNat x.toNat)⟩).run P w = .ok ⟨acc.data.push (UInt8.ofNat x.toNat) ++ (u8s l).toArray⟩ w := ih'
    simp [go_sem, h0, ha, ByteArray.push, ih'']
    simp [u8s]
theorem run_bytesOf {P : Program} (w : World) {lo hi n : Nat} (c : Nat) {A : Option Addr} {l : List Int} (h : BsR w lo hi A n l) : (Extern.Bytes.bytesOf (.slice A n c)).run P w = .ok ⟨(u8s l).toArray⟩ w := by
  rcases A with _ | ad
  · have hl : l = [] := by
      rcases Nat.eq_zero_or_pos n with h0 | h0
      · exact List.eq_nil_of_length_eq_zero (h.1.trans h0)
      · obtain ⟨_, _, hA, _⟩ := h.2.2 h0; cases hA
    subst hl
    simp [Extern.Bytes.bytesOf, u8s]; rfl
  · rcases Nat.eq_zero_or_pos n with h0 | h0
    · subst h0
      have hl : l = [] := List.eq_nil_of_length_eq_zero h.1
      subst hl
      simp [Extern.Bytes.bytesOf, Extern.Bytes.loadBytes, u8s]; rfl
    · obtain ⟨gb, go', hA, _, _, hc⟩ := h.2.2 h0
      injection hA with hA
      subst hA
      have := run_loadBytes (P := P) w gb l go' .empty (fun j hj => hc j (by rw [← h.1]; exact hj))
      rw [h.1] at this
      simp only [Extern.Bytes.bytesOf]
      rw [this]
      first | rfl | (simp; rfl) | (simp; done)
theorem run_cmp {P : Program} (w : World) {lo hi n lo' hi' m : Nat} (c d : Nat) {A B : Option Addr} {a b : List Int} (ha : BsR w lo hi A n a) (hb : BsR w lo' hi' B m b) :
    (Extern.BytealgCompare.compare #[.slice A n c, .slice B m d]).run P w = .ok (.int .i64 (cmpI a b)) w := by
  change Sem.run P (do pure (goInt (Extern.BytealgCompare.cmp (← Extern.Bytes.bytesOf (.slice A n c)) (← Extern.Bytes.bytesOf (.slice B m d))))) w = _
  simp only [Sem.run_bind, run_bytesOf w c ha, run_bytesOf w d hb, Result.andThen_ok, Sem.run_pure]
  rw [Lib.cmp_eq]
  simp only [goInt]
  rw [← cmp_u8s ha.2.1 hb.2.1]
set_option maxRecDepth 100000 in
theorem compare_calls {lo hi n lo' hi' m : Nat} (c d : Nat) {A B : Option Addr} {a b : List Int} (w : World) (ha : BsR w lo hi A n a) (hb : BsR w lo' hi' B m b) :
    Calls Try.prog 85 #[.slice A n c, .slice B m d] w fun e w' => e = .returned (.int .i64 (cmpI a b)) ∧ w = w' := by
  have hx := run_cmp (P := Try.prog) w c d ha hb
  have hx' := Lib.hid hx
  clear hx
  go_enter Try.func85, Try.ntmps85
  go_wp2
  rw [run_callFunc_extern Try.func86 (by kernel_rfl) (by kernel_rfl) (by kernel_rfl) (e := Extern.BytealgCompare.compare) (by kernel_rfl), hx'.out]
  simp only [Result.andThen]
  rw [Oper.upon_value]
  go_wp2
  go_ret
  exact ⟨rfl, rfl⟩
set_option maxRecDepth 100000 in
theorem clone_calls {lo hi n : Nat} (c : Nat) {A : Option Addr} {l : List Int} (w : World) (h : BsR w lo hi A n l) (hhi : hi ≤ w.heap.size) (hn : n ≤ 70368744177664) :
    Calls Try.prog 78 #[.slice A n c] w fun e w' => ∃ A' c', e = .returned (.slice A' n c') ∧ OwB w' w.heap.size A' n c' l ∧ Below w.heap.size w w' := by
  rcases A with _ | ad
  · have h0 : n = 0 := by
      rcases Nat.eq_zero_or_pos n with h0 | h0
      · exact h0
      · obtain ⟨_, _, hA, _⟩ := h.2.2 h0; cases hA
    subst h0
    have hl : l = [] := List.eq_nil_of_length_eq_zero h.1
    subst hl
    have hnil : ∀ w : World, (binOp .eql 32 (.slice none 0 c) (.slice none 0 0)).run Try.prog w = .ok (.bool true) w := fun w => Lib.run_eql_slice_nil w _ _ none 0 c 0 0 Try.underlying32
    go_enter Try.func78, Try.ntmps78
    go_wp2
    go_ret
    exact ⟨none, 0, rfl, OwB.nil _ _, Below.refl _ _⟩
  · have h' := Lib.hid h
    clear h
    have hnil : ∀ w : World, (binOp .eql 32 (.slice (some ad) n c) (.slice none 0 0)).run Try.prog w = .ok (.bool false) w := fun w => Lib.run_eql_slice_nil w _ _ (some ad) n c 0 0 Try.underlying32
    go_enter Try.func78, Try.ntmps78
    go_wp2_with (at_builtin; refine wpList_app rfl (.tmp 5) (.tmp 6) rfl w.heap.size 0 0 (some ⟨w.heap.size, 0, none⟩) [] rfl (OwB.made (l := []) (At.new w _ _) rfl Byt.nil (Nat.le_refl _) (by decide)) _ _ n c (some ad) l rfl (h'.out.below (below_new w _) hhi) (by omega) (ge_new _ _) ?_; intro A1 c1 w1 ho1 hg1 hb1 hat1)
    go_ret
    exact ⟨A1, c1, by first | rfl | simp, by simpa using ho1, below_tr (below_new w _) hb1⟩
/-- The text of bytes. -/
def strL (l : List Int) : ByteArray := ⟨(u8s l).toArray⟩
theorem strL_list (l : List Int) : (strL l).data.toList = u8s l := rfl
theorem strNums_eq (l : List Int) : strOfNums l = strL l := rfl
theorem run_str_gen {P : Program} (src e dst : TypeId) (hs : P.underlying src = some (.slice e)) (he : P.underlying e = some (.int .u8)) (hd : P.underlying dst = some .string) {lo hi n : Nat} (c : Nat) {A : Option Addr} {l : List Int} (w : World) (h : BsR w lo hi A n l) : (convert src dst (.slice A n c)).run P w = .ok (.string (strL l)) w := by
  rcases A with _ | ad
  · have h0 : n = 0 := by
      rcases Nat.eq_zero_or_pos n with h0 | h0
      · exact h0
      · obtain ⟨_, _, hA, _⟩ := h.2.2 h0; cases hA
    subst h0
    have hl : l = [] := List.eq_nil_of_length_eq_zero h.1
    subst hl
    exact run_convert_bytes_nil w src e hs he 0 c dst hd
  · rcases Nat.eq_zero_or_pos n with h0 | h0
    · subst h0
      have hl : l = [] := List.eq_nil_of_length_eq_zero h.1
      subst hl
      rw [run_convert_bytes_string w src dst e _ 0 c hs he hd, run_bytesToString w ad 0 c [] (by simp [loadCells, loadCellsFrom])]
      rfl
    · obtain ⟨gb, go', hA, _, _, hc⟩ := h.2.2 h0
      injection hA with hA
      subst hA
      exact run_convert_bytes_arg w src e hs he gb go' n c l h.1 hc dst hd
theorem run_str {lo hi n : Nat} (c : Nat) {A : Option Addr} {l : List Int} (w : World) (h : BsR w lo hi A n l) : (convert 32 9 (.slice A n c)).run Try.prog w = .ok (.string (strL l)) w :=
  run_str_gen _ _ _ Try.underlying32 Try.underlying5 Try.underlying9 c w h
theorem strL_toList (l : List Int) : (strL l).toList = u8s l := ByteArray.toList_eq (strL l)
def eqB (a b : List Int) : Bool := decide (a = b)
theorem str_eq {a b : List Int} (ha : Byt a) (hb : Byt b) : ((strL a).toList == (strL b).toList) = eqB a b := by
  rw [strL_toList, strL_toList, Bool.eq_iff_iff]
  simp only [beq_iff_eq, eqB, decide_eq_true_eq]
  exact ⟨u8s_inj ha hb, fun h => by rw [h]⟩
set_option maxRecDepth 100000 in
theorem equal_calls {lo hi n lo' hi' m : Nat} (c d : Nat) {A B : Option Addr} {a b : List Int} (w : World) (ha : BsR w lo hi A n a) (hb : BsR w lo' hi' B m b) :
    Calls Try.prog 79 #[.slice A n c, .slice B m d] w fun e w' => e = .returned (.bool (eqB a b)) ∧ w = w' := by
  have h1 := run_str c w ha
  have h2 := run_str d w hb
  go_enter Try.func79, Try.ntmps79
  go_wp2
  go_ret
  exact ⟨congrArg (fun b => Ending.returned (.bool b)) (str_eq ha.2.1 hb.2.1), rfl⟩
end Go.Proofs.Ytnehppeoffemlaa
