/- Joined texts: LogS. -/
import Derived.Test.YtnehppeoffemlaaJLogRings29
/- The disk as it is read; a new log on a new disk (plain). -/
namespace Go.Proofs.Ytnehppeoffemlaa
set_option linter.unusedVariables false
set_option linter.unusedSimpArgs false
open Go.RowKit
/-- The power is on and stays on. -/
def Qt (D : Dk) : Prop := D.arm = 0 ∧ D.off = false
theorem Qt.op {D : Dk} (h : Qt D) : Qt (opD D) := by
  unfold Qt opD
  rw [h.1, h.2]
  simp
theorem Qt.wrE {D : Dk} (h : Qt D) : wr1E D = 0 := by
  have h1 : ¬ (D.off = true) := by rw [h.2]; decide
  have h2 : ¬ ((opD D).off = true) := by rw [h.op.2]; decide
  unfold wr1E Go.Proofs.Ytnehppeoffemlaa.wrE
  rw [if_neg h1, if_neg h2]
theorem Qt.wr1 {D : Dk} (h : Qt D) (i : Nat) (p : List Int) : wr1 D i p = wrD D i p := by
  have h1 : ¬ (D.off = true) := by rw [h.2]; decide
  unfold Go.Proofs.Ytnehppeoffemlaa.wr1
  rw [if_neg h1]
theorem Qt.wr {D : Dk} (h : Qt D) (i : Nat) (p : List Int) : Qt (wrD D i p) := h.op
theorem Qt.syE {D : Dk} (h : Qt D) : sy1E D = 0 := by
  have h1 : ¬ (D.off = true) := by rw [h.2]; decide
  have h2 : ¬ ((opD D).off = true) := by rw [h.op.2]; decide
  unfold sy1E
  rw [if_neg h1, if_neg h2]
theorem Qt.sy1 {D : Dk} (h : Qt D) : sy1 D = syncD D := by
  have h1 : ¬ (D.off = true) := by rw [h.2]; decide
  have h2 : ¬ ((opD D).off = true) := by rw [h.op.2]; decide
  unfold Go.Proofs.Ytnehppeoffemlaa.sy1
  rw [if_neg h1, if_neg h2]
theorem Qt.sy {D : Dk} (h : Qt D) : Qt (syncD D) := h.op
theorem Qt.mkE {D : Dk} (h : Qt D) (i : Nat) (p : List Int) : mkE D i p = 0 := by
  unfold Go.Proofs.Ytnehppeoffemlaa.mkE
  rw [if_pos h.wrE, h.wr1, (h.wr i p).syE]
theorem Qt.mkD {D : Dk} (h : Qt D) (i : Nat) (p : List Int) : mkD D i p = syncD (wrD D i p) := by
  unfold Go.Proofs.Ytnehppeoffemlaa.mkD
  rw [if_pos h.wrE, h.wr1, (h.wr i p).sy1]
theorem readTo_app (D : Dk) (x : Wr) (i : Nat) : ∀ k, k ≤ D.way.length → readTo { D with way := D.way ++ [x] } i k = readTo D i k
  | 0, _ => rfl
  | k + 1, h => by
    have e : wayAt { D with way := D.way ++ [x] } k = wayAt D k := by
      unfold wayAt
      simp only
      rw [List.getD_eq_getElem?_getD, List.getD_eq_getElem?_getD, List.getElem?_append_left (by omega)]
    show (if (wayAt { D with way := D.way ++ [x] } k).1 = i then (wayAt { D with way := D.way ++ [x] } k).2 else readTo _ i k) = (if (wayAt D k).1 = i then (wayAt D k).2 else readTo D i k)
    rw [e, readTo_app D x i k (by omega)]
theorem readTo_op (D : Dk) (i : Nat) : ∀ k, readTo (opD D) i k = readTo D i k
  | 0 => rfl
  | k + 1 => by
    show (if (wayAt (opD D) k).1 = i then (wayAt (opD D) k).2 else readTo (opD D) i k) = (if (wayAt D k).1 = i then (wayAt D k).2 else readTo D i k)
    rw [readTo_op D i k]
    rfl
theorem readD_wr (D : Dk) (i j : Nat) (p : List Int) : readD (wrD D i p) j = if i = j then p else readD D j := by
  have hl : (wrD D i p).way.length = D.way.length + 1 := by show (D.way ++ [(i, p)]).length = _; simp
  unfold readD
  rw [hl]
  have e : wayAt (wrD D i p) D.way.length = (i, p) := by
    unfold wayAt
    show (D.way ++ [(i, p)]).getD _ _ = _
    rw [List.getD_eq_getElem?_getD, List.getElem?_append_right (Nat.le_refl _), Nat.sub_self]
    rfl
  show (if (wayAt (wrD D i p) D.way.length).1 = j then (wayAt (wrD D i p) D.way.length).2 else readTo (wrD D i p) j D.way.length) = _
  rw [e]
  have e2 : readTo (wrD D i p) j D.way.length = readTo (opD D) j D.way.length := readTo_app (opD D) (i, p) j D.way.length (Nat.le_refl _)
  rw [e2, readTo_op]
theorem setTo_read {D : Dk} (j : Nat) (hj : j < D.l.length) : ∀ k, (setTo D (fun _ => true) k).getD j [] = readTo D j k
  | 0 => rfl
  | k + 1 => by
    have ih := setTo_read j hj k
    have hl := setTo_len D (fun _ => true) k
    rw [setTo_yes rfl]
    by_cases h : (wayAt D k).1 = j
    · rw [readTo_yes h, h]
      simp [List.getD, List.getElem?_set, hl, hj]
    · rw [readTo_no h, ← ih]
      simp [List.getD, List.getElem?_set, h]
theorem readD_sync {D : Dk} (j : Nat) (hj : j < D.l.length) : readD (syncD D) j = readD D j := by
  show (setTo D (fun _ => true) D.way.length).getD j [] = readTo D j D.way.length
  exact setTo_read j hj _
theorem sync_len (D : Dk) : (syncD D).l.length = D.l.length := setTo_len D _ _
theorem readD_new (n j : Nat) (h : j < n) : readD (newD n) j = zeroS := by
  show (List.replicate n zeroS).getD j [] = zeroS
  simp [List.getD, h]
theorem newD_qt (n : Nat) : Qt (newD n) := ⟨rfl, rfl⟩
theorem readD_mk {D : Dk} (i j : Nat) (p : List Int) (h : j < D.l.length) : readD (syncD (wrD D i p)) j = if i = j then p else readD D j := by
  rw [readD_sync (D := wrD D i p) j h, readD_wr]
theorem mas_parts (L : Lg) : ((masterL L).take 4).drop 0 = [77, 76, 79, 71] ∧ ((masterL L).drop 4).take 8 = u8L L.epoch ∧ ((masterL L).drop 12).take 8 = u8L L.start ∧ ((masterL L).drop 20).take 8 = u8L L.check ∧ ((masterL L).drop 28).take 8 = u8L (sumL (headL L)) ∧ ((masterL L).take 28).drop 0 = headL L := by
  refine ⟨rfl, rfl, rfl, rfl, rfl, ?_⟩
  rw [List.drop_zero]
  unfold masterL
  rw [List.append_assoc]
  exact List.take_left' (headL_len L)
theorem mas_yes (L : Lg) : MasYes (masterL L) := by
  obtain ⟨h1, -, -, -, h5, h6⟩ := mas_parts L
  have hr := sumL_range (headL L)
  refine ⟨h1, ?_⟩
  rw [h5, h6, num_u8L hr.1 (by omega)]
theorem mas_L (L : Lg) (a c : Int) (h1 : 0 ≤ L.epoch ∧ L.epoch < 18446744073709551616) (h2 : 0 ≤ L.start ∧ L.start < 18446744073709551616) (h3 : 0 ≤ L.check ∧ L.check < 18446744073709551616) : masL (masterL L) a c = ⟨a, c, L.epoch, L.start, L.check, 0, 0, 0, []⟩ := by
  obtain ⟨-, e2, e3, e4, -, -⟩ := mas_parts L
  unfold masL
  rw [e2, e3, e4, num_u8L h1.1 h1.2, num_u8L h2.1 h2.2, num_u8L h3.1 h3.2]
theorem zero_no (k ep : Int) (h : k ≠ 0) : ¬ SecYes zeroS k ep := fun hy => h (hy.1.symm.trans rfl)
/-- A new log: the disk behind Format; the log that Open finds there; the disk behind it. -/
def fmD (n : Nat) (a c : Int) : Dk := mkD (newD n) a.toNat (masterL (fmtL a c))
def newL (a c : Int) : Lg := ⟨a, c, 2, 480, 0, 480, 0, 480, []⟩
def opnD (n : Nat) (a c : Int) : Dk := op3D (fmD n a c) a c
theorem fmD_eq (n : Nat) (a c : Int) : fmD n a c = syncD (wrD (newD n) a.toNat (masterL (fmtL a c))) := (newD_qt n).mkD _ _
theorem fmD_qt (n : Nat) (a c : Int) : Qt (fmD n a c) := by rw [fmD_eq]; exact ((newD_qt n).wr _ _).sy
theorem fmD_len (n : Nat) (a c : Int) : (fmD n a c).l.length = n := by
  rw [fmD_eq, sync_len]
  show (List.replicate n zeroS).length = n
  rw [List.length_replicate]
theorem fmD_read (n : Nat) (a c : Int) (j : Nat) (h : j < n) : readD (fmD n a c) j = if a.toNat = j then masterL (fmtL a c) else zeroS := by
  rw [fmD_eq, readD_mk _ _ _ (by show j < (List.replicate n zeroS).length; rw [List.length_replicate]; exact h), readD_new n j h]
theorem fmD_ops (n : Nat) (a c : Int) : (fmD n a c).ops = 2 := by rw [fmD_eq]; rfl
theorem fmD_way (n : Nat) (a c : Int) : (fmD n a c).way = [] := by rw [fmD_eq]; rfl
theorem gath_no {D : Dk} {L : Lg} {f k : Nat} {acc : List Int} {last : Int} (h : ¬ SecYes (readD D (idxL L k)) k L.epoch) : gath D L f k acc last = acc := by
  cases f with
  | zero => rfl
  | succ f => unfold gath; rw [if_neg (fun h2 => h h2.1)]
theorem fm_scan {n : Nat} {a c : Int} (ha : 0 ≤ a) (hc : 4 ≤ c) (hn : a ≤ n - 1 - c) : scanG (fmD n a c) (masL (readD (fmD n a c) a.toNat) a c) = [] := by
  have hr : readD (fmD n a c) a.toNat = masterL (fmtL a c) := by rw [fmD_read n a c _ (by omega), if_pos rfl]
  have hm := mas_L (fmtL a c) a c (by show (0 : Int) ≤ 1 ∧ (1 : Int) < _; omega) (by show (0 : Int) ≤ 480 ∧ (480 : Int) < _; omega) (by show (0 : Int) ≤ 0 ∧ (0 : Int) < _; omega)
  rw [hr, hm]
  unfold scanG
  have hi : idxL ⟨a, c, (fmtL a c).epoch, (fmtL a c).start, (fmtL a c).check, 0, 0, 0, []⟩ 1 = (a + 2).toNat := by
    unfold idxL
    show (a + 1 + ((1 : Nat) : Int) % c).toNat = _
    rw [show (((1 : Nat) : Int) % c) = 1 from Int.emod_eq_of_lt (by omega) (by omega)]
    congr 1
    omega
  refine gath_no (k := 1) ?_
  rw [hi, fmD_read n a c _ (by omega), if_neg (by omega)]
  exact zero_no _ _ (by decide)
theorem fm_opL {n : Nat} {a c : Int} (ha : 0 ≤ a) (hc : 4 ≤ c) (hn : a ≤ n - 1 - c) : opL (fmD n a c) a c = newL a c := by
  have hs := fm_scan ha hc hn
  have hr : readD (fmD n a c) a.toNat = masterL (fmtL a c) := by rw [fmD_read n a c _ (by omega), if_pos rfl]
  have hm := mas_L (fmtL a c) a c (by show (0 : Int) ≤ 1 ∧ (1 : Int) < _; omega) (by show (0 : Int) ≤ 480 ∧ (480 : Int) < _; omega) (by show (0 : Int) ≤ 0 ∧ (0 : Int) < _; omega)
  have hp : scanP (fmD n a c) (masL (readD (fmD n a c) a.toNat) a c) = 0 := by
    have := (scanP_le (fmD n a c) (masL (readD (fmD n a c) a.toNat) a c)).2
    rw [hs] at this
    simpa using this
  unfold opL scanL
  rw [hp, hs, hr, hm]
  rfl
theorem fm_mas {n : Nat} {a c : Int} (ha : 0 ≤ a) (hn : a < n) : readD (fmD n a c) a.toNat = masterL (fmtL a c) := by rw [fmD_read n a c _ (by omega), if_pos rfl]
theorem fm_E {n : Nat} {a c : Int} : op3E (fmD n a c) a c = 0 := by
  have h1 : op1E (fmD n a c) a c = 0 := (fmD_qt n a c).mkE _ _
  have q1 : Qt (op1D (fmD n a c) a c) := by unfold op1D; rw [(fmD_qt n a c).mkD]; exact ((fmD_qt n a c).wr _ _).sy
  have h2 : op2E (fmD n a c) a c = 0 := by unfold op2E; rw [if_pos h1]; exact q1.wrE
  have q2 : Qt (op2D (fmD n a c) a c) := by unfold op2D; rw [if_pos h1, q1.wr1]; exact q1.wr _ _
  unfold op3E
  rw [if_pos h2]
  exact q2.syE
theorem opnD_eq {n : Nat} {a c : Int} (ha : 0 ≤ a) (hc : 4 ≤ c) (hn : a ≤ n - 1 - c) : opnD n a c = syncD (wrD (syncD (wrD (fmD n a c) a.toNat (masterL (newL a c)))) (a + 2).toNat (layL 1 2 [])) := by
  have h1 : op1E (fmD n a c) a c = 0 := (fmD_qt n a c).mkE _ _
  have e1 : op1D (fmD n a c) a c = syncD (wrD (fmD n a c) a.toNat (masterL (newL a c))) := by unfold op1D; rw [(fmD_qt n a c).mkD, fm_opL ha hc hn]
  have q1 : Qt (op1D (fmD n a c) a c) := by rw [e1]; exact ((fmD_qt n a c).wr _ _).sy
  have h2 : op2E (fmD n a c) a c = 0 := by unfold op2E; rw [if_pos h1]; exact q1.wrE
  have e2 : op2D (fmD n a c) a c = wrD (op1D (fmD n a c) a c) (a + 2).toNat (layL 1 2 []) := by
    unfold op2D
    rw [if_pos h1, q1.wr1, fm_opL ha hc hn]
    have hi : idxL (newL a c) ((newL a c).base / 480).toNat = (a + 2).toNat := by
      unfold idxL
      show (a + 1 + ((1 : Nat) : Int) % c).toNat = _
      rw [show (((1 : Nat) : Int) % c) = 1 from Int.emod_eq_of_lt (by omega) (by omega)]
      congr 1
      omega
    rw [hi]
    rfl
  have q2 : Qt (op2D (fmD n a c) a c) := by rw [e2]; exact q1.wr _ _
  unfold opnD op3D
  rw [if_pos h2, q2.sy1, e2, e1]
theorem opnD_qt {n : Nat} {a c : Int} (ha : 0 ≤ a) (hc : 4 ≤ c) (hn : a ≤ n - 1 - c) : Qt (opnD n a c) := by
  rw [opnD_eq ha hc hn]
  exact (((((fmD_qt n a c).wr _ _).sy).wr _ _).sy)
theorem opnD_len {n : Nat} {a c : Int} (ha : 0 ≤ a) (hc : 4 ≤ c) (hn : a ≤ n - 1 - c) : (opnD n a c).l.length = n := by
  rw [opnD_eq ha hc hn, sync_len]
  show (syncD _).l.length = n
  rw [sync_len]
  exact fmD_len n a c
theorem opnD_way {n : Nat} {a c : Int} (ha : 0 ≤ a) (hc : 4 ≤ c) (hn : a ≤ n - 1 - c) : (opnD n a c).way = [] := by rw [opnD_eq ha hc hn]; rfl
theorem opnD_ops {n : Nat} {a c : Int} (ha : 0 ≤ a) (hc : 4 ≤ c) (hn : a ≤ n - 1 - c) : (opnD n a c).ops = 6 := by
  rw [opnD_eq ha hc hn]
  show (fmD n a c).ops + 1 + 1 + 1 + 1 = 6
  rw [fmD_ops]
  rfl
theorem newL_ok {a c : Int} (ha : 0 ≤ a) (ha2 : a ≤ 4096) (hc : 4 ≤ c) (hc2 : c ≤ 4096) : LgOk (newL a c) :=
  ⟨⟨ha, ha2⟩, ⟨hc, hc2⟩, by show (0 : Int) ≤ 2 ∧ (2 : Int) < _; omega, by show (0 : Int) ≤ 480 ∧ (480 : Int) ≤ 480; omega, by show (0 : Int) ≤ 0 ∧ (0 : Int) ≤ 480; omega, by show (480 : Int) ≤ 480 + 0; omega, by show (0 : Int) ≤ 0 ∧ (0 : Int) ≤ _; omega, by show (0 : Int) ≤ 480 ∧ (480 : Int) ≤ _; omega, by show 0 ≤ _; omega, by show (480 : Int) + 0 + 0 ≤ (480 / 480 + c) * 480; omega⟩
end Go.Proofs.Ytnehppeoffemlaa
