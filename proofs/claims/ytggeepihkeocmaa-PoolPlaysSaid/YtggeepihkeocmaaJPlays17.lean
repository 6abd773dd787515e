/- Joined texts: LogS, LogT, LogC, LogD. -/
import Derived.Test.YtggeepihkeocmaaJPlays16
import Derived.Test.YtggeepihkeocmaaJPlays01
/- The disk as it is read; a new log on a new disk (plain). -/
namespace Go.Proofs.Ytggeepihkeocmaa
set_option linter.unusedVariables false
set_option linter.unusedSimpArgs false
open Go.RowKit
/-- The power is on and stays on. -/
def Qt (D : Dk) : Prop := D.arm = 0 ∧ D.off = false
theorem Qt.op {D : Dk} (h : Qt D) : Qt (opD D) := by
  unfold Qt opD
  rw [h.1, h.2]
  simp
theorem Qt.wrE {D : Dk} (h : Qt D) : wr1E D = 0 := by
  have h1 : ¬ (D.off = true) := by rw [h.2]; decide
  have h2 : ¬ ((opD D).off = true) := by rw [h.op.2]; decide
  unfold wr1E Go.Proofs.Ytggeepihkeocmaa.wrE
  rw [if_neg h1, if_neg h2]
theorem Qt.wr1 {D : Dk} (h : Qt D) (i : Nat) (p : List Int) : wr1 D i p = wrD D i p := by
  have h1 : ¬ (D.off = true) := by rw [h.2]; decide
  unfold Go.Proofs.Ytggeepihkeocmaa.wr1
  rw [if_neg h1]
theorem Qt.wr {D : Dk} (h : Qt D) (i : Nat) (p : List Int) : Qt (wrD D i p) := h.op
theorem Qt.syE {D : Dk} (h : Qt D) : sy1E D = 0 := by
  have h1 : ¬ (D.off = true) := by rw [h.2]; decide
  have h2 : ¬ ((opD D).off = true) := by rw [h.op.2]; decide
  unfold sy1E
  rw [if_neg h1, if_neg h2]
theorem Qt.sy1 {D : Dk} (h : Qt D) : sy1 D = syncD D := by
  have h1 : ¬ (D.off = true) := by rw [h.2]; decide
  have h2 : ¬ ((opD D).off = true) := by rw [h.op.2]; decide
  unfold Go.Proofs.Ytggeepihkeocmaa.sy1
  rw [if_neg h1, if_neg h2]
theorem Qt.sy {D : Dk} (h : Qt D) : Qt (syncD D) := h.op
theorem Qt.mkE {D : Dk} (h : Qt D) (i : Nat) (p : List Int) : mkE D i p = 0 := by
  unfold Go.Proofs.Ytggeepihkeocmaa.mkE
  rw [if_pos h.wrE, h.wr1, (h.wr i p).syE]
theorem Qt.mkD {D : Dk} (h : Qt D) (i : Nat) (p : List Int) : mkD D i p = syncD (wrD D i p) := by
  unfold Go.Proofs.Ytggeepihkeocmaa.mkD
  rw [if_pos h.wrE, h.wr1, (h.wr i p).sy1]
theorem readTo_app (D : Dk) (x : Wr) (i : Nat) : ∀ k, k ≤ D.way.length → readTo { D with way := D.way ++ [x] } i k = readTo D i k
  | 0, _ => rfl
  | k + 1, h => by
    have e : wayAt { D with way := D.way ++ [x] } k = wayAt D k := by
      unfold wayAt
      simp only
      rw [List.getD_eq_getElem?_getD, List.getD_eq_getElem?_getD, List.getElem?_append_left (by omega)]
    show (if (wayAt { D with way := D.way ++ [x] } k).1 = i then (wayAt { D with way := D.way ++ [x] } k).2 else readTo _ i k) = (if (wayAt D k).1 = i then (wayAt D k).2 else readTo D i k)
    rw [e, readTo_app D x i k (by omega)]
theorem readTo_op (D : Dk) (i : Nat) : ∀ k, readTo (opD D) i k = readTo D i k
  | 0 => rfl
  | k + 1 => by
    show (if (wayAt (opD D) k).1 = i then (wayAt (opD D) k).2 else readTo (opD D) i k) = (if (wayAt D k).1 = i then (wayAt D k).2 else readTo D i k)
    rw [readTo_op D i k]
    rfl
theorem readD_wr (D : Dk) (i j : Nat) (p : List Int) : readD (wrD D i p) j = if i = j then p else readD D j := by
  have hl : (wrD D i p).way.length = D.way.length + 1 := by show (D.way ++ [(i, p)]).length = _; simp
  unfold readD
  rw [hl]
  have e : wayAt (wrD D i p) D.way.length = (i, p) := by
    unfold wayAt
    show (D.way ++ [(i, p)]).getD _ _ = _
    rw [List.getD_eq_getElem?_getD, List.getElem?_append_right (Nat.le_refl _), Nat.sub_self]
    rfl
  show (if (wayAt (wrD D i p) D.way.length).1 = j then (wayAt (wrD D i p) D.way.length).2 else readTo (wrD D i p) j D.way.length) = _
  rw [e]
  have e2 : readTo (wrD D i p) j D.way.length = readTo (opD D) j D.way.length := readTo_app (opD D) (i, p) j D.way.length (Nat.le_refl _)
  rw [e2, readTo_op]
theorem setTo_read {D : Dk} (j : Nat) (hj : j < D.l.length) : ∀ k, (setTo D (fun _ => true) k).getD j [] = readTo D j k
  | 0 => rfl
  | k + 1 => by
    have ih := setTo_read j hj k
    have hl := setTo_len D (fun _ => true) k
    rw [setTo_yes rfl]
    by_cases h : (wayAt D k).1 = j
    · rw [readTo_yes h, h]
      simp [List.getD, List.getElem?_set, hl, hj]
    · rw [readTo_no h, ← ih]
      simp [List.getD, List.getElem?_set, h]
theorem readD_sync {D : Dk} (j : Nat) (hj : j < D.l.length) : readD (syncD D) j = readD D j := by
  show (setTo D (fun _ => true) D.way.length).getD j [] = readTo D j D.way.length
  exact setTo_read j hj _
theorem sync_len (D : Dk) : (syncD D).l.length = D.l.length := setTo_len D _ _
theorem readD_new (n j : Nat) (h : j < n) : readD (newD n) j = zeroS := by
  show (List.replicate n zeroS).getD j [] = zeroS
  simp [List.getD, h]
theorem newD_qt (n : Nat) : Qt (newD n) := ⟨rfl, rfl⟩
theorem readD_mk {D : Dk} (i j : Nat) (p : List Int) (h : j < D.l.length) : readD (syncD (wrD D i p)) j = if i = j then p else readD D j := by
  rw [readD_sync (D := wrD D i p) j h, readD_wr]
theorem mas_parts (L : Lg) : ((masterL L).take 4).drop 0 = [77, 76, 79, 71] ∧ ((masterL L).drop 4).take 8 = u8L L.epoch ∧ ((masterL L).drop 12).take 8 = u8L L.start ∧ ((masterL L).drop 20).take 8 = u8L L.check ∧ ((masterL L).drop 28).take 8 = u8L (sumL (headL L)) ∧ ((masterL L).take 28).drop 0 = headL L := by
  refine ⟨rfl, rfl, rfl, rfl, rfl, ?_⟩
  rw [List.drop_zero]
  unfold masterL
  rw [List.append_assoc]
  exact List.take_left' (headL_len L)
theorem mas_yes (L : Lg) : MasYes (masterL L) := by
  obtain ⟨h1, -, -, -, h5, h6⟩ := mas_parts L
  have hr := sumL_range (headL L)
  refine ⟨h1, ?_⟩
  rw [h5, h6, num_u8L hr.1 (by omega)]
theorem mas_L (L : Lg) (a c : Int) (h1 : 0 ≤ L.epoch ∧ L.epoch < 18446744073709551616) (h2 : 0 ≤ L.start ∧ L.start < 18446744073709551616) (h3 : 0 ≤ L.check ∧ L.check < 18446744073709551616) : masL (masterL L) a c = ⟨a, c, L.epoch, L.start, L.check, 0, 0, 0, []⟩ := by
  obtain ⟨-, e2, e3, e4, -, -⟩ := mas_parts L
  unfold masL
  rw [e2, e3, e4, num_u8L h1.1 h1.2, num_u8L h2.1 h2.2, num_u8L h3.1 h3.2]
theorem zero_no (k ep : Int) (h : k ≠ 0) : ¬ SecYes zeroS k ep := fun hy => h (hy.1.symm.trans rfl)
/-- A new log: the disk behind Format; the log that Open finds there; the disk behind it. -/
def fmD (n : Nat) (a c : Int) : Dk := mkD (newD n) a.toNat (masterL (fmtL a c))
def newL (a c : Int) : Lg := ⟨a, c, 2, 480, 0, 480, 0, 480, []⟩
def opnD (n : Nat) (a c : Int) : Dk := op3D (fmD n a c) a c
theorem fmD_eq (n : Nat) (a c : Int) : fmD n a c = syncD (wrD (newD n) a.toNat (masterL (fmtL a c))) := (newD_qt n).mkD _ _
theorem fmD_qt (n : Nat) (a c : Int) : Qt (fmD n a c) := by rw [fmD_eq]; exact ((newD_qt n).wr _ _).sy
theorem fmD_len (n : Nat) (a c : Int) : (fmD n a c).l.length = n := by
  rw [fmD_eq, sync_len]
  show (List.replicate n zeroS).length = n
  rw [List.length_replicate]
theorem fmD_read (n : Nat) (a c : Int) (j : Nat) (h : j < n) : readD (fmD n a c) j = if a.toNat = j then masterL (fmtL a c) else zeroS := by
  rw [fmD_eq, readD_mk _ _ _ (by show j < (List.replicate n zeroS).length; rw [List.length_replicate]; exact h), readD_new n j h]
theorem fmD_ops (n : Nat) (a c : Int) : (fmD n a c).ops = 2 := by rw [fmD_eq]; rfl
theorem fmD_way (n : Nat) (a c : Int) : (fmD n a c).way = [] := by rw [fmD_eq]; rfl
theorem gath_no {D : Dk} {L : Lg} {f k : Nat} {acc : List Int} {last : Int} (h : ¬ SecYes (readD D (idxL L k)) k L.epoch) : gath D L f k acc last = acc := by
  cases f with
  | zero => rfl
  | succ f => unfold gath; rw [if_neg (fun h2 => h h2.1)]
theorem fm_scan {n : Nat} {a c : Int} (ha : 0 ≤ a) (hc : 4 ≤ c) (hn : a ≤ n - 1 - c) : scanG (fmD n a c) (masL (readD (fmD n a c) a.toNat) a c) = [] := by
  have hr : readD (fmD n a c) a.toNat = masterL (fmtL a c) := by rw [fmD_read n a c _ (by omega), if_pos rfl]
  have hm := mas_L (fmtL a c) a c (by show (0 : Int) ≤ 1 ∧ (1 : Int) < _; omega) (by show (0 : Int) ≤ 480 ∧ (480 : Int) < _; omega) (by show (0 : Int) ≤ 0 ∧ (0 : Int) < _; omega)
  rw [hr, hm]
  unfold scanG
  have hi : idxL ⟨a, c, (fmtL a c).epoch, (fmtL a c).start, (fmtL a c).check, 0, 0, 0, []⟩ 1 = (a + 2).toNat := by
    unfold idxL
    show (a + 1 + ((1 : Nat) : Int) % c).toNat = _
    rw [show (((1 : Nat) : Int) % c) = 1 from Int.emod_eq_of_lt (by omega) (by omega)]
    congr 1
    omega
  refine gath_no (k := 1) ?_
  rw [hi, fmD_read n a c _ (by omega), if_neg (by omega)]
  exact zero_no _ _ (by decide)
theorem fm_opL {n : Nat} {a c : Int} (ha : 0 ≤ a) (hc : 4 ≤ c) (hn : a ≤ n - 1 - c) : opL (fmD n a c) a c = newL a c := by
  have hs := fm_scan ha hc hn
  have hr : readD (fmD n a c) a.toNat = masterL (fmtL a c) := by rw [fmD_read n a c _ (by omega), if_pos rfl]
  have hm := mas_L (fmtL a c) a c (by show (0 : Int) ≤ 1 ∧ (1 : Int) < _; omega) (by show (0 : Int) ≤ 480 ∧ (480 : Int) < _; omega) (by show (0 : Int) ≤ 0 ∧ (0 : Int) < _; omega)
  have hp : scanP (fmD n a c) (masL (readD (fmD n a c) a.toNat) a c) = 0 := by
    have := (scanP_le (fmD n a c) (masL (readD (fmD n a c) a.toNat) a c)).2
    rw [hs] at this
    simpa using this
  unfold opL scanL
  rw [hp, hs, hr, hm]
  rfl
theorem fm_mas {n : Nat} {a c : Int} (ha : 0 ≤ a) (hn : a < n) : readD (fmD n a c) a.toNat = masterL (fmtL a c) := by rw [fmD_read n a c _ (by omega), if_pos rfl]
theorem fm_E {n : Nat} {a c : Int} : op3E (fmD n a c) a c = 0 := by
  have h1 : op1E (fmD n a c) a c = 0 := (fmD_qt n a c).mkE _ _
  have q1 : Qt (op1D (fmD n a c) a c) := by unfold op1D; rw [(fmD_qt n a c).mkD]; exact ((fmD_qt n a c).wr _ _).sy
  have h2 : op2E (fmD n a c) a c = 0 := by unfold op2E; rw [if_pos h1]; exact q1.wrE
  have q2 : Qt (op2D (fmD n a c) a c) := by unfold op2D; rw [if_pos h1, q1.wr1]; exact q1.wr _ _
  unfold op3E
  rw [if_pos h2]
  exact q2.syE
theorem opnD_eq {n : Nat} {a c : Int} (ha : 0 ≤ a) (hc : 4 ≤ c) (hn : a ≤ n - 1 - c) : opnD n a c = syncD (wrD (syncD (wrD (fmD n a c) a.toNat (masterL (newL a c)))) (a + 2).toNat (layL 1 2 [])) := by
  have h1 : op1E (fmD n a c) a c = 0 := (fmD_qt n a c).mkE _ _
  have e1 : op1D (fmD n a c) a c = syncD (wrD (fmD n a c) a.toNat (masterL (newL a c))) := by unfold op1D; rw [(fmD_qt n a c).mkD, fm_opL ha hc hn]
  have q1 : Qt (op1D (fmD n a c) a c) := by rw [e1]; exact ((fmD_qt n a c).wr _ _).sy
  have h2 : op2E (fmD n a c) a c = 0 := by unfold op2E; rw [if_pos h1]; exact q1.wrE
  have e2 : op2D (fmD n a c) a c = wrD (op1D (fmD n a c) a c) (a + 2).toNat (layL 1 2 []) := by
    unfold op2D
    rw [if_pos h1, q1.wr1, fm_opL ha hc hn]
    have hi : idxL (newL a c) ((newL a c).base / 480).toNat = (a + 2).toNat := by
      unfold idxL
      show (a + 1 + ((1 : Nat) : Int) % c).toNat = _
      rw [show (((1 : Nat) : Int) % c) = 1 from Int.emod_eq_of_lt (by omega) (by omega)]
      congr 1
      omega
    rw [hi]
    rfl
  have q2 : Qt (op2D (fmD n a c) a c) := by rw [e2]; exact q1.wr _ _
  unfold opnD op3D
  rw [if_pos h2, q2.sy1, e2, e1]
theorem opnD_qt {n : Nat} {a c : Int} (ha : 0 ≤ a) (hc : 4 ≤ c) (hn : a ≤ n - 1 - c) : Qt (opnD n a c) := by
  rw [opnD_eq ha hc hn]
  exact (((((fmD_qt n a c).wr _ _).sy).wr _ _).sy)
theorem opnD_len {n : Nat} {a c : Int} (ha : 0 ≤ a) (hc : 4 ≤ c) (hn : a ≤ n - 1 - c) : (opnD n a c).l.length = n := by
  rw [opnD_eq ha hc hn, sync_len]
  show (syncD _).l.length = n
  rw [sync_len]
  exact fmD_len n a c
theorem opnD_way {n : Nat} {a c : Int} (ha : 0 ≤ a) (hc : 4 ≤ c) (hn : a ≤ n - 1 - c) : (opnD n a c).way = [] := by rw [opnD_eq ha hc hn]; rfl
theorem opnD_ops {n : Nat} {a c : Int} (ha : 0 ≤ a) (hc : 4 ≤ c) (hn : a ≤ n - 1 - c) : (opnD n a c).ops = 6 := by
  rw [opnD_eq ha hc hn]
  show (fmD n a c).ops + 1 + 1 + 1 + 1 = 6
  rw [fmD_ops]
  rfl
theorem newL_ok {a c : Int} (ha : 0 ≤ a) (ha2 : a ≤ 4096) (hc : 4 ≤ c) (hc2 : c ≤ 4096) : LgOk (newL a c) :=
  ⟨⟨ha, ha2⟩, ⟨hc, hc2⟩, by show (0 : Int) ≤ 2 ∧ (2 : Int) < _; omega, by show (0 : Int) ≤ 480 ∧ (480 : Int) ≤ 480; omega, by show (0 : Int) ≤ 0 ∧ (0 : Int) ≤ 480; omega, by show (480 : Int) ≤ 480 + 0; omega, by show (0 : Int) ≤ 0 ∧ (0 : Int) ≤ _; omega, by show (0 : Int) ≤ 480 ∧ (480 : Int) ≤ _; omega, by show 0 ≤ _; omega, by show (480 : Int) + 0 + 0 ≤ (480 / 480 + c) * 480; omega⟩
end Go.Proofs.Ytggeepihkeocmaa
/- The log laws' fresh. -/
namespace Go.Proofs.Ytggeepihkeocmaa
set_option linter.unusedVariables false
set_option linter.unusedSimpArgs false
open Go.RowKit
/-- Open on a disk that was just formatted. -/
theorem lopen_fm {base d lb n : Nat} {F : Nat → Prop} (a c : Int) (i : Nat) (w : World) (h : DD w base d lb F (fmD n a c)) (hi : (i : Int) = a) (hc : 4 ≤ c) (hc2 : c ≤ 4096) (hn : a ≤ n - 1 - c) (hn2 : n ≤ 4096) :
    Calls Try.prog 63 #[.pointer (some ⟨d, 0, none⟩), .int .i64 a, .int .i64 c] w fun e w' =>
      ∃ F' g bA bc, e = .returned (.tuple #[.pointer (some ⟨g, 0, none⟩), .int .i64 0]) ∧ DD w' base d lb F' (opnD n a c) ∧ Grew F F' w.heap.size ∧ Mod F w w' ∧ w.heap.size ≤ g ∧ LgH w' base d g bA bc (newL a c) ∧ (∀ b, ownBlk bA = some b → w.heap.size ≤ b) := by
  have hbw : base ≤ w.heap.size := by have := h.lts d h.d; omega
  have hin : a.toNat = i := by omega
  have hlk : llookE (fmD n a c) a c = 0 := by unfold llookE; rw [fmD_len]; exact if_neg (by omega)
  have hm := fm_mas (n := n) (a := a) (c := c) (by omega) (by omega)
  rw [hin] at hm
  have hmL := mas_L (fmtL a c) a c (by show (0 : Int) ≤ 1 ∧ (1 : Int) < _; omega) (by show (0 : Int) ≤ 480 ∧ (480 : Int) < _; omega) (by show (0 : Int) ≤ 0 ∧ (0 : Int) < _; omega)
  have hpt := mas_parts (fmtL a c)
  refine (lopen_w a c i w h hlk hi (fmD_qt n a c).2 (by rw [fmD_ops]; omega) (by rw [fmD_way]; simp) (fun _ => ?_)).mono ?_
  · rw [hm, hpt.2.1, hpt.2.2.1, num_u8L (by show (0 : Int) ≤ 1; omega) (by show (1 : Int) < _; omega), num_u8L (by show (0 : Int) ≤ 480; omega) (by show (480 : Int) < _; omega)]
    exact ⟨by show (1 : Int) < _; omega, by show (480 : Int) < _; omega⟩
  · rintro e w' (⟨hno, -⟩ | ⟨-, hsh, -⟩ | ⟨-, -, ⟨F', hD', hg'⟩, hm', (⟨hne, -⟩ | ⟨-, g, bA, bc, rfl, hgw, hW, hO⟩)⟩)
    · exact absurd (by rw [hm]; exact mas_yes _) hno
    · rw [hm, hmL] at hsh
      exact absurd hsh (by show ¬ (_ < ((480 : Int) % 480).toNat); simp)
    · exact absurd fm_E hne
    · rw [fm_opL (by omega) hc hn] at hW hO
      exact ⟨F', g, bA, bc, rfl, hD', hg', hm', hgw, ⟨hW.at_, hO.less hbw, Nat.le_trans hbw hgw, newL_ok (by omega) (by omega) hc hc2⟩, fun b hb => (hO.lt b hb).1⟩
set_option maxRecDepth 100000 in
set_option maxHeartbeats 2000000 in
theorem fresh_calls (c : Nat) (hc : 4 ≤ c) (hc2 : c ≤ 4093) (w : World) :
    Calls Try.prog 33 #[.int .i64 c] w fun e w' =>
      ∃ d lb g bA bc F, e = .returned (.tuple #[.pointer (some ⟨d, 0, none⟩), .pointer (some ⟨g, 0, none⟩)]) ∧ DD w' w.heap.size d lb F (opnD (c + 3) 1 c) ∧ LgH w' w.heap.size d g bA bc (newL 1 c) ∧ Below w.heap.size w w' := by
  have hw : IntKind.i64.wrap ((c : Int) + 3) = ((c + 3 : Nat) : Int) := by rw [IntWalk.i64_in _ (by omega)]; omega
  have hlk : llookE (newD (c + 3)) 1 c = 0 := by
    unfold llookE
    refine if_neg ?_
    have : (newD (c + 3)).l.length = c + 3 := List.length_replicate
    rw [this]
    omega
  have hmk : mkD (newD (c + 3)) 1 (masterL (fmtL 1 c)) = fmD (c + 3) 1 c := rfl
  have hmE : mkE (newD (c + 3)) 1 (masterL (fmtL 1 c)) = 0 := (newD_qt (c + 3)).mkE _ _
  have hmkx := Lib.hid hmk
  have hmEx := Lib.hid hmE
  clear hmk hmE
  go_enter Try.func33, Try.ntmps33
  go_wp2_with fail
  refine (new_calls (c + 3) (by omega) (by omega) w).mono ?_
  rintro e w1 ⟨d, lb, rfl, hd0, hb1, hdd, hlb⟩
  have hD1 : DD w1 w.heap.size d lb (Foot d lb none) (newD (c + 3)) := DD.of ⟨hd0, hdd, hlb, fun b hb => by cases hb⟩
  clear hd0
  go_wp2_with fail
  refine (lformat_ok 1 c 1 w1 hD1 hlk rfl (by show (0 : Int) + 1 < _; omega) (by show 0 < _; omega)).mono ?_
  rw [hmkx.out, hmEx.out]
  rintro e w2 ⟨rfl, ⟨F2, hD2, hg2⟩, hm2⟩
  have hB2 : Below w.heap.size w w2 := below_tr hb1 (hm2.below hb1.size (fun k hk => (hD1.lts k hk).1))
  go_wp2_with fail
  refine (lopen_fm 1 c 1 w2 hD2 rfl (by omega) (by omega) (by omega) (by omega)).mono ?_
  rintro e w3 ⟨F3, g, bA, bc, rfl, hD3, hg3, hm3, hgw, hL3, -⟩
  have hB3 : Below w.heap.size w w3 := below_tr hB2 (hm3.below hB2.size (fun k hk => (hD2.lts k hk).1))
  go_wp2
  go_ret2
  exact ⟨d, lb, g, bA, bc, F3, by first | rfl | simp, hD3, hL3, hB3⟩
end Go.Proofs.Ytggeepihkeocmaa
/- The log's Release by its contract. -/
namespace Go.Proofs.Ytggeepihkeocmaa
set_option linter.unusedVariables false
set_option linter.unusedSimpArgs false
open Go.RowKit
def heldL (L : Lg) (k : Int) : Lg := { L with held := k }
theorem LgH.held {w : World} {base d g bc : Nat} {bA : Option Addr} {L : Lg} (h : LgH w base d g bA bc L) {k : Int} (hok : LgOk (heldL L k)) : LgH (w.setCell ⟨g, 7, none⟩ (.int .i64 k)) base d g bA bc (heldL L k) :=
  ⟨At.set (o := 7) (v := .int .i64 k) h.at_, ownBlk_set h.buf (Ne.symm h.neb), h.hg, hok⟩
set_option maxRecDepth 100000 in
set_option maxHeartbeats 4000000 in
/-- Spend's refusals: an empty record, a long one, one longer than what is held. -/
theorem lspend_arg {base d g bc c : Nat} {bA A : Option Addr} {L : Lg} (w : World) (h : LgH w base d g bA bc L) :
    Calls Try.prog 36 #[.pointer (some ⟨g, 0, none⟩), .slice A 0 c] w fun e w' => e = .returned (.tuple #[.int .u64 0, .int .i64 1]) ∧ ∃ k, w' = w.drewN k := by
  have k0 := h.at_
  have k0c := k0.c; have k0f := k0.f; have k0l := k0.lt
  clear h
  go_enter Try.func36, Try.ntmps36
  go_wp2_with fail
  go_ret2
  exact ⟨by first | rfl | simp, 0, rfl⟩
set_option maxRecDepth 100000 in
set_option maxHeartbeats 4000000 in
theorem lspend_long {base d g bc n c : Nat} {bA A : Option Addr} {L : Lg} (w : World) (h : LgH w base d g bA bc L) (hn : 1200 < n) :
    Calls Try.prog 36 #[.pointer (some ⟨g, 0, none⟩), .slice A n c] w fun e w' => e = .returned (.tuple #[.int .u64 0, .int .i64 2]) ∧ ∃ k, w' = w.drewN k := by
  have k0 := h.at_
  have k0c := k0.c; have k0f := k0.f; have k0l := k0.lt
  clear h
  have c1 : decide ((n : Int) = 0) = false := by simp; omega
  have c2 : decide ((1200 : Int) < n) = true := by simp; omega
  go_enter Try.func36, Try.ntmps36
  go_wp2_with fail
  go_ret2
  exact ⟨by first | rfl | simp, 0, rfl⟩
set_option maxRecDepth 100000 in
set_option maxHeartbeats 4000000 in
theorem lspend_full {base d g bc n c : Nat} {bA A : Option Addr} {L : Lg} (w : World) (h : LgH w base d g bA bc L) (h0 : 0 < n) (hn : n ≤ 1200) (hf : L.held < n + 2) :
    Calls Try.prog 36 #[.pointer (some ⟨g, 0, none⟩), .slice A n c] w fun e w' => e = .returned (.tuple #[.int .u64 0, .int .i64 9]) ∧ ∃ k, w' = w.drewN k := by
  have k0 := h.at_
  have k0c := k0.c; have k0f := k0.f; have k0l := k0.lt
  clear h
  have c1 : decide ((n : Int) = 0) = false := by simp; omega
  have c2 : decide ((1200 : Int) < n) = false := by simp; omega
  have hz : IntKind.i64.wrap ((n : Int) + 2) = n + 2 := IntWalk.i64_in _ (by omega)
  have c3 : decide (L.held < (n : Int) + 2) = true := by simp; omega
  go_enter Try.func36, Try.ntmps36
  go_wp2_with fail
  go_ret2
  exact ⟨by first | rfl | simp, 0, rfl⟩
/-- What Spend leaves. -/
def spendL (L : Lg) (p : List Int) : Lg := putL (heldL L (L.held - (p.length + 2))) p
set_option maxRecDepth 100000 in
set_option maxHeartbeats 4000000 in
theorem lspend_ok {base d g bc n c : Nat} {bA A : Option Addr} {L : Lg} {p : List Int} (w : World) (h : LgH w base d g bA bc L) (hbw : base ≤ w.heap.size) (hp : BsR w 0 w.heap.size A n p) (hpd : 0 < n → ∀ b, ownBlk A = some b → ¬ LFoot g bA b) (h0 : 0 < n) (hn : n ≤ 1200) (hf : (n : Int) + 2 ≤ L.held) (hok1 : LgOk (heldL L (L.held - (n + 2)))) (hok : LgOk (spendL L p)) :
    Calls Try.prog 36 #[.pointer (some ⟨g, 0, none⟩), .slice A n c] w fun e w' => e = .returned (.tuple #[.int .u64 (endL L), .int .i64 0]) ∧ (∃ bA' bc', LgH w' base d g bA' bc' (spendL L p) ∧ ∀ b, ownBlk bA' = some b → ownBlk bA = some b ∨ w.heap.size ≤ b) ∧ Mod (LFoot g bA) w w' := by
  have k0 := h.at_
  have hh := h.ok.held
  have hln := hp.1
  have hsp : spendL L p = putL (heldL L (L.held - (n + 2))) p := by unfold spendL; rw [hln]
  rw [hsp] at hok ⊢
  have k0c := k0.c; have k0f := k0.f; have k0l := k0.lt
  have hx : ∀ w1, w1 = w.setCell ⟨g, 7, none⟩ (.int .i64 (L.held - (n + 2))) → LgH w1 base d g bA bc (heldL L (L.held - (n + 2))) ∧ Mod (LFoot g bA) w w1 ∧ BsR w1 0 w.heap.size A n p := by
    rintro _ rfl
    have m := (Mod.refl (LFoot g bA) w).set (k := g) (o := 7) (.inl (.inl rfl)) (.int .i64 (L.held - (n + 2)))
    refine ⟨h.held hok1, m, hp.apart (row := some g) ((Mod.refl (fun k => k = g) w).set (.inl rfl) (.int .i64 (L.held - (n + 2))) |> fun m => ⟨m.os, m.tape, m.output, m.size, fun k hk hn => m.block k hk (fun e => hn (by rw [e]))⟩) (fun hm b hb e => hpd hm b hb (.inl (by injection e with e; exact e.symm))) (Nat.le_refl _)⟩
  have c1 : decide ((n : Int) = 0) = false := by simp; omega
  have c2 : decide ((1200 : Int) < n) = false := by simp; omega
  have hz : IntKind.i64.wrap ((n : Int) + 2) = n + 2 := IntWalk.i64_in _ (by omega)
  have hz2 : IntKind.i64.wrap (L.held - ((n : Int) + 2)) = L.held - (n + 2) := IntWalk.i64_in _ (by omega)
  have c3 : decide (L.held < (n : Int) + 2) = false := by simp; omega
  go_enter Try.func36, Try.ntmps36
  go_upto_region 10 with (fail)
  generalize hw1 : w.setCell ⟨g, 7, none⟩ (.int .i64 (L.held - (n + 2))) = w1
  obtain ⟨f1, f2, f3⟩ := hx w1 hw1.symm
  clear hx hw1 k0 k0c k0f k0l h
  go_wp2_with fail
  refine (lput_calls w1 f1 (Nat.le_trans hbw f2.size) (f3.more f2.size) hpd hn hok).mono ?_
  rintro e wK ⟨rfl, ⟨bA', bc', g1, g2⟩, g3⟩
  go_wp2_with fail
  go_ret2
  exact ⟨by first | rfl | simp [endL, heldL], ⟨bA', bc', g1, fun b hb => (g2 b hb).imp id (fun x => Nat.le_trans f2.size x)⟩, f2.trans g3 (fun _ _ h => h)⟩
end Go.Proofs.Ytggeepihkeocmaa
/- The log's Append by its contract. -/
namespace Go.Proofs.Ytggeepihkeocmaa
set_option linter.unusedVariables false
set_option linter.unusedSimpArgs false
open Go.RowKit
def appL (L : Lg) (hold : Int) (p : List Int) : Lg := putL (heldL L (L.held + hold)) p
set_option maxRecDepth 100000 in
set_option maxHeartbeats 4000000 in
theorem lapp_arg {base d g bc n c : Nat} {bA A : Option Addr} {L : Lg} (hold : Int) (w : World) (h : LgH w base d g bA bc L) (hx : hold < 0 ∨ n = 0) :
    Calls Try.prog 20 #[.pointer (some ⟨g, 0, none⟩), .slice A n c, .int .i64 hold] w fun e w' => e = .returned (.tuple #[.int .u64 0, .int .i64 1]) ∧ ∃ k, w' = w.drewN k := by
  clear h
  rcases Bool.eq_false_or_eq_true (decide (hold < 0)) with c1 | c1
  · clear hx
    go_enter Try.func20, Try.ntmps20
    go_wp2_with fail
    go_ret2
    exact ⟨by first | rfl | simp, 0, rfl⟩
  · have hn : n = 0 := by simp at c1; omega
    subst hn
    clear hx
    go_enter Try.func20, Try.ntmps20
    go_wp2_with fail
    go_ret2
    exact ⟨by first | rfl | simp, 0, rfl⟩
set_option maxRecDepth 100000 in
set_option maxHeartbeats 4000000 in
theorem lapp_long {base d g bc n c : Nat} {bA A : Option Addr} {L : Lg} (hold : Int) (w : World) (h : LgH w base d g bA bc L) (h0 : 0 ≤ hold) (hn : 1200 < n) :
    Calls Try.prog 20 #[.pointer (some ⟨g, 0, none⟩), .slice A n c, .int .i64 hold] w fun e w' => e = .returned (.tuple #[.int .u64 0, .int .i64 2]) ∧ ∃ k, w' = w.drewN k := by
  clear h
  have c0 : decide (hold < 0) = false := by simp; omega
  have c1 : decide ((n : Int) = 0) = false := by simp; omega
  have c2 : decide ((1200 : Int) < n) = true := by simp; omega
  go_enter Try.func20, Try.ntmps20
  go_wp2_with fail
  go_ret2
  exact ⟨by first | rfl | simp, 0, rfl⟩
set_option maxRecDepth 100000 in
set_option maxHeartbeats 4000000 in
theorem lapp_full {base d g bc n c : Nat} {bA A : Option Addr} {L : Lg} (hold : Int) (w : World) (h : LgH w base d g bA bc L) (h0 : 0 ≤ hold) (hn0 : 0 < n) (hn : n ≤ 1200) (hf : roomL L < hold ∨ roomL L - hold < n + 2) :
    Calls Try.prog 20 #[.pointer (some ⟨g, 0, none⟩), .slice A n c, .int .i64 hold] w fun e w' => e = .returned (.tuple #[.int .u64 0, .int .i64 9]) ∧ ∃ k, w' = w.drewN k := by
  obtain ⟨rm, hrm⟩ : ∃ rm, roomL L = rm := ⟨_, rfl⟩
  rw [hrm] at hf
  have hhx := Lib.hid h
  have hrx := Lib.hid hrm
  clear h hrm
  have c0 : decide (hold < 0) = false := by simp; omega
  have c1 : decide ((n : Int) = 0) = false := by simp; omega
  have c2 : decide ((1200 : Int) < n) = false := by simp; omega
  have hz : IntKind.i64.wrap ((n : Int) + 2) = n + 2 := IntWalk.i64_in _ (by omega)
  rcases Bool.eq_false_or_eq_true (decide (rm < hold)) with c3 | c3
  · clear hf
    go_enter Try.func20, Try.ntmps20
    go_wp2_with fail
    refine (lroom_q w rm hhx.out hrx.out).mono ?_
    rintro e w1 ⟨rfl, kd, rfl⟩
    go_wp2_with fail
    go_ret2
    exact ⟨by first | rfl | simp, kd, rfl⟩
  · have hlo : (-4611686018427387904 : Int) ≤ rm ∧ rm ≤ 4611686018427387904 := by
      rw [← hrx.out]; have h9 := hhx.out.ok; have h1 := h9.start; have h2 := h9.count; have h3 := h9.held; have h4 := h9.room; have h5 := h9.sure; have h6 := h9.base; have h7 := h9.buf
      unfold roomL; unfold endL at *; omega
    have hz2 : IntKind.i64.wrap (rm - hold) = rm - hold := IntWalk.i64_in _ (by simp at c3; omega)
    have c4 : decide (rm - hold < (n : Int) + 2) = true := by simp at c3 ⊢; omega
    clear hf
    go_enter Try.func20, Try.ntmps20
    go_wp2_with fail
    refine (lroom_q w rm hhx.out hrx.out).mono ?_
    rintro e w1 ⟨rfl, kd, rfl⟩
    go_wp2_with fail
    refine (lroom_q _ rm (hhx.out.drewN _) hrx.out).mono ?_
    rintro e w2 ⟨rfl, ke, rfl⟩
    go_wp2_with fail
    go_ret2
    exact ⟨by first | rfl | simp, kd + ke, rfl⟩
set_option maxRecDepth 100000 in
set_option maxHeartbeats 4000000 in
theorem lapp_ok {base d g bc n c : Nat} {bA A : Option Addr} {L : Lg} {p : List Int} (hold : Int) (w : World) (h : LgH w base d g bA bc L) (hbw : base ≤ w.heap.size) (hp : BsR w 0 w.heap.size A n p) (hpd : 0 < n → ∀ b, ownBlk A = some b → ¬ LFoot g bA b) (h0 : 0 ≤ hold) (hn0 : 0 < n) (hn : n ≤ 1200) (hf : (n : Int) + 2 ≤ roomL L - hold) (hok1 : LgOk (heldL L (L.held + hold))) (hok : LgOk (appL L hold p)) :
    Calls Try.prog 20 #[.pointer (some ⟨g, 0, none⟩), .slice A n c, .int .i64 hold] w fun e w' => e = .returned (.tuple #[.int .u64 (endL L), .int .i64 0]) ∧ (∃ bA' bc', LgH w' base d g bA' bc' (appL L hold p) ∧ ∀ b, ownBlk bA' = some b → ownBlk bA = some b ∨ w.heap.size ≤ b) ∧ Mod (LFoot g bA) w w' := by
  obtain ⟨rm, hrm⟩ : ∃ rm, roomL L = rm := ⟨_, rfl⟩
  rw [hrm] at hf
  have hhx := Lib.hid h
  have hrx := Lib.hid hrm
  have hh := hok1.held
  have hh2 := h.ok.held
  have hkeep : ∀ k, At (w.drewN k) g #[.pointer (some ⟨d, 0, none⟩), .int .i64 L.pos, .int .i64 L.count, .int .u64 L.epoch, .int .u64 L.start, .int .u64 L.check, .int .u64 L.sure, .int .i64 L.held, .int .u64 L.base, .slice bA L.buf.length bc] 113 := fun k => (hhx.out.drewN k).at_
  have hx : ∀ k w1, w1 = (w.drewN k).setCell ⟨g, 7, none⟩ (.int .i64 (L.held + hold)) → LgH w1 base d g bA bc (heldL L (L.held + hold)) ∧ Mod (LFoot g bA) w w1 ∧ BsR w1 0 w.heap.size A n p := by
    rintro k _ rfl
    have m := ((Mod.refl (LFoot g bA) w).drewN k).set (k := g) (o := 7) (.inl (.inl rfl)) (.int .i64 (L.held + hold))
    refine ⟨(hhx.out.drewN k).held hok1, m, hp.apart (row := some g) (((Mod.refl (fun k => k = g) w).drewN k).set (.inl rfl) (.int .i64 (L.held + hold)) |> fun m => ⟨m.os, m.tape, m.output, m.size, fun k hk hn => m.block k hk (fun e => hn (by rw [e]))⟩) (fun hm b hb e => hpd hm b hb (.inl (by injection e with e; exact e.symm))) (Nat.le_refl _)⟩
  have hlo : (-4611686018427387904 : Int) ≤ rm ∧ rm ≤ 4611686018427387904 := by
    rw [← hrm]; have h9 := h.ok; have h1 := h9.start; have h2 := h9.count; have h3 := h9.held; have h4 := h9.room; have h5 := h9.sure; have h6 := h9.base; have h7 := h9.buf
    unfold roomL; unfold endL at *; omega
  have c0 : decide (hold < 0) = false := by simp; omega
  have c1 : decide ((n : Int) = 0) = false := by simp; omega
  have c2 : decide ((1200 : Int) < n) = false := by simp; omega
  have hz : IntKind.i64.wrap ((n : Int) + 2) = n + 2 := IntWalk.i64_in _ (by omega)
  have c3 : decide (rm < hold) = false := by simp; omega
  have hz2 : IntKind.i64.wrap (rm - hold) = rm - hold := IntWalk.i64_in _ (by omega)
  have c4 : decide (rm - hold < (n : Int) + 2) = false := by simp; omega
  have hz3 : IntKind.i64.wrap (L.held + hold) = L.held + hold := IntWalk.i64_in _ (by have h1 : L.held + hold ≤ 1099511627776 := hh.2; omega)
  clear h hrm
  go_enter Try.func20, Try.ntmps20
  go_wp2_with fail
  refine (lroom_q w rm hhx.out hrx.out).mono ?_
  rintro e w1 ⟨rfl, kd, rfl⟩
  go_wp2_with fail
  refine (lroom_q _ rm (hhx.out.drewN _) hrx.out).mono ?_
  rintro e w2 ⟨rfl, ke, rfl⟩
  have k0 := hkeep (kd + ke)
  have k0c := k0.c; have k0f := k0.f; have k0l := k0.lt
  go_upto_region 10 with (fail)
  generalize hw1 : (w.drewN (kd + ke)).setCell ⟨g, 7, none⟩ (.int .i64 (L.held + hold)) = w1
  obtain ⟨f1, f2, f3⟩ := hx _ w1 hw1.symm
  clear hx hw1 k0 k0c k0f k0l hkeep
  go_wp2_with fail
  refine (lput_calls w1 f1 (Nat.le_trans hbw f2.size) (f3.more f2.size) hpd hn hok).mono ?_
  rintro e wK ⟨rfl, ⟨bA', bc', g1, g2⟩, g3⟩
  go_wp2_with fail
  go_ret2
  exact ⟨by first | rfl | simp [endL, heldL], ⟨bA', bc', g1, fun b hb => (g2 b hb).imp id (fun x => Nat.le_trans f2.size x)⟩, f2.trans g3 (fun _ _ h => h)⟩
end Go.Proofs.Ytggeepihkeocmaa
