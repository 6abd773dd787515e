/- record.Form by its contract. -/
import Derived.Test.YtjgomebnlekddaaOctet
import Derived.Test.YtjgomebnlekddaaMem
import Derived.Deep.LoopGhost
import Derived.Deep.QuietTactic
import Derived.Deep.DeepCutAuto
namespace Go.Proofs.Ytjgomebnlekddaa
set_option linter.unusedVariables false
set_option linter.unusedSimpArgs false
open Go.RowKit
/-- A record, as its cells have it: the slices' addresses, lengths and capacities among them. -/
structure RecV where
  kind : Int
  tx : Int
  prev : Int
  page : Int
  off : Int
  bA : Option Addr
  bN : Nat
  bC : Nat
  aA : Option Addr
  aN : Nat
  aC : Nat
  next : Int
  dA : Option Addr
  dN : Nat
  dC : Nat
  opn : Bool
def RecV.cells (r : RecV) : Array Value := #[.int .u8 r.kind, .int .u64 r.tx, .int .u64 r.prev, .int .i64 r.page, .int .i64 r.off, .slice r.bA r.bN r.bC, .slice r.aA r.aN r.aC, .int .u64 r.next, .slice r.dA r.dN r.dC, .bool r.opn]
def plainB (page off : Int) (bN aN : Nat) (next : Int) : Bool := (page == 0) && (off == 0) && decide (bN = 0) && decide (aN = 0) && (next == 0)
def listB (dN : Nat) (opn : Bool) : Bool := decide (dN = 0) && !opn
def placeB (page off : Int) (aN : Nat) : Bool := decide (0 ≤ page) && decide (page < 4096) && decide (0 ≤ off) && decide (1 ≤ aN) && decide (aN ≤ 512) && decide (off ≤ 512 - (aN : Int))
def dirtyOk : Int → List (Int × Int) → Bool
  | _, [] => true
  | last, (p, _) :: l => decide (0 ≤ p) && decide (last < p) && decide (p < 4096) && dirtyOk p l
def formB (k prev page off next : Int) (bN aN dN : Nat) (opn dirtyOk : Bool) : Bool :=
  if k = 1 then plainB page off bN aN next && listB dN opn && (prev == 0)
  else if k = 4 ∨ k = 5 then plainB page off bN aN next && listB dN opn
  else if k = 2 then placeB page off aN && listB dN opn && decide (bN = aN) && (next == 0)
  else if k = 3 then placeB page off aN && listB dN opn && ((bN : Int) == 0)
  else if k = 6 then dirtyOk && plainB page off bN aN next && decide (dN ≤ 64)
  else false
theorem dirtyOk_iff (l : List (Int × Int)) : ∀ last : Int, dirtyOk last l = true ↔ ∀ j, j < l.length → 0 ≤ (l.getD j (0, 0)).1 ∧ (l.getD j (0, 0)).1 < 4096 ∧ (if j = 0 then last else (l.getD (j - 1) (0, 0)).1) < (l.getD j (0, 0)).1 := by
  induction l with
  | nil => intro last; simp [dirtyOk]
  | cons d l ih =>
    intro last
    obtain ⟨p, q⟩ := d
    unfold dirtyOk
    rw [Bool.and_eq_true, ih p]
    constructor
    · rintro ⟨h1, h2⟩ j hj
      simp at h1
      rcases j with _ | j
      · simp; omega
      · have := h2 j (by simpa using hj)
        rcases j with _ | j
        · simpa using this
        · simpa using this
    · intro h
      refine ⟨?_, fun j hj => ?_⟩
      · have := h 0 (by simp)
        simp at this ⊢; omega
      · have := h (j + 1) (by simpa using hj)
        rcases j with _ | j
        · simpa using this
        · simpa using this
theorem dirtyOk_no (l : List (Int × Int)) (k : Nat) (hk : k < l.length) (h : (l.getD k (0, 0)).1 < 0 ∨ 4096 ≤ (l.getD k (0, 0)).1 ∨ (0 < k ∧ (l.getD k (0, 0)).1 ≤ (l.getD (k - 1) (0, 0)).1)) : dirtyOk (-1) l = false := by
  rw [Bool.eq_false_iff]
  intro hh
  have := (dirtyOk_iff l (-1)).1 hh k hk
  by_cases h0 : k = 0
  · rw [if_pos h0] at this; omega
  · rw [if_neg h0] at this; omega
theorem dirty_more {l : List (Int × Int)} {k : Nat} (h : ∀ i, i < k → 0 ≤ (l.getD i (0, 0)).1 ∧ (l.getD i (0, 0)).1 < 4096 ∧ (0 < i → (l.getD (i - 1) (0, 0)).1 < (l.getD i (0, 0)).1)) (hk : 0 ≤ (l.getD k (0, 0)).1 ∧ (l.getD k (0, 0)).1 < 4096 ∧ (0 < k → (l.getD (k - 1) (0, 0)).1 < (l.getD k (0, 0)).1)) :
    ∀ i, i < k + 1 → 0 ≤ (l.getD i (0, 0)).1 ∧ (l.getD i (0, 0)).1 < 4096 ∧ (0 < i → (l.getD (i - 1) (0, 0)).1 < (l.getD i (0, 0)).1) := by
  intro i hi
  rcases Nat.lt_or_ge i k with h1 | h1
  · exact h i h1
  · obtain rfl : i = k := by omega
    exact hk
theorem dirtyOk_yes (l : List (Int × Int)) (h : ∀ j, j < l.length → 0 ≤ (l.getD j (0, 0)).1 ∧ (l.getD j (0, 0)).1 < 4096 ∧ (0 < j → (l.getD (j - 1) (0, 0)).1 < (l.getD j (0, 0)).1)) : dirtyOk (-1) l = true := by
  rw [dirtyOk_iff]
  intro j hj
  have := h j hj
  by_cases h0 : j = 0
  · rw [if_pos h0]; omega
  · rw [if_neg h0]; exact ⟨this.1, this.2.1, this.2.2 (by omega)⟩
set_option maxRecDepth 100000 in
set_option maxHeartbeats 4000000 in
theorem form_calls (k tx prev page off next : Int) (bA aA dA : Option Addr) (bN bC aN aC dN dC : Nat) (opn : Bool) (l : List (Int × Int)) (w : World) (hl : PrR w 0 w.heap.size dA dN l) (hn : dN * 16 ≤ 140737488351232) :
    Calls Try.prog 58 #[.agg #[.int .u8 k, .int .u64 tx, .int .u64 prev, .int .i64 page, .int .i64 off, .slice bA bN bC, .slice aA aN aC, .int .u64 next, .slice dA dN dC, .bool opn]] w fun e w' => e = .returned (.bool (formB k prev page off next bN aN dN opn (dirtyOk (-1) l))) ∧ Below w.heap.size w w' := by
  go_enter Try.func58, Try.ntmps58
  go_upto_region 1 with (fail)
  have k1 := At.new w #[.int .u8 k, .int .u64 tx, .int .u64 prev, .int .i64 page, .int .i64 off, .slice bA bN bC, .slice aA aN aC, .int .u64 next, .slice dA dN dC, .bool opn] 26
  have hB : Below w.heap.size w (w.alloc (.cells #[.int .u8 k, .int .u64 tx, .int .u64 prev, .int .i64 page, .int .i64 off, .slice bA bN bC, .slice aA aN aC, .int .u64 next, .slice dA dN dC, .bool opn] 26)) := (Below.refl _ _).alloc (Nat.le_refl _) _
  generalize (w.alloc (.cells #[.int .u8 k, .int .u64 tx, .int .u64 prev, .int .i64 page, .int .i64 off, .slice bA bN bC, .slice aA aN aC, .int .u64 next, .slice dA dN dC, .bool opn] 26)) = w0 at *
  go_cut [0, 3] (fun _ v3 wc => v3 = .bool (plainB page off bN aN next) ∧ wc = w0)
  case first =>
    have k1c := k1.c; have k1f := k1.f; have k1l := k1.lt
    go_wp2
    all_goals go_meet
    all_goals (case rel => exact ⟨by unfold plainB; first | (simp [*]; done) | (simp [*]; omega), rfl⟩)
  case rest =>
    obtain ⟨rfl, rfl⟩ := hcut
    generalize hp : plainB page off bN aN next = pl at *
    go_upto_region 2 with (fail)
    go_cut [4] (fun v4 wc1 => v4 = .bool (listB dN opn) ∧ wc1 = wc)
    case first =>
      have k1c := k1.c; have k1f := k1.f; have k1l := k1.lt
      go_wp2
      all_goals go_meet
      all_goals (case rel => exact ⟨by unfold listB; first | (simp [*]; done) | (simp [*]; omega), rfl⟩)
    case rest =>
      obtain ⟨rfl, rfl⟩ := hcut
      go_upto_region 3 with (fail)
      go_cut [5] (fun v5 wc2 => v5 = .bool (placeB page off aN) ∧ wc2 = wc)
      case first =>
        have k1c := k1.c; have k1f := k1.f; have k1l := k1.lt
        go_wp2
        all_goals go_meet
        all_goals (case rel => exact ⟨by unfold placeB; first | (simp [*]; done) | (simp [*]; omega), rfl⟩)
      case rest =>
        obtain ⟨rfl, rfl⟩ := hcut
        generalize hq : listB dN opn = ls at *
        generalize hr : placeB page off aN = pc at *
        have hp' := Lib.hid hp
        have hq' := Lib.hid hq
        have hr' := Lib.hid hr
        clear hp hq hr
        have k1c := k1.c; have k1f := k1.f; have k1l := k1.lt
        by_cases h1 : k = 1
        · subst h1
          go_wp2
          all_goals go_ret
          all_goals (refine ⟨ret_bool ?_, hB⟩; unfold formB; rw [hp'.out, hq'.out, hr'.out]; first | (simp [*]; done) | (simp [*]; omega))
        · by_cases h4 : k = 4
          · subst h4
            go_wp2
            all_goals go_ret
            all_goals (refine ⟨ret_bool ?_, hB⟩; unfold formB; rw [hp'.out, hq'.out, hr'.out]; first | (simp [*]; done) | (simp [*]; omega))
          · by_cases h5 : k = 5
            · subst h5
              go_wp2
              all_goals go_ret
              all_goals (refine ⟨ret_bool ?_, hB⟩; unfold formB; rw [hp'.out, hq'.out, hr'.out]; first | (simp [*]; done) | (simp [*]; omega))
            · by_cases h2 : k = 2
              · subst h2
                go_wp2
                all_goals go_ret
                all_goals (refine ⟨ret_bool ?_, hB⟩; unfold formB; rw [hp'.out, hq'.out, hr'.out]; first | (simp [*]; done) | (simp [*]; omega))
              · by_cases h3 : k = 3
                · subst h3
                  go_wp2
                  all_goals go_ret
                  all_goals (refine ⟨ret_bool ?_, hB⟩; unfold formB; rw [hp'.out, hq'.out, hr'.out]; first | (simp [*]; done) | (simp [*]; omega))
                · by_cases h6 : k = 6
                  · subst h6
                    have hln := Lib.hid hl.1
                    go_wp2
                    go_loopw [133] (fun v133 wr => ∃ j : Nat, j ≤ dN ∧ v133 = .int .i64 j ∧ At wr w.heap.size #[.int .u8 6, .int .u64 tx, .int .u64 prev, .int .i64 page, .int .i64 off, .slice bA bN bC, .slice aA aN aC, .int .u64 next, .slice dA dN dC, .bool opn] 26 ∧ Below w.heap.size w wr ∧ (∀ i, i < j → 0 ≤ (l.getD i (0, 0)).1 ∧ (l.getD i (0, 0)).1 < 4096 ∧ (0 < i → (l.getD (i - 1) (0, 0)).1 < (l.getD i (0, 0)).1))) (fun v133 _ => dN - (intOf v133).toNat)
                    case atStart => exact ⟨0, by omega, rfl, k1, hB, fun i hi => absurd hi (by omega)⟩
                    case round =>
                      clear k1 k1c k1f k1l hB
                      obtain ⟨j, hj, rfl, k1, hB, hok⟩ := hrel
                      have hok' := Lib.hid hok
                      clear hok
                      have k1c := k1.c; have k1f := k1.f; have k1l := k1.lt
                      by_cases hlt : j < dN
                      · obtain ⟨gb, go', rfl, -, hgb, hc1, hc2⟩ := hl.at_ hlt
                        replace hc1 := (hB.cell (p := ⟨gb, go' + j * 2, none⟩) hgb).trans hc1
                        replace hc2 := (hB.cell (p := ⟨gb, go' + j * 2 + 1, none⟩) hgb).trans hc2
                        have hfin := Lib.hid (dirtyOk_no l j (by rw [hln.out]; exact hlt))
                        generalize hd1 : (l.getD j (0, 0)).1 = d1 at *
                        generalize hd2 : (l.getD j (0, 0)).2 = d2 at *
                        have hd1' := Lib.hid hd1
                        clear hd1 hd2
                        have hj0 : (0 : Int) ≤ j := by omega
                        have hj1 : (j : Int) < dN := by omega
                        have hret : ∀ dd : Bool, dd = false → Ending.returned (.bool false) = Ending.returned (.bool (formB 6 prev page off next bN aN dN opn dd)) := by
                          intro dd hdd; subst hdd; apply ret_bool; unfold formB; simp
                        have hret' := Lib.hid hret
                        clear hret
                        by_cases c1 : d1 < 0
                        · have c1' : decide (d1 < 0) = true := by simpa using c1
                          go_upto_region 18 with (fail)
                          go_quiet (fail)
                          go_wp2
                          go_ret
                          exact ⟨hret'.out _ (hfin.out (Or.inl c1)), below_drewN (hB.alloc (by omega) _) _⟩
                        · have c1' : decide (d1 < 0) = false := by simpa using c1
                          have c1'' : 0 ≤ d1 := by omega
                          by_cases c2 : 4096 ≤ d1
                          · have c2' : decide (4096 ≤ d1) = true := by simpa using c2
                            go_upto_region 18 with (fail)
                            go_quiet (fail)
                            go_wp2
                            go_ret
                            exact ⟨hret'.out _ (hfin.out (Or.inr (Or.inl c2))), below_drewN (hB.alloc (by omega) _) _⟩
                          · have c2' : decide (4096 ≤ d1) = false := by simpa using c2
                            have c2'' : d1 < 4096 := by omega
                            by_cases c3 : 0 < j
                            · obtain ⟨i, rfl⟩ : ∃ i, j = i + 1 := ⟨j - 1, by omega⟩
                              obtain ⟨gb', go'', hA, -, hgb', hc3, -⟩ := hl.at_ (k := i) (by omega)
                              injection hA with hA; injection hA with hA1 hA2 hA3; subst hA1; subst hA2; clear hA3
                              replace hc3 := (hB.cell (p := ⟨gb, go' + i * 2, none⟩) hgb).trans hc3
                              have e0 : i + 1 - 1 = i := rfl
                              rw [e0] at hfin
                              clear e0
                              generalize hd3 : (l.getD i (0, 0)).1 = d3 at *
                              have hd3' := Lib.hid hd3
                              clear hd3
                              have hgw : gb < wr.heap.size := by have := hB.size; omega
                              have hj2 : (0 : Int) < (i : Int) + 1 := by omega
                              have hj3 : (0 : Int) ≤ i := by omega
                              have hj4 : (i : Int) < dN := by omega
                              have hw1 : IntKind.i64.wrap ((i : Int) + 1 - 1) = i := by rw [show (i : Int) + 1 - 1 = i from by omega]; exact IntWalk.i64_in _ (by omega)
                              by_cases c4 : d1 ≤ d3
                              · have c4' : decide (d1 ≤ d3) = true := by simpa using c4
                                go_upto_region 18 with (fail)
                                go_quiet (fail)
                                go_wp2
                                go_ret
                                exact ⟨hret'.out _ (hfin.out (Or.inr (Or.inr ⟨by omega, c4⟩))), below_drewN (hB.alloc (by omega) _) _⟩
                              · have c4' : decide (d1 ≤ d3) = false := by simpa using c4
                                go_upto_region 18 with (fail)
                                go_quiet (fail)
                                go_wp2
                                go_roundw
                                case rel => exact ⟨i + 2, by omega, by go_num, (k1.alloc _).drewN _, below_drewN (hB.alloc (by omega) _) _, dirty_more hok'.out ⟨by rw [hd1'.out]; omega, by rw [hd1'.out]; omega, fun _ => by rw [show i + 1 - 1 = i from rfl, hd1'.out, hd3'.out]; omega⟩⟩
                                case measure => simp [intOf]; omega
                            · obtain rfl : j = 0 := by omega
                              have z0 : decide ((0 : Int) < 0) = false := rfl
                              simp only [Nat.zero_mul, Nat.add_zero] at hc1 hc2
                              go_upto_region 18 with (fail)
                              go_quiet (fail)
                              go_wp2
                              go_roundw
                              case rel => exact ⟨1, by omega, by go_num, (k1.alloc _).drewN _, below_drewN (hB.alloc (by omega) _) _, dirty_more hok'.out ⟨by rw [hd1'.out]; omega, by rw [hd1'.out]; omega, fun h => absurd h (by omega)⟩⟩
                              case measure => simp [intOf]; omega
                      · obtain rfl : j = dN := by omega
                        have hdo : dirtyOk (-1) l = true := dirtyOk_yes l (fun i hi => hok'.out i (by rw [hln.out] at hi; exact hi))
                        have hdo' := Lib.hid hdo
                        clear hdo
                        cases pl
                        all_goals
                          go_wp2
                          go_ret
                          refine ⟨ret_bool ?_, hB⟩
                          unfold formB
                          rw [hp'.out, hdo'.out]
                          first | (simp; done) | (simp; omega)
                  · go_wp2
                    all_goals go_ret
                    all_goals (refine ⟨ret_bool ?_, hB⟩; unfold formB; rw [if_neg h1, if_neg (by omega), if_neg h2, if_neg h3, if_neg h6])
end Go.Proofs.Ytjgomebnlekddaa
