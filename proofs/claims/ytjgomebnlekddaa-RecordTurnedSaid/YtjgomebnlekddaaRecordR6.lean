/- The reference's record form by its contract. -/
import Derived.Test.YtjgomebnlekddaaRecordR
import Derived.Test.YtjgomebnlekddaaRecordRE
namespace Go.Proofs.Ytjgomebnlekddaa
set_option linter.unusedVariables false
set_option linter.unusedSimpArgs false
open Go.RowKit
set_option linter.unusedVariables false
set_option maxRecDepth 100000 in
set_option maxHeartbeats 4000000 in
theorem rform_6 (k tx prev page off next : Int) (bA aA dA : Option Addr) (bN bC aN aC dN dC : Nat) (opn : Bool) (l : List (Int × Int)) (w : World) (hl : PrR w 0 w.heap.size dA dN l) (hn : dN * 16 ≤ 140737488351232) (hk0 : 0 ≤ k) (haN : aN ≤ 140737488351232) (hnx : 0 ≤ next) (hpv : 0 ≤ prev) (h6 : k = 6) :
    Calls Try.prog 22 #[.agg #[.int .u8 k, .int .u64 tx, .int .u64 prev, .int .i64 page, .int .i64 off, .slice bA bN bC, .slice aA aN aC, .int .u64 next, .slice dA dN dC, .bool opn]] w fun e w' => e = .returned (.bool (formB k prev page off next bN aN dN opn (dirtyOk (-1) l))) ∧ Below w.heap.size w w' := by
  subst h6
  go_enter Try.func22, Try.ntmps22
  go_upto_region 1 with (fail)
  have k1 := At.new w #[.int .u8 6, .int .u64 tx, .int .u64 prev, .int .i64 page, .int .i64 off, .slice bA bN bC, .slice aA aN aC, .int .u64 next, .slice dA dN dC, .bool opn] 26
  have hB : Below w.heap.size w (w.alloc (.cells #[.int .u8 6, .int .u64 tx, .int .u64 prev, .int .i64 page, .int .i64 off, .slice bA bN bC, .slice aA aN aC, .int .u64 next, .slice dA dN dC, .bool opn] 26)) := (Below.refl _ _).alloc (Nat.le_refl _) _
  generalize (w.alloc (.cells #[.int .u8 6, .int .u64 tx, .int .u64 prev, .int .i64 page, .int .i64 off, .slice bA bN bC, .slice aA aN aC, .int .u64 next, .slice dA dN dC, .bool opn] 26)) = w0 at *
  have k1c := k1.c; have k1f := k1.f; have k1l := k1.lt
  have hln := Lib.hid hl.1
  go_wp2
  all_goals (try go_ret)
  all_goals (try (refine ⟨ret_bool ?_, hB⟩; unfold formB plainB listB placeB; first | (simp [*]; done) | (simp [*]; omega) | (simp [*]; intros; omega)))
  have hpl : plainB page off bN aN next = true := by unfold plainB; first | (simp [*]; done) | (simp [*]; omega) | (simp [*]; intros; omega)
  have hpl' := Lib.hid hpl
  clear hpl
  go_loopw [5, 6] (fun v5 v6 wr => ∃ j : Nat, j ≤ dN ∧ v6 = .int .i64 j ∧ v5 = .int .i64 (if j = 0 then -1 else (l.getD (j - 1) (0, 0)).1) ∧ wr = w0 ∧ (∀ i, i < j → 0 ≤ (l.getD i (0, 0)).1 ∧ (l.getD i (0, 0)).1 < 4096 ∧ (0 < i → (l.getD (i - 1) (0, 0)).1 < (l.getD i (0, 0)).1))) (fun _ v6 _ => dN - (intOf v6).toNat)
  case atStart => exact ⟨0, by omega, rfl, rfl, rfl, fun i hi => absurd hi (by omega)⟩
  case round =>
    obtain ⟨j, hj, rfl, rfl, rfl, hok⟩ := hrel
    have hok' := Lib.hid hok
    clear hok
    by_cases hlt : j < dN
    · obtain ⟨gb, go', rfl, -, hgb, hc1, hc2⟩ := hl.at_ hlt
      replace hc1 := (hB.cell (p := ⟨gb, go' + j * 2, none⟩) hgb).trans hc1
      have hno := Lib.hid (dirtyOk_no l j (by rw [hln.out]; exact hlt))
      have hlast : (-1 : Int) ≤ (if j = 0 then -1 else (l.getD (j - 1) (0, 0)).1) ∧ (0 < j → (l.getD (j - 1) (0, 0)).1 = (if j = 0 then -1 else (l.getD (j - 1) (0, 0)).1)) := by
        by_cases h0 : j = 0
        · subst h0; simp
        · rw [if_neg h0]; have := hok'.out (j - 1) (by omega); exact ⟨by omega, fun _ => rfl⟩
      have hl0 := hlast.1
      have hl1 := Lib.hid hlast.2
      clear hlast
      have hj00 : j = 0 → (if j = 0 then -1 else (l.getD (j - 1) (0, 0)).1) = -1 := fun h => if_pos h
      have hj0' := Lib.hid hj00
      clear hj00
      generalize hLL : (if j = 0 then -1 else (l.getD (j - 1) (0, 0)).1) = L at *
      clear hLL
      generalize hd1 : (l.getD j (0, 0)).1 = d1 at *
      have hd1' := Lib.hid hd1
      clear hd1 hc2
      have hj0 : (0 : Int) ≤ j := by omega
      have hj1 : (j : Int) < dN := by omega
      go_wp2
      · go_ret
        refine ⟨ret_bool ?_, hB⟩
        have : dirtyOk (-1) l = false := hno.out (by right; left; omega)
        unfold formB; rw [this]; simp
      · go_roundw
        case rel => exact ⟨j + 1, by omega, by go_num, by rw [if_neg (by omega), show j + 1 - 1 = j from rfl, hd1'.out], by first | rfl | trivial, dirty_more hok'.out ⟨by rw [hd1'.out]; omega, by rw [hd1'.out]; omega, fun h => by rw [hd1'.out, hl1.out h]; omega⟩⟩
        case measure => simp [intOf]; omega
      · go_ret
        refine ⟨ret_bool ?_, hB⟩
        have hle : d1 ≤ L := by assumption
        have : dirtyOk (-1) l = false := hno.out (by
          rcases Nat.eq_zero_or_pos j with h0 | h0
          · left; have := hj0'.out h0; omega
          · right; right; exact ⟨h0, by rw [hl1.out h0]; exact hle⟩)
        unfold formB; rw [this]; simp
    · obtain rfl : j = dN := by omega
      have hdo : dirtyOk (-1) l = true := dirtyOk_yes l (fun i hi => hok'.out i (by rw [hln.out] at hi; exact hi))
      have hdo' := Lib.hid hdo
      clear hdo
      go_wp2
      all_goals go_ret
      all_goals (refine ⟨ret_bool ?_, hB⟩; unfold formB plainB; rw [hdo'.out, show aN = 0 from by omega]; first | (simp [*]; done) | (simp [*]; omega))
theorem rform_calls (k tx prev page off next : Int) (bA aA dA : Option Addr) (bN bC aN aC dN dC : Nat) (opn : Bool) (l : List (Int × Int)) (w : World) (hl : PrR w 0 w.heap.size dA dN l) (hn : dN * 16 ≤ 140737488351232) (hk0 : 0 ≤ k) (haN : aN ≤ 140737488351232) (hnx : 0 ≤ next) (hpv : 0 ≤ prev) :
    Calls Try.prog 22 #[.agg #[.int .u8 k, .int .u64 tx, .int .u64 prev, .int .i64 page, .int .i64 off, .slice bA bN bC, .slice aA aN aC, .int .u64 next, .slice dA dN dC, .bool opn]] w fun e w' => e = .returned (.bool (formB k prev page off next bN aN dN opn (dirtyOk (-1) l))) ∧ Below w.heap.size w w' := by
  by_cases h1 : k = 1
  · subst h1; exact rform_1 tx prev page off next bA aA dA bN bC aN aC dN dC opn l w hl hn haN hnx hpv
  by_cases h4 : k = 4
  · subst h4; exact rform_4 tx prev page off next bA aA dA bN bC aN aC dN dC opn l w hl hn haN hnx hpv
  by_cases h5 : k = 5
  · subst h5; exact rform_5 tx prev page off next bA aA dA bN bC aN aC dN dC opn l w hl hn haN hnx hpv
  by_cases h3 : k = 3
  · subst h3; exact rform_3 tx prev page off next bA aA dA bN bC aN aC dN dC opn l w hl hn haN hnx hpv
  by_cases h2 : k = 2
  · subst h2
    by_cases hba : aN = bN
    · exact rform_2y tx prev page off next bA aA dA bN bC aN aC dN dC opn l w hl hn haN hnx hpv hba
    · exact rform_2n tx prev page off next bA aA dA bN bC aN aC dN dC opn l w hl hn haN hnx hpv hba
  by_cases h6 : k = 6
  · exact rform_6 k tx prev page off next bA aA dA bN bC aN aC dN dC opn l w hl hn hk0 haN hnx hpv h6
  · exact rform_else k tx prev page off next bA aA dA bN bC aN aC dN dC opn l w hl hn hk0 haN hnx hpv (by omega) h6
end Go.Proofs.Ytjgomebnlekddaa
