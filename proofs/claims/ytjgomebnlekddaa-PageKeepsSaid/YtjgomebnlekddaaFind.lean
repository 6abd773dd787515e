/- The order of bytes; page.Find by its contract. -/
import Derived.Test.YtjgomebnlekddaaCells
namespace Go.Proofs.Ytjgomebnlekddaa
set_option linter.unusedVariables false
set_option linter.unusedSimpArgs false
open Go.RowKit
theorem cmpI_val : ∀ a b : List Int, cmpI a b = -1 ∨ cmpI a b = 0 ∨ cmpI a b = 1
  | [], [] => by simp [cmpI]
  | [], _ :: _ => by simp [cmpI]
  | _ :: _, [] => by simp [cmpI]
  | x :: a, y :: b => by
    have := cmpI_val a b
    unfold cmpI
    split
    · simp
    · split
      · simp
      · exact this
theorem cmpI_neg : ∀ a b : List Int, cmpI b a = - cmpI a b
  | [], [] => by simp [cmpI]
  | [], _ :: _ => by simp [cmpI]
  | _ :: _, [] => by simp [cmpI]
  | x :: a, y :: b => by
    have := cmpI_neg a b
    unfold cmpI
    by_cases h1 : x < y
    · rw [if_pos h1, if_neg (by omega), if_pos h1]; rfl
    · by_cases h2 : y < x
      · rw [if_pos h2, if_neg h1, if_pos h2]
      · rw [if_neg h2, if_neg h1, if_neg h1, if_neg h2]; exact this
theorem cmpI_zero : ∀ a b : List Int, cmpI a b = 0 ↔ a = b
  | [], [] => by simp [cmpI]
  | [], _ :: _ => by simp [cmpI]
  | _ :: _, [] => by simp [cmpI]
  | x :: a, y :: b => by
    have := cmpI_zero a b
    unfold cmpI
    by_cases h1 : x < y
    · rw [if_pos h1]; simp; omega
    · by_cases h2 : y < x
      · rw [if_neg h1, if_pos h2]; simp; omega
      · rw [if_neg h1, if_neg h2, this]
        have : x = y := by omega
        subst this
        simp
theorem cmpI_trans : ∀ a b c : List Int, cmpI a b ≤ 0 → cmpI b c ≤ 0 → cmpI a c ≤ 0 ∧ (cmpI a b < 0 ∨ cmpI b c < 0 → cmpI a c < 0)
  | [], [], [], _, _ => by simp [cmpI]
  | [], [], _ :: _, _, _ => by simp [cmpI]
  | [], _ :: _, [], _, h => by simp [cmpI] at h
  | [], _ :: _, _ :: _, _, _ => by simp [cmpI]
  | _ :: _, [], _, h, _ => by simp [cmpI] at h
  | _ :: _, _ :: _, [], _, h => by simp [cmpI] at h
  | x :: a, y :: b, z :: c, h1, h2 => by
    have ih := cmpI_trans a b c
    unfold cmpI at h1 h2 ⊢
    by_cases p1 : x < y
    · rw [if_pos p1] at h1 ⊢
      by_cases p2 : y < z
      · rw [if_pos (show x < z from by omega)]; simp
      · rw [if_neg p2] at h2 ⊢
        by_cases p3 : z < y
        · rw [if_pos p3] at h2; simp at h2
        · rw [if_pos (show x < z from by omega)]; simp
    · rw [if_neg p1] at h1 ⊢
      by_cases p0 : y < x
      · rw [if_pos p0] at h1; simp at h1
      · rw [if_neg p0] at h1 ⊢
        by_cases p2 : y < z
        · rw [if_pos p2, if_pos (show x < z from by omega)]; simp
        · rw [if_neg p2] at h2 ⊢
          by_cases p3 : z < y
          · rw [if_pos p3] at h2; simp at h2
          · rw [if_neg p3] at h2 ⊢
            rw [if_neg (show ¬ x < z from by omega), if_neg (show ¬ z < x from by omega)]
            exact ih h1 h2
/-- The keys rise. -/
def Rs (l : List Cl) : Prop := ∀ i j, i < j → j < l.length → cmpI (clAt l i).1 (clAt l j).1 < 0
theorem rs_of_adj {l : List Cl} (h : ∀ i, i + 1 < l.length → cmpI (clAt l i).1 (clAt l (i + 1)).1 < 0) : Rs l := by
  intro i j hij hj
  obtain ⟨d, rfl⟩ : ∃ d, j = i + 1 + d := ⟨j - (i + 1), by omega⟩
  induction d with
  | zero => exact h i hj
  | succ d ih =>
    have h1 := ih (by omega) (by omega)
    have h2 := h (i + 1 + d) (by omega)
    exact (cmpI_trans _ _ _ (by omega) (by rw [show i + 1 + (d + 1) = i + 1 + d + 1 from by omega]; omega)).2 (Or.inl h1)
def findI (l : List Cl) (k : List Int) : Nat := (l.takeWhile fun c => decide (cmpI c.1 k < 0)).length
def fndB (l : List Cl) (k : List Int) : Bool := decide (findI l k < l.length) && eqB (clAt l (findI l k)).1 k
theorem findI_eq (k : List Int) : ∀ (l : List Cl) (i : Nat), i ≤ l.length → (∀ t, t < i → cmpI (clAt l t).1 k < 0) → (i < l.length → 0 ≤ cmpI (clAt l i).1 k) → findI l k = i
  | [], i, hi, _, _ => by
    have : i = 0 := by simpa using hi
    subst this; rfl
  | c :: l, 0, _, _, h2 => by
    have := h2 (by simp)
    simp only [clAt, List.getD_cons_zero] at this
    unfold findI
    rw [List.takeWhile_cons_of_neg (by simp; omega)]
    rfl
  | c :: l, i + 1, hi, h1, h2 => by
    have h0 := h1 0 (by omega)
    simp only [clAt, List.getD_cons_zero] at h0
    have ih := findI_eq k l i (by simpa using hi) (fun t ht => by have := h1 (t + 1) (by omega); simpa [clAt] using this) (fun hl => by have := h2 (by simpa using hl); simpa [clAt] using this)
    unfold findI at ih ⊢
    rw [List.takeWhile_cons_of_pos (by simp; omega), List.length_cons, ih]
set_option maxRecDepth 100000 in
set_option maxHeartbeats 1000000 in
theorem find_calls {lo hi n kN lo' hi' : Nat} (c kC : Nat) {A kA : Option Addr} {l : List Cl} {k : List Int} (w : World) (h : CsR w lo hi A n l) (hk : BsR w lo' hi' kA kN k) (hn : n ≤ 1000000) (hr : Rs l) :
    Calls Try.prog 29 #[.slice A n c, .slice kA kN kC] w fun e w' => e = .returned (.tuple #[.int .i64 (findI l k), .bool (fndB l k)]) ∧ w = w' := by
  have hln := Lib.hid h.1
  go_enter Try.func29, Try.ntmps29
  go_wp2
  go_loop [6, 7] (fun v6 v7 => ∃ i j : Nat, i ≤ j ∧ j ≤ n ∧ v6 = .int .i64 i ∧ v7 = .int .i64 j ∧ (∀ t, t < i → cmpI (clAt l t).1 k < 0) ∧ (∀ t, j ≤ t → t < n → 0 ≤ cmpI (clAt l t).1 k)) (fun v6 v7 => (intOf v7 - intOf v6).toNat)
  case atStart => exact ⟨0, n, by omega, by omega, rfl, rfl, fun t ht => absurd ht (by omega), fun t h1 h2 => absurd h1 (by omega)⟩
  case round =>
    obtain ⟨i, j, hij, hjn, rfl, rfl, h1, h2⟩ := hrel
    have h1' := Lib.hid h1
    have h2' := Lib.hid h2
    clear h1 h2
    by_cases hlt : i < j
    · obtain ⟨m, hm⟩ : ∃ m : Nat, m = (i + j) / 2 := ⟨_, rfl⟩
      have hmi : i ≤ m := by omega
      have hmj : m < j := by omega
      have hm1 : ((i : Int) + j) / 2 = m := by omega
      have hm' := Lib.hid hm
      clear hm
      obtain ⟨gb, go', xA, xN, xC, vA, vN, vC, rfl, g1, g2, c1, c2, b1, b2, m1, m2⟩ := h.2 m (by omega)
      have hmc := Lib.hid (rfl : cmpI (clAt l m).1 k = cmpI (clAt l m).1 k)
      have hi0 : (0 : Int) ≤ i := by omega
      have hj0 : (i : Int) < j := by omega
      have hm2 : (0 : Int) ≤ m := by omega
      have hm3 : (m : Int) < n := by omega
      clear c2 b2 m1 m2
      go_wp2_with fail
      refine (compare_calls _ _ _ b1 hk).mono ?_
      rintro e w' ⟨rfl, rfl⟩
      generalize hv : cmpI (clAt l m).1 k = v at *
      have hv' := Lib.hid hv
      clear hv
      by_cases hneg : v < 0
      · go_wp2
        go_round
        case rel => exact ⟨m + 1, j, by omega, by omega, by go_num, rfl, fun t ht => by
          rcases Nat.lt_or_ge t m with h3 | h3
          · exact (cmpI_trans _ _ _ (Int.le_of_lt (hr t m h3 (by rw [hln.out]; omega))) (by rw [hv'.out]; omega)).2 (Or.inr (by rw [hv'.out]; exact hneg))
          · obtain rfl : t = m := by omega
            rw [hv'.out]; exact hneg, h2'.out⟩
        case measure => simp [intOf]; omega
      · go_wp2
        go_round
        case rel => exact ⟨i, m, by omega, by omega, rfl, rfl, h1'.out, fun t h3 h4 => by
          rcases Nat.lt_or_ge m t with h5 | h5
          · have ha := hr m t h5 (by rw [hln.out]; omega)
            have hb : 0 ≤ cmpI (clAt l m).1 k := by rw [hv'.out]; omega
            have hc := cmpI_neg (clAt l m).1 k
            have hd := cmpI_neg (clAt l t).1 k
            have he := (cmpI_trans k (clAt l m).1 (clAt l t).1 (by omega) (by omega)).1
            omega
          · obtain rfl : t = m := by omega
            rw [hv'.out]; omega⟩
        case measure => simp [intOf]; omega
    · obtain rfl : i = j := by omega
      have hfi : findI l k = i := findI_eq k l i (by rw [hln.out]; omega) h1'.out (fun h3 => h2'.out i (Nat.le_refl _) (by rw [hln.out] at h3; exact h3))
      have hfi' := Lib.hid hfi
      clear hfi
      by_cases hin : i < n
      · obtain ⟨gb, go', xA, xN, xC, vA, vN, vC, rfl, g1, g2, c1, c2, b1, b2, m1, m2⟩ := h.2 i hin
        have hi0 : (0 : Int) ≤ i := by omega
        have hi1 : (i : Int) < n := by omega
        clear c2 b2 m1 m2
        go_wp2_with fail
        refine (equal_calls _ _ _ b1 hk).mono ?_
        rintro e w' ⟨rfl, rfl⟩
        go_wp2
        go_ret2
        refine ⟨?_, rfl⟩
        unfold fndB
        rw [hfi'.out, hln.out]
        simp [hin]
      · go_wp2
        go_ret2
        refine ⟨?_, rfl⟩
        unfold fndB
        rw [hfi'.out, hln.out]
        simp [hin]
end Go.Proofs.Ytjgomebnlekddaa
