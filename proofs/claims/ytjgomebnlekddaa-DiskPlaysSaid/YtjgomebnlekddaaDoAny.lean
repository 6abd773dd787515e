/- DiskPlays: Write and Put, whatever they are asked, at both disks. -/
import Derived.Test.YtjgomebnlekddaaDoGet
namespace Go.Proofs.Ytjgomebnlekddaa
set_option linter.unusedVariables false
set_option linter.unusedSimpArgs false
open Go.RowKit
def putE (D : Dk) (N : Int) (n : Nat) : Int := if 0 ≤ N ∧ N < D.l.length then (if n = 512 then (if D.off = true then 8 else wrE D) else 3) else 1
def putD (D : Dk) (N : Int) (n : Nat) (p : List Int) : Dk := if 0 ≤ N ∧ N < D.l.length then (if n = 512 then (if D.off = true then D else wrD D N.toNat p) else D) else D
theorem Stp.put (D : Dk) (N : Int) (n : Nat) (p : List Int) : Stp D (putD D N n p) := by
  unfold putD
  split
  · split
    · split
      · exact Stp.refl D
      · exact ⟨Int.le_refl _, by show (D.way ++ [_]).length ≤ _; simp, rfl⟩
    · exact Stp.refl D
  · exact Stp.refl D
theorem bs512 {w : World} {hi : Nat} {A : Option Addr} {p : List Int} (h : BsR w 0 hi A 512 p) : ∃ pb po, A = some ⟨pb, po, none⟩ := by
  obtain ⟨gb, go', hA, -, -, -⟩ := h.2.2 (by omega)
  exact ⟨gb, go', hA⟩
theorem wri_any {base d lb m mc n c : Nat} {pA A : Option Addr} {D : Dk} {p : List Int} (N : Int) (w : World) (h : DskB w base d lb pA m mc D) (hbw : base ≤ w.heap.size) (h9 : D.ops < 1000000000) (hm9 : D.way.length < 1000000000) (hp : BsR w 0 w.heap.size A n p) (hnf : 0 < n → ∀ b, ownBlk A = some b → ¬ Foot d lb pA b) (hc : n ≤ c) :
    Calls Try.prog 35 #[.pointer (some ⟨d, 0, none⟩), .int .i64 N, .slice A n c] w fun e w' => e = .returned (.int .i64 (putE D N n)) ∧ (∃ pA' m' mc', DskB w' base d lb pA' m' mc' (putD D N n p)) ∧ Mod (Foot d lb pA) w w' := by
  by_cases hi : 0 ≤ N ∧ N < D.l.length
  · by_cases hn : n = 512
    · subst hn
      cases hoff : D.off
      · obtain ⟨i, rfl⟩ := Int.eq_ofNat_of_zero_le hi.1
        obtain ⟨pb, po, rfl⟩ := bs512 hp
        have hf := hnf (by omega) pb rfl
        have hE : putE D i 512 = wrE D := by unfold putE; rw [if_pos hi, if_pos rfl, if_neg (by rw [hoff]; decide)]
        have hD : putD D i 512 p = wrD D i p := by unfold putD; rw [if_pos hi, if_pos rfl, if_neg (by rw [hoff]; decide)]; rfl
        rw [hE, hD]
        refine (wri_calls i w h.k (by omega) hoff h9 (by rw [← h.k.wl]; exact hm9) hp ⟨fun e => hf (.inl e), fun e => hf (.inr (.inr e))⟩ hc).mono ?_
        rintro e w' ⟨he, ⟨pA', mc', hd, hpa⟩, hm⟩
        exact ⟨he, ⟨pA', _, mc', hd, h.hd, h.hl, fun b hb => by
          rcases hpa b hb with h1 | h1
          · exact h.hp b h1
          · omega⟩, hm⟩
      · have hE : putE D N 512 = 8 := by unfold putE; rw [if_pos hi, if_pos rfl, if_pos hoff]
        have hD : putD D N 512 p = D := by unfold putD; rw [if_pos hi, if_pos rfl, if_pos hoff]
        rw [hE, hD]
        refine (wri_off N w h.k hi hoff).mono ?_
        rintro e w' ⟨he, rfl⟩
        exact ⟨he, ⟨pA, m, mc, h⟩, Mod.refl _ _⟩
    · have hE : putE D N n = 3 := by unfold putE; rw [if_pos hi, if_neg hn]
      have hD : putD D N n p = D := by unfold putD; rw [if_pos hi, if_neg hn]
      rw [hE, hD]
      refine (wri_form N w h.k hi hn).mono ?_
      rintro e w' ⟨he, rfl⟩
      exact ⟨he, ⟨pA, m, mc, h⟩, Mod.refl _ _⟩
  · have hE : putE D N n = 1 := if_neg hi
    have hD : putD D N n p = D := if_neg hi
    rw [hE, hD]
    refine (wri_arg N w h.k hi).mono ?_
    rintro e w' ⟨he, rfl⟩
    exact ⟨he, ⟨pA, m, mc, h⟩, Mod.refl _ _⟩
theorem rput_any {base x lc wc n c : Nat} {lA wA A : Option Addr} {D : Dk} {p : List Int} (N : Int) (w : World) (h : Rf w base x lA lc wA wc D) (hbw : base ≤ w.heap.size) (h9 : D.ops < 1000000000) (hm9 : D.way.length < 1000000000) (hp : BsR w 0 w.heap.size A n p) (hnf : 0 < n → ∀ b, ownBlk A = some b → ¬ RFoot x lA wA b) :
    Calls Try.prog 72 #[.pointer (some ⟨x, 0, none⟩), .int .i64 N, .slice A n c] w fun e w' => e = .returned (.int .i64 (putE D N n)) ∧ (∃ wA' wc', Rf w' base x lA lc wA' wc' (putD D N n p)) ∧ Mod (RFoot x lA wA) w w' := by
  by_cases hi : 0 ≤ N ∧ N < D.l.length
  · by_cases hn : n = 512
    · subst hn
      cases hoff : D.off
      · obtain ⟨i, rfl⟩ := Int.eq_ofNat_of_zero_le hi.1
        obtain ⟨pb, po, rfl⟩ := bs512 hp
        have hf := hnf (by omega) pb rfl
        have hE : putE D i 512 = wrE D := by unfold putE; rw [if_pos hi, if_pos rfl, if_neg (by rw [hoff]; decide)]
        have hD : putD D i 512 p = wrD D i p := by unfold putD; rw [if_pos hi, if_pos rfl, if_neg (by rw [hoff]; decide)]; rfl
        rw [hE, hD]
        exact rput_ok i w h hbw (by omega) hoff h9 hm9 hp ⟨fun e => hf (.inl e), fun e => hf (.inr (.inr e))⟩
      · have hE : putE D N 512 = 8 := by unfold putE; rw [if_pos hi, if_pos rfl, if_pos hoff]
        have hD : putD D N 512 p = D := by unfold putD; rw [if_pos hi, if_pos rfl, if_pos hoff]
        rw [hE, hD]
        refine (rput_off N w h hi hoff).mono ?_
        rintro e w' ⟨he, rfl⟩
        exact ⟨he, ⟨wA, wc, h⟩, Mod.refl _ _⟩
    · have hE : putE D N n = 3 := by unfold putE; rw [if_pos hi, if_neg hn]
      have hD : putD D N n p = D := by unfold putD; rw [if_pos hi, if_neg hn]
      rw [hE, hD]
      refine (rput_form N w h hi hn).mono ?_
      rintro e w' ⟨he, rfl⟩
      exact ⟨he, ⟨wA, wc, h⟩, Mod.refl _ _⟩
  · have hE : putE D N n = 1 := if_neg hi
    have hD : putD D N n p = D := if_neg hi
    rw [hE, hD]
    refine (rput_arg N w h hi).mono ?_
    rintro e w' ⟨he, rfl⟩
    exact ⟨he, ⟨wA, wc, h⟩, Mod.refl _ _⟩
theorem bs_noFoot {w : World} {base d lb m mc n hi : Nat} {pA A : Option Addr} {D : Dk} {p : List Int} (hp : BsR w 0 hi A n p) (hh : hi ≤ base) (h : DskB w base d lb pA m mc D) (h0 : 0 < n) : ∀ b, ownBlk A = some b → ¬ Foot d lb pA b := by
  intro b hb hf
  obtain ⟨gb, go', rfl, -, g2, -⟩ := hp.2.2 h0
  have hgb : gb = b := by injection hb
  have := h.foot b hf
  omega
theorem bs_noRFoot {w : World} {base x lc wc n hi : Nat} {lA wA A : Option Addr} {D : Dk} {p : List Int} (hp : BsR w 0 hi A n p) (hh : hi ≤ base) (h : Rf w base x lA lc wA wc D) (h0 : 0 < n) : ∀ b, ownBlk A = some b → ¬ RFoot x lA wA b := by
  intro b hb hf
  obtain ⟨gb, go', rfl, -, g2, -⟩ := hp.2.2 h0
  have hgb : gb = b := by injection hb
  have := h.foot b hf
  omega
theorem box_noR {w : World} {base x lc wc bb : Nat} {lA wA : Option Addr} {D : Dk} {cs : Array Value} (k : At w bb cs 76) (h : Rf w base x lA lc wA wc D) : ¬ RFoot x lA wA bb := by
  intro hf
  rcases hf with e | e | e
  · exact absurd ((e ▸ k).inj h.at_) (by decide)
  · exact k.ne_own h.row (by decide) e
  · exact k.ne_own h.way (by decide) e
theorem box_noD {w : World} {base d lb m mc bb : Nat} {pA : Option Addr} {D : Dk} {cs : Array Value} (k : At w bb cs 76) (h : DskB w base d lb pA m mc D) : ¬ Foot d lb pA bb := by
  intro hf
  rcases hf with e | e | e
  · exact absurd ((e ▸ k).inj h.k.at_) (by decide)
  · exact absurd ((e ▸ k).inj h.k.row) (by decide)
  · exact k.ne_own h.k.way (by decide) e
end Go.Proofs.Ytjgomebnlekddaa
