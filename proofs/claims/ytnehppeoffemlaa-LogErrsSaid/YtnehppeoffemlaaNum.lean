/- Numbers of bytes, the highest first (plain). -/
import Derived.Test.YtnehppeoffemlaaU8
import Derived.Test.YtnehppeoffemlaaMem
namespace Go.Proofs.Ytnehppeoffemlaa
set_option linter.unusedVariables false
set_option linter.unusedSimpArgs false
open Go.RowKit
/-- The number of some bytes, the highest first. -/
def num (l : List Int) : Int := l.foldl (fun a b => a * 256 + b) 0
theorem num_snoc (l : List Int) (x : Int) : num (l ++ [x]) = num l * 256 + x := by simp [num, List.foldl_append]
theorem num_two (a b : Int) : num [a, b] = a * 256 + b := by simp [num]
theorem two_num {l : List Int} (h : l.length = 2) (hb : Byt l) : twoL (num l) = l := by
  match l, h with
  | [a, b], _ =>
    have h0 := hb a (by simp)
    have h1 := hb b (by simp)
    rw [num_two]; unfold twoL
    rw [show (a * 256 + b) / 256 = a by omega, show (a * 256 + b) % 256 = b by omega]
theorem num_twoL {n : Int} (h0 : 0 ≤ n) : num (twoL n) = n := by
  unfold twoL; rw [num_two]; omega
theorem num_eight (a b c d e f g h : Int) : num [a, b, c, d, e, f, g, h] = ((((((a * 256 + b) * 256 + c) * 256 + d) * 256 + e) * 256 + f) * 256 + g) * 256 + h := by simp [num]
theorem u8L_eq (u : Int) : u8L u = [u / 72057594037927936 % 256, u / 281474976710656 % 256, u / 1099511627776 % 256, u / 4294967296 % 256, u / 16777216 % 256, u / 65536 % 256, u / 256 % 256, u / 1 % 256] := rfl
theorem u8_num {l : List Int} (h : l.length = 8) (hb : Byt l) : u8L (num l) = l := by
  match l, h with
  | [a, b, c, d, e, f, g, i], _ =>
    have h0 := hb a (by simp)
    have h1 := hb b (by simp)
    have h2 := hb c (by simp)
    have h3 := hb d (by simp)
    have h4 := hb e (by simp)
    have h5 := hb f (by simp)
    have h6 := hb g (by simp)
    have h7 := hb i (by simp)
    rw [num_eight, u8L_eq]
    simp only [List.cons.injEq, and_true]
    refine ⟨?_, ?_, ?_, ?_, ?_, ?_, ?_, ?_⟩ <;> omega
theorem num_u8L {u : Int} (h0 : 0 ≤ u) (h1 : u < 18446744073709551616) : num (u8L u) = u := by
  rw [u8L_eq, num_eight]; omega
theorem num_r8 {l : List Int} (h : l.length = 8) (hb : Byt l) : 0 ≤ num l ∧ num l < 18446744073709551616 := by
  match l, h with
  | [a, b, c, d, e, f, g, i], _ =>
    have h0 := hb a (by simp)
    have h1 := hb b (by simp)
    have h2 := hb c (by simp)
    have h3 := hb d (by simp)
    have h4 := hb e (by simp)
    have h5 := hb f (by simp)
    have h6 := hb g (by simp)
    have h7 := hb i (by simp)
    rw [num_eight]; omega
theorem num_r2 {l : List Int} (h : l.length = 2) (hb : Byt l) : 0 ≤ num l ∧ num l < 65536 := by
  match l, h with
  | [a, b], _ =>
    have h0 := hb a (by simp)
    have h1 := hb b (by simp)
    rw [num_two]; omega
end Go.Proofs.Ytnehppeoffemlaa
