/- CRC-32 on whole numbers: the two ways to reckon it are one; it tells bytes of which one is another. -/
import Derived.Test.YtjgomebnlekddaaMem
import Derived.Test.YtjgomebnlekddaaOctet
import Derived.Laws.BitsAllLaws
namespace Go.Proofs.Ytjgomebnlekddaa
set_option linter.unusedVariables false
set_option linter.unusedSimpArgs false
open Go.RowKit
def poly : Nat := 3988292384
def fN (c : Nat) : Nat := c / 2 ^^^ (if c % 2 = 1 then poly else 0)
theorem fN_lt {c : Nat} (h : c < 4294967296) : fN c < 4294967296 := by
  unfold fN
  refine Nat.xor_lt_two_pow (n := 32) (by omega) ?_
  unfold poly; split <;> omega
theorem crcBit_nat (c : Nat) (h : c < 4294967296) : crcBit (c : Int) = (fN c : Int) := by
  have h1 : bits .and .u32 (c : Int) 1 = ((c % 2 : Nat) : Int) := by
    have := u32_and_nat c 1 h (by omega)
    rw [Nat.and_one_is_mod] at this
    exact this
  unfold crcBit fN
  rw [h1, show (c : Int) / 2 = ((c / 2 : Nat) : Int) by omega]
  rcases (by omega : c % 2 = 0 ∨ c % 2 = 1) with h2 | h2
  · rw [h2, show -((0 : Nat) : Int) % 4294967296 = ((0 : Nat) : Int) by omega, show (3988292384 : Int) = ((3988292384 : Nat) : Int) by rfl, u32_and_nat _ _ (by omega) (by omega), u32_xor_nat _ _ (by omega) (by simp)]
    simp
  · rw [h2, show -((1 : Nat) : Int) % 4294967296 = ((4294967295 : Nat) : Int) by omega, show (3988292384 : Int) = ((3988292384 : Nat) : Int) by rfl, u32_and_nat _ _ (by omega) (by omega), show 3988292384 &&& 4294967295 = 3988292384 by decide, u32_xor_nat _ _ (by omega) (by omega)]
    rfl
def fNs : Nat → Nat → Nat
  | 0, c => c
  | n + 1, c => fN (fNs n c)
theorem fNs_lt {c : Nat} (h : c < 4294967296) : ∀ n, fNs n c < 4294967296
  | 0 => h
  | n + 1 => fN_lt (fNs_lt h n)
theorem crcBits_nat (c : Nat) (h : c < 4294967296) : ∀ n, crcBits n (c : Int) = (fNs n c : Int)
  | 0 => rfl
  | n + 1 => by
    show crcBit (crcBits n _) = _
    rw [crcBits_nat c h n, crcBit_nat _ (fNs_lt h n)]; rfl
theorem xor_lt {a b : Nat} (ha : a < 4294967296) (hb : b < 4294967296) : a ^^^ b < 4294967296 := Nat.xor_lt_two_pow (n := 32) ha hb
theorem crcIn_nat (c b : Nat) (h : c < 4294967296) (hb : b < 256) : crcIn (c : Int) (b : Int) = (fNs 8 (c ^^^ b) : Int) := by
  unfold crcIn
  rw [u32_xor_nat c b h (by omega), crcBits_nat _ (xor_lt h (by omega))]
theorem xor_cancel {a b c : Nat} (h : a ^^^ c = b ^^^ c) : a = b := by
  have : (a ^^^ c) ^^^ c = (b ^^^ c) ^^^ c := by rw [h]
  rwa [Nat.xor_assoc, Nat.xor_assoc, Nat.xor_self, Nat.xor_zero, Nat.xor_zero] at this
theorem poly_top (x y : Nat) (hx : x < 4294967296) (hy : y < 4294967296) : x / 2 ^^^ poly ≠ y / 2 := by
  intro e
  have h1 := congrArg (fun n => Nat.testBit n 31) e
  simp only [Nat.testBit_xor] at h1
  rw [Nat.testBit_lt_two_pow (x := x / 2) (i := 31) (by omega), Nat.testBit_lt_two_pow (x := y / 2) (i := 31) (by omega), show poly.testBit 31 = true by decide] at h1
  cases h1
theorem fN_inj {c d : Nat} (hc : c < 4294967296) (hd : d < 4294967296) (h : fN c = fN d) : c = d := by
  unfold fN at h
  rcases (by omega : c % 2 = 0 ∨ c % 2 = 1) with h1 | h1 <;> rcases (by omega : d % 2 = 0 ∨ d % 2 = 1) with h2 | h2
  · rw [if_neg (by omega), if_neg (by omega)] at h
    have := xor_cancel h
    omega
  · rw [if_neg (by omega), if_pos h2, Nat.xor_zero] at h
    exact absurd h.symm (poly_top d c hd hc)
  · rw [if_pos h1, if_neg (by omega), Nat.xor_zero] at h
    exact absurd h (poly_top c d hc hd)
  · rw [if_pos h1, if_pos h2] at h
    have := xor_cancel h
    omega
theorem fNs_inj {c d : Nat} (hc : c < 4294967296) (hd : d < 4294967296) : ∀ n, fNs n c = fNs n d → c = d
  | 0, h => h
  | n + 1, h => fNs_inj hc hd n (fN_inj (fNs_lt hc n) (fNs_lt hd n) h)
theorem crcIn_inj {c d b : Int} (hc : 0 ≤ c ∧ c < 4294967296) (hd : 0 ≤ d ∧ d < 4294967296) (hb : 0 ≤ b ∧ b ≤ 255) (h : crcIn c b = crcIn d b) : c = d := by
  obtain ⟨c, rfl⟩ := Int.eq_ofNat_of_zero_le hc.1
  obtain ⟨d, rfl⟩ := Int.eq_ofNat_of_zero_le hd.1
  obtain ⟨b, rfl⟩ := Int.eq_ofNat_of_zero_le hb.1
  rw [crcIn_nat c b (by omega) (by omega), crcIn_nat d b (by omega) (by omega)] at h
  have c1 : c < 4294967296 := by omega
  have d1 : d < 4294967296 := by omega
  have b1 : b < 4294967296 := by omega
  have h2 : fNs 8 (c ^^^ b) = fNs 8 (d ^^^ b) := by exact_mod_cast h
  rw [xor_cancel (fNs_inj (xor_lt c1 b1) (xor_lt d1 b1) 8 h2)]
theorem crcIn_byte {c b b' : Int} (hc : 0 ≤ c ∧ c < 4294967296) (hb : 0 ≤ b ∧ b ≤ 255) (hb' : 0 ≤ b' ∧ b' ≤ 255) (h : crcIn c b = crcIn c b') : b = b' := by
  obtain ⟨c, rfl⟩ := Int.eq_ofNat_of_zero_le hc.1
  obtain ⟨b, rfl⟩ := Int.eq_ofNat_of_zero_le hb.1
  obtain ⟨b', rfl⟩ := Int.eq_ofNat_of_zero_le hb'.1
  rw [crcIn_nat c b (by omega) (by omega), crcIn_nat c b' (by omega) (by omega)] at h
  have c1 : c < 4294967296 := by omega
  have d1 : b' < 4294967296 := by omega
  have b1 : b < 4294967296 := by omega
  have h2 : fNs 8 (c ^^^ b) = fNs 8 (c ^^^ b') := by exact_mod_cast h
  have := fNs_inj (xor_lt c1 b1) (xor_lt c1 d1) 8 h2
  rw [Nat.xor_comm c b, Nat.xor_comm c b'] at this
  rw [xor_cancel this]
theorem crcF_inj : ∀ (l : List Int) (c d : Int), Byt l → 0 ≤ c ∧ c < 4294967296 → 0 ≤ d ∧ d < 4294967296 → l.foldl crcIn c = l.foldl crcIn d → c = d
  | [], _, _, _, _, _, h => h
  | b :: l, c, d, hb, hc, hd, h => crcIn_inj hc hd (hb b (by simp)) (crcF_inj l _ _ (fun x hx => hb x (by simp [hx])) (crcIn_range c b) (crcIn_range d b) h)
theorem sumL_inj {l m : List Int} (h : sumL l = sumL m) : crcL l = crcL m := by
  unfold sumL at h
  have h1 := crcL_range l
  have h2 := crcL_range m
  generalize crcL l = a at *
  generalize crcL m = b at *
  obtain ⟨a, rfl⟩ := Int.eq_ofNat_of_zero_le h1.1
  obtain ⟨b, rfl⟩ := Int.eq_ofNat_of_zero_le h2.1
  rw [show (IntKind.u32.max : Int) = ((4294967295 : Nat) : Int) by decide, u32_xor_nat _ _ (by omega) (by omega), u32_xor_nat _ _ (by omega) (by omega)] at h
  have h3 : 4294967295 ^^^ a = 4294967295 ^^^ b := by exact_mod_cast h
  rw [Nat.xor_comm _ a, Nat.xor_comm _ b] at h3
  rw [xor_cancel h3]
/-- A byte that is another makes another sum. -/
theorem sum_turned {l : List Int} (hb : Byt l) {k : Nat} (hk : k < l.length) {x : Int} (hx : 0 ≤ x ∧ x ≤ 255) (hne : x ≠ l.getD k 0) : sumL (l.set k x) ≠ sumL l := by
  intro h
  have h1 := sumL_inj h
  unfold crcL at h1
  have e1 : l.set k x = l.take k ++ x :: l.drop (k + 1) := by rw [List.set_eq_take_append_cons_drop, if_pos hk]
  have e2 : l = l.take k ++ l.getD k 0 :: l.drop (k + 1) := by
    conv => lhs; rw [← List.take_append_drop k l, List.drop_eq_getElem_cons hk]
    simp [hk]
  rw [e1] at h1
  conv at h1 => rhs; rw [e2]
  rw [List.foldl_append, List.foldl_append, List.foldl_cons, List.foldl_cons] at h1
  have hr := crcF_range (l.take k) 4294967295 (by omega)
  exact hne (crcIn_byte hr hx (hb.getD k) (crcF_inj _ _ _ (hb.drop _) (crcIn_range _ _) (crcIn_range _ _) h1))
/-- The reference's way: a bit of the byte at a time. -/
def rbN (d t : Nat) : Nat := d / 2 ^^^ (if (d % 2 + t) % 2 = 1 then poly else 0)
def rbNs (c b : Nat) : Nat → Nat
  | 0 => c
  | k + 1 => rbN (rbNs c b k) (b / 2 ^ k % 2)
theorem xor_half (a b : Nat) : (a ^^^ b) / 2 = a / 2 ^^^ b / 2 := by
  have := Nat.shiftRight_xor_distrib (a := a) (b := b) (i := 1)
  simpa [Nat.shiftRight_eq_div_pow] using this
theorem xor_par (a b : Nat) : (a ^^^ b) % 2 = (a % 2 + b % 2) % 2 := by
  have h := Nat.testBit_xor a b 0
  simp only [Nat.testBit_zero] at h
  have ha : a % 2 = 0 ∨ a % 2 = 1 := by omega
  have hb : b % 2 = 0 ∨ b % 2 = 1 := by omega
  have hc : (a ^^^ b) % 2 = 0 ∨ (a ^^^ b) % 2 = 1 := by omega
  generalize a % 2 = x at *
  generalize b % 2 = y at *
  generalize (a ^^^ b) % 2 = z at *
  rcases ha with rfl | rfl <;> rcases hb with rfl | rfl <;> rcases hc with rfl | rfl <;> first | rfl | (simp at h)
theorem fN_step (d e : Nat) : fN (d ^^^ e) = rbN d (e % 2) ^^^ (e / 2) := by
  unfold fN rbN
  rw [xor_half, xor_par]
  rw [Nat.xor_assoc, Nat.xor_assoc, Nat.xor_comm (e / 2)]
theorem rbNs_eq (c b : Nat) : ∀ k, fNs k (c ^^^ b) = rbNs c b k ^^^ (b / 2 ^ k)
  | 0 => by simp [fNs, rbNs]
  | k + 1 => by
    show fN (fNs k _) = rbN _ _ ^^^ _
    rw [rbNs_eq c b k, fN_step, Nat.div_div_eq_div_mul, Nat.pow_succ]
theorem rbN_lt {d t : Nat} (h : d < 4294967296) : rbN d t < 4294967296 := by
  unfold rbN
  refine xor_lt (by omega) ?_
  unfold poly; split <;> omega
theorem rbNs_lt {c b : Nat} (h : c < 4294967296) : ∀ k, rbNs c b k < 4294967296
  | 0 => h
  | k + 1 => rbN_lt (rbNs_lt h k)
theorem rbNs_all {c b : Nat} (h : c < 4294967296) (hb : b < 256) : crcIn (c : Int) (b : Int) = (rbNs c b 8 : Int) := by
  rw [crcIn_nat c b h hb, rbNs_eq, show b / 2 ^ 8 = 0 by omega, Nat.xor_zero]
end Go.Proofs.Ytjgomebnlekddaa
