/- Records in plain terms: numbers of bytes, a reader of bytes, Decode, and that it undoes Encode. -/
import Derived.Test.YtjgomebnlekddaaRecSizes
namespace Go.Proofs.Ytjgomebnlekddaa
set_option linter.unusedVariables false
set_option linter.unusedSimpArgs false
open Go.RowKit
/-- The number of some bytes, the highest first. -/
def num (l : List Int) : Int := l.foldl (fun a b => a * 256 + b) 0
theorem num_snoc (l : List Int) (x : Int) : num (l ++ [x]) = num l * 256 + x := by simp [num, List.foldl_append]
theorem num_two (a b : Int) : num [a, b] = a * 256 + b := by simp [num]
theorem two_num {l : List Int} (h : l.length = 2) (hb : Byt l) : twoL (num l) = l := by
  match l, h with
  | [a, b], _ =>
    have h0 := hb a (by simp)
    have h1 := hb b (by simp)
    rw [num_two]; unfold twoL
    rw [show (a * 256 + b) / 256 = a by omega, show (a * 256 + b) % 256 = b by omega]
theorem num_twoL {n : Int} (h0 : 0 ≤ n) : num (twoL n) = n := by
  unfold twoL; rw [num_two]; omega
theorem num_eight (a b c d e f g h : Int) : num [a, b, c, d, e, f, g, h] = ((((((a * 256 + b) * 256 + c) * 256 + d) * 256 + e) * 256 + f) * 256 + g) * 256 + h := by simp [num]
theorem u8L_eq (u : Int) : u8L u = [u / 72057594037927936 % 256, u / 281474976710656 % 256, u / 1099511627776 % 256, u / 4294967296 % 256, u / 16777216 % 256, u / 65536 % 256, u / 256 % 256, u / 1 % 256] := rfl
theorem u8_num {l : List Int} (h : l.length = 8) (hb : Byt l) : u8L (num l) = l := by
  match l, h with
  | [a, b, c, d, e, f, g, i], _ =>
    have h0 := hb a (by simp)
    have h1 := hb b (by simp)
    have h2 := hb c (by simp)
    have h3 := hb d (by simp)
    have h4 := hb e (by simp)
    have h5 := hb f (by simp)
    have h6 := hb g (by simp)
    have h7 := hb i (by simp)
    rw [num_eight, u8L_eq]
    simp only [List.cons.injEq, and_true]
    refine ⟨?_, ?_, ?_, ?_, ?_, ?_, ?_, ?_⟩ <;> omega
theorem num_u8L {u : Int} (h0 : 0 ≤ u) (h1 : u < 18446744073709551616) : num (u8L u) = u := by
  rw [u8L_eq, num_eight]; omega
theorem num_fourL {s : Int} (h0 : 0 ≤ s) : num (fourL s) = s := by
  show num [_, _, _, _] = s
  simp only [num, List.foldl_cons, List.foldl_nil]; omega
theorem four_num {l : List Int} (h : l.length = 4) (hb : Byt l) : fourL (num l) = l := by
  match l, h with
  | [a, b, c, d], _ =>
    have h0 := hb a (by simp)
    have h1 := hb b (by simp)
    have h2 := hb c (by simp)
    have h3 := hb d (by simp)
    simp only [num, List.foldl_cons, List.foldl_nil, fourL, List.cons.injEq, and_true]
    refine ⟨?_, ?_, ?_, ?_⟩ <;> omega
theorem num_r8 {l : List Int} (h : l.length = 8) (hb : Byt l) : 0 ≤ num l ∧ num l < 18446744073709551616 := by
  match l, h with
  | [a, b, c, d, e, f, g, i], _ =>
    have h0 := hb a (by simp)
    have h1 := hb b (by simp)
    have h2 := hb c (by simp)
    have h3 := hb d (by simp)
    have h4 := hb e (by simp)
    have h5 := hb f (by simp)
    have h6 := hb g (by simp)
    have h7 := hb i (by simp)
    rw [num_eight]; omega
theorem num_r2 {l : List Int} (h : l.length = 2) (hb : Byt l) : 0 ≤ num l ∧ num l < 65536 := by
  match l, h with
  | [a, b], _ =>
    have h0 := hb a (by simp)
    have h1 := hb b (by simp)
    rw [num_two]; omega
/-- A record's fields. -/
structure Rc where
  k : Int
  tx : Int
  prev : Int
  page : Int
  off : Int
  next : Int
  bl : List Int
  al : List Int
  dl : List (Int × Int)
  opn : Bool
def zeroR : Rc := ⟨0, 0, 0, 0, 0, 0, [], [], [], false⟩
def formR (R : Rc) : Bool := formB R.k R.prev R.page R.off R.next R.bl.length R.al.length R.dl.length R.opn (dirtyOk (-1) R.dl)
def bodyR (R : Rc) : List Int := bodyL R.k R.tx R.prev R.page R.off R.next R.bl R.al R.dl R.opn
def encR (R : Rc) : List Int := encL R.k R.tx R.prev R.page R.off R.next R.bl R.al R.dl R.opn
/-- The numbers of a record are of their kinds. -/
structure RcOk (R : Rc) : Prop where
  k0 : 0 ≤ R.k
  k1 : R.k ≤ 255
  t0 : 0 ≤ R.tx
  t1 : R.tx < 18446744073709551616
  p0 : 0 ≤ R.prev
  p1 : R.prev < 18446744073709551616
  x0 : 0 ≤ R.next
  x1 : R.next < 18446744073709551616
  b : Byt R.bl
  a : Byt R.al
  d : ∀ x ∈ R.dl, 0 ≤ x.2 ∧ x.2 < 18446744073709551616
theorem RcOk.of {k tx prev page off next : Int} {bl al : List Int} {dl : List (Int × Int)} {opn : Bool} (k0 : 0 ≤ k) (k1 : k ≤ 255) (t0 : 0 ≤ tx) (t1 : tx < 18446744073709551616) (p0 : 0 ≤ prev) (p1 : prev < 18446744073709551616) (x0 : 0 ≤ next) (x1 : next < 18446744073709551616) (b : Byt bl) (a : Byt al) (d : ∀ x ∈ dl, 0 ≤ x.2 ∧ x.2 < 18446744073709551616) : RcOk ⟨k, tx, prev, page, off, next, bl, al, dl, opn⟩ :=
  ⟨k0, k1, t0, t1, p0, p1, x0, x1, b, a, d⟩
/-- A reader of bytes. -/
structure Rdr where
  p : List Int
  s : Bool
def nxt (r : Rdr) (n : Nat) : List Int × Rdr := if r.p.length < n then (List.replicate n 0, ⟨[], true⟩) else (r.p.take n, ⟨r.p.drop n, r.s⟩)
def num8 (r : Rdr) : Int × Rdr := (num (nxt r 8).1, (nxt r 8).2)
def num2 (r : Rdr) : Int × Rdr := (num (nxt r 2).1, (nxt r 2).2)
def one (r : Rdr) : Int × Rdr := ((nxt r 1).1.getD 0 0, (nxt r 1).2)
def dirtTo (r : Rdr) : Nat → List (Int × Int) × Rdr
  | 0 => ([], r)
  | n + 1 => ((dirtTo r n).1 ++ [((num2 (dirtTo r n).2).1, (num8 (num2 (dirtTo r n).2).2).1)], (num8 (num2 (dirtTo r n).2).2).2)
/-- The reader's steps, one name each. -/
def rK (b : List Int) : Int × Rdr := one ⟨b, false⟩
def rT (b : List Int) : Int × Rdr := num8 (rK b).2
def rP (b : List Int) : Int × Rdr := num8 (rT b).2
def rG (b : List Int) : Int × Rdr := num2 (rP b).2
def rO (b : List Int) : Int × Rdr := num2 (rG b).2
def rN (b : List Int) : Int × Rdr := num2 (rO b).2
def rX (b : List Int) : List Int × Rdr := nxt (rN b).2 (rN b).1.toNat
def rY (b : List Int) : List Int × Rdr := nxt (rX b).2 (rN b).1.toNat
def rZ (b : List Int) : Int × Rdr := num8 (rX b).2
def rM (b : List Int) : Int × Rdr := one (rP b).2
def rD (b : List Int) : List (Int × Int) × Rdr := dirtTo (rM b).2 ((rM b).1 / 2).toNat
def readR (b : List Int) : Rc × Rdr :=
  if (rK b).1 = 1 then (⟨(rK b).1, (rT b).1, 0, 0, 0, 0, [], [], [], false⟩, (rT b).2)
  else if (rK b).1 = 2 then (⟨(rK b).1, (rT b).1, (rP b).1, (rG b).1, (rO b).1, 0, (rX b).1, (rY b).1, [], false⟩, (rY b).2)
  else if (rK b).1 = 3 then (⟨(rK b).1, (rT b).1, (rP b).1, (rG b).1, (rO b).1, (rZ b).1, [], (rX b).1, [], false⟩, (rZ b).2)
  else if (rK b).1 = 6 then (⟨(rK b).1, (rT b).1, (rP b).1, 0, 0, 0, [], [], (rD b).1, decide ((rM b).1 % 2 = 1)⟩, (rD b).2)
  else (⟨(rK b).1, (rT b).1, (rP b).1, 0, 0, 0, [], [], [], false⟩, (rP b).2)
/-- What is read, and what is left. -/
def Eats (r : Rdr) (x : List Int) (r' : Rdr) : Prop := r'.s = false → r.s = false ∧ r.p = x ++ r'.p
theorem Eats.trans {a b c : Rdr} {x y : List Int} (h : Eats a x b) (k : Eats b y c) : Eats a (x ++ y) c := fun hs => by
  obtain ⟨h1, h2⟩ := k hs
  obtain ⟨h3, h4⟩ := h h1
  exact ⟨h3, by rw [h4, h2, List.append_assoc]⟩
theorem nxt_len (r : Rdr) (n : Nat) : (nxt r n).1.length = n := by
  unfold nxt; split
  · simp
  · simp; omega
theorem nxt_byt {r : Rdr} (h : Byt r.p) (n : Nat) : Byt (nxt r n).1 ∧ Byt (nxt r n).2.p := by
  unfold nxt; split
  · exact ⟨fun x hx => by rw [List.eq_of_mem_replicate hx]; omega, Byt.nil⟩
  · exact ⟨h.take n, h.drop n⟩
theorem nxt_eats (r : Rdr) (n : Nat) : Eats r (nxt r n).1 (nxt r n).2 := by
  unfold nxt; split
  · intro h; cases h
  · exact fun h => ⟨h, by simp⟩
theorem nxt_app (x y : List Int) (s : Bool) (n : Nat) (h : x.length = n) : nxt ⟨x ++ y, s⟩ n = (x, ⟨y, s⟩) := by
  subst h
  unfold nxt
  rw [if_neg (by simp)]
  simp
theorem num8_app (u : Int) (h0 : 0 ≤ u) (h1 : u < 18446744073709551616) (y : List Int) (s : Bool) : num8 ⟨u8L u ++ y, s⟩ = (u, ⟨y, s⟩) := by
  unfold num8; rw [nxt_app _ _ _ 8 rfl, num_u8L h0 h1]
theorem num2_app (u : Int) (h0 : 0 ≤ u) (y : List Int) (s : Bool) : num2 ⟨twoL u ++ y, s⟩ = (u, ⟨y, s⟩) := by
  unfold num2; rw [nxt_app _ _ _ 2 rfl, num_twoL h0]
theorem one_app (u : Int) (y : List Int) (s : Bool) : one ⟨[u] ++ y, s⟩ = (u, ⟨y, s⟩) := by
  unfold one; rw [nxt_app _ _ _ 1 rfl]; rfl
theorem num8_eats {r : Rdr} (h : Byt r.p) : Eats r (u8L (num8 r).1) (num8 r).2 := by
  unfold num8; rw [u8_num (nxt_len r 8) (nxt_byt h 8).1]; exact nxt_eats r 8
theorem num2_eats {r : Rdr} (h : Byt r.p) : Eats r (twoL (num2 r).1) (num2 r).2 := by
  unfold num2; rw [two_num (nxt_len r 2) (nxt_byt h 2).1]; exact nxt_eats r 2
theorem one_eats (r : Rdr) : Eats r [(one r).1] (one r).2 := by
  have hl := nxt_len r 1
  have h : [(one r).1] = (nxt r 1).1 := by
    unfold one
    match (nxt r 1).1, hl with
    | [a], _ => rfl
  rw [h]; exact nxt_eats r 1
theorem num8_byt {r : Rdr} (h : Byt r.p) : Byt (num8 r).2.p := (nxt_byt h 8).2
theorem num2_byt {r : Rdr} (h : Byt r.p) : Byt (num2 r).2.p := (nxt_byt h 2).2
theorem one_byt {r : Rdr} (h : Byt r.p) : Byt (one r).2.p := (nxt_byt h 1).2
theorem one_r {r : Rdr} (h : Byt r.p) : 0 ≤ (one r).1 ∧ (one r).1 ≤ 255 := (nxt_byt h 1).1.getD 0
theorem num8_r {r : Rdr} (h : Byt r.p) : 0 ≤ (num8 r).1 ∧ (num8 r).1 < 18446744073709551616 := num_r8 (nxt_len r 8) (nxt_byt h 8).1
theorem num2_r {r : Rdr} (h : Byt r.p) : 0 ≤ (num2 r).1 ∧ (num2 r).1 < 65536 := num_r2 (nxt_len r 2) (nxt_byt h 2).1
theorem dirt_byt {r : Rdr} (h : Byt r.p) : ∀ n, Byt (dirtTo r n).2.p
  | 0 => h
  | n + 1 => num8_byt (num2_byt (dirt_byt h n))
theorem dirt_len (r : Rdr) : ∀ n, (dirtTo r n).1.length = n
  | 0 => rfl
  | n + 1 => by show ((dirtTo r n).1 ++ [_]).length = _; rw [List.length_append, dirt_len r n]; rfl
theorem dirt_r {r : Rdr} (h : Byt r.p) : ∀ n, ∀ x ∈ (dirtTo r n).1, 0 ≤ x.2 ∧ x.2 < 18446744073709551616
  | 0, x, hx => nomatch hx
  | n + 1, x, hx => by
    rcases List.mem_append.1 (show x ∈ (dirtTo r n).1 ++ [_] from hx) with h1 | h1
    · exact dirt_r h n x h1
    · rw [List.mem_singleton] at h1
      subst h1
      exact num8_r (num2_byt (dirt_byt h n))
theorem dirt_eats {r : Rdr} (h : Byt r.p) : ∀ n, Eats r ((dirtTo r n).1.flatMap drL) (dirtTo r n).2
  | 0 => fun hs => ⟨hs, rfl⟩
  | n + 1 => by
    have h1 := dirt_eats h n
    have h2 := num2_eats (dirt_byt h n)
    have h3 := num8_eats (num2_byt (dirt_byt h n))
    have h4 := h1.trans (h2.trans h3)
    show Eats r (((dirtTo r n).1 ++ [_]).flatMap drL) (num8 (num2 (dirtTo r n).2).2).2
    rw [List.flatMap_append]
    simpa [drL] using h4
theorem dirt_app : ∀ (l : List (Int × Int)) (y : List Int) (s : Bool), (∀ x ∈ l, 0 ≤ x.1 ∧ 0 ≤ x.2 ∧ x.2 < 18446744073709551616) → ∀ k, k ≤ l.length → dirtTo ⟨l.flatMap drL ++ y, s⟩ k = (l.take k, ⟨(l.drop k).flatMap drL ++ y, s⟩)
  | l, y, s, h, 0, _ => by simp [dirtTo]
  | l, y, s, h, k + 1, hk => by
    have ih := dirt_app l y s h k (by omega)
    have hm := h l[k] (List.getElem_mem (by omega))
    have e : (l.drop k).flatMap drL ++ y = twoL l[k].1 ++ (u8L l[k].2 ++ ((l.drop (k + 1)).flatMap drL ++ y)) := by
      rw [List.drop_eq_getElem_cons (by omega : k < l.length), List.flatMap_cons]
      simp [drL]
    unfold dirtTo
    rw [ih, e, num2_app _ hm.1, num8_app _ hm.2.1 hm.2.2]
    rw [List.take_succ_eq_append_getElem (by omega : k < l.length)]
theorem rK_byt {b : List Int} (h : Byt b) : Byt (rK b).2.p := by rw [rK]; exact one_byt (r := ⟨b, false⟩) h
theorem rT_byt {b : List Int} (h : Byt b) : Byt (rT b).2.p := by rw [rT]; exact num8_byt (rK_byt h)
theorem rP_byt {b : List Int} (h : Byt b) : Byt (rP b).2.p := by rw [rP]; exact num8_byt (rT_byt h)
theorem rG_byt {b : List Int} (h : Byt b) : Byt (rG b).2.p := by rw [rG]; exact num2_byt (rP_byt h)
theorem rO_byt {b : List Int} (h : Byt b) : Byt (rO b).2.p := by rw [rO]; exact num2_byt (rG_byt h)
theorem rN_byt {b : List Int} (h : Byt b) : Byt (rN b).2.p := by rw [rN]; exact num2_byt (rO_byt h)
theorem rX_byt {b : List Int} (h : Byt b) : Byt (rX b).1 ∧ Byt (rX b).2.p := by rw [rX]; exact nxt_byt (rN_byt h) _
theorem rY_byt {b : List Int} (h : Byt b) : Byt (rY b).1 ∧ Byt (rY b).2.p := by rw [rY]; exact nxt_byt (rX_byt h).2 _
theorem rZ_byt {b : List Int} (h : Byt b) : Byt (rZ b).2.p := by rw [rZ]; exact num8_byt (rX_byt h).2
theorem rM_byt {b : List Int} (h : Byt b) : Byt (rM b).2.p := by rw [rM]; exact one_byt (rP_byt h)
theorem rD_byt {b : List Int} (h : Byt b) : Byt (rD b).2.p := by rw [rD]; exact dirt_byt (rM_byt h) _
theorem rK_r {b : List Int} (h : Byt b) : 0 ≤ (rK b).1 ∧ (rK b).1 ≤ 255 := by rw [rK]; exact one_r (r := ⟨b, false⟩) h
theorem rT_r {b : List Int} (h : Byt b) : 0 ≤ (rT b).1 ∧ (rT b).1 < 18446744073709551616 := by rw [rT]; exact num8_r (rK_byt h)
theorem rP_r {b : List Int} (h : Byt b) : 0 ≤ (rP b).1 ∧ (rP b).1 < 18446744073709551616 := by rw [rP]; exact num8_r (rT_byt h)
theorem rZ_r {b : List Int} (h : Byt b) : 0 ≤ (rZ b).1 ∧ (rZ b).1 < 18446744073709551616 := by rw [rZ]; exact num8_r (rX_byt h).2
theorem rG_r {b : List Int} (h : Byt b) : 0 ≤ (rG b).1 ∧ (rG b).1 < 65536 := by rw [rG]; exact num2_r (rP_byt h)
theorem rO_r {b : List Int} (h : Byt b) : 0 ≤ (rO b).1 ∧ (rO b).1 < 65536 := by rw [rO]; exact num2_r (rG_byt h)
theorem rN_r {b : List Int} (h : Byt b) : 0 ≤ (rN b).1 ∧ (rN b).1 < 65536 := by rw [rN]; exact num2_r (rO_byt h)
theorem rM_r {b : List Int} (h : Byt b) : 0 ≤ (rM b).1 ∧ (rM b).1 ≤ 255 := by rw [rM]; exact one_r (rP_byt h)
theorem rX_len (b : List Int) : (rX b).1.length = (rN b).1.toNat := by rw [rX]; exact nxt_len _ _
theorem rY_len (b : List Int) : (rY b).1.length = (rN b).1.toNat := by rw [rY]; exact nxt_len _ _
theorem rD_len (b : List Int) : (rD b).1.length = ((rM b).1 / 2).toNat := by rw [rD]; exact dirt_len _ _
theorem rD_r {b : List Int} (h : Byt b) : ∀ x ∈ (rD b).1, 0 ≤ x.2 ∧ x.2 < 18446744073709551616 := by rw [rD]; exact dirt_r (rM_byt h) _
theorem toNat_eq {z : Int} (h : 0 ≤ z) : ((z.toNat : Nat) : Int) = z := by omega
theorem rX_lenI {b : List Int} (h : Byt b) : ((rX b).1.length : Int) = (rN b).1 := by rw [rX_len]; exact toNat_eq (rN_r h).1
theorem rY_lenI {b : List Int} (h : Byt b) : ((rY b).1.length : Int) = (rN b).1 := by rw [rY_len]; exact toNat_eq (rN_r h).1
theorem rD_lenI {b : List Int} (h : Byt b) : ((rD b).1.length : Int) = (rM b).1 / 2 := by
  rw [rD_len]
  have := (rM_r h).1
  exact toNat_eq (Int.ediv_nonneg this (by decide))
theorem half_two {z : Int} (h : 0 ≤ z) : z / 2 * 2 + (if decide (z % 2 = 1) = true then 1 else 0) = z := by
  by_cases h4 : z % 2 = 1
  · rw [if_pos (by simpa using h4)]; omega
  · rw [if_neg (by simpa using h4)]; omega
/-- What Decode reads is of its kinds. -/
theorem readR_ok {b : List Int} (h : Byt b) : RcOk (readR b).1 := by
  have k := rK_r h
  have t := rT_r h
  have p := rP_r h
  have z := rZ_r h
  have hx := (rX_byt h).1
  have hy := (rY_byt h).1
  have hd := rD_r h
  have n0 : (0 : Int) ≤ 0 := Int.le_refl _
  have n1 : (0 : Int) < 18446744073709551616 := by decide
  unfold readR
  split
  · dsimp only; exact RcOk.of k.1 k.2 t.1 t.2 n0 n1 n0 n1 Byt.nil Byt.nil (fun _ h => nomatch h)
  · split
    · dsimp only; exact RcOk.of k.1 k.2 t.1 t.2 p.1 p.2 n0 n1 hx hy (fun _ h => nomatch h)
    · split
      · dsimp only; exact RcOk.of k.1 k.2 t.1 t.2 p.1 p.2 z.1 z.2 Byt.nil hx (fun _ h => nomatch h)
      · split
        · dsimp only; exact RcOk.of k.1 k.2 t.1 t.2 p.1 p.2 n0 n1 Byt.nil Byt.nil hd
        · dsimp only; exact RcOk.of k.1 k.2 t.1 t.2 p.1 p.2 n0 n1 Byt.nil Byt.nil (fun _ h => nomatch h)
/-- (B) What is read whole is the body of the record. -/
theorem read_body {b : List Int} (h : Byt b) (hs : (readR b).2.s = false) (hp : (readR b).2.p = []) : bodyR (readR b).1 = b := by
  have eK : Eats ⟨b, false⟩ [(rK b).1] (rK b).2 := by rw [rK]; exact one_eats _
  have eT : Eats (rK b).2 (u8L (rT b).1) (rT b).2 := by rw [rT]; exact num8_eats (rK_byt h)
  have eP : Eats (rT b).2 (u8L (rP b).1) (rP b).2 := by rw [rP]; exact num8_eats (rT_byt h)
  have eG : Eats (rP b).2 (twoL (rG b).1) (rG b).2 := by rw [rG]; exact num2_eats (rP_byt h)
  have eO : Eats (rG b).2 (twoL (rO b).1) (rO b).2 := by rw [rO]; exact num2_eats (rG_byt h)
  have eN : Eats (rO b).2 (twoL (rN b).1) (rN b).2 := by rw [rN]; exact num2_eats (rO_byt h)
  have eX : Eats (rN b).2 (rX b).1 (rX b).2 := by rw [rX]; exact nxt_eats _ _
  have eY : Eats (rX b).2 (rY b).1 (rY b).2 := by rw [rY]; exact nxt_eats _ _
  have eZ : Eats (rX b).2 (u8L (rZ b).1) (rZ b).2 := by rw [rZ]; exact num8_eats (rX_byt h).2
  have eM : Eats (rP b).2 [(rM b).1] (rM b).2 := by rw [rM]; exact one_eats _
  have eD : Eats (rM b).2 ((rD b).1.flatMap drL) (rD b).2 := by rw [rD]; exact dirt_eats (rM_byt h) _
  have lY := rY_lenI h
  have lX := rX_lenI h
  have lD := rD_lenI h
  have hm := half_two (rM_r h).1
  unfold bodyR
  unfold readR at hs hp ⊢
  by_cases k1 : (rK b).1 = 1
  · rw [if_pos k1] at hs hp ⊢
    dsimp only at hs hp ⊢
    have := (eK.trans eT) hs
    refine Eq.trans ?_ this.2.symm
    rw [hp]
    unfold bodyL
    simp [k1]
  rw [if_neg k1] at hs hp ⊢
  by_cases k2 : (rK b).1 = 2
  · rw [if_pos k2] at hs hp ⊢
    dsimp only at hs hp ⊢
    have := (eK.trans (eT.trans (eP.trans (eG.trans (eO.trans (eN.trans (eX.trans eY))))))) hs
    refine Eq.trans ?_ this.2.symm
    rw [hp]
    unfold bodyL
    simp [k2, lY]
  rw [if_neg k2] at hs hp ⊢
  by_cases k3 : (rK b).1 = 3
  · rw [if_pos k3] at hs hp ⊢
    dsimp only at hs hp ⊢
    have := (eK.trans (eT.trans (eP.trans (eG.trans (eO.trans (eN.trans (eX.trans eZ))))))) hs
    refine Eq.trans ?_ this.2.symm
    rw [hp]
    unfold bodyL
    simp [k3, lX]
  rw [if_neg k3] at hs hp ⊢
  by_cases k6 : (rK b).1 = 6
  · rw [if_pos k6] at hs hp ⊢
    dsimp only at hs hp ⊢
    have := (eK.trans (eT.trans (eP.trans (eM.trans eD)))) hs
    refine Eq.trans ?_ this.2.symm
    rw [hp]
    unfold bodyL
    simp only [k1, k2, k3, k6, if_true, if_false, lD, hm]
    simp
    rfl
  · rw [if_neg k6] at hs hp ⊢
    dsimp only at hs hp ⊢
    have := (eK.trans (eT.trans eP)) hs
    refine Eq.trans ?_ this.2.symm
    rw [hp]
    unfold bodyL
    simp [k1, k2, k3, k6]
end Go.Proofs.Ytjgomebnlekddaa
