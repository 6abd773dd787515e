/- record.Decode by its contract. -/
import Derived.Test.YtjgomebnlekddaaRcPlain2
import Derived.Test.YtjgomebnlekddaaRdN
import Derived.Test.YtjgomebnlekddaaHeld
import Derived.Test.YtjgomebnlekddaaDisk
namespace Go.Proofs.Ytjgomebnlekddaa
set_option linter.unusedVariables false
set_option linter.unusedSimpArgs false
open Go.RowKit
def zCells : Array Value := #[.int .u8 0, .int .u64 0, .int .u64 0, .int .i64 0, .int .i64 0, .slice none 0 0, .slice none 0 0, .int .u64 0, .slice none 0 0, .bool false]
def drV (d : Int × Int) : List Value := [.int .i64 d.1, .int .u64 d.2]
/-- What a good Decode tells: a record whose rows are the call's own. -/
def RecOwn (w : World) (base : Nat) (R : Rc) (v : Value) : Prop :=
  ∃ (bA aA dA : Option Addr) (bC aC dC : Nat), v = .agg #[.int .u8 R.k, .int .u64 R.tx, .int .u64 R.prev, .int .i64 R.page, .int .i64 R.off, .slice bA R.bl.length bC, .slice aA R.al.length aC, .int .u64 R.next, .slice dA R.dl.length dC, .bool R.opn] ∧
    OwB w base bA R.bl.length bC R.bl ∧ OwB w base aA R.al.length aC R.al ∧ w.ownsRow base 94 2 (.slice dA R.dl.length dC) R.dl.length (R.dl.flatMap drV) ∧ (ownBlk bA = none ∨ ownBlk bA ≠ ownBlk aA)
def DecPostR (res : Rc × Int) (w : World) (e : Ending) (w' : World) : Prop :=
  Below w.heap.size w w' ∧ ((res.2 = 0 ∧ ∃ v, e = .returned (.tuple #[v, .int .i64 0]) ∧ RecOwn w' w.heap.size res.1 v) ∨ (res.2 ≠ 0 ∧ e = .returned (.tuple #[.agg zCells, .int .i64 res.2])))
/-- The state of Decode's walk. -/
structure DcS (w0 w : World) (q ρ σ : Nat) (r : Rdr) (cs : Array Value) : Prop where
  rd : RdH w w0.heap.size q r
  rec_ : At w ρ cs 26
  res : At w σ #[.int .u8 0, .int .u64 0, .int .u64 0, .int .i64 0, .int .i64 0, .slice none 0 0, .slice none 0 0, .int .u64 0, .slice none 0 0, .bool false] 26
  bel : Below w0.heap.size w0 w
  lr : w0.heap.size ≤ ρ
  ls : w0.heap.size ≤ σ
  ne : ρ ≠ σ
theorem DcS.nq {w0 w : World} {q ρ σ : Nat} {r : Rdr} {cs : Array Value} (h : DcS w0 w q ρ σ r cs) : ρ ≠ q ∧ σ ≠ q := by
  obtain ⟨A, c, ha, _⟩ := h.rd.ex
  exact ⟨h.rec_.ne_ty ha (by decide), h.res.ne_ty ha (by decide)⟩
theorem DcS.call {w0 w w' : World} {q ρ σ : Nat} {r r' : Rdr} {cs : Array Value} (h : DcS w0 w q ρ σ r cs) (hr : RdH w' w0.heap.size q r') (hm : Mod (fun i => i = q) w w') : DcS w0 w' q ρ σ r' cs :=
  ⟨hr, h.rec_.mod hm h.nq.1, h.res.mod hm h.nq.2, h.bel.trans (hm.below h.bel.size (fun i hi => hi ▸ h.rd.lt)), h.lr, h.ls, h.ne⟩
theorem DcS.set {w0 w : World} {q ρ σ : Nat} {r : Rdr} {cs : Array Value} (h : DcS w0 w q ρ σ r cs) (o : Nat) (v : Value) : DcS w0 (w.setCell ⟨ρ, o, none⟩ v) q ρ σ r (cs.setIfInBounds o v) :=
  have hm : Mod (fun i => i = ρ) w (w.setCell ⟨ρ, o, none⟩ v) := (Mod.refl (fun i => i = ρ) w).set (.inl rfl) _
  ⟨h.rd.mod hm (fun e => h.nq.1 e.symm) (fun k hk => hk ▸ h.lr), h.rec_.set, h.res.mod hm (fun e => h.ne e.symm), h.bel.setCell h.lr _, h.lr, h.ls, h.ne⟩
theorem DcS.later {w0 w w' : World} {q ρ σ : Nat} {r : Rdr} {cs : Array Value} (h : DcS w0 w q ρ σ r cs) (hb : Below w.heap.size w w') : DcS w0 w' q ρ σ r cs :=
  ⟨h.rd.below hb, At.keep hb h.rec_, At.keep hb h.res, h.bel.trans (hb.mono h.bel.size), h.lr, h.ls, h.ne⟩
theorem DcS.to {w0 w : World} {q ρ σ : Nat} {r : Rdr} {cs cs' : Array Value} (h : DcS w0 w q ρ σ r cs) (e : cs = cs') : DcS w0 w q ρ σ r cs' := e ▸ h
theorem DcS.lts {w0 w : World} {q ρ σ : Nat} {r : Rdr} {cs : Array Value} (h : DcS w0 w q ρ σ r cs) : q < w.heap.size ∧ ρ < w.heap.size ∧ σ < w.heap.size := by
  obtain ⟨A, c, ha, _⟩ := h.rd.ex
  exact ⟨ha.lt, h.rec_.lt, h.res.lt⟩
theorem owns_past {w w' : World} {base e sz n c k m : Nat} {A : Option Addr} {xs : List Value} (h : w.ownsRow base e sz (.slice A n c) m xs) (hk : k < base) (hm : Mod (fun i => i = k) w w') : w'.ownsRow base e sz (.slice A n c) m xs :=
  owns_heap h (fun b hb => by
    have hl := h.lt b hb
    exact hm.block b hl.2 (fun e => by omega))
theorem OwB.past {w w' : World} {base n c k : Nat} {A : Option Addr} {l : List Int} (h : OwB w base A n c l) (hk : k < base) (hm : Mod (fun i => i = k) w w') : OwB w' base A n c l := ⟨h.1, h.2.1, owns_past h.2.2 hk hm⟩
theorem setMod (w : World) (k o : Nat) (v : Value) : Mod (fun i => i = k) w (w.setCell ⟨k, o, none⟩ v) := (Mod.refl (fun i => i = k) w).set (.inl rfl) _
theorem num8_next {r : Rdr} {x : Int × Rdr} (h : Byt r.p) (e : num8 r = x) : Byt x.2.p := e ▸ num8_byt h
theorem num2_next {r : Rdr} {x : Int × Rdr} (h : Byt r.p) (e : num2 r = x) : Byt x.2.p := e ▸ num2_byt h
theorem OwB.apart {w w' : World} {base base' n c n' c' : Nat} {A B : Option Addr} {l l' : List Int} (h : OwB w base A n c l) (h' : OwB w' base' B n' c' l') (hb : w.heap.size ≤ base') : ownBlk A = none ∨ ownBlk A ≠ ownBlk B := by
  cases ha : ownBlk A with
  | none => exact .inl rfl
  | some k =>
    refine .inr (fun e => ?_)
    have h1 := (h.lt k ha).2
    have h2 := (h'.lt k e.symm).1
    omega
theorem num8_at {hi q : Nat} {r : Rdr} {x : Int × Rdr} (w : World) (h : RdH w hi q r) (e : num8 r = x) :
    Calls Try.prog 75 #[.pointer (some ⟨q, 0, none⟩)] w fun e w' => e = .returned (.int .u64 x.1) ∧ RdH w' hi q x.2 ∧ Mod (fun i => i = q) w w' := e ▸ num8_calls w h
theorem num2_at {hi q : Nat} {r : Rdr} {x : Int × Rdr} (w : World) (h : RdH w hi q r) (e : num2 r = x) (hb : Byt r.p) :
    Calls Try.prog 76 #[.pointer (some ⟨q, 0, none⟩)] w fun e w' => e = .returned (.int .i64 x.1) ∧ RdH w' hi q x.2 ∧ Mod (fun i => i = q) w w' := e ▸ num2_calls w h hb
theorem next_at {hi q : Nat} {r : Rdr} {x : List Int × Rdr} (k : Nat) (w : World) (h : RdH w hi q r) (hk : k ≤ 65536) (e : nxt r k = x) :
    Calls Try.prog 74 #[.pointer (some ⟨q, 0, none⟩), .int .i64 k] w fun e w' => ∃ B c, e = .returned (.slice B k c) ∧ OwB w' w.heap.size B k c x.1 ∧ RdH w' hi q x.2 ∧ Mod (fun i => i = q) w w' := e ▸ next_calls k w h hk
set_option maxRecDepth 100000 in
set_option maxHeartbeats 4000000 in
theorem dec_short {n c : Nat} {A : Option Addr} {l : List Int} (w : World) (h : BsR w 0 w.heap.size A n l) (h5 : n < 5) : Calls Try.prog 59 #[.slice A n c] w (DecPostR (zeroR, 3) w) := by
  have i1 : (n : Int) < 5 := by omega
  go_enter Try.func59, Try.ntmps59
  go_wp2
  have k0 := (At.new w zCells 26).c
  refine bodyPost_ret (v := .tuple #[.agg zCells, .int .i64 3]) (by simp [results, Try.results59, go_sem, zCells]) rfl ?_
  exact ⟨below_new w _, .inr ⟨by decide, rfl⟩⟩
theorem At.ten {w2 : World} {b T : Nat} {c0 c1 c2 c3 c4 c5 c6 c7 c8 c9 : Value} (h : At w2 b #[c0, c1, c2, c3, c4, c5, c6, c7, c8, c9] T) (v0 v1 v2 v3 v4 v5 v6 v7 v8 v9 : Value) : At ((((((((((w2.setCell ⟨b, 0, none⟩ v0).setCell ⟨b, 1, none⟩ v1).setCell ⟨b, 2, none⟩ v2).setCell ⟨b, 3, none⟩ v3).setCell ⟨b, 4, none⟩ v4).setCell ⟨b, 5, none⟩ v5).setCell ⟨b, 6, none⟩ v6).setCell ⟨b, 7, none⟩ v7).setCell ⟨b, 8, none⟩ v8).setCell ⟨b, 9, none⟩ v9) b #[v0, v1, v2, v3, v4, v5, v6, v7, v8, v9] T ∧ Mod (fun i => i = b) w2 ((((((((((w2.setCell ⟨b, 0, none⟩ v0).setCell ⟨b, 1, none⟩ v1).setCell ⟨b, 2, none⟩ v2).setCell ⟨b, 3, none⟩ v3).setCell ⟨b, 4, none⟩ v4).setCell ⟨b, 5, none⟩ v5).setCell ⟨b, 6, none⟩ v6).setCell ⟨b, 7, none⟩ v7).setCell ⟨b, 8, none⟩ v8).setCell ⟨b, 9, none⟩ v9) := by
  refine ⟨(h.set.set.set.set.set.set.set.set.set.set).to (by simp), ?_⟩
  have hm := Mod.refl (fun i => i = b) w2
  iterate 10 refine Mod.set (S := fun i => i = b) ?_ (.inl rfl) _
  exact hm
/-- Several ways that come to one place: it is proved once. -/
theorem dedupe {P Q : Prop} (k : Hid P → Q) (h : P) : Q := k (Lib.hid h)
theorem sub_read {w : World} {gb go' n i m : Nat} {l : List Int} (h : BsR w 0 w.heap.size (some ⟨gb, go', none⟩) n l) (him : i + m ≤ n) : BsR w 0 w.heap.size (some ⟨gb, go' + i, none⟩) m ((l.drop i).take m) := by
  obtain ⟨h1, h2, h3⟩ := h
  refine ⟨by rw [List.length_take, List.length_drop]; omega, (h2.drop i).take m, fun h0 => ?_⟩
  obtain ⟨g, o, hA, -, g2, hc⟩ := h3 (by omega)
  injection hA with hA
  injection hA with e1 e2
  subst e1 e2
  refine ⟨gb, go' + i, rfl, Nat.zero_le _, g2, fun j hj => ?_⟩
  rw [Nat.add_assoc, hc (i + j) (by omega)]
  simp [bsF, List.getD_eq_getElem?_getD, List.getElem?_take, hj]
set_option maxRecDepth 100000 in
set_option maxHeartbeats 4000000 in
theorem dec_sum {n c : Nat} {A : Option Addr} {l : List Int} (w : World) (h : BsR w 0 w.heap.size A n l) (h5 : 5 ≤ n) (hc : n ≤ c) (hn : n ≤ 140737488355328) (hs : l.drop (n - 4) ≠ fourL (sumL (l.take (n - 4)))) : Calls Try.prog 59 #[.slice A n c] w (DecPostR (zeroR, 15) w) := by
  obtain ⟨gb, go', rfl, -, g2, -⟩ := h.2.2 (by omega)
  have i1 : ¬ (n : Int) < 5 := by omega
  have i2 : (5 : Int) ≤ n := by omega
  have i3 : (n : Int) ≤ c := by omega
  have i4 : (n : Int) ≤ 140737488355328 := by omega
  have hb1 := below_new w (.cells #[.int .u8 0, .int .u64 0, .int .u64 0, .int .i64 0, .int .i64 0, .slice none 0 0, .slice none 0 0, .int .u64 0, .slice none 0 0, .bool false] 26)
  have h1 := (h.below hb1 (Nat.le_refl _)).more hb1.size
  have hp := sub_read (i := 0) (m := n - 4) h1 (by omega)
  have hr := sub_read (i := n - 4) (m := 4) h1 (by omega)
  rw [List.drop_zero, Nat.add_zero] at hp
  have e4 : (l.drop (n - 4)).take 4 = l.drop (n - 4) := List.take_of_length_le (by rw [List.length_drop, h.1]; omega)
  rw [e4] at hr
  have hsr := sumL_range (l.take (n - 4))
  have k0 := At.new w #[.int .u8 0, .int .u64 0, .int .u64 0, .int .i64 0, .int .i64 0, .slice none 0 0, .slice none 0 0, .int .u64 0, .slice none 0 0, .bool false] 26
  go_enter Try.func59, Try.ntmps59
  go_wp2_with fail
  generalize (w.alloc (.cells #[.int .u8 0, .int .u64 0, .int .u64 0, .int .i64 0, .int .i64 0, .slice none 0 0, .slice none 0 0, .int .u64 0, .slice none 0 0, .bool false] 26)) = w1 at *
  refine (sum_calls _ (n - 4) c (l.take (n - 4)) w1 (hp.bs (Nat.le_refl _)) (by omega)).mono ?_
  rintro e wS ⟨rfl, rfl⟩
  generalize sumL (l.take (n - 4)) = ss at *
  have i5 : ¬ (c = n - 4) := by omega
  have i6 : n - (n - 4) = 4 := by omega
  go_upto_region 5 with (fail)
  have hal := below_new w1 (.cells #[.int .u8 (ss / 16777216), .int .u8 (ss / 65536 % 256), .int .u8 (ss / 256 % 256), .int .u8 (ss % 256)] 5)
  have hrb : ∀ w', Below w1.heap.size w1 w' → (convert 23 9 (.slice (some ⟨gb, go' + (n - 4), none⟩) 4 (c - (n - 4)))).run Try.prog w' = .ok (.string (strL (l.drop (n - 4)))) w' := fun w' hb => run_str (c - (n - 4)) w' ((hr.below hb (Nat.le_refl _)).more hb.size)
  have hfb : ∀ w', At w' w1.heap.size #[.int .u8 (ss / 16777216), .int .u8 (ss / 65536 % 256), .int .u8 (ss / 256 % 256), .int .u8 (ss % 256)] 5 → (convert 23 9 (.slice (some ⟨w1.heap.size, 0, none⟩) 4 4)).run Try.prog w' = .ok (.string (strL (fourL ss))) w' := fun w' ha => run_str 4 w' (BsR.of_at (l := fourL ss) ha rfl (fourL_byt ss hsr))
  have ka := At.new w1 #[.int .u8 (ss / 16777216), .int .u8 (ss / 65536 % 256), .int .u8 (ss / 256 % 256), .int .u8 (ss % 256)] 5
  have c1 := hrb _ (below_dr (Below.refl _ _))
  have c2 := hrb _ hal
  have c3 := hrb _ (below_dr hal)
  have c4 := hrb _ (Below.refl _ _)
  have c5 := hfb _ ka
  have c6 := hfb _ ka.drew
  have hse : ((strL (l.drop (n - 4))).toList == (strL (fourL ss)).toList) = false := (str_eq (h.2.1.drop _) (fourL_byt ss hsr)).trans (decide_eq_false hs)
  apply dedupe
  · intro hK
    go_region
    all_goals exact hK.out
  · have k1 := (k0.alloc (.cells #[.int .u8 (ss / 16777216), .int .u8 (ss / 65536 % 256), .int .u8 (ss / 256 % 256), .int .u8 (ss % 256)] 5)).drew
    have hB := below_dr (below_al (O := (.cells #[.int .u8 (ss / 16777216), .int .u8 (ss / 65536 % 256), .int .u8 (ss / 256 % 256), .int .u8 (ss % 256)] 5)) hb1)
    clear k0 ka c1 c2 c3 c4 c5 c6 hrb hfb hal hb1 hse hr hp h1
    generalize (w1.alloc (.cells #[.int .u8 (ss / 16777216), .int .u8 (ss / 65536 % 256), .int .u8 (ss / 256 % 256), .int .u8 (ss % 256)] 5)).drew = w2 at *
    have hσ0 := Nat.le_refl w.heap.size
    obtain ⟨σ, hσe⟩ : ∃ σ, σ = w.heap.size := ⟨_, rfl⟩
    rw [← hσe] at k1 ⊢
    have hσ := Lib.hid (Nat.le_of_eq hσe.symm)
    clear hσe
    have k1c := k1.c; have k1f := k1.f; have k1l := k1.lt
    go_wp2
    have ht := k1.ten (.int .u8 0) (.int .u64 0) (.int .u64 0) (.int .i64 0) (.int .i64 0) (.slice none 0 0) (.slice none 0 0) (.int .u64 0) (.slice none 0 0) (.bool false)
    have hB2 := hB.trans (ht.2.below hB.size (fun i hi => by subst hi; exact hσ.out))
    have k2 := ht.1.c
    clear k1 k1c k1f k1l ht
    generalize World.setCell _ _ _ = w3 at *
    refine bodyPost_ret (v := .tuple #[.agg zCells, .int .i64 15]) (by simp [results, Try.results59, go_sem, zCells, k2]) rfl ?_
    exact ⟨hB2, .inr ⟨by decide, rfl⟩⟩
end Go.Proofs.Ytjgomebnlekddaa
