/- record.Decode by its contract: Check. -/
import Derived.Test.YtjgomebnlekddaaRdDecK
import Derived.Deep.RegionLaw
namespace Go.Proofs.Ytjgomebnlekddaa
set_option linter.unusedVariables false
set_option linter.unusedSimpArgs false
open Go.RowKit
theorem and_one : ∀ n : Nat, n < 256 → bits .and .u8 (n : Int) 1 = (n : Int) % 2 := by decide +kernel
theorem and_one' {x : Int} (h0 : 0 ≤ x) (h1 : x ≤ 255) : bits .and .u8 x 1 = x % 2 := by
  obtain ⟨n, rfl⟩ := Int.eq_ofNat_of_zero_le h0
  exact and_one n (by omega)
theorem dirtyElt : EltOk Try.prog 24 94 2 16 (.agg #[.int .i64 0, .int .u64 0]) := ⟨Try.underlying24, info_parts (by kernel_rfl), rfl, by decide⟩
theorem drV_one (a b : Int) : ∀ u ∈ (#[.int .i64 a, .int .u64 b] : Array Value).toList, u.oneCell' = true := by
  intro u hu
  simp at hu
  rcases hu with rfl | rfl <;> rfl
theorem owns_aft {w w' : World} {base e sz n c m : Nat} {A : Option Addr} {xs : List Value} (h : w.ownsRow base e sz (.slice A n c) m xs) (hb : Below w.heap.size w w') : w'.ownsRow base e sz (.slice A n c) m xs :=
  owns_heap h (fun b hq => hb.block b (h.lt b hq).2)
theorem owns_lessD {w : World} {base base' e sz n c m : Nat} {A : Option Addr} {xs : List Value} (h : w.ownsRow base e sz (.slice A n c) m xs) (hb : base' ≤ base) : w.ownsRow base' e sz (.slice A n c) m xs := by
  refine ⟨h.1, ?_⟩
  rcases h.2 with h1 | ⟨g, cap, cur, h1, h2, h3⟩
  · exact .inl h1
  · exact .inr ⟨g, cap, cur, h1, by omega, h3⟩
theorem drV_at : ∀ (l : List (Int × Int)) (j : Nat), j < l.length * 2 → (l.flatMap drV)[j]? = some (prF l j)
  | [], j, h => by simp at h
  | d :: l, 0, _ => by simp [drV, prF]
  | d :: l, 1, _ => by simp [drV, prF]
  | d :: l, j + 2, h => by
    have ih := drV_at l j (by simp at h; omega)
    have e : (d :: l).flatMap drV = .int .i64 d.1 :: .int .u64 d.2 :: l.flatMap drV := by simp [drV]
    rw [e, List.getElem?_cons_succ, List.getElem?_cons_succ, ih]
    unfold prF
    rw [show (j + 2) % 2 = j % 2 by omega, show (j + 2) / 2 = j / 2 + 1 by omega]
    simp
theorem PrR.of_owns {w : World} {base n c : Nat} {A : Option Addr} {l : List (Int × Int)} (h : w.ownsRow base 94 2 (.slice A n c) n (l.flatMap drV)) (hl : l.length = n) : PrR w 0 w.heap.size A n l := by
  refine ⟨hl, fun h0 => ?_⟩
  obtain ⟨g, cap, hv, hb, hlt⟩ := h.form (by omega)
  injection hv with hA _ _
  subst hA
  refine ⟨g, 0, rfl, Nat.zero_le _, hlt, fun j hj => ?_⟩
  have hc := h.cells (g := g) rfl j (prF l j) (drV_at l j (by omega))
  rw [Go.WideShapes.add_plain] at hc
  exact hc
theorem DcS.upto {w0 w w' : World} {q ρ σ B : Nat} {r : Rdr} {cs : Array Value} (h : DcS w0 w q ρ σ r cs) (hb : Below B w w') (h1 : q < B) (h2 : ρ < B) (h3 : σ < B) : DcS w0 w' q ρ σ r cs := by
  obtain ⟨A, c, ha, hbs, hc⟩ := h.rd.ex
  have hl := h.rd.lt
  exact ⟨⟨⟨A, c, ha.below hb h1, hbs.below hb (by omega), hc⟩, h.rd.lt, h.rd.mx⟩, h.rec_.below hb h2, h.res.below hb h3, h.bel.trans (hb.mono (by omega)), h.lr, h.ls, h.ne⟩
set_option maxHeartbeats 80000000
set_option maxRecDepth 100000 in
set_option maxHeartbeats 40000000 in
theorem dec_6 {n c : Nat} {A : Option Addr} {l : List Int} (w : World) (h : BsR w 0 w.heap.size A n l) (h5 : 5 ≤ n) (hc : n ≤ c) (hn : n ≤ 140737488355328) (hs : l.drop (n - 4) = fourL (sumL (l.take (n - 4)))) {K T : Int × Rdr} (hK : one ⟨l.take (n - 4), false⟩ = K) (hT : num8 K.2 = T) {P M : Int × Rdr} {cnt : Nat} {o : Bool} {D : List (Int × Int) × Rdr} (hP : num8 T.2 = P) (hM : one P.2 = M) (hMc : M.1 / 2 = cnt) (hMo : decide (M.1 % 2 = 1) = o) (hD : dirtTo M.2 cnt = D) (h6 : K.1 = 6) (f : Bool) (hf : formR ⟨6, T.1, P.1, 0, 0, 0, [], [], D.1, o⟩ = f) :
    Calls Try.prog 59 #[.slice A n c] w (DecPostR (finR ⟨6, T.1, P.1, 0, 0, 0, [], [], D.1, o⟩ D.2 f) w) := by
  have h6x := Lib.hid h6
  have hPx := Lib.hid hP
  have hMx := Lib.hid hM
  have hMcx := Lib.hid hMc
  have hMox := Lib.hid hMo
  have hDx := Lib.hid hD
  have lD : D.1.length = cnt := by rw [← hD]; exact dirt_len _ _
  have hfm : formB 6 P.1 0 0 0 0 0 cnt o (dirtyOk (-1) D.1) = f := by
    have := hf
    unfold formR at this
    dsimp only at this
    rw [lD] at this
    exact this
  have hlDx := Lib.hid lD
  have hfx := Lib.hid hfm
  clear h6 hP hM hMc hMo hD lD hf hfm
  obtain ⟨gb, go', rfl, -, g2, -⟩ := h.2.2 (by omega)
  have i1 : ¬ (n : Int) < 5 := by omega
  have i2 : (5 : Int) ≤ n := by omega
  have i3 : (n : Int) ≤ c := by omega
  have i4 : (n : Int) ≤ 140737488355328 := by omega
  have hb1 := below_new w (.cells #[.int .u8 0, .int .u64 0, .int .u64 0, .int .i64 0, .int .i64 0, .slice none 0 0, .slice none 0 0, .int .u64 0, .slice none 0 0, .bool false] 26)
  have hq0 := sub_read (i := 0) (m := n - 4) h (by omega)
  have h1 := (h.below hb1 (Nat.le_refl _)).more hb1.size
  have hp := sub_read (i := 0) (m := n - 4) h1 (by omega)
  have hr := sub_read (i := n - 4) (m := 4) h1 (by omega)
  rw [List.drop_zero, Nat.add_zero] at hp hq0
  have e4 : (l.drop (n - 4)).take 4 = l.drop (n - 4) := List.take_of_length_le (by rw [List.length_drop, h.1]; omega)
  rw [e4] at hr
  have hsr := sumL_range (l.take (n - 4))
  have k0 := At.new w #[.int .u8 0, .int .u64 0, .int .u64 0, .int .i64 0, .int .i64 0, .slice none 0 0, .slice none 0 0, .int .u64 0, .slice none 0 0, .bool false] 26
  have hKx := Lib.hid hK
  have hTx := Lib.hid hT
  clear hK hT
  go_enter Try.func59, Try.ntmps59
  go_wp2_with fail
  generalize (w.alloc (.cells #[.int .u8 0, .int .u64 0, .int .u64 0, .int .i64 0, .int .i64 0, .slice none 0 0, .slice none 0 0, .int .u64 0, .slice none 0 0, .bool false] 26)) = w1 at *
  refine (sum_calls _ (n - 4) c (l.take (n - 4)) w1 (hp.bs (Nat.le_refl _)) (by omega)).mono ?_
  rintro e wS ⟨rfl, rfl⟩
  generalize sumL (l.take (n - 4)) = ss at *
  have i5 : ¬ (c = n - 4) := by omega
  have i6 : n - (n - 4) = 4 := by omega
  go_upto_region 5 with (fail)
  have hal := below_new w1 (.cells #[.int .u8 (ss / 16777216), .int .u8 (ss / 65536 % 256), .int .u8 (ss / 256 % 256), .int .u8 (ss % 256)] 5)
  have hrb : ∀ w', Below w1.heap.size w1 w' → (convert 23 9 (.slice (some ⟨gb, go' + (n - 4), none⟩) 4 (c - (n - 4)))).run Try.prog w' = .ok (.string (strL (l.drop (n - 4)))) w' := fun w' hb => run_str (c - (n - 4)) w' ((hr.below hb (Nat.le_refl _)).more hb.size)
  have hfb : ∀ w', At w' w1.heap.size #[.int .u8 (ss / 16777216), .int .u8 (ss / 65536 % 256), .int .u8 (ss / 256 % 256), .int .u8 (ss % 256)] 5 → (convert 23 9 (.slice (some ⟨w1.heap.size, 0, none⟩) 4 4)).run Try.prog w' = .ok (.string (strL (fourL ss))) w' := fun w' ha => run_str 4 w' (BsR.of_at (l := fourL ss) ha rfl (fourL_byt ss hsr))
  have ka := At.new w1 #[.int .u8 (ss / 16777216), .int .u8 (ss / 65536 % 256), .int .u8 (ss / 256 % 256), .int .u8 (ss % 256)] 5
  have c1 := hrb _ (below_dr (Below.refl _ _))
  have c2 := hrb _ hal
  have c3 := hrb _ (below_dr hal)
  have c4 := hrb _ (Below.refl _ _)
  have c5 := hfb _ ka
  have c6 := hfb _ ka.drew
  have hse : ((strL (l.drop (n - 4))).toList == (strL (fourL ss)).toList) = true := (str_eq (h.2.1.drop _) (fourL_byt ss hsr)).trans (decide_eq_true hs)
  apply dedupe
  · intro hK
    go_region
    all_goals exact hK.out
  have k1 := (k0.alloc (.cells #[.int .u8 (ss / 16777216), .int .u8 (ss / 65536 % 256), .int .u8 (ss / 256 % 256), .int .u8 (ss % 256)] 5)).drew
  have hB := below_dr (below_al (O := (.cells #[.int .u8 (ss / 16777216), .int .u8 (ss / 65536 % 256), .int .u8 (ss / 256 % 256), .int .u8 (ss % 256)] 5)) hb1)
  have hbyt := Lib.hid (h.2.1.take (n - 4))
  have hrd : BsR (w1.alloc (.cells #[.int .u8 (ss / 16777216), .int .u8 (ss / 65536 % 256), .int .u8 (ss / 256 % 256), .int .u8 (ss % 256)] 5)).drew 0 w.heap.size (some ⟨gb, go', none⟩) (n - 4) (l.take (n - 4)) := hq0.below hB (Nat.le_refl _)
  clear k0 ka c1 c2 c3 c4 c5 c6 hrb hfb hal hb1 hse hr hp h1 h hsr e4 hs g2 hq0
  generalize (w1.alloc (.cells #[.int .u8 (ss / 16777216), .int .u8 (ss / 65536 % 256), .int .u8 (ss / 256 % 256), .int .u8 (ss % 256)] 5)).drew = w2 at *
  obtain ⟨σ, hσe⟩ : ∃ σ, σ = w.heap.size := ⟨_, rfl⟩
  rw [← hσe] at k1 ⊢
  have hσ := Nat.le_of_eq hσe.symm
  clear hσe
  generalize l.take (n - 4) = b at *
  have hbl := hrd.1
  have k1l := k1.lt
  go_upto_region 8 with (fail)
  have hbq := below_new w2 (.cells #[.slice (some ⟨gb, go', none⟩) (n - 4) c, .bool false] 116)
  have hD : RdH (w2.alloc (.cells #[.slice (some ⟨gb, go', none⟩) (n - 4) c, .bool false] 116)) w.heap.size w2.heap.size ⟨b, false⟩ := by
    refine ⟨⟨some ⟨gb, go', none⟩, c, ?_, ?_, ?_⟩, hB.size, ?_⟩
    · show At _ _ #[.slice _ b.length c, _] _
      rw [hbl]; exact At.new w2 _ _
    · show BsR _ _ _ _ b.length b
      rw [hbl]; exact hrd.below hbq hB.size
    · show b.length ≤ c
      omega
    · show b.length ≤ _
      omega
  have k2 := At.keep hbq k1
  have hB2 := below_keep hbq hB
  clear k1 k1l hbq hB hrd
  generalize w2.heap.size = q at *
  generalize (w2.alloc (.cells #[.slice (some ⟨gb, go', none⟩) (n - 4) c, .bool false] 116)) = w3 at *
  go_wp2_with fail
  refine (next_at 1 w3 hD (by omega) rfl).mono ?_
  rintro e w4 ⟨B4, c4, rfl, ho4, hR4, hm4⟩
  have hkq : σ ≠ q := by
    obtain ⟨_, _, ha, _⟩ := hD.ex
    exact k2.ne_ty ha (by decide)
  have k4 := k2.mod hm4 hkq
  have hB4 := below_tr hB2 (hm4.below hB2.size (fun i hi => hi ▸ hD.lt))
  have hRK : RdH w4 w.heap.size q K.2 := by
    have : (one ⟨b, false⟩).2 = K.2 := by rw [hKx.out]
    exact this ▸ hR4
  have hcK : ∃ gb go', B4 = some ⟨gb, go', none⟩ ∧ gb < w4.heap.size ∧ w4.cell? ⟨gb, go', none⟩ = some (.int .u8 K.1) := by
    obtain ⟨g, o, hA, -, g2, hcl⟩ := ho4.reads.at_ (k := 0) (by omega)
    have : (one ⟨b, false⟩).1 = K.1 := by rw [hKx.out]
    exact ⟨g, o, hA, g2, by rw [← this]; simpa [one] using hcl⟩
  obtain ⟨xb, xo, rfl, xl, hcK⟩ := hcK
  have hKr : 0 ≤ K.1 ∧ K.1 ≤ 255 := by
    have := one_r (r := ⟨b, false⟩) hbyt.out
    rw [hKx.out] at this; exact this
  have hKb : Byt K.2.p := by
    have := one_byt (r := ⟨b, false⟩) hbyt.out
    rw [hKx.out] at this; exact this
  clear ho4 hR4 hm4 hB2 k2 hD hkq
  go_upto_region 9 with (fail)
  have hn5 := below_new w4 (.cells #[.int .u8 K.1, .int .u64 0, .int .u64 0, .int .i64 0, .int .i64 0, .slice none 0 0, .slice none 0 0, .int .u64 0, .slice none 0 0, .bool false] 26)
  have hS5 : DcS w (w4.alloc (.cells #[.int .u8 K.1, .int .u64 0, .int .u64 0, .int .i64 0, .int .i64 0, .slice none 0 0, .slice none 0 0, .int .u64 0, .slice none 0 0, .bool false] 26)) q w4.heap.size σ K.2 #[.int .u8 K.1, .int .u64 0, .int .u64 0, .int .i64 0, .int .i64 0, .slice none 0 0, .slice none 0 0, .int .u64 0, .slice none 0 0, .bool false] :=
    ⟨hRK.below hn5, At.new w4 _ _, At.keep hn5 k4, below_keep hn5 hB4, hB4.size, hσ, fun e => by have := k4.lt; omega⟩
  clear hRK hn5 k4 hB4 hcK xl
  generalize (w4.alloc (.cells #[.int .u8 K.1, .int .u64 0, .int .u64 0, .int .i64 0, .int .i64 0, .slice none 0 0, .slice none 0 0, .int .u64 0, .slice none 0 0, .bool false] 26)) = w5 at *
  generalize w4.heap.size = ρ at *
  rw [h6x.out] at hS5
  have hTb := Lib.hid (num8_next hKb hTx.out)
  have hPb := Lib.hid (num8_next hTb.out hPx.out)
  go_wp2_with fail
  refine (num8_at w5 hS5.rd hTx.out).mono ?_
  rintro e w6 ⟨rfl, hRx, hmx⟩
  have hS6 := hS5.call hRx hmx
  clear hRx hmx hS5
  have kr := hS6.rec_
  have krc := kr.c; have krf := kr.f; have krl := kr.lt
  go_upto_region 10 with (fail)
  have hS7 := hS6.set 1 (.int .u64 T.1)
  simp only [List.setIfInBounds_toArray, List.set_cons_zero, List.set_cons_succ] at hS7
  clear hS6 kr krc krf krl
  generalize (World.setCell w6 ⟨ρ, 1, none⟩ (.int .u64 T.1)) = w7 at *
  have kr := hS7.rec_
  have krc := kr.c; have krf := kr.f; have krl := kr.lt
  go_wp2_with fail
  refine (num8_at w7 hS7.rd hPx.out).mono ?_
  rintro e w8 ⟨rfl, hRx, hmx⟩
  have hS8 := hS7.call hRx hmx
  clear hRx hmx hS7
  have kr := hS8.rec_
  have krc := kr.c; have krf := kr.f; have krl := kr.lt
  go_upto_region 12 with (fail)
  have hS9 := hS8.set 2 (.int .u64 P.1)
  simp only [List.setIfInBounds_toArray, List.set_cons_zero, List.set_cons_succ] at hS9
  clear hS8 kr krc krf krl
  generalize (World.setCell w8 ⟨ρ, 2, none⟩ (.int .u64 P.1)) = w9 at *
  have kr := hS9.rec_
  have krc := kr.c; have krf := kr.f; have krl := kr.lt
  go_wp2_with fail
  refine (next_at 1 w9 hS9.rd (by omega) rfl).mono ?_
  rintro e wa ⟨Ba, ca, rfl, hoa, hRa, hma⟩
  have hRM : RdH wa w.heap.size q M.2 := by
    have : (one P.2).2 = M.2 := by rw [hMx.out]
    exact this ▸ hRa
  have hSa := hS9.call hRM hma
  have hcM : ∃ gb go', Ba = some ⟨gb, go', none⟩ ∧ gb < wa.heap.size ∧ wa.cell? ⟨gb, go', none⟩ = some (.int .u8 M.1) := by
    obtain ⟨g, o, hA, -, g2, hcl⟩ := hoa.reads.at_ (k := 0) (by omega)
    have : (one P.2).1 = M.1 := by rw [hMx.out]
    exact ⟨g, o, hA, g2, by rw [← this]; simpa [one] using hcl⟩
  obtain ⟨yb, yo, rfl, yl, hcM⟩ := hcM
  have hMr : 0 ≤ M.1 ∧ M.1 ≤ 255 := by
    have := one_r hPb.out
    rw [hMx.out] at this; exact this
  have hMb : Byt M.2.p := by
    have := one_byt hPb.out
    rw [hMx.out] at this; exact this
  have hMb' := Lib.hid hMb
  clear hRa hRM hoa hma hS9 hMb
  have kr := hSa.rec_
  have krc := kr.c; have krf := kr.f; have krl := kr.lt
  have m1 := and_one' hMr.1 hMr.2
  have m2 : (M.1 % 2 == 1) = o := hMox.out
  go_upto_region 25 with (fail)
  have hSb := hSa.set 9 (.bool o)
  simp only [List.setIfInBounds_toArray, List.set_cons_zero, List.set_cons_succ] at hSb
  clear hSa kr krc krf krl hcM yl m1 m2
  generalize (World.setCell wa ⟨ρ, 9, none⟩ (.bool o)) = wb at *
  go_upto_region 26 with (fail)
  rw [hMcx.out]
  have hc128 : cnt ≤ 127 := by have := hMcx.out; omega
  have sb := hSb.lts
  have lb := hSb.bel.size
  have hr0 := World.ownsRow_nil wb wb.heap.size 94 2
  go_loopw [101] (fun v101 wr => ∃ (j : Nat) (dA : Option Addr) (dC : Nat), j ≤ cnt ∧ v101 = .int .u8 j ∧ DcS w wr q ρ σ (dirtTo M.2 j).2 #[.int .u8 6, .int .u64 T.1, .int .u64 P.1, .int .i64 0, .int .i64 0, .slice none 0 0, .slice none 0 0, .int .u64 0, .slice dA j dC, .bool o] ∧ wr.ownsRow wb.heap.size 94 2 (.slice dA j dC) j ((dirtTo M.2 j).1.flatMap drV) ∧ wb.heap.size ≤ wr.heap.size) (fun v101 _ => 128 - (intOf v101).toNat)
  case atStart => exact ⟨0, none, 0, Nat.zero_le _, rfl, hSb, hr0, Nat.le_refl _⟩
  case round =>
    clear hSb hr0
    obtain ⟨j, dA, dC, hj, rfl, hS, hrow, hsz⟩ := hrel
    obtain ⟨wA, hwA⟩ : ∃ wA, wA = wr := ⟨_, rfl⟩
    subst hwA
    by_cases hlt : j < cnt
    · have hdl := dirt_len M.2 j
      have hrb := dirt_byt hMb'.out j
      have hstep : dirtTo M.2 (j + 1) = ((dirtTo M.2 j).1 ++ [((num2 (dirtTo M.2 j).2).1, (num8 (num2 (dirtTo M.2 j).2).2).1)], (num8 (num2 (dirtTo M.2 j).2).2).2) := rfl
      generalize dirtTo M.2 j = Lr at *
      obtain ⟨G, hG⟩ : ∃ G, num2 Lr.2 = G := ⟨_, rfl⟩
      obtain ⟨U, hU⟩ : ∃ U, num8 G.2 = U := ⟨_, rfl⟩
      rw [hG, hU] at hstep
      have hGx := Lib.hid hG
      have hUx := Lib.hid hU
      have hst := Lib.hid hstep
      have hrb' := Lib.hid hrb
      clear hG hU hstep hrb
      have j1 : (j : Int) < cnt := by omega
      have j2 : (j : Int) < 128 := by omega
      have d0 : Below wA.heap.size wA wA.drew := below_dr (Below.refl _ _)
      have hSd := hS.later d0
      have hrd := owns_aft hrow d0
      have hszd : wb.heap.size ≤ wA.drew.heap.size := hsz
      have kd := hSd.rec_
      have kdc := kd.c
      have kdf := kd.f
      have hne : some ρ ≠ ownBlk dA := fun e => by have := (hrow.lt ρ (by rw [ownBlk_eq]; exact e.symm)).1; omega
      have q1 : j + 1 ≤ maxLen := by unfold maxLen; omega
      have q2 : (j + 1) * 16 ≤ 140737488355328 := by omega
      clear hS hrow d0
      go_upto_region 27 with (fail)
      go_region_law
        (first
          | (refine step_appG dirtyElt (by rfl) (.tmp 104) (.tmp 110) (by rfl) wb.heap.size j dC dA _ (by rfl) (owns_aft hru (below_new wu (.cells #[.int .i64 G.1, .int .u64 U.1] 94))) 1 1 (some ⟨wu.heap.size, 0, none⟩) [.int .i64 G.1, .int .u64 U.1] (by rfl) (Src.of_at (At.new wu #[.int .i64 G.1, .int .u64 U.1] 94) rfl (drV_one _ _)) q1 q2 (Nat.le_trans hszu (ge_new _ _)) ?_; intro A7 c7 w7 ho7 hg7 hb7 hat7
             have hS7 := (hSu.later (below_new wu (.cells #[.int .i64 G.1, .int .u64 U.1] 94))).upto hb7 sb.1 sb.2.1 sb.2.2
             have k7 := hS7.rec_
             have k7c := k7.c
             have k7f := k7.f)
          | (go_simp; go_at_call 76; with_reducible refine (num2_at wA.drew hSd.rd hGx.out hrb'.out).mono ?_; rintro e wg ⟨rfl, hRg, hmg⟩
             have hSg := hSd.call hRg hmg
             have kgc := hSg.rec_.c
             have hszg : wb.heap.size ≤ wg.heap.size := Nat.le_trans hszd hmg.size
             have hrg := owns_past hrd sb.1 hmg)
          | (go_simp; go_at_call 75; with_reducible refine (num8_at wg hSg.rd hUx.out).mono ?_; rintro e wu ⟨rfl, hRu, hmu⟩
             have hSu := hSg.call hRu hmu
             have kuc := hSu.rec_.c
             have kua := (hSu.later (below_new wu (.cells #[.int .i64 G.1, .int .u64 U.1] 94))).rec_.c
             have hszu : wb.heap.size ≤ wu.heap.size := Nat.le_trans hszg hmu.size
             have hru := owns_past hrg sb.1 hmu))
      all_goals
        have hS8 := hS7.set 8 (.slice A7 (j + 1) c7)
        simp only [List.setIfInBounds_toArray, List.set_cons_zero, List.set_cons_succ] at hS8
        have hr8 := owns_past ho7 sb.2.1 (setMod w7 ρ 8 (.slice A7 (j + 1) c7))
        have hs8 : wb.heap.size ≤ (w7.setCell ⟨ρ, 8, none⟩ (.slice A7 (j + 1) c7)).heap.size := Nat.le_trans hszu (Nat.le_trans (ge_new wu _) (Nat.le_trans hg7.size (setMod w7 ρ 8 (.slice A7 (j + 1) c7)).size))
        have hfin : ∃ (dA : Option Addr) (dC : Nat), DcS w (w7.setCell ⟨ρ, 8, none⟩ (.slice A7 (j + 1) c7)) q ρ σ (dirtTo M.2 (j + 1)).2 #[.int .u8 6, .int .u64 T.1, .int .u64 P.1, .int .i64 0, .int .i64 0, .slice none 0 0, .slice none 0 0, .int .u64 0, .slice dA (j + 1) dC, .bool o] ∧ (w7.setCell ⟨ρ, 8, none⟩ (.slice A7 (j + 1) c7)).ownsRow wb.heap.size 94 2 (.slice dA (j + 1) dC) (j + 1) ((dirtTo M.2 (j + 1)).1.flatMap drV) := by
          rw [hst.out]
          refine ⟨A7, c7, hS8, ?_⟩
          have e : (Lr.1 ++ [(G.1, U.1)]).flatMap drV = Lr.1.flatMap drV ++ [.int .i64 G.1, .int .u64 U.1] := by rw [List.flatMap_append]; rfl
          rw [e]
          exact hr8
        obtain ⟨dA', dC', f1, f2⟩ := hfin
        clear hS8 hr8 hS7 k7 k7c k7f hSu hSg hSd kuc kua kgc kd kdc kdf hru hrg hrd
        generalize (w7.setCell ⟨ρ, 8, none⟩ (.slice A7 (j + 1) c7)) = w8 at *
        go_wp2
        go_roundw
        case rel => exact ⟨j + 1, dA', dC', by omega, by go_num, f1, f2, hs8⟩
        case measure => simp [intOf]; omega
    · obtain rfl : j = cnt := by omega
      have j1 : ¬ (j : Int) < (j : Int) := by omega
      rw [hDx.out] at hS hrow
      have kr := hS.rec_
      have krc := kr.c; have krf := kr.f; have krl := kr.lt
      have hPr := PrR.of_owns hrow hlDx.out
      have form_kz : ∀ w' : World, _ := fun (_ : World) => form_at 6 T.1 P.1 0 0 0 none none dA 0 0 0 0 j dC o D.1 f wA hPr (by omega) hfx.out
      go_upto_region 29 with (fail)
      obtain ⟨A9, c9, kq, -, -⟩ := hS.rd.ex
      have ks := hS.res
      have hBz := hS.bel
      have ksc := ks.c; have ksf := ks.f; have ksl := ks.lt
      cases hsh : Rdr.s (D.2)
      · by_cases hem : Rdr.p (D.2) = []
        · rw [hsh, hem, List.length_nil] at kq
          have kqc := kq.c; have kqf := kq.f; have kql := kq.lt
          go_wp2_with fail
          refine (form_kz wA).mono ?_
          rintro e wf ⟨rfl, hbf⟩
          have hSf := hS.later hbf
          clear kq kqc kqf kql ks ksc ksf ksl hBz kr krc krf krl
          have ks := hSf.res
          have kr := hSf.rec_
          have hBz := hSf.bel
          have ksc := ks.c; have ksf := ks.f; have ksl := ks.lt
          have krc := kr.c; have krf := kr.f; have krl := kr.lt
          cases f
          · have hz := Lib.hid (show finR ⟨6, T.1, P.1, 0, 0, 0, [], [], D.1, o⟩ (D.2) false = (zeroR, 3) from if_neg (fun h => by cases h.2.2))
            go_wp2
            have ht := ks.ten (.int .u8 0) (.int .u64 0) (.int .u64 0) (.int .i64 0) (.int .i64 0) (.slice none 0 0) (.slice none 0 0) (.int .u64 0) (.slice none 0 0) (.bool false)
            have hB2 := hBz.trans (ht.2.below hBz.size (fun i hi => by subst hi; exact hσ))
            have kz := ht.1.c
            clear ht ks ksc ksf ksl
            generalize World.setCell _ _ _ = wz at *
            refine bodyPost_ret (v := .tuple #[.agg zCells, .int .i64 3]) (by simp [results, Try.results59, go_sem, zCells, kz]) rfl ?_
            exact ⟨hB2, .inr ⟨by rw [hz.out]; decide, by rw [hz.out]⟩⟩
          · have hz := Lib.hid (show finR ⟨6, T.1, P.1, 0, 0, 0, [], [], D.1, o⟩ (D.2) true = (⟨6, T.1, P.1, 0, 0, 0, [], [], D.1, o⟩, 0) from if_pos ⟨hsh, hem, rfl⟩)
            go_wp2
            have ht := ks.ten (.int .u8 6) (.int .u64 T.1) (.int .u64 P.1) (.int .i64 0) (.int .i64 0) (.slice none 0 0) (.slice none 0 0) (.int .u64 0) (.slice dA j dC) (.bool o)
            have hB2 := hBz.trans (ht.2.below hBz.size (fun i hi => by subst hi; exact hσ))
            have kz := ht.1.c
            have hmz := ht.2
            clear ht ks ksc ksf ksl kr krc krf krl
            generalize hwz : World.setCell _ _ _ = wz at *
            clear hwz
            refine bodyPost_ret (v := .tuple #[.agg #[.int .u8 6, .int .u64 T.1, .int .u64 P.1, .int .i64 0, .int .i64 0, .slice none 0 0, .slice none 0 0, .int .u64 0, .slice dA j dC, .bool o], .int .i64 0]) (by simp [results, Try.results59, go_sem, kz]) rfl ?_
            refine ⟨hB2, .inl ⟨by rw [hz.out], ?_⟩⟩
            rw [hz.out]
            refine ⟨_, rfl, ?_⟩
            refine ⟨none, none, dA, 0, 0, dC, ?_, OwB.nil _ _, OwB.nil _ _, ?_, .inl rfl⟩
            · dsimp only; rw [hlDx.out]; rfl
            · dsimp only; rw [hlDx.out]; exact owns_lessD (owns_past (owns_aft hrow hbf) sb.2.2 hmz) lb
        · have hz := Lib.hid (show finR ⟨6, T.1, P.1, 0, 0, 0, [], [], D.1, o⟩ (D.2) f = (zeroR, 3) from if_neg (fun h => hem h.2.1))
          have hpos : (0 : Int) < (Rdr.p (D.2)).length := by
            have := List.length_pos_iff.2 hem
            omega
          rw [hsh] at kq
          have kqc := kq.c; have kqf := kq.f; have kql := kq.lt
          go_wp2
          have ht := ks.ten (.int .u8 0) (.int .u64 0) (.int .u64 0) (.int .i64 0) (.int .i64 0) (.slice none 0 0) (.slice none 0 0) (.int .u64 0) (.slice none 0 0) (.bool false)
          have hB2 := hBz.trans (ht.2.below hBz.size (fun i hi => by subst hi; exact hσ))
          have kz := ht.1.c
          clear ht ks ksc ksf ksl
          generalize World.setCell _ _ _ = wz at *
          refine bodyPost_ret (v := .tuple #[.agg zCells, .int .i64 3]) (by simp [results, Try.results59, go_sem, zCells, kz]) rfl ?_
          exact ⟨hB2, .inr ⟨by rw [hz.out]; decide, by rw [hz.out]⟩⟩
      · have hz := Lib.hid (show finR ⟨6, T.1, P.1, 0, 0, 0, [], [], D.1, o⟩ (D.2) f = (zeroR, 3) from if_neg (fun h => by rw [hsh] at h; cases h.1))
        rw [hsh] at kq
        have kqc := kq.c; have kqf := kq.f; have kql := kq.lt
        go_wp2
        have ht := ks.ten (.int .u8 0) (.int .u64 0) (.int .u64 0) (.int .i64 0) (.int .i64 0) (.slice none 0 0) (.slice none 0 0) (.int .u64 0) (.slice none 0 0) (.bool false)
        have hB2 := hBz.trans (ht.2.below hBz.size (fun i hi => by subst hi; exact hσ))
        have kz := ht.1.c
        clear ht ks ksc ksf ksl
        generalize World.setCell _ _ _ = wz at *
        refine bodyPost_ret (v := .tuple #[.agg zCells, .int .i64 3]) (by simp [results, Try.results59, go_sem, zCells, kz]) rfl ?_
        exact ⟨hB2, .inr ⟨by rw [hz.out]; decide, by rw [hz.out]⟩⟩
end Go.Proofs.Ytjgomebnlekddaa
