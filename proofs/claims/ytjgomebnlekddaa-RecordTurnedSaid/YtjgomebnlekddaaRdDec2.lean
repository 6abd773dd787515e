/- record.Decode by its contract: Update. -/
import Derived.Test.YtjgomebnlekddaaRdDecK
namespace Go.Proofs.Ytjgomebnlekddaa
set_option linter.unusedVariables false
set_option linter.unusedSimpArgs false
open Go.RowKit
set_option maxRecDepth 100000 in
set_option maxHeartbeats 40000000 in
theorem dec_2 {n c : Nat} {A : Option Addr} {l : List Int} (w : World) (h : BsR w 0 w.heap.size A n l) (h5 : 5 ≤ n) (hc : n ≤ c) (hn : n ≤ 140737488355328) (hs : l.drop (n - 4) = fourL (sumL (l.take (n - 4)))) {K T : Int × Rdr} (hK : one ⟨l.take (n - 4), false⟩ = K) (hT : num8 K.2 = T) {P G O N : Int × Rdr} {X Y : List Int × Rdr} {m : Nat} (hP : num8 T.2 = P) (hG : num2 P.2 = G) (hO : num2 G.2 = O) (hN : num2 O.2 = N) (hNm : N.1 = m) (hm6 : m < 65536) (hX : nxt N.2 m = X) (hY : nxt X.2 m = Y) (h2 : K.1 = 2) (f : Bool) (hf : formR ⟨2, T.1, P.1, G.1, O.1, 0, X.1, Y.1, [], false⟩ = f) :
    Calls Try.prog 59 #[.slice A n c] w (DecPostR (finR ⟨2, T.1, P.1, G.1, O.1, 0, X.1, Y.1, [], false⟩ Y.2 f) w) := by
  have h2x := Lib.hid h2
  have hPx := Lib.hid hP
  have hGx := Lib.hid hG
  have hOx := Lib.hid hO
  have hNx := Lib.hid hN
  have hNmx := Lib.hid hNm
  have hXx := Lib.hid hX
  have hYx := Lib.hid hY
  have lX : X.1.length = m := by rw [← hX]; exact nxt_len _ _
  have lY : Y.1.length = m := by rw [← hY]; exact nxt_len _ _
  have hfm : formB 2 P.1 G.1 O.1 0 m m 0 false (dirtyOk (-1) []) = f := by
    have := hf
    unfold formR at this
    dsimp only at this
    rw [lX, lY] at this
    exact this
  have hlXx := Lib.hid lX
  have hlYx := Lib.hid lY
  have hfx := Lib.hid hfm
  clear h2 hP hG hO hN hNm hX hY lX lY hf hfm
  obtain ⟨gb, go', rfl, -, g2, -⟩ := h.2.2 (by omega)
  have i1 : ¬ (n : Int) < 5 := by omega
  have i2 : (5 : Int) ≤ n := by omega
  have i3 : (n : Int) ≤ c := by omega
  have i4 : (n : Int) ≤ 140737488355328 := by omega
  have hb1 := below_new w (.cells #[.int .u8 0, .int .u64 0, .int .u64 0, .int .i64 0, .int .i64 0, .slice none 0 0, .slice none 0 0, .int .u64 0, .slice none 0 0, .bool false] 26)
  have hq0 := sub_read (i := 0) (m := n - 4) h (by omega)
  have h1 := (h.below hb1 (Nat.le_refl _)).more hb1.size
  have hp := sub_read (i := 0) (m := n - 4) h1 (by omega)
  have hr := sub_read (i := n - 4) (m := 4) h1 (by omega)
  rw [List.drop_zero, Nat.add_zero] at hp hq0
  have e4 : (l.drop (n - 4)).take 4 = l.drop (n - 4) := List.take_of_length_le (by rw [List.length_drop, h.1]; omega)
  rw [e4] at hr
  have hsr := sumL_range (l.take (n - 4))
  have k0 := At.new w #[.int .u8 0, .int .u64 0, .int .u64 0, .int .i64 0, .int .i64 0, .slice none 0 0, .slice none 0 0, .int .u64 0, .slice none 0 0, .bool false] 26
  have hKx := Lib.hid hK
  have hTx := Lib.hid hT
  clear hK hT
  go_enter Try.func59, Try.ntmps59
  go_wp2_with fail
  generalize (w.alloc (.cells #[.int .u8 0, .int .u64 0, .int .u64 0, .int .i64 0, .int .i64 0, .slice none 0 0, .slice none 0 0, .int .u64 0, .slice none 0 0, .bool false] 26)) = w1 at *
  refine (sum_calls _ (n - 4) c (l.take (n - 4)) w1 (hp.bs (Nat.le_refl _)) (by omega)).mono ?_
  rintro e wS ⟨rfl, rfl⟩
  generalize sumL (l.take (n - 4)) = ss at *
  have i5 : ¬ (c = n - 4) := by omega
  have i6 : n - (n - 4) = 4 := by omega
  go_upto_region 5 with (fail)
  have hal := below_new w1 (.cells #[.int .u8 (ss / 16777216), .int .u8 (ss / 65536 % 256), .int .u8 (ss / 256 % 256), .int .u8 (ss % 256)] 5)
  have hrb : ∀ w', Below w1.heap.size w1 w' → (convert 23 9 (.slice (some ⟨gb, go' + (n - 4), none⟩) 4 (c - (n - 4)))).run Try.prog w' = .ok (.string (strL (l.drop (n - 4)))) w' := fun w' hb => run_str (c - (n - 4)) w' ((hr.below hb (Nat.le_refl _)).more hb.size)
  have hfb : ∀ w', At w' w1.heap.size #[.int .u8 (ss / 16777216), .int .u8 (ss / 65536 % 256), .int .u8 (ss / 256 % 256), .int .u8 (ss % 256)] 5 → (convert 23 9 (.slice (some ⟨w1.heap.size, 0, none⟩) 4 4)).run Try.prog w' = .ok (.string (strL (fourL ss))) w' := fun w' ha => run_str 4 w' (BsR.of_at (l := fourL ss) ha rfl (fourL_byt ss hsr))
  have ka := At.new w1 #[.int .u8 (ss / 16777216), .int .u8 (ss / 65536 % 256), .int .u8 (ss / 256 % 256), .int .u8 (ss % 256)] 5
  have c1 := hrb _ (below_dr (Below.refl _ _))
  have c2 := hrb _ hal
  have c3 := hrb _ (below_dr hal)
  have c4 := hrb _ (Below.refl _ _)
  have c5 := hfb _ ka
  have c6 := hfb _ ka.drew
  have hse : ((strL (l.drop (n - 4))).toList == (strL (fourL ss)).toList) = true := (str_eq (h.2.1.drop _) (fourL_byt ss hsr)).trans (decide_eq_true hs)
  apply dedupe
  · intro hK
    go_region
    all_goals exact hK.out
  have k1 := (k0.alloc (.cells #[.int .u8 (ss / 16777216), .int .u8 (ss / 65536 % 256), .int .u8 (ss / 256 % 256), .int .u8 (ss % 256)] 5)).drew
  have hB := below_dr (below_al (O := (.cells #[.int .u8 (ss / 16777216), .int .u8 (ss / 65536 % 256), .int .u8 (ss / 256 % 256), .int .u8 (ss % 256)] 5)) hb1)
  have hbyt := Lib.hid (h.2.1.take (n - 4))
  have hrd : BsR (w1.alloc (.cells #[.int .u8 (ss / 16777216), .int .u8 (ss / 65536 % 256), .int .u8 (ss / 256 % 256), .int .u8 (ss % 256)] 5)).drew 0 w.heap.size (some ⟨gb, go', none⟩) (n - 4) (l.take (n - 4)) := hq0.below hB (Nat.le_refl _)
  clear k0 ka c1 c2 c3 c4 c5 c6 hrb hfb hal hb1 hse hr hp h1 h hsr e4 hs g2 hq0
  generalize (w1.alloc (.cells #[.int .u8 (ss / 16777216), .int .u8 (ss / 65536 % 256), .int .u8 (ss / 256 % 256), .int .u8 (ss % 256)] 5)).drew = w2 at *
  obtain ⟨σ, hσe⟩ : ∃ σ, σ = w.heap.size := ⟨_, rfl⟩
  rw [← hσe] at k1 ⊢
  have hσ := Nat.le_of_eq hσe.symm
  clear hσe
  generalize l.take (n - 4) = b at *
  have hbl := hrd.1
  have k1l := k1.lt
  go_upto_region 8 with (fail)
  have hbq := below_new w2 (.cells #[.slice (some ⟨gb, go', none⟩) (n - 4) c, .bool false] 116)
  have hD : RdH (w2.alloc (.cells #[.slice (some ⟨gb, go', none⟩) (n - 4) c, .bool false] 116)) w.heap.size w2.heap.size ⟨b, false⟩ := by
    refine ⟨⟨some ⟨gb, go', none⟩, c, ?_, ?_, ?_⟩, hB.size, ?_⟩
    · show At _ _ #[.slice _ b.length c, _] _
      rw [hbl]; exact At.new w2 _ _
    · show BsR _ _ _ _ b.length b
      rw [hbl]; exact hrd.below hbq hB.size
    · show b.length ≤ c
      omega
    · show b.length ≤ _
      omega
  have k2 := At.keep hbq k1
  have hB2 := below_keep hbq hB
  clear k1 k1l hbq hB hrd
  generalize w2.heap.size = q at *
  generalize (w2.alloc (.cells #[.slice (some ⟨gb, go', none⟩) (n - 4) c, .bool false] 116)) = w3 at *
  go_wp2_with fail
  refine (next_at 1 w3 hD (by omega) rfl).mono ?_
  rintro e w4 ⟨B4, c4, rfl, ho4, hR4, hm4⟩
  have hkq : σ ≠ q := by
    obtain ⟨_, _, ha, _⟩ := hD.ex
    exact k2.ne_ty ha (by decide)
  have k4 := k2.mod hm4 hkq
  have hB4 := below_tr hB2 (hm4.below hB2.size (fun i hi => hi ▸ hD.lt))
  have hRK : RdH w4 w.heap.size q K.2 := by
    have : (one ⟨b, false⟩).2 = K.2 := by rw [hKx.out]
    exact this ▸ hR4
  have hcK : ∃ gb go', B4 = some ⟨gb, go', none⟩ ∧ gb < w4.heap.size ∧ w4.cell? ⟨gb, go', none⟩ = some (.int .u8 K.1) := by
    obtain ⟨g, o, hA, -, g2, hcl⟩ := ho4.reads.at_ (k := 0) (by omega)
    have : (one ⟨b, false⟩).1 = K.1 := by rw [hKx.out]
    exact ⟨g, o, hA, g2, by rw [← this]; simpa [one] using hcl⟩
  obtain ⟨xb, xo, rfl, xl, hcK⟩ := hcK
  have hKr : 0 ≤ K.1 ∧ K.1 ≤ 255 := by
    have := one_r (r := ⟨b, false⟩) hbyt.out
    rw [hKx.out] at this; exact this
  have hKb : Byt K.2.p := by
    have := one_byt (r := ⟨b, false⟩) hbyt.out
    rw [hKx.out] at this; exact this
  clear ho4 hR4 hm4 hB2 k2 hD hkq
  go_upto_region 9 with (fail)
  have hn5 := below_new w4 (.cells #[.int .u8 K.1, .int .u64 0, .int .u64 0, .int .i64 0, .int .i64 0, .slice none 0 0, .slice none 0 0, .int .u64 0, .slice none 0 0, .bool false] 26)
  have hS5 : DcS w (w4.alloc (.cells #[.int .u8 K.1, .int .u64 0, .int .u64 0, .int .i64 0, .int .i64 0, .slice none 0 0, .slice none 0 0, .int .u64 0, .slice none 0 0, .bool false] 26)) q w4.heap.size σ K.2 #[.int .u8 K.1, .int .u64 0, .int .u64 0, .int .i64 0, .int .i64 0, .slice none 0 0, .slice none 0 0, .int .u64 0, .slice none 0 0, .bool false] :=
    ⟨hRK.below hn5, At.new w4 _ _, At.keep hn5 k4, below_keep hn5 hB4, hB4.size, hσ, fun e => by have := k4.lt; omega⟩
  clear hRK hn5 k4 hB4 hcK xl
  generalize (w4.alloc (.cells #[.int .u8 K.1, .int .u64 0, .int .u64 0, .int .i64 0, .int .i64 0, .slice none 0 0, .slice none 0 0, .int .u64 0, .slice none 0 0, .bool false] 26)) = w5 at *
  generalize w4.heap.size = ρ at *
  rw [h2x.out] at hS5
  have hTb := Lib.hid (num8_next hKb hTx.out)
  have hPb := Lib.hid (num8_next hTb.out hPx.out)
  have hGb := Lib.hid (num2_next hPb.out hGx.out)
  have hOb := Lib.hid (num2_next hGb.out hOx.out)
  go_wp2_with fail
  refine (num8_at w5 hS5.rd hTx.out).mono ?_
  rintro e w6 ⟨rfl, hRx, hmx⟩
  have hS6 := hS5.call hRx hmx
  clear hRx hmx hS5
  have kr := hS6.rec_
  have krc := kr.c; have krf := kr.f; have krl := kr.lt
  go_upto_region 10 with (fail)
  have hS7 := hS6.set 1 (.int .u64 T.1)
  simp only [List.setIfInBounds_toArray, List.set_cons_zero, List.set_cons_succ] at hS7
  clear hS6 kr krc krf krl
  generalize (World.setCell w6 ⟨ρ, 1, none⟩ (.int .u64 T.1)) = w7 at *
  have kr := hS7.rec_
  have krc := kr.c; have krf := kr.f; have krl := kr.lt
  go_wp2_with fail
  refine (num8_at w7 hS7.rd hPx.out).mono ?_
  rintro e w8 ⟨rfl, hRx, hmx⟩
  have hS8 := hS7.call hRx hmx
  clear hRx hmx hS7
  have kr := hS8.rec_
  have krc := kr.c; have krf := kr.f; have krl := kr.lt
  go_upto_region 12 with (fail)
  have hS9 := hS8.set 2 (.int .u64 P.1)
  simp only [List.setIfInBounds_toArray, List.set_cons_zero, List.set_cons_succ] at hS9
  clear hS8 kr krc krf krl
  generalize (World.setCell w8 ⟨ρ, 2, none⟩ (.int .u64 P.1)) = w9 at *
  have kr := hS9.rec_
  have krc := kr.c; have krf := kr.f; have krl := kr.lt
  go_wp2_with fail
  refine (num2_at w9 hS9.rd hGx.out hPb.out).mono ?_
  rintro e wa ⟨rfl, hRx, hmx⟩
  have hSa := hS9.call hRx hmx
  clear hRx hmx hS9
  have kr := hSa.rec_
  have krc := kr.c; have krf := kr.f; have krl := kr.lt
  go_wp2_with fail
  refine (num2_at wa hSa.rd hOx.out hGb.out).mono ?_
  rintro e wb ⟨rfl, hRx, hmx⟩
  have hSb := hSa.call hRx hmx
  clear hRx hmx hSa
  have kr := hSb.rec_
  have krc := kr.c; have krf := kr.f; have krl := kr.lt
  go_upto_region 16 with (fail)
  have hSc := (hSb.set 3 (.int .i64 G.1)).set 4 (.int .i64 O.1)
  simp only [List.setIfInBounds_toArray, List.set_cons_zero, List.set_cons_succ] at hSc
  clear hSb kr krc krf krl
  generalize (World.setCell (World.setCell wb ⟨ρ, 3, none⟩ (.int .i64 G.1)) ⟨ρ, 4, none⟩ (.int .i64 O.1)) = wc at *
  have kr := hSc.rec_
  have krc := kr.c; have krf := kr.f; have krl := kr.lt
  go_wp2_with fail
  refine (num2_at wc hSc.rd hNx.out hOb.out).mono ?_
  rintro e wd ⟨rfl, hRx, hmx⟩
  have hSd := hSc.call hRx hmx
  clear hRx hmx hSc
  have kr := hSd.rec_
  have krc := kr.c; have krf := kr.f; have krl := kr.lt
  rw [hNmx.out]
  have sd := hSd.lts
  have ld := hSd.bel.size
  go_wp2_with fail
  refine (next_at m wd hSd.rd (by omega) hXx.out).mono ?_
  rintro e we ⟨BX, cX, rfl, hoX, hRx, hmX⟩
  have hSe := hSd.call hRx hmX
  clear hRx
  have kr := hSe.rec_
  have krc := kr.c; have krf := kr.f; have krl := kr.lt
  replace hoX := hoX.past sd.2.1 (setMod we ρ 5 (.slice BX m cX))
  go_upto_region 19 with (fail)
  have hSx := hSe.set 5 (.slice BX m cX)
  simp only [List.setIfInBounds_toArray, List.set_cons_zero, List.set_cons_succ] at hSx
  clear hSe kr krc krf krl
  generalize (World.setCell we ⟨ρ, 5, none⟩ (.slice BX m cX)) = wx at *
  have kr := hSx.rec_
  have krc := kr.c; have krf := kr.f; have krl := kr.lt
  have sx := hSx.lts
  have lx := hSx.bel.size
  go_wp2_with fail
  refine (next_at m wx hSx.rd (by omega) hYx.out).mono ?_
  rintro e wg ⟨BY, cY, rfl, hoY, hRx, hmY⟩
  have hSg := hSx.call hRx hmY
  clear hRx
  have kr := hSg.rec_
  have krc := kr.c; have krf := kr.f; have krl := kr.lt
  have hap := Lib.hid (hoX.apart hoY (Nat.le_refl _))
  replace hoX := hoX.past sd.1 hmY
  replace hoX := hoX.past sd.2.1 (setMod wg ρ 6 (.slice BY m cY))
  replace hoY := hoY.past sx.2.1 (setMod wg ρ 6 (.slice BY m cY))
  go_upto_region 29 with (fail)
  have hSh := hSg.set 6 (.slice BY m cY)
  simp only [List.setIfInBounds_toArray, List.set_cons_zero, List.set_cons_succ] at hSh
  clear hSg kr krc krf krl
  generalize (World.setCell wg ⟨ρ, 6, none⟩ (.slice BY m cY)) = wh at *
  have kr := hSh.rec_
  have krc := kr.c; have krf := kr.f; have krl := kr.lt
  have form_kk := fun (w' : World) => form_at 2 T.1 P.1 G.1 O.1 0 BX BY none m cX m cY 0 0 false [] f w' ⟨rfl, Rd.nil _ _ _ _ _⟩ (by omega) hfx.out
  obtain ⟨A9, c9, kq, -, -⟩ := hSh.rd.ex
  have ks := hSh.res
  have hBz := hSh.bel
  have ksc := ks.c; have ksf := ks.f; have ksl := ks.lt
  cases hsh : Rdr.s (Y.2)
  · by_cases hem : Rdr.p (Y.2) = []
    · rw [hsh, hem, List.length_nil] at kq
      have kqc := kq.c; have kqf := kq.f; have kql := kq.lt
      go_wp2_with fail
      refine (form_kk wh).mono ?_
      rintro e wf ⟨rfl, hbf⟩
      have hSf := hSh.later hbf
      clear kq kqc kqf kql ks ksc ksf ksl hBz kr krc krf krl
      have ks := hSf.res
      have kr := hSf.rec_
      have hBz := hSf.bel
      have ksc := ks.c; have ksf := ks.f; have ksl := ks.lt
      have krc := kr.c; have krf := kr.f; have krl := kr.lt
      cases f
      · have hz := Lib.hid (show finR ⟨2, T.1, P.1, G.1, O.1, 0, X.1, Y.1, [], false⟩ (Y.2) false = (zeroR, 3) from if_neg (fun h => by cases h.2.2))
        go_wp2
        have ht := ks.ten (.int .u8 0) (.int .u64 0) (.int .u64 0) (.int .i64 0) (.int .i64 0) (.slice none 0 0) (.slice none 0 0) (.int .u64 0) (.slice none 0 0) (.bool false)
        have hB2 := hBz.trans (ht.2.below hBz.size (fun i hi => by subst hi; exact hσ))
        have kz := ht.1.c
        clear ht ks ksc ksf ksl
        generalize World.setCell _ _ _ = wz at *
        refine bodyPost_ret (v := .tuple #[.agg zCells, .int .i64 3]) (by simp [results, Try.results59, go_sem, zCells, kz]) rfl ?_
        exact ⟨hB2, .inr ⟨by rw [hz.out]; decide, by rw [hz.out]⟩⟩
      · have hz := Lib.hid (show finR ⟨2, T.1, P.1, G.1, O.1, 0, X.1, Y.1, [], false⟩ (Y.2) true = (⟨2, T.1, P.1, G.1, O.1, 0, X.1, Y.1, [], false⟩, 0) from if_pos ⟨hsh, hem, rfl⟩)
        go_wp2
        have ht := ks.ten (.int .u8 2) (.int .u64 T.1) (.int .u64 P.1) (.int .i64 G.1) (.int .i64 O.1) (.slice BX m cX) (.slice BY m cY) (.int .u64 0) (.slice none 0 0) (.bool false)
        have hB2 := hBz.trans (ht.2.below hBz.size (fun i hi => by subst hi; exact hσ))
        have kz := ht.1.c
        have hmz := ht.2
        clear ht ks ksc ksf ksl kr krc krf krl
        generalize hwz : World.setCell _ _ _ = wz at *
        clear hwz
        refine bodyPost_ret (v := .tuple #[.agg #[.int .u8 2, .int .u64 T.1, .int .u64 P.1, .int .i64 G.1, .int .i64 O.1, .slice BX m cX, .slice BY m cY, .int .u64 0, .slice none 0 0, .bool false], .int .i64 0]) (by simp [results, Try.results59, go_sem, kz]) rfl ?_
        refine ⟨hB2, .inl ⟨by rw [hz.out], ?_⟩⟩
        rw [hz.out]
        refine ⟨_, rfl, ?_⟩
        refine ⟨BX, BY, none, cX, cY, 0, ?_, ?_, ?_, World.ownsRow_nil _ _ _ _, hap.out⟩
        · dsimp only; rw [hlXx.out, hlYx.out]; rfl
        · dsimp only; rw [hlXx.out]; exact ((hoX.later hbf).past sd.2.2 hmz).less ld
        · dsimp only; rw [hlYx.out]; exact ((hoY.later hbf).past sx.2.2 hmz).less lx
    · have hz := Lib.hid (show finR ⟨2, T.1, P.1, G.1, O.1, 0, X.1, Y.1, [], false⟩ (Y.2) f = (zeroR, 3) from if_neg (fun h => hem h.2.1))
      have hpos : (0 : Int) < (Rdr.p (Y.2)).length := by
        have := List.length_pos_iff.2 hem
        omega
      rw [hsh] at kq
      have kqc := kq.c; have kqf := kq.f; have kql := kq.lt
      go_wp2
      have ht := ks.ten (.int .u8 0) (.int .u64 0) (.int .u64 0) (.int .i64 0) (.int .i64 0) (.slice none 0 0) (.slice none 0 0) (.int .u64 0) (.slice none 0 0) (.bool false)
      have hB2 := hBz.trans (ht.2.below hBz.size (fun i hi => by subst hi; exact hσ))
      have kz := ht.1.c
      clear ht ks ksc ksf ksl
      generalize World.setCell _ _ _ = wz at *
      refine bodyPost_ret (v := .tuple #[.agg zCells, .int .i64 3]) (by simp [results, Try.results59, go_sem, zCells, kz]) rfl ?_
      exact ⟨hB2, .inr ⟨by rw [hz.out]; decide, by rw [hz.out]⟩⟩
  · have hz := Lib.hid (show finR ⟨2, T.1, P.1, G.1, O.1, 0, X.1, Y.1, [], false⟩ (Y.2) f = (zeroR, 3) from if_neg (fun h => by rw [hsh] at h; cases h.1))
    rw [hsh] at kq
    have kqc := kq.c; have kqf := kq.f; have kql := kq.lt
    go_wp2
    have ht := ks.ten (.int .u8 0) (.int .u64 0) (.int .u64 0) (.int .i64 0) (.int .i64 0) (.slice none 0 0) (.slice none 0 0) (.int .u64 0) (.slice none 0 0) (.bool false)
    have hB2 := hBz.trans (ht.2.below hBz.size (fun i hi => by subst hi; exact hσ))
    have kz := ht.1.c
    clear ht ks ksc ksf ksl
    generalize World.setCell _ _ _ = wz at *
    refine bodyPost_ret (v := .tuple #[.agg zCells, .int .i64 3]) (by simp [results, Try.results59, go_sem, zCells, kz]) rfl ?_
    exact ⟨hB2, .inr ⟨by rw [hz.out]; decide, by rw [hz.out]⟩⟩
end Go.Proofs.Ytjgomebnlekddaa
