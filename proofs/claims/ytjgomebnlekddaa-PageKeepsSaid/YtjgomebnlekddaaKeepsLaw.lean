/- PageKeeps: the walk of the law. -/
import Derived.Test.YtjgomebnlekddaaSwapsLaw
import Derived.Test.YtjgomebnlekddaaRPut2
import Derived.Test.YtjgomebnlekddaaStore
import Derived.Test.YtjgomebnlekddaaBits
import Derived.Deep.RegionLaw
namespace Go.Proofs.Ytjgomebnlekddaa
set_option linter.unusedVariables false
set_option linter.unusedSimpArgs false
open Go.RowKit
theorem strElt : EltOk Try.prog 43 9 1 16 (.string ByteArray.empty) := ⟨Try.underlying43, info_parts (by kernel_rfl), rfl, by decide⟩
def sepS (c : Cl) : ByteArray := strL c.1 ++ ⟨#[0]⟩ ++ strL c.2
def wasV (l : List Cl) : List Value := l.map fun c => .string (sepS c)
theorem wasV_take (l : List Cl) (j : Nat) (h : j < l.length) : wasV (l.take (j + 1)) = wasV (l.take j) ++ [.string (sepS (clAt l j))] := by
  rw [take_one l j h]; simp [wasV]
theorem wasV_at (l : List Cl) (j : Nat) (h : j < l.length) : (wasV l)[j]? = some (.string (sepS (clAt l j))) := by
  simp [wasV, clAt, h]
theorem xor1 {x : Int} (h0 : 0 ≤ x) (h1 : x ≤ 255) : 0 ≤ bits .xor .u8 x 1 ∧ bits .xor .u8 x 1 ≤ 255 := by
  obtain ⟨n, rfl⟩ := Int.eq_ofNat_of_zero_le h0
  have h := u8_xor_nat n 1 (by omega) (by decide)
  have hx : n ^^^ 1 < 2 ^ 8 := Nat.xor_lt_two_pow (by omega) (by decide)
  rw [show (1 : Int) = ((1 : Nat) : Int) from rfl, h]
  omega
theorem strL_size (l : List Int) : (strL l).size = l.length := by simp [strL, ByteArray.size, u8s]
theorem owns_later {w w' : World} {base e sz n m c : Nat} {A : Option Addr} {xs : List Value} (h : w.ownsRow base e sz (.slice A n c) m xs) (hb : Below w.heap.size w w') : w'.ownsRow base e sz (.slice A n c) m xs :=
  h.kept (grown_of_below hb (some w.heap.size)) (by rw [ownBlk_eq]; exact ne_of_lt_size fun k hk => (h.lt k (by rw [ownBlk_eq]; exact hk)).2)
theorem was_cell {w w' : World} {base n c t : Nat} {A : Option Addr} {L : List Cl} (h : w.ownsRow base 9 1 (.slice A n c) n (wasV L)) (hl : L.length = n) (ht : t < n) (hb : Below w.heap.size w w') : ∃ b, A = some ⟨b, 0, none⟩ ∧ w'.cell? ⟨b, t, none⟩ = some (.string (sepS (clAt L t))) := by
  obtain ⟨g, cap, hv, -, hlt⟩ := h.form (by omega)
  injection hv with hA _ _
  subst hA
  have hc := h.cells (g := g) rfl t _ (wasV_at L t (by omega))
  rw [Go.WideShapes.add_plain] at hc
  simp only [Nat.zero_add] at hc
  exact ⟨g, rfl, (hb.cell (p := ⟨g, t, none⟩) hlt).trans hc⟩
theorem one_str (s : ByteArray) : ∀ u ∈ (#[.string s] : Array Value).toList, u.oneCell' = true := by
  intro u hu
  simp at hu
  subst hu
  rfl
set_option maxRecDepth 100000 in
set_option maxHeartbeats 8000000 in
theorem keeps_calls {n c kN kC vN vC : Nat} {A kA vA : Option Addr} {l : List Cl} {k v : List Int} (w : World) (h : CsR w 0 w.heap.size A n l) (hc : n ≤ c) (hk : BsR w 0 w.heap.size kA kN k) (hv : BsR w 0 w.heap.size vA vN v) (m1 : kN ≤ 70368744177664 * 2) (m2 : vN ≤ 70368744177664 * 2) (hn0 : n ≤ 140737488355328) :
    Calls Try.prog 6 #[.slice A n c, .agg #[.slice kA kN kC, .slice vA vN vC]] w fun e w' => e = .returned (.bool true) ∧ Below w.heap.size w w' := by
  go_enter Try.func6, Try.ntmps6
  go_wp2_with fail
  have k0 := At.new w #[.slice kA kN kC, .slice vA vN vC] 35
  have hB := below_new w (.cells #[.slice kA kN kC, .slice vA vN vC] 35)
  generalize (w.alloc (.cells #[.slice kA kN kC, .slice vA vN vC] 35)) = w0 at *
  refine (pawake_calls _).mono ?_
  rintro e w1 ⟨rfl, hb1⟩
  have hB1 := below_keep hb1 hB
  replace k0 := At.keep hb1 k0
  clear hB hb1
  go_wp2_with fail
  refine (rises_calls c w1 (h.below hB1 (Nat.le_refl _)) hn0).mono ?_
  rintro e w2 ⟨rfl, i2, rfl⟩
  have hB2 := below_drewN hB1 i2
  replace k0 := At.drewN k0 i2
  clear hB1
  generalize w1.drewN i2 = w2 at *
  cases hr : risB l
  · go_wp2_with fail
    refine (pawake_calls _).mono ?_
    rintro e w3 ⟨rfl, hb3⟩
    go_wp2
    go_ret
    exact ⟨by first | rfl | simp, below_keep hb3 hB2⟩
  · have hrs := risB_rs hr
    by_cases hn : n ≤ 100
    · have hn' : (n : Int) ≤ 100 := by omega
      have hln := h.1
      have hlp := len_put l k v
      have hld := len_drop l k
      have k0c := k0.c; have k0f := k0.f; have k0l := k0.lt
      go_wp2_with fail
      refine (rput_calls c kC vC w2 ((h.below hB2 (Nat.le_refl _)).widen (Nat.le_refl _) hB2.size) ((hk.below hB2 (Nat.le_refl _)).more hB2.size) ((hv.below hB2 (Nat.le_refl _)).more hB2.size) m1 m2 (by omega) hrs).mono ?_
      rintro e w3 ⟨A3, c3, n3, hs3, rfl, ho3, hb3⟩
      have hB3 := below_keep hb3 hB2
      replace k0 := At.keep hb3 k0
      have hw3 := ho3.reads hb3.size
      have hwl := Lib.hid hw3.1
      have hn3 : n3 ≤ 101 := by rw [← hw3.1]; omega
      clear ho3 hb3 k0c k0f k0l hr
      have hputl := Lib.hid (show (dropL (putL l k v) k).length ≤ 101 from by rw [drop_put]; omega)
      have hrp := Lib.hid (rs_put (k := k) (v := v) hrs)
      have hP := Lib.hid (rfl : putL l k v = putL l k v)
      obtain ⟨L, hL⟩ : ∃ L, putL l k v = L := ⟨_, rfl⟩
      rw [hL] at hw3 hwl hputl hrp
      have hL' := Lib.hid hL
      clear hL hP hlp hld
      go_upto_region 6 with (fail)
      go_loopw [6, 7] (fun v6 v7 wr => ∃ (j : Nat) (A6 : Option Addr) (c6 : Nat), j ≤ n3 ∧ v7 = .int .i64 j ∧ v6 = .slice A6 j c6 ∧ wr.ownsRow w3.heap.size 9 1 (.slice A6 j c6) j (wasV (L.take j)) ∧ Below w3.heap.size w3 wr) (fun _ v7 _ => n3 - (intOf v7).toNat)
      case atStart => exact ⟨0, none, 0, by omega, rfl, rfl, World.ownsRow_nil _ _ _ _, Below.refl _ _⟩
      case round =>
        obtain ⟨j, A6, c6, hj, rfl, rfl, ho6, hBr⟩ := hrel
        by_cases hlt : j < n3
        · obtain ⟨gb, go', xA, xN, xC, yA, yN, yC, rfl, g1, g2, d1, d2, b1, b2, x1, x2⟩ := hw3.2 j hlt
          have hS : ∀ w', Below w3.heap.size w3 w' → w'.cell? ⟨gb, go' + j * 2, none⟩ = some (.slice xA xN xC) ∧ w'.cell? ⟨gb, go' + j * 2 + 1, none⟩ = some (.slice yA yN yC) ∧ (convert 23 9 (.slice xA xN xC)).run Try.prog w' = .ok (.string (strL (clAt L j).1)) w' ∧ (convert 23 9 (.slice yA yN yC)).run Try.prog w' = .ok (.string (strL (clAt L j).2)) w' := fun w' hb =>
            ⟨(hb.cell (p := ⟨gb, go' + j * 2, none⟩) g2).trans d1, (hb.cell (p := ⟨gb, go' + j * 2 + 1, none⟩) g2).trans d2, run_str xC w' (b1.below hb (Nat.le_refl _)), run_str yC w' (b2.below hb (Nat.le_refl _))⟩
          have hS' := Lib.hid hS
          have hst := Lib.hid (wasV_take L j (by rw [hwl.out]; exact hlt))
          have hj0 : (0 : Int) ≤ j := by omega
          have hj1 : (j : Int) < n3 := by omega
          have q1 : j + 1 ≤ maxLen := by unfold maxLen; omega
          have q2 : (j + 1) * 16 ≤ 140737488355328 := by omega
          have c0 : Below w3.heap.size w3 wr.drew := below_dr hBr
          have hsw : w3.heap.size ≤ wr.drew.heap.size := hBr.size
          have ho6d : wr.drew.ownsRow w3.heap.size 9 1 (.slice A6 j c6) j (wasV (L.take j)) := ho6
          have hsep : sepS (clAt L j) = strL (clAt L j).1 ++ ⟨#[0]⟩ ++ strL (clAt L j).2 := rfl
          have hsep' := Lib.hid hsep
          have hz1 : (strL (clAt L j).1).size ≤ 140737488355328 := by rw [strL_size, b1.1]; omega
          have hz2 : (strL (clAt L j).2).size ≤ 140737488355328 := by rw [strL_size, b2.1]; omega
          clear b1 b2 d1 d2 hS hsep
          generalize strL (clAt L j).1 = sa at *
          generalize strL (clAt L j).2 = sb at *
          have hz3 : ¬ 9223372036854775807 < sa.size + 1 := by omega
          have hz4 : ¬ 9223372036854775807 < sa.size + 1 + sb.size := by omega
          have t1 := owns_later ho6d (below_new wr.drew (.cells #[.string (sa ++ ⟨#[0]⟩ ++ sb)] 9))
          have t2 : Src (wr.drew.alloc (.cells #[.string (sa ++ ⟨#[0]⟩ ++ sb)] 9)) 1 (some ⟨wr.heap.size, 0, none⟩) 1 [.string (sa ++ ⟨#[0]⟩ ++ sb)] := Src.of_at (At.new wr.drew #[.string (sa ++ ⟨#[0]⟩ ++ sb)] 9) rfl (one_str _)
          have t3 := fun (ops : Array Oper) (o : Oper) (a : Act) (Q : Exit → Act → World → Prop) (K : Act → World → Prop) (X : Prop) hgd ho hs hx h => step_appG (P := Try.prog) (ops := ops) (o := o) (a := a) (Q := Q) (K := K) (X := X) strElt hgd (.tmp 37) (.tmp 52) ho w3.heap.size j c6 A6 _ hs t1 1 1 (some ⟨wr.heap.size, 0, none⟩) _ hx t2 q1 q2 (Nat.le_trans hsw (ge_new _ _)) h
          go_upto_region 8 with (fail)
          go_region_held3 (fun w' => w'.cell? ⟨gb, go' + j * 2, none⟩ = some (.slice xA xN xC) ∧ w'.cell? ⟨gb, go' + j * 2 + 1, none⟩ = some (.slice yA yN yC) ∧ (convert 23 9 (.slice xA xN xC)).run Try.prog w' = .ok (.string (sa)) w' ∧ (convert 23 9 (.slice yA yN yC)).run Try.prog w' = .ok (.string (sb)) w')
            (first
              | (exact hS'.out _ c0)
              | (exact hS'.out _ (c0.alloc hsw _))
              | (exact hS'.out _ (below_tr (c0.alloc hsw _) hb7)))
            (first
              | (refine t3 _ _ _ _ _ _ (by rfl) (by rfl) (by rfl) (by rfl) ?_; intro A7 c7 w7 ho7 hg7 hb7 hat7)
              | fail)
          go_wp2
          go_roundw
          case rel => exact ⟨j + 1, A7, c7, by omega, by go_num, rfl, by rw [hst.out, hsep'.out]; exact ho7, below_tr (c0.alloc hsw _) hb7⟩
          case measure => simp [intOf]; omega
        · obtain rfl : j = n3 := by omega
          obtain ⟨wA, hwA⟩ : ∃ wA, wA = wr := ⟨_, rfl⟩
          subst hwA
          have ht : L.take j = L := List.take_of_length_le (by rw [hwl.out]; exact Nat.le_refl _)
          rw [ht] at ho6
          clear ht hlt hj
          have hBw := below_tr hB3 (hBr.mono hB3.size)
          have k4 := k0.below hBr k0.lt
          have hwant := Lib.hid (fun w' (hb : Below w3.heap.size w3 w') => hw3.below hb (Nat.le_refl _))
          clear hw3
          have k4c := k4.c; have k4f := k4.f; have k4l := k4.lt
          go_wp2_with fail
          refine (put_at c kC vC wA ((h.below hBw (Nat.le_refl _)).widen (Nat.le_refl _) hBw.size) hc ((hk.below hBw (Nat.le_refl _)).more hBw.size) ((hv.below hBw (Nat.le_refl _)).more hBw.size) m1 m2 (by omega) hrs hL'.out).mono ?_
          rintro e w5 ⟨Aa, ca, na, hsa, rfl, hoa, hb5⟩
          have hB5 := below_keep hb5 hBw
          have k5 := At.keep hb5 k4
          clear k4c k4f k4l
          have hla := Lib.hid hoa.ll
          obtain rfl : na = j := by rw [← hla.out, ← hwl.out]
          have hrL := hrp.out
          have k5c := k5.c; have k5f := k5.f; have k5l := k5.lt
          go_wp2_with fail
          refine (drop_at ca kC w5 hoa.arg hoa.cap ((hk.below hB5 (Nat.le_refl _)).more hB5.size) (by omega) hrL rfl).mono ?_
          rintro e w6 ⟨Ab, cb, nb, hsb, rfl, hob, hb6⟩
          have hnb : nb ≤ 101 := by rw [← hob.ll]; exact hputl.out
          have hB6 := below_keep hb6 hB5
          clear k5c k5f k5l hrL
          go_upto_region 12 with (fail)
          go_loopw [10, 11] (fun v10 _ wq => ∃ (i : Nat) (l' : List Cl), i ≤ nb ∧ v10 = .int .i64 i ∧ OwC wq w5.heap.size Ab nb cb l' hsb ∧ Below w5.heap.size w5 wq) (fun v10 _ _ => nb - (intOf v10).toNat)
          case atStart => exact ⟨0, _, by omega, rfl, hob, hb6⟩
          case round =>
            clear hob hb6
            obtain ⟨i, l', hi, rfl, hob, hbq⟩ := hrel
            by_cases hlt : i < nb
            · obtain ⟨rb, rfl, hrb0, hrb1, hc1, hc2⟩ := hob.cells hlt
              have hi0 : (0 : Int) ≤ i := by omega
              have hi1 : (i : Int) < nb := by omega
              clear hc1 hc2
              go_upto_region 15 with (fail)
              go_loopw [11] (fun v11 wz => ∃ (t : Nat) (l' : List Cl), t ≤ (hcAt hsb i).2.n ∧ v11 = .int .i64 t ∧ OwC wz w5.heap.size (some ⟨rb, 0, none⟩) nb cb l' hsb ∧ Below w5.heap.size w5 wz) (fun v11 _ => (hcAt hsb i).2.n - (intOf v11).toNat)
              case atStart => exact ⟨0, _, by omega, rfl, hob, hbq⟩
              case round =>
                clear hob hbq
                obtain ⟨t, l2, ht, rfl, hob, hbq⟩ := hrel
                obtain ⟨rb', hA', -, -, hc1, hc2⟩ := hob.cells hlt
                obtain rfl : rb = rb' := by injection hA' with h1; injection h1
                have hel := (hob.el i hlt).2
                have hvn := hel.2.2
                generalize hhd : (hcAt hsb i).2 = hd at *
                have hhd' := Lib.hid hhd
                clear hhd
                obtain ⟨vA', vn, vc⟩ := hd
                simp only [Hd.v] at hc2 hel hvn ht
                by_cases hlt2 : t < vn
                · obtain ⟨g, rfl, hg0, hg1⟩ := hel.1.addr (by omega)
                  obtain ⟨cur, hat, -, -, -⟩ := hel.1.at_
                  obtain ⟨gx, gy, hAx, -, -, hcell⟩ := hel.1.reads.at_ hlt2
                  injection hAx with hAx
                  injection hAx with e1 e2
                  subst e1; subst e2
                  rw [Nat.zero_add] at hcell
                  have hxr := hel.1.2.1.getD t
                  have hfro := hat.f t
                  have ht0 : (0 : Int) ≤ t := by omega
                  have ht1 : (t : Int) < vn := by omega
                  generalize ((clAt l2 i).2).getD t 0 = x at *
                  have hxx := xor1 hxr.1 hxr.2
                  obtain ⟨y, hy⟩ : ∃ y, bits .xor .u8 x 1 = y := ⟨_, rfl⟩
                  rw [hy] at hxx
                  clear hat
                  go_upto_region 17 with (fail)
                  go_region
                  all_goals
                    have hob8 := (hob.store hlt (show (hcAt _ i).2.A = some ⟨g, 0, none⟩ from by rw [hhd'.out]) (show t < (hcAt _ i).2.n from by rw [hhd'.out]; exact hlt2) hxx.1 hxx.2).drew
                    have hbq8 : Below w5.heap.size w5 (World.setCell _ ⟨g, t, none⟩ (.int .u8 y)).drew := below_dr (hbq.setCell hg0 _)
                    go_wp2
                    go_roundw
                  case rel => exact ⟨t + 1, setV l2 i t y, by omega, by go_num, hob8, hbq8⟩
                  case measure => simp [intOf]; omega
                · obtain rfl : t = vn := by omega
                  go_wp2
                  go_roundw
                  case rel => exact ⟨i + 1, l2, by omega, by go_num, hob, hbq⟩
                  case measure => simp [intOf]; omega
            · obtain rfl : i = nb := by omega
              have hor := hoa.later hbq
              have hbr := below_keep hbq hb5
              have hwas := Lib.hid (fun t (ht : t < na) (w' : World) (hb : Below wA.heap.size wA w') => was_cell ho6 hwl.out ht hb)
              have hwant' := Lib.hid (fun w' (hb : Below wA.heap.size wA w') => hwant.out w' (below_tr hBr (hb.mono hBr.size)))
              have hfin := Lib.hid (fun w' (hb : Below wA.heap.size wA w') => below_keep hb hBw)
              clear hob hbq hlt hoa hb5 hB5 hB6 hi hputl hrp ho6 hwant hBr hBw k4 k5 k0 hnb h hk hv
              go_upto_region 21 with (fail)
              go_loopw [12, 13] (fun v12 _ wz => ∃ (i : Nat) (l' : List Cl), i ≤ na ∧ v12 = .int .i64 i ∧ OwC wz wA.heap.size Aa na ca l' hsa ∧ (∀ t, i ≤ t → t < na → clAt l' t = clAt L t) ∧ Below wA.heap.size wA wz) (fun v12 _ _ => na - (intOf v12).toNat)
              case atStart => exact ⟨0, L, by omega, rfl, hor, fun _ _ _ => rfl, hbr⟩
              case round =>
                clear hor hbr
                obtain ⟨i, l', hi, rfl, hoa, hsame, hbq⟩ := hrel
                by_cases hlt : i < na
                · obtain ⟨ra, rfl, hra0, hra1, hc1, hc2⟩ := hoa.cells hlt
                  obtain ⟨wb, rfl, hwc⟩ := hwas.out i hlt _ hbq
                  have hi0 : (0 : Int) ≤ i := by omega
                  have hi1 : (i : Int) < na := by omega
                  have hei := hoa.el i hlt
                  have hse := hsame i (Nat.le_refl _) hlt
                  have hsame' := Lib.hid hsame
                  clear hsame
                  generalize hhd : hcAt hsa i = hd at *
                  obtain ⟨⟨kA', kn, kc⟩, ⟨vA', vn, vc⟩⟩ := hd
                  simp only [Hd.v] at hc1 hc2 hei
                  rw [hse] at hei
                  have r1 := fun m => run_str kc (wr.drewN m) (show BsR (wr.drewN m) _ _ kA' kn (clAt L i).1 from hei.1.reads)
                  have r2 := fun m => run_str vc (wr.drewN m) (show BsR (wr.drewN m) _ _ vA' vn (clAt L i).2 from hei.2.1.reads)
                  have hz1 : (strL (clAt L i).1).size ≤ 140737488355328 := by rw [strL_size, hei.1.1]; exact hei.2.2.1
                  have hz2 : (strL (clAt L i).2).size ≤ 140737488355328 := by rw [strL_size, hei.2.1.1]; exact hei.2.2.2
                  have hsep : sepS (clAt L i) = strL (clAt L i).1 ++ ⟨#[0]⟩ ++ strL (clAt L i).2 := rfl
                  rw [hsep] at hwc
                  have hei' := Lib.hid hei
                  have hhd' := Lib.hid hhd
                  clear hsep hei hhd hse
                  generalize strL (clAt L i).1 = sa at *
                  generalize strL (clAt L i).2 = sb at *
                  have hz3 : ¬ 9223372036854775807 < sa.size + 1 := by omega
                  have hz4 : ¬ 9223372036854775807 < sa.size + 1 + sb.size := by omega
                  go_upto_region 23 with (fail)
                  go_quiet (fail)
                  clear r1 r2 hz1 hz2 hz3 hz4 hwc hc1 hc2
                  generalize hwq : World.drewN wr _ = wq
                  have hoq : OwC wq wA.heap.size (some ⟨ra, 0, none⟩) na ca l' hsa := by rw [← hwq]; exact ⟨hoa.row, hoa.hl, hoa.ll, hoa.el, hoa.inc⟩
                  have hbq' : Below wA.heap.size wA wq := by rw [← hwq]; exact below_drewN hbq _
                  obtain ⟨rq, hAq, -, -, hc1, hc2⟩ := hoq.cells hlt
                  obtain rfl : ra = rq := by injection hAq with h1; injection h1
                  rw [hhd'.out] at hc1 hc2
                  simp only [Hd.v] at hc1 hc2
                  clear hwq hc1 hc2 hAq hoa hbq
                  go_upto_region 26 with (fail)
                  go_loopw [13] (fun v13 wz => ∃ (t : Nat) (l2 : List Cl), t ≤ vn ∧ v13 = .int .i64 t ∧ OwC wz wA.heap.size (some ⟨ra, 0, none⟩) na ca l2 hsa ∧ (∀ t', i + 1 ≤ t' → t' < na → clAt l2 t' = clAt L t') ∧ Below wA.heap.size wA wz) (fun v13 _ => vn - (intOf v13).toNat)
                  case atStart => exact ⟨0, l', by omega, rfl, hoq, fun t' h1 h2 => hsame'.out t' (by omega) h2, hbq'⟩
                  case round =>
                    clear hoq hbq'
                    obtain ⟨t, l2, ht, rfl, hob, hsame, hbq⟩ := hrel
                    have hsame'' := Lib.hid hsame
                    clear hsame
                    obtain ⟨rq, hAq, -, -, hc1, hc2⟩ := hob.cells hlt
                    obtain rfl : ra = rq := by injection hAq with h1; injection h1
                    have hel := (hob.el i hlt).2
                    rw [hhd'.out] at hc1 hc2 hel
                    simp only [Hd.v] at hc1 hc2 hel
                    have hvn := hel.2.2
                    by_cases hlt2 : t < vn
                    · obtain ⟨g, rfl, hg0, hg1⟩ := hel.1.addr (by omega)
                      obtain ⟨cur, hat, -, -, -⟩ := hel.1.at_
                      obtain ⟨gx, gy, hAx, -, -, hcell⟩ := hel.1.reads.at_ hlt2
                      injection hAx with hAx
                      injection hAx with e1 e2
                      subst e1; subst e2
                      rw [Nat.zero_add] at hcell
                      have hxr := hel.1.2.1.getD t
                      have hfro := hat.f t
                      have ht0 : (0 : Int) ≤ t := by omega
                      have ht1 : (t : Int) < vn := by omega
                      generalize ((clAt l2 i).2).getD t 0 = x at *
                      have hxx := xor1 hxr.1 hxr.2
                      obtain ⟨y, hy⟩ : ∃ y, bits .xor .u8 x 1 = y := ⟨_, rfl⟩
                      rw [hy] at hxx
                      clear hat
                      go_upto_region 28 with (fail)
                      go_region
                      all_goals
                        have hob8 := (hob.store hlt (show (hcAt _ i).2.A = some ⟨g, 0, none⟩ from by rw [hhd'.out]) (show t < (hcAt _ i).2.n from by rw [hhd'.out]; exact hlt2) hxx.1 hxx.2).drew
                        have hbq8 : Below wA.heap.size wA (World.setCell _ ⟨g, t, none⟩ (.int .u8 y)).drew := below_dr (hbq.setCell hg0 _)
                        go_wp2
                        go_roundw
                      case rel => exact ⟨t + 1, setV l2 i t y, by omega, by go_num, hob8, fun t' h1 h2 => by rw [setV_ne (by omega)]; exact hsame''.out t' h1 h2, hbq8⟩
                      case measure => simp [intOf]; omega
                    · obtain rfl : t = vn := by omega
                      go_wp2
                      go_roundw
                      case rel => exact ⟨i + 1, l2, by omega, by go_num, hob, hsame''.out, hbq⟩
                      case measure => simp [intOf]; omega
                · obtain rfl : i = na := by omega
                  obtain ⟨wE, hwE⟩ : ∃ wE, wE = wr := ⟨_, rfl⟩
                  subst hwE
                  go_upto_region 30 with (fail)
                  go_loopw [14] (fun v14 wz => ∃ (t : Nat), t ≤ i ∧ v14 = .int .i64 t ∧ ∃ m, wz = wE.drewN m) (fun v14 _ => i - (intOf v14).toNat)
                  case atStart => exact ⟨0, by omega, rfl, 0, by simp [World.drewN]⟩
                  case round =>
                    obtain ⟨t, ht, rfl, m, hm⟩ := hrel
                    have hbz : Below wA.heap.size wA wr := by rw [hm]; exact below_drewN hbq m
                    have hm' := Lib.hid hm
                    clear hm
                    by_cases hlt : t < i
                    · have hw5 := hwant'.out wr hbz
                      obtain ⟨gb, go', xA, xN, xC, yA, yN, yC, rfl, -, -, d1, d2, b1, b2, x1, x2⟩ := hw5.2 t hlt
                      obtain ⟨wb, rfl, hwc⟩ := hwas.out t hlt _ hbz
                      have r1 := fun m => run_str xC (wr.drewN m) (show BsR (wr.drewN m) _ _ xA xN (clAt L t).1 from b1)
                      have r2 := fun m => run_str yC (wr.drewN m) (show BsR (wr.drewN m) _ _ yA yN (clAt L t).2 from b2)
                      have hz1 : (strL (clAt L t).1).size ≤ 140737488355328 := by rw [strL_size, b1.1]; omega
                      have hz2 : (strL (clAt L t).2).size ≤ 140737488355328 := by rw [strL_size, b2.1]; omega
                      have hsep : sepS (clAt L t) = strL (clAt L t).1 ++ ⟨#[0]⟩ ++ strL (clAt L t).2 := rfl
                      rw [hsep] at hwc
                      have ht0 : (0 : Int) ≤ t := by omega
                      have ht1 : (t : Int) < i := by omega
                      clear hsep b1 b2 hw5
                      generalize strL (clAt L t).1 = sa at *
                      generalize strL (clAt L t).2 = sb at *
                      have hz3 : ¬ 9223372036854775807 < sa.size + 1 := by omega
                      have hz4 : ¬ 9223372036854775807 < sa.size + 1 + sb.size := by omega
                      go_upto_region 32 with (fail)
                      go_quiet (fail)
                      clear r1 r2 hz1 hz2 hz3 hz4 hwc d1 d2
                      go_wp2
                      go_roundw
                      case rel => exact ⟨t + 1, by omega, by go_num, by rw [hm'.out]; exact ⟨_, World.drewN_drewN _ _ _⟩⟩
                      case measure => simp [intOf]; omega
                    · obtain rfl : t = i := by omega
                      go_wp2
                      go_ret
                      exact ⟨by first | rfl | simp, hfin.out _ hbz⟩
    · have hn' : (100 : Int) < n := by omega
      go_wp2_with fail
      refine (pawake_calls _).mono ?_
      rintro e w3 ⟨rfl, hb3⟩
      go_wp2
      go_ret
      exact ⟨by first | rfl | simp, below_keep hb3 hB2⟩
end Go.Proofs.Ytjgomebnlekddaa
