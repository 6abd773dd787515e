/- The reference's Encode by its contract. -/
import Derived.Test.YtjgomebnlekddaaPEnc
namespace Go.Proofs.Ytjgomebnlekddaa
set_option linter.unusedVariables false
set_option linter.unusedSimpArgs false
open Go.RowKit
theorem pageB_byt {k next : Int} {l : List Cl} (hl : ∀ c ∈ l, Byt c.1 ∧ Byt c.2) (h : PForm k next l) (k0 : 0 ≤ k) : Byt (pageB k next l) := by
  have h1 := h.1
  have h2 := h.2.2.1
  unfold pageB
  refine Byt.app (Byt.app ?_ ?_) (byt_zero _)
  · intro x hx
    simp [headB] at hx
    omega
  · intro x hx
    obtain ⟨c, hc, hxc⟩ := List.mem_flatMap.1 hx
    have hb := hl c hc
    obtain ⟨i, hi, e⟩ := List.getElem_of_mem hc
    have hok := h.2.1 i hi
    unfold cellOk at hok
    rw [show clAt l i = c by simp [clAt, hi, e]] at hok
    simp only [cellB, List.mem_append, List.mem_cons, List.not_mem_nil, or_false] at hxc
    rcases hxc with ((h3 | h3) | h3) | h3
    · have := hok.1; omega
    · have := hok.2.1; omega
    · exact hb.1 x h3
    · exact hb.2 x h3
theorem CsR.byt {w : World} {lo hi n : Nat} {A : Option Addr} {l : List Cl} (h : CsR w lo hi A n l) : ∀ c ∈ l, Byt c.1 ∧ Byt c.2 := by
  intro c hc
  obtain ⟨i, hi, e⟩ := List.getElem_of_mem hc
  obtain ⟨_, _, _, _, _, _, _, _, _, _, _, _, _, b1, b2, _⟩ := h.2 i (by rw [← h.1]; exact hi)
  rw [show clAt l i = c by simp [clAt, hi, e]] at b1 b2
  exact ⟨b1.2.1, b2.2.1⟩
def lenV : Value → Nat
  | .slice _ n _ => n
  | _ => 0
set_option maxRecDepth 100000 in
set_option maxHeartbeats 2000000 in
theorem renc_yes {n : Nat} (k next : Int) (c : Nat) {A : Option Addr} {l : List Cl} (w : World) (h : CsR w 0 w.heap.size A n l) (k0' : 0 ≤ k) (hb : PForm k next l) :
    Calls Try.prog 48 #[.agg #[.int .u8 k, .int .i64 next, .slice A n c]] w fun e w' => ∃ A c, e = .returned (.slice A 504 c) ∧ OwB w' w.heap.size A 504 c (pageB k next l) ∧ Below w.heap.size w w' := by
  have hln := Lib.hid h.1
  have hbb := Lib.hid hb
  have hn : n ≤ 255 := by have := hb.2.2.1; rw [hln.out] at this; omega
  obtain ⟨p1, p2, p3⟩ := hb.1
  clear hb
  go_enter Try.func48, Try.ntmps48
  have n1 : (0 : Int) ≤ n := by omega
  have d0 : next / 65536 = 0 := by omega
  have d1 : Int.tdiv next 65536 = 0 := by rw [Int.tdiv_eq_ediv_of_nonneg p2]; exact d0
  have d2 : Int.tdiv next 256 = next / 256 := Int.tdiv_eq_ediv_of_nonneg p2
  have d3 : Int.tmod (next / 256) 256 = next / 256 := by rw [Int.tmod_eq_emod_of_nonneg (by omega)]; omega
  have d4 : Int.tmod next 256 = next % 256 := Int.tmod_eq_emod_of_nonneg p2
  have s2 : IntKind.u8.wrap (next / 256) = next / 256 := IntWalk.u8_in _ (by omega)
  have s3 : IntKind.u8.wrap (next % 256) = next % 256 := IntWalk.u8_in _ (by omega)
  have s4 : IntKind.u8.wrap (n : Int) = n := IntWalk.u8_in _ (by omega)
  go_upto_region 3 with (fail)
  clear d0 d1 d2 d3 d4 s2 s3 s4
  generalize hw2 : World.alloc (World.alloc w _) _ = w2
  have ho2 : OwB w2 (w.heap.size + 1) (some ⟨w.heap.size + 1, 0, none⟩) 6 6 (headB k next l ++ cellsB (l.take 0)) := by
    rw [← hw2]
    have e : headB k next l ++ cellsB (l.take 0) = [k, 0, next / 256, next % 256, (n : Int), 0] := by
      unfold headB
      rw [hln.out, show next / 65536 = 0 by omega]; rfl
    rw [e]
    exact OwB.made (l := [k, 0, next / 256, next % 256, (n : Int), 0]) (At.new' (by simp)) rfl (by intro x hx; simp at hx; omega) (by omega) (by decide)
  have hB2 : Below w.heap.size w w2 := by rw [← hw2]; exact below_al (below_new w _)
  have k2 : At w2 w.heap.size #[.int .u8 k, .int .i64 next, .slice A n c] 54 := by rw [← hw2]; exact (At.new w _ _).alloc _
  clear hw2
  go_loopw [3, 4] (fun v3 v4 wr => ∃ (j m : Nat) (A' : Option Addr) (c' : Nat), j ≤ n ∧ v4 = .int .i64 j ∧ v3 = .slice A' m c' ∧ OwB wr (w.heap.size + 1) A' m c' (headB k next l ++ cellsB (l.take j)) ∧ At wr w.heap.size #[.int .u8 k, .int .i64 next, .slice A n c] 54 ∧ Below w.heap.size w wr) (fun _ v4 _ => n - (intOf v4).toNat)
  case atStart => exact ⟨0, 6, _, _, by omega, rfl, rfl, ho2, k2, hB2⟩
  case round =>
    clear ho2 hB2 k2
    obtain ⟨j, m, A', c', hj, rfl, rfl, ho, kP, hBr⟩ := hrel
    have hcl := cellsB_le hbb.out j
    have hm : m = 6 + (cellsB (l.take j)).length := by rw [← ho.1]; simp [headB]; omega
    have hm' := Lib.hid hm
    have hm5 : m ≤ 504 := by omega
    clear hm hcl
    by_cases hlt : j < n
    · obtain ⟨gb, go', kA, kN, kC, vA, vN, vC, rfl, g1, g2, c1, c2, b1, b2, m1, m2⟩ := h.2 j hlt
      have hok := hbb.out.2.1 j (by rw [hln.out]; exact hlt)
      have hs := Lib.hid (cellsB_take l j (by rw [hln.out]; exact hlt))
      have hk90 : kN ≤ 90 := by rw [← b1.1]; exact hok.1
      have hv150 : vN ≤ 150 := by rw [← b2.1]; exact hok.2.1
      replace c1 := (hBr.cell (p := ⟨gb, go' + j * 2, none⟩) g2).trans c1
      replace c2 := (hBr.cell (p := ⟨gb, go' + j * 2 + 1, none⟩) g2).trans c2
      have hkl := Lib.hid b1.1
      have hvl := Lib.hid b2.1
      have hk := Lib.hid b1
      have hv := Lib.hid b2
      have hj0 : (0 : Int) ≤ j := by omega
      have hj1 : (j : Int) < n := by omega
      have t1 : IntKind.u8.wrap (kN : Int) = kN := IntWalk.u8_in _ (by omega)
      have t2 : IntKind.u8.wrap (vN : Int) = vN := IntWalk.u8_in _ (by omega)
      clear b1 b2 m1 m2 hok h
      have kPc := kP.c; have kPf := kP.f; have kPl := kP.lt
      go_upto_region 6 with (fail)
      have kd : At (wr.alloc (.cells #[.slice kA kN kC, .slice vA vN vC] 35)) wr.heap.size #[.slice kA kN kC, .slice vA vN vC] 35 := At.new _ _ _
      replace kP := kP.alloc (.cells #[.slice kA kN kC, .slice vA vN vC] 35)
      have hod := ho.alloc (.cells #[.slice kA kN kC, .slice vA vN vC] 35)
      have hBd := below_al (O := .cells #[.slice kA kN kC, .slice vA vN vC] 35) hBr
      have hDlt := ho.lt
      have hneD : some wr.heap.size ≠ ownBlk A' := fun e => by have := (hDlt _ e.symm).2; omega
      clear hDlt c1 c2 ho kPc kPf kPl
      generalize (wr.alloc (.cells #[.slice kA kN kC, .slice vA vN vC] 35)) = wd at *
      have hDl := kd.lt
      generalize wr.heap.size = D at *
      have kdc := kd.c
      go_wp2_with (first
        | (at_builtin; refine wpList_app rfl (.tmp 38) (.tmp 47) rfl (w.heap.size + 1) m c' A' _ rfl (hod.alloc _) _ _ 2 2 _ [(kN : Int), (vN : Int)] rfl (BsR.of_at (l := [(kN : Int), (vN : Int)]) (At.new wd _ _) rfl (Byt.cons (by omega) (by omega) (Byt.cons (by omega) (by omega) Byt.nil))) (by omega) (Nat.le_trans kP.lt (ge_new _ _)) ?_; intro A5 c5 w5 ho5 hg5 hb5 hat5; have kd5 := At.grown (kd.alloc _) hg5 hneD; have kd5c := kd5.c; have hneD5 := ne_next hat5 hneD (Nat.lt_of_lt_of_le hDl (ge_new _ _)); have kP5 := (kP.alloc _).below hb5 (Nat.lt_succ_self _); have hB5 := below_tr (below_al hBd) (hb5.mono (Nat.le_succ _)))
        | (at_builtin; refine wpList_app rfl (.tmp 49) (.tmp 51) rfl (w.heap.size + 1) (m + 2) c5 A5 _ rfl ho5 0 w.heap.size kN kC kA _ rfl (hk.out.below hB5 (Nat.le_refl _)) (by omega) kP5.lt ?_; intro A6 c6 w6 ho6 hg6 hb6 hat6; have kd6 := At.grown kd5 hg6 hneD5; have kd6c := kd6.c; have hneD6 := ne_next hat6 hneD5 kd5.lt; have kP6 := kP5.below hb6 (Nat.lt_succ_self _); have hB6 := below_tr hB5 (hb6.mono (Nat.le_succ _)))
        | (at_builtin; refine wpList_app rfl (.tmp 53) (.tmp 55) rfl (w.heap.size + 1) (m + 2 + kN) c6 A6 _ rfl ho6 0 w.heap.size vN vC vA _ rfl (hv.out.below hB6 (Nat.le_refl _)) (by omega) kP6.lt ?_; intro A7 c7 w7 ho7 hg7 hb7 hat7; have kP7 := kP6.below hb7 (Nat.lt_succ_self _); have hB7 := below_tr hB6 (hb7.mono (Nat.le_succ _))))
      go_roundw
      case rel => exact ⟨j + 1, m + 2 + kN + vN, A7, c7, by omega, by go_num, rfl, by rw [hs.out, hkl.out, hvl.out]; simpa [List.append_assoc] using ho7, kP7, hB7⟩
      case measure => simp [intOf]; omega
    · obtain rfl : j = n := by omega
      have ht : l.take j = l := List.take_of_length_le (by rw [hln.out]; exact Nat.le_refl _)
      rw [ht] at ho hm'
      have kPc := kP.c; have kPf := kP.f; have kPl := kP.lt
      go_upto_region 9 with (fail)
      go_loopw [3] (fun v3 wq => ∃ (m z : Nat) (A' : Option Addr) (c' : Nat), m = 6 + (cellsB l).length + z ∧ m ≤ 504 ∧ v3 = .slice A' m c' ∧ OwB wq (w.heap.size + 1) A' m c' (headB k next l ++ cellsB l ++ List.replicate z 0) ∧ Below w.heap.size w wq ∧ w.heap.size + 1 ≤ wq.heap.size) (fun v3 _ => 504 - lenV v3)
      case atStart => exact ⟨m, 0, _, _, by rw [hm'.out]; omega, hm5, rfl, by simpa using ho, hBr, kP.lt⟩
      case round =>
        clear ho kP hBr kPc kPf kPl hm5 hm' ht hj hlt
        obtain ⟨m, z, A', c', hmz, hm, rfl, ho, hB, hsz⟩ := hrel
        have hmz' := Lib.hid hmz
        clear hmz
        by_cases hq : m < 504
        · have hq1 : (m : Int) < 504 := by omega
          go_wp2_with (at_builtin; refine wpList_app rfl (.tmp 60) (.tmp 61) rfl (w.heap.size + 1) m c' A' _ rfl (ho.alloc _) _ _ 1 1 _ [0] rfl (BsR.of_at (l := [0]) (At.new wr _ _) rfl (Byt.cons (by omega) (by omega) Byt.nil)) (by omega) (Nat.le_trans hsz (ge_new _ _)) ?_; intro A5 c5 w5 ho5 hg5 hb5 hat5)
          go_roundw
          case rel => exact ⟨m + 1, z + 1, A5, c5, by rw [hmz'.out]; omega, by omega, rfl, by rw [List.replicate_succ', ← List.append_assoc]; exact ho5, below_tr (below_al hB) (hb5.mono (Nat.le_succ _)), Nat.le_trans (Nat.le_trans hsz (ge_new _ _)) hb5.size⟩
          case measure => simp [lenV]; omega
        · obtain rfl : m = 504 := by omega
          go_wp2
          go_ret
          have hz : 504 - (6 + (cellsB l).length) = z := by have := hmz'.out; omega
          exact ⟨A', c', rfl, by unfold pageB; rw [hz]; exact ho.less (Nat.le_succ _), hB⟩
end Go.Proofs.Ytjgomebnlekddaa
