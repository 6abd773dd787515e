/- The reference's Rises and Same by their contracts. -/
import Derived.Test.YtjgomebnlekddaaFind
import Derived.Test.YtjgomebnlekddaaRHalves
namespace Go.Proofs.Ytjgomebnlekddaa
set_option linter.unusedVariables false
set_option linter.unusedSimpArgs false
open Go.RowKit
theorem less_u8s : ∀ {a b : List Int}, Byt a → Byt b → Op.bytesLess (u8s a) (u8s b) = decide (cmpI a b < 0)
  | [], [], _, _ => by simp [u8s, cmpI, Op.bytesLess]
  | [], _ :: _, _, _ => by simp [u8s, cmpI, Op.bytesLess]
  | _ :: _, [], _, _ => by simp [u8s, cmpI, Op.bytesLess]
  | x :: a, y :: b, ha, hb => by
    have ih := less_u8s (a := a) (b := b) (fun z hz => ha z (by simp [hz])) (fun z hz => hb z (by simp [hz]))
    have h1 := u8_lt (ha x (by simp)) (hb y (by simp))
    have h2 := u8_lt (hb y (by simp)) (ha x (by simp))
    simp only [u8s, List.map_cons] at ih ⊢
    unfold Op.bytesLess cmpI
    by_cases p : x < y
    · simp [h1.2 p, p]
    · by_cases q : y < x
      · have hn : ¬ x.toNat.toUInt8 < y.toNat.toUInt8 := fun h => p (h1.1 h)
        have he : ¬ x.toNat.toUInt8 = y.toNat.toUInt8 := fun h => by have := u8_inj (ha x (by simp)) (hb y (by simp)) h; omega
        rw [if_neg p, if_pos q, decide_eq_false hn, Bool.false_or, beq_eq_false_iff_ne.2 he]
        simp
      · have : x = y := by omega
        subst this
        simp_all
theorem str_less {a b : List Int} (ha : Byt a) (hb : Byt b) : Op.bytesLess (strL a).toList (strL b).toList = decide (cmpI a b < 0) := by
  rw [strL_toList, strL_toList, less_u8s ha hb]
def risB : List Cl → Bool
  | [] => true
  | a :: l => (match l with | [] => true | b :: _ => decide (cmpI a.1 b.1 < 0)) && risB l
theorem risB_iff : ∀ l : List Cl, risB l = true ↔ ∀ i, i + 1 < l.length → cmpI (clAt l i).1 (clAt l (i + 1)).1 < 0
  | [] => by simp [risB]
  | [a] => by simp [risB]
  | a :: b :: l => by
    have ih := risB_iff (b :: l)
    unfold risB
    rw [Bool.and_eq_true, ih]
    constructor
    · rintro ⟨h1, h2⟩ i hi
      rcases i with _ | i
      · simpa [clAt] using h1
      · have := h2 i (by simpa using hi)
        simpa [clAt] using this
    · intro h
      refine ⟨?_, fun i hi => ?_⟩
      · have := h 0 (by simp)
        simpa [clAt] using this
      · have := h (i + 1) (by simpa using hi)
        simpa [clAt] using this
theorem risB_rs {l : List Cl} (h : risB l = true) : Rs l := rs_of_adj ((risB_iff l).1 h)
theorem rs_risB {l : List Cl} (h : Rs l) : risB l = true := (risB_iff l).2 fun i hi => h i (i + 1) (by omega) hi
set_option maxRecDepth 100000 in
set_option maxHeartbeats 1000000 in
theorem rises_calls {lo hi n : Nat} (c : Nat) {A : Option Addr} {l : List Cl} (w : World) (h : CsR w lo hi A n l) (hn : n ≤ 140737488355328) :
    Calls Try.prog 27 #[.slice A n c] w fun e w' => e = .returned (.bool (risB l)) ∧ ∃ k, w' = w.drewN k := by
  have hln := Lib.hid h.1
  go_enter Try.func27, Try.ntmps27
  go_wp2
  go_loopw [3] (fun v3 wr => ∃ j : Nat, (j < n ∨ j = 0) ∧ v3 = .int .i64 ((j : Int) + 1) ∧ (∀ i, i < j → cmpI (clAt l i).1 (clAt l (i + 1)).1 < 0) ∧ ∃ k, wr = w.drewN k) (fun v3 _ => n + 1 - (intOf v3).toNat)
  case atStart => exact ⟨0, by omega, rfl, fun i hi => absurd hi (by omega), 0, by simp [World.drewN]⟩
  case round =>
    obtain ⟨j, hj, rfl, hok, k, hk⟩ := hrel
    have hok' := Lib.hid hok
    have hk' := Lib.hid hk
    have h' : CsR wr lo hi A n l := by rw [hk]; exact h
    clear hk hok
    by_cases hlt : j + 1 < n
    · obtain ⟨gb, go', xA, xN, xC, -, -, -, rfl, -, -, c1, -, b1, -, -, -⟩ := h'.2 j (by omega)
      obtain ⟨gb', go'', yA, yN, yC, -, -, -, hA, -, -, c2, -, b2, -, -, -⟩ := h'.2 (j + 1) hlt
      injection hA with hA
      injection hA with hA1 hA2 hA3
      subst hA1 hA2
      clear hA3
      have r1 := fun m => run_str xC (wr.drewN m) (show BsR (wr.drewN m) lo hi xA xN (clAt l j).1 from b1)
      have r2 := fun m => run_str yC (wr.drewN m) (show BsR (wr.drewN m) lo hi yA yN (clAt l (j + 1)).1 from b2)
      have hle := str_less b1.2.1 b2.2.1
      have hj0 : (0 : Int) ≤ j := by omega
      have hj1 : (j : Int) + 1 < n := by omega
      have hj2 : (0 : Int) ≤ (j : Int) + 1 := by omega
      have hj3 : (j : Int) < n := by omega
      have hj4 : ((j : Int) + 1).toNat = j + 1 := by omega
      have s1 : IntKind.i64.wrap ((j : Int) + 1 - 1) = j := by rw [show (j : Int) + 1 - 1 = j from by omega]; exact IntWalk.i64_in _ (by omega)
      clear b1 b2 h h'
      by_cases hc : cmpI (clAt l j).1 (clAt l (j + 1)).1 < 0
      · rw [decide_eq_true hc] at hle
        have hc' := Lib.hid hc
        clear hc
        go_upto_region 4 with (fail)
        go_quiet (fail)
        clear r1 r2 s1
        go_wp2
        go_roundw
        case rel => exact ⟨j + 1, by omega, by go_num, fun i hi => by
          rcases Nat.lt_or_ge i j with h1 | h1
          · exact hok'.out i h1
          · obtain rfl : i = j := by omega
            exact hc'.out, by rw [hk'.out]; exact ⟨_, World.drewN_drewN _ _ _⟩⟩
        case measure => simp [intOf]; omega
      · rw [decide_eq_false hc] at hle
        have hno : risB l = false := by
          rw [Bool.eq_false_iff]
          intro hh
          exact hc ((risB_iff l).1 hh j (by rw [hln.out]; exact hlt))
        have hno' := Lib.hid hno
        clear hc hno
        go_upto_region 4 with (fail)
        go_quiet (fail)
        clear r1 r2 s1
        go_wp2
        go_ret
        exact ⟨by rw [hno'.out]; rfl, by rw [hk'.out]; exact ⟨_, World.drewN_drewN _ _ _⟩⟩
    · have hall : risB l = true := (risB_iff l).2 fun i hi => hok'.out i (by rw [hln.out] at hi; omega)
      have hall' := Lib.hid hall
      have hj0 : (n : Int) ≤ (j : Int) + 1 := by omega
      clear hall
      go_wp2
      go_ret
      exact ⟨by rw [hall'.out]; rfl, k, hk'.out⟩
/-- Are two lists of cells alike? -/
def sameB (a b : List Cl) : Bool := decide (a = b)
theorem cl_ext {a b : List Cl} (hl : a.length = b.length) (h : ∀ i, i < a.length → (clAt a i).1 = (clAt b i).1 ∧ (clAt a i).2 = (clAt b i).2) : a = b := by
  refine List.ext_getElem hl fun i h1 h2 => ?_
  have := h i h1
  simp only [clAt, List.getD, List.getElem?_eq_getElem h1, List.getElem?_eq_getElem h2, Option.getD_some] at this
  exact Prod.ext this.1 this.2
set_option maxRecDepth 100000 in
set_option maxHeartbeats 2000000 in
theorem same_calls {lo hi n lo' hi' m : Nat} (c d : Nat) {A B : Option Addr} {l l2 : List Cl} (w : World) (h : CsR w lo hi A n l) (h2 : CsR w lo' hi' B m l2) (hn : n ≤ 140737488355328) (hm : m ≤ 140737488355328) :
    Calls Try.prog 28 #[.slice A n c, .slice B m d] w fun e w' => e = .returned (.bool (sameB l l2)) ∧ ∃ k, w' = w.drewN k := by
  have hln := Lib.hid h.1
  have hln2 := Lib.hid h2.1
  by_cases hnm : n = m
  · subst hnm
    have hq : ((n : Int) != (n : Int)) = false := by simp
    go_enter Try.func28, Try.ntmps28
    go_wp2
    go_loopw [5] (fun v5 wr => ∃ j : Nat, j ≤ n ∧ v5 = .int .i64 j ∧ (∀ i, i < j → (clAt l i).1 = (clAt l2 i).1 ∧ (clAt l i).2 = (clAt l2 i).2) ∧ ∃ k, wr = w.drewN k) (fun v5 _ => n - (intOf v5).toNat)
    case atStart => exact ⟨0, by omega, rfl, fun i hi => absurd hi (by omega), 0, by simp [World.drewN]⟩
    case round =>
      obtain ⟨j, hj, rfl, hok, k, hk⟩ := hrel
      have hok' := Lib.hid hok
      have hk' := Lib.hid hk
      have h' : CsR wr lo hi A n l := by rw [hk]; exact h
      have h2' : CsR wr lo' hi' B n l2 := by rw [hk]; exact h2
      clear hk hok
      by_cases hlt : j < n
      · obtain ⟨gb, go', xA, xN, xC, zA, zN, zC, rfl, -, -, c1, c2, b1, b2, -, -⟩ := h'.2 j hlt
        obtain ⟨gb', go'', yA, yN, yC, uA, uN, uC, rfl, -, -, c3, c4, b3, b4, -, -⟩ := h2'.2 j hlt
        have r1 := fun m => run_str xC (wr.drewN m) (show BsR (wr.drewN m) lo hi xA xN (clAt l j).1 from b1)
        have r2 := fun m => run_str zC (wr.drewN m) (show BsR (wr.drewN m) lo hi zA zN (clAt l j).2 from b2)
        have r3 := fun m => run_str yC (wr.drewN m) (show BsR (wr.drewN m) lo' hi' yA yN (clAt l2 j).1 from b3)
        have r4 := fun m => run_str uC (wr.drewN m) (show BsR (wr.drewN m) lo' hi' uA uN (clAt l2 j).2 from b4)
        have e1 := str_eq b1.2.1 b3.2.1
        have e2 := str_eq b2.2.1 b4.2.1
        have hj0 : (0 : Int) ≤ j := by omega
        have hj1 : (j : Int) < n := by omega
        clear b1 b2 b3 b4 h h' h2 h2'
        by_cases p1 : (clAt l j).1 = (clAt l2 j).1
        · by_cases p2 : (clAt l j).2 = (clAt l2 j).2
          · rw [show eqB (clAt l j).1 (clAt l2 j).1 = true from decide_eq_true p1] at e1
            rw [show eqB (clAt l j).2 (clAt l2 j).2 = true from decide_eq_true p2] at e2
            have p1' := Lib.hid p1
            have p2' := Lib.hid p2
            clear p1 p2
            have e3 : ((strL (clAt l j).1).toList != (strL (clAt l2 j).1).toList) = false := by rw [bne, e1]; rfl
            have e4 : ((strL (clAt l j).2).toList != (strL (clAt l2 j).2).toList) = false := by rw [bne, e2]; rfl
            go_upto_region 6 with (fail)
            go_quiet (fail)
            clear r1 r2 r3 r4
            go_wp2
            go_roundw
            case rel => exact ⟨j + 1, by omega, by go_num, fun i hi => by
              rcases Nat.lt_or_ge i j with h1 | h1
              · exact hok'.out i h1
              · obtain rfl : i = j := by omega
                exact ⟨p1'.out, p2'.out⟩, by rw [hk'.out]; exact ⟨_, World.drewN_drewN _ _ _⟩⟩
            case measure => simp [intOf]; omega
          · rw [show eqB (clAt l j).1 (clAt l2 j).1 = true from decide_eq_true p1] at e1
            rw [show eqB (clAt l j).2 (clAt l2 j).2 = false from decide_eq_false p2] at e2
            have hno : sameB l l2 = false := decide_eq_false fun e => p2 (by rw [e])
            have hno' := Lib.hid hno
            clear p1 p2 hno
            have e3 : ((strL (clAt l j).1).toList != (strL (clAt l2 j).1).toList) = false := by rw [bne, e1]; rfl
            have e4 : ((strL (clAt l j).2).toList != (strL (clAt l2 j).2).toList) = true := by rw [bne, e2]; rfl
            go_upto_region 6 with (fail)
            go_quiet (fail)
            clear r1 r2 r3 r4
            go_wp2
            go_ret
            exact ⟨by rw [hno'.out]; rfl, by rw [hk'.out]; exact ⟨_, World.drewN_drewN _ _ _⟩⟩
        · rw [show eqB (clAt l j).1 (clAt l2 j).1 = false from decide_eq_false p1] at e1
          have hno : sameB l l2 = false := decide_eq_false fun e => p1 (by rw [e])
          have hno' := Lib.hid hno
          clear p1 hno
          have e3 : ((strL (clAt l j).1).toList != (strL (clAt l2 j).1).toList) = true := by rw [bne, e1]; rfl
          go_upto_region 6 with (fail)
          go_quiet (fail)
          clear r1 r2 r3 r4
          go_wp2
          go_ret
          exact ⟨by rw [hno'.out]; rfl, by rw [hk'.out]; exact ⟨_, World.drewN_drewN _ _ _⟩⟩
      · have hall : sameB l l2 = true := decide_eq_true (cl_ext (by rw [hln.out, hln2.out]) fun i hi => hok'.out i (by rw [hln.out] at hi; omega))
        have hall' := Lib.hid hall
        have hj0 : (n : Int) ≤ j := by omega
        clear hall
        go_wp2
        go_ret
        exact ⟨by rw [hall'.out]; rfl, k, hk'.out⟩
  · have hq : ((n : Int) != (m : Int)) = true := by simp [bne_iff_ne]; omega
    have hno : sameB l l2 = false := decide_eq_false fun e => hnm (by rw [← hln.out, ← hln2.out, e])
    have hno' := Lib.hid hno
    clear hno
    go_enter Try.func28, Try.ntmps28
    go_wp2
    go_ret
    exact ⟨by rw [hno'.out]; rfl, 0, by simp [World.drewN]⟩
end Go.Proofs.Ytjgomebnlekddaa
