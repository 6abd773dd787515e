/- The reference's at and cut by their contracts. -/
import Derived.Test.YtjgomebnlekddaaRcPlain3
import Derived.Test.YtjgomebnlekddaaRdU
import Derived.Deep.LoopGhost
namespace Go.Proofs.Ytjgomebnlekddaa
set_option linter.unusedVariables false
set_option linter.unusedSimpArgs false
open Go.RowKit
theorem atN_succ (l : List Int) (i k : Nat) : atN l i (k + 1) = atN l i k * 256 + l.getD (i + k) 0 := by
  unfold atN
  rw [List.range_succ, List.map_append, List.map_singleton, num_snoc]
theorem atN_small {l : List Int} (hb : Byt l) (i k : Nat) (hk : k ≤ 7) : 0 ≤ atN l i k ∧ atN l i k < 72057594037927936 := by
  have h := num_small ((List.range k).map fun j => l.getD (i + j) 0) k (atN_byt hb i k) hk
  rw [List.take_of_length_le (by simp)] at h
  exact h
set_option maxRecDepth 100000 in
set_option maxHeartbeats 1000000 in
theorem rat_calls {lo hi m c : Nat} {A : Option Addr} {l : List Int} (i n : Nat) (w : World) (h : BsR w lo hi A m l) (hn : n ≤ 8) (hi4 : i ≤ 1125899906842624) (hm : m ≤ 140737488355328) :
    Calls Try.prog 80 #[.slice A m c, .int .i64 i, .int .i64 n] w fun e w' => e = .returned (.int .u64 (atN l i n)) ∧ w = w' := by
  have hln := Lib.hid h.1
  have hby := Lib.hid h.2.1
  go_enter Try.func80, Try.ntmps80
  go_upto_region 3 with (fail)
  go_loop [7, 8] (fun v7 v8 => ∃ k : Nat, k ≤ n ∧ v8 = .int .i64 ((i : Int) + k) ∧ v7 = .int .u64 (atN l i k)) (fun _ v8 => (i + n) - (intOf v8).toNat)
  case atStart => exact ⟨0, by omega, by simp, rfl⟩
  case round =>
    obtain ⟨k, hk, rfl, rfl⟩ := hrel
    by_cases hlt : k < n
    · have hs := atN_small hby.out i k (by omega)
      have hst := Lib.hid (atN_succ l i k)
      have hx := hby.out.getD (i + k)
      have k0 : (0 : Int) ≤ (i : Int) + k := by omega
      have k1 : (i : Int) + k < (i : Int) + n := by omega
      have k2 : (i : Int) + k < 4611686018427387904 := by omega
      by_cases hin : i + k < m
      · obtain ⟨gb, go', rfl, -, -, hc⟩ := h.2.2 (by omega)
        have hcell := hc (i + k) hin
        simp only [bsF] at hcell
        have k3 : (i : Int) + k < m := by omega
        have k4 : ((i : Int) + k).toNat = i + k := by omega
        clear hc h
        generalize l.getD (i + k) 0 = x at *
        generalize atN l i k = u at *
        go_wp2
        go_round
        case rel => exact ⟨k + 1, by omega, by go_num, by rw [hst.out]⟩
        case measure => simp [intOf]; omega
      · have hz : l.getD (i + k) 0 = 0 := by
          rw [List.getD_eq_getElem?_getD, List.getElem?_eq_none (by rw [hln.out]; omega)]; rfl
        have k3 : ¬ (i : Int) + k < m := by omega
        have hz' := Lib.hid hz
        clear hz
        generalize atN l i k = u at *
        go_wp2
        go_round
        case rel => exact ⟨k + 1, by omega, by go_num, by rw [hst.out, hz'.out, Int.add_zero]⟩
        case measure => simp [intOf]; omega
    · obtain rfl : n = k := by omega
      have k1 : ¬ (i : Int) + n < (i : Int) + n := by omega
      go_wp2
      go_ret
      exact ⟨by first | rfl | simp, rfl⟩
def CutPost (w : World) (hi : Nat) (l : List Int) (e : Ending) (w' : World) : Prop := ∃ B k d, e = .returned (.slice B k d) ∧ BsR w 0 hi B k l ∧ w = w'
set_option maxRecDepth 100000 in
set_option maxHeartbeats 1000000 in
theorem rcut_calls {hi m c : Nat} {A : Option Addr} {l : List Int} (i n : Nat) (w : World) (h : BsR w 0 hi A m l) (h0 : 0 < m) (hmc : m ≤ c) (hi4 : i ≤ 1125899906842624) (hn4 : n ≤ 1125899906842624) (hm : m ≤ 140737488355328) :
    Calls Try.prog 81 #[.slice A m c, .int .i64 i, .int .i64 n] w (CutPost w hi (cutL l i n)) := by
  obtain ⟨gb, go', rfl, -, g2, hc⟩ := h.2.2 h0
  have hmk : ∀ (j k : Nat) (B : Option Addr), j + k ≤ m → (0 < k → B = some ⟨gb, go' + j, none⟩) → cutL l i n = (l.drop j).take k → BsR w 0 hi B k (cutL l i n) := fun j k B hjk hB he => by
    rw [he]
    refine ⟨by rw [List.length_take, List.length_drop, h.1]; omega, (h.2.1.drop j).take k, fun hk => ⟨gb, go' + j, hB hk, Nat.zero_le _, g2, fun t ht => ?_⟩⟩
    rw [Nat.add_assoc, hc (j + t) (by omega)]
    simp [bsF, List.getD_eq_getElem?_getD, List.getElem?_take, ht]
  have hl := h.1
  have hmk' := Lib.hid hmk
  have i0 : (0 : Int) ≤ i := by omega
  have i1 : (0 : Int) ≤ n := by omega
  have i2 : (m : Int) ≤ c := by omega
  have i3 : (m : Int) ≤ 140737488355328 := by omega
  clear hmk h hc
  by_cases him : m < i
  · have j1 : (m : Int) < i := by omega
    have hcut := Lib.hid <| show cutL l i n = (l.drop m).take 0 from by
      unfold cutL
      rw [List.drop_of_length_le (by omega)]; simp
    by_cases hn0 : 0 < n
    · have j2 : (0 : Int) < n := by omega
      go_enter Try.func81, Try.ntmps81
      go_wp2
      all_goals go_ret
      all_goals exact ⟨_, _, _, rfl, hmk'.out m 0 _ (by omega) (fun h => absurd h (by omega)) hcut.out, rfl⟩
    · obtain rfl : n = 0 := by omega
      go_enter Try.func81, Try.ntmps81
      go_wp2
      all_goals go_ret
      all_goals exact ⟨_, _, _, rfl, hmk'.out m 0 _ (by omega) (fun h => absurd h (by omega)) hcut.out, rfl⟩
  · have j1 : ¬ (m : Int) < i := by omega
    have j3 : (i : Int) ≤ m := by omega
    by_cases hnm : m - i < n
    · have j2 : (m : Int) - i < n := by omega
      have hcut := Lib.hid <| show cutL l i n = (l.drop i).take (m - i) from by
        unfold cutL
        rw [List.take_of_length_le (by rw [List.length_drop]; omega), List.take_of_length_le (by rw [List.length_drop]; omega)]
      go_enter Try.func81, Try.ntmps81
      go_wp2
      all_goals go_ret
      all_goals exact ⟨_, _, _, rfl, hmk'.out i _ _ (by omega) (fun h => by first | rfl | (simp; omega) | (exfalso; omega)) (by first | exact hcut.out | rfl), rfl⟩
    · have j2 : ¬ (m : Int) - i < n := by omega
      go_enter Try.func81, Try.ntmps81
      go_wp2
      all_goals go_ret
      all_goals exact ⟨_, _, _, rfl, hmk'.out i _ _ (by omega) (fun h => by first | rfl | (simp; omega) | (exfalso; omega)) (by first | exact hcut.out | rfl), rfl⟩
end Go.Proofs.Ytjgomebnlekddaa
