/- The reference disk's Get by its contract. -/
import Derived.Test.YtjgomebnlekddaaRef
namespace Go.Proofs.Ytjgomebnlekddaa
set_option linter.unusedVariables false
set_option linter.unusedSimpArgs false
open Go.RowKit
theorem rw_at : ∀ (l : List Wr) (k : Nat), k < l.length → (l.flatMap rwV)[k * 2]? = some (.int .i64 ((l.getD k (0, [])).1 : Int)) ∧ (l.flatMap rwV)[k * 2 + 1]? = some (.string (strL (l.getD k (0, [])).2))
  | [], _, h => absurd h (by simp)
  | x :: l, 0, _ => by simp [rwV]
  | x :: l, k + 1, h => by
    have h1 := rw_at l k (by simpa using h)
    have e : (x :: l).flatMap rwV = .int .i64 (x.1 : Int) :: .string (strL x.2) :: l.flatMap rwV := rfl
    rw [e, show (k + 1) * 2 = k * 2 + 1 + 1 by omega]
    simp only [List.getElem?_cons_succ, List.getD_cons_succ]
    exact h1
theorem Rf.wayc {w : World} {base x lc wc : Nat} {lA wA : Option Addr} {D : Dk} (h : Rf w base x lA lc wA wc D) (h0 : 0 < D.way.length) : ∃ g, wA = some ⟨g, 0, none⟩ ∧ base ≤ g ∧ ∀ k, k < D.way.length → w.cell? ⟨g, k * 2, none⟩ = some (.int .i64 ((wayAt D k).1 : Int)) ∧ w.cell? ⟨g, k * 2 + 1, none⟩ = some (.string (strL (wayAt D k).2)) := by
  obtain ⟨hl, ⟨_, h1⟩ | ⟨g, cap, cur, hA, hg, hat, _, _, _, hx⟩⟩ := h.way
  · omega
  · injection hA with e1 e2 e3
    refine ⟨g, e1, hg, fun k hk => ?_⟩
    have hat' : At w g cur 113 := hat
    have h2 := rw_at D.way k hk
    rw [← hx] at h2
    rw [List.getElem?_take_of_lt (by omega), List.getElem?_take_of_lt (by omega), Array.getElem?_toList, Array.getElem?_toList] at h2
    rw [hat'.c, hat'.c]
    exact h2
theorem rget_arg {base x lc wc : Nat} {lA wA : Option Addr} {D : Dk} (i : Int) (w : World) (h : Rf w base x lA lc wA wc D) (hi : ¬ (0 ≤ i ∧ i < D.l.length)) :
    Calls Try.prog 57 #[.pointer (some ⟨x, 0, none⟩), .int .i64 i] w fun e w' => e = .returned (.tuple #[.string ByteArray.empty, .int .i64 1]) ∧ w = w' := by
  have k0 := h.at_
  have k0c := k0.c; have k0f := k0.f; have k0l := k0.lt
  by_cases h1 : i < 0
  · go_enter Try.func57, Try.ntmps57
    go_wp2
    go_ret2
    exact ⟨rfl, rfl⟩
  · have h2 : ¬ i < D.l.length := by omega
    go_enter Try.func57, Try.ntmps57
    go_wp2
    go_ret2
    exact ⟨rfl, rfl⟩
theorem rget_off {base x lc wc : Nat} {lA wA : Option Addr} {D : Dk} (i : Int) (w : World) (h : Rf w base x lA lc wA wc D) (hi : 0 ≤ i ∧ i < D.l.length) (hoff : D.off = true) :
    Calls Try.prog 57 #[.pointer (some ⟨x, 0, none⟩), .int .i64 i] w fun e w' => e = .returned (.tuple #[.string ByteArray.empty, .int .i64 8]) ∧ w = w' := by
  have k0 := h.at_
  rw [hoff] at k0
  have k0c := k0.c; have k0f := k0.f; have k0l := k0.lt
  have h1 : ¬ i < 0 := by omega
  have h2 := hi.2
  go_enter Try.func57, Try.ntmps57
  go_wp2
  go_ret2
  exact ⟨rfl, rfl⟩
theorem rget_ok {base x lc wc : Nat} {lA wA : Option Addr} {D : Dk} (i : Nat) (w : World) (h : Rf w base x lA lc wA wc D) (hi : i < D.l.length) (hoff : D.off = false) :
    Calls Try.prog 57 #[.pointer (some ⟨x, 0, none⟩), .int .i64 i] w fun e w' => e = .returned (.tuple #[.string (strL (readD D i)), .int .i64 0]) ∧ w = w' := by
  have k0 := h.at_
  rw [hoff] at k0
  have k0c := k0.c; have k0f := k0.f; have k0l := k0.lt
  obtain ⟨gl, rfl, hl⟩ := row_str h.row (by omega)
  have hc0 := hl i hi
  have h0 : (0 : Int) ≤ i := by omega
  have h1 : (i : Int) < D.l.length := by omega
  have hcn := h.ok.cnt
  have hlen := h.ok.len
  have hh := Lib.hid h
  have hst : strL (readTo D i 0) = strL (D.l.getD i []) := rfl
  rw [← hst] at hc0
  clear hst hl
  go_enter Try.func57, Try.ntmps57
  go_upto_region 7 with (fail)
  go_loopw [6, 7] (fun v6 v7 wr => ∃ k : Nat, k ≤ D.way.length ∧ v7 = .int .i64 k ∧ v6 = .string (strL (readTo D i k)) ∧ wr = w) (fun _ v7 _ => D.way.length - (intOf v7).toNat)
  case atStart => exact ⟨0, Nat.zero_le _, rfl, rfl, rfl⟩
  case round =>
    obtain ⟨k, hk, rfl, rfl, rfl⟩ := hrel
    by_cases hlt : k < D.way.length
    · obtain ⟨g, rfl, hg, hgc⟩ := hh.out.wayc (by omega)
      have hd1 := (hgc k hlt).1
      have hd2 := (hgc k hlt).2
      have hk0 : (0 : Int) ≤ k := by omega
      have hk1 : (k : Int) < D.way.length := by omega
      clear hgc
      have hyes := Lib.hid (readTo_yes (D := D) (i := i) (k := k))
      have hno := Lib.hid (readTo_no (D := D) (i := i) (k := k))
      by_cases he : (wayAt D k).1 = i
      · rw [he] at hd1
        go_wp2
        go_roundw
        case rel => exact ⟨k + 1, hlt, by go_num, by rw [hyes.out he], by first | rfl | trivial⟩
        case measure => simp [intOf]; omega
      · have he' : ¬ (((wayAt D k).1 : Int) = i) := by omega
        go_wp2
        go_roundw
        case rel => exact ⟨k + 1, hlt, by go_num, by rw [hno.out he], by first | rfl | trivial⟩
        case measure => simp [intOf]; omega
    · obtain rfl : k = D.way.length := by omega
      go_wp2
      go_ret2
      exact ⟨rfl, rfl⟩
end Go.Proofs.Ytjgomebnlekddaa
