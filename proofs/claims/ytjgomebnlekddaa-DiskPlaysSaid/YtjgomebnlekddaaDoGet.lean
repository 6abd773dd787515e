/- DiskPlays: do, by kind: Read. -/
import Derived.Test.YtjgomebnlekddaaDoRest
namespace Go.Proofs.Ytjgomebnlekddaa
set_option linter.unusedVariables false
set_option linter.unusedSimpArgs false
open Go.RowKit
theorem str_none (w : World) : (convert 23 9 (.slice none 0 0)).run Try.prog w = .ok (.string ByteArray.empty) w :=
  run_str (lo := 0) (hi := 0) (l := []) 0 w ⟨rfl, Byt.nil, Rd.nil _ _ _ _ _⟩
set_option maxRecDepth 100000 in
set_option maxHeartbeats 4000000 in
theorem do_get {base d lb x an ac kn kc : Nat} {aA kA : Option Addr} {D : Dk} (kd N : Int) (w : World) (h : Bo w base d lb x D) (hbw : base ≤ w.heap.size) (hk : Int.tmod kd 6 = 2) :
    Calls Try.prog 54 #[.pointer (some ⟨d, 0, none⟩), .pointer (some ⟨x, 0, none⟩), .agg #[.int .u8 kd, .int .i64 N, .slice aA an ac, .slice kA kn kc]] w fun e w' => e = .returned (.bool true) ∧ ∃ D', Bo w' base d lb x D' ∧ Stp D D' ∧ Below base w w' := by
  go_enter Try.func54, Try.ntmps54
  have h0 := Lib.hid (h.later (below_new w (.cells #[.int .u8 kd, .int .i64 N, .slice aA an ac, .slice kA kn kc] 76)))
  go_wp2_with fail
  obtain ⟨pA, m, mc, lA, lc, wA, wc, hD, hR⟩ := h0.out
  have hB1 : Below base w (w.alloc (.cells #[.int .u8 kd, .int .i64 N, .slice aA an ac, .slice kA kn kc] 76)) := (Below.refl base w).alloc hbw _
  have kb := At.new w #[.int .u8 kd, .int .i64 N, .slice aA an ac, .slice kA kn kc] 76
  have hs1 : base ≤ (w.alloc (.cells #[.int .u8 kd, .int .i64 N, .slice aA an ac, .slice kA kn kc] 76)).heap.size := Nat.le_trans hbw (ge_new w _)
  clear h h0
  generalize (w.alloc (.cells #[.int .u8 kd, .int .i64 N, .slice aA an ac, .slice kA kn kc] 76)) = w1 at *
  by_cases hi : 0 ≤ N ∧ N < D.l.length
  · cases hoff : D.off
    · obtain ⟨i, rfl⟩ := Int.eq_ofNat_of_zero_le hi.1
      have hil : i < D.l.length := by omega
      refine (read_calls i w1 hD.k hil hoff).mono ?_
      rintro e w2 ⟨b, rfl, hs, hb, hl⟩
      have hD2 := hD.later hb
      have hR2 := hR.later hb
      have hB2 := below_tr hB1 (hb.mono hs1)
      have kb2 := At.keep hb kb
      have hcv := run_str 512 w2 hs.bs2
      have hse := str_eq hs.2.2 hs.2.2
      have hfin := Lib.hid (And.intro hD2 (And.intro hR2 hB2))
      clear hD hR hB1 kb hb hD2 hB2
      generalize w.heap.size = bb at kb2 ⊢
      have kb2c := kb2.c; have kb2f := kb2.f; have kb2l := kb2.lt
      go_wp2_with fail
      refine (rget_ok i w2 hR2 hil hoff).mono ?_
      rintro e w3 ⟨rfl, rfl⟩
      clear hR2 hs
      go_wp2
      go_ret
      exact ⟨by first | rfl | simp, D, ⟨pA, m, mc, lA, lc, wA, wc, hfin.out.1, hfin.out.2.1⟩, Stp.refl D, hfin.out.2.2⟩
    · refine (read_off N w1 hD.k hi hoff).mono ?_
      rintro e w2 ⟨rfl, rfl⟩
      have hfin := Lib.hid (And.intro hD (And.intro hR hB1))
      generalize w.heap.size = bb at kb ⊢
      have kbc := kb.c; have kbf := kb.f; have kbl := kb.lt
      go_wp2_with fail
      refine (rget_off N w1 hR hi hoff).mono ?_
      rintro e w3 ⟨rfl, rfl⟩
      have hcv := str_none w1
      clear hD hR hB1
      go_wp2
      go_ret
      exact ⟨by first | rfl | simp, D, ⟨pA, m, mc, lA, lc, wA, wc, hfin.out.1, hfin.out.2.1⟩, Stp.refl D, hfin.out.2.2⟩
  · refine (read_arg N w1 hD.k hi).mono ?_
    rintro e w2 ⟨rfl, rfl⟩
    have hfin := Lib.hid (And.intro hD (And.intro hR hB1))
    generalize w.heap.size = bb at kb ⊢
    have kbc := kb.c; have kbf := kb.f; have kbl := kb.lt
    go_wp2_with fail
    refine (rget_arg N w1 hR hi).mono ?_
    rintro e w3 ⟨rfl, rfl⟩
    have hcv := str_none w1
    clear hD hR hB1
    go_wp2
    go_ret
    exact ⟨by first | rfl | simp, D, ⟨pA, m, mc, lA, lc, wA, wc, hfin.out.1, hfin.out.2.1⟩, Stp.refl D, hfin.out.2.2⟩
end Go.Proofs.Ytjgomebnlekddaa
