/- PageDecodes: the walk of the law. -/
import Derived.Test.YtjgomebnlekddaaSwapsLaw
import Derived.Test.YtjgomebnlekddaaCellsLaw
import Derived.Test.YtjgomebnlekddaaRDec
namespace Go.Proofs.Ytjgomebnlekddaa
set_option linter.unusedVariables false
set_option linter.unusedSimpArgs false
open Go.RowKit
theorem decP_form {b : List Int} {k next : Int} {l : List Cl} (h : decP b = some (k, next, l)) : PForm k next l ∧ pageB k next l = b := by
  unfold decP at h
  split at h
  · cases hd : decTo b (b.getD 4 0).toNat with
    | none => rw [hd] at h; cases h
    | some s =>
      rw [hd, Option.bind_some] at h
      split at h
      · next hc =>
        injection h with h
        simp only [Prod.mk.injEq] at h
        obtain ⟨rfl, rfl, rfl⟩ := h
        exact hc
      · cases h
  · cases h
theorem OwB.cap {w : World} {base n c : Nat} {A : Option Addr} {l : List Int} (h : OwB w base A n c l) : n ≤ c := by
  rcases h.2.2.2 with ⟨hv, h0⟩ | ⟨g, cap, cur, hv, _, _, hnc, _⟩
  · injection hv with _ _ h3
    omega
  · injection hv with _ _ h3
    omega
theorem OwB.arg {w : World} {base n c : Nat} {A : Option Addr} {l : List Int} (h : OwB w base A n c l) : BsR w 0 w.heap.size A n l := h.reads.less (Nat.zero_le _)
set_option maxRecDepth 100000 in
set_option maxHeartbeats 2000000 in
theorem decodes_calls {n c : Nat} {A : Option Addr} {b : List Int} (pad : Bool) (w : World) (h : BsR w 0 w.heap.size A n b) (hn : n ≤ 140737488351232) :
    Calls Try.prog 13 #[.slice A n c, .bool pad] w fun e w' => e = .returned (.bool true) ∧ Below w.heap.size w w' := by
  go_enter Try.func13, Try.ntmps13
  go_wp2_with fail
  refine (pawake_calls _).mono ?_
  rintro e w1 ⟨rfl, hb1⟩
  have hsrc := (h.below hb1 (Nat.le_refl _)).src
  have hlen := h.1
  have hbyt := h.2.1
  have q1 : 0 + n ≤ maxLen := by unfold maxLen; omega
  have q2 : (0 + n) * 1 ≤ 140737488355328 := by omega
  go_upto_region 5 with (at_builtin; refine wpList_appG u8Elt rfl (.tmp 12) (.tmp 13) rfl w.heap.size 0 0 none [] rfl (World.ownsRow_nil _ _ _ _) n c A _ rfl hsrc q1 q2 hb1.size ?_; intro A2 c2 w2 ho2 hg2 hb2 hat2)
  have ho : OwB w2 w.heap.size A2 (0 + n) c2 b := ⟨by omega, hbyt, by simpa using ho2⟩
  have hB2 := below_tr hb1 hb2
  clear ho2 hg2 hb2 hat2 hsrc q1 q2
  go_loopw [5] (fun v5 wr => ∃ (m c' : Nat) (A' : Option Addr) (L : List Int), v5 = .slice A' m c' ∧ m ≤ 140737488351232 ∧ OwB wr w.heap.size A' m c' L ∧ Below w.heap.size w wr) (fun v5 _ => 504 - lenV v5)
  case atStart => exact ⟨n, c2, A2, b, by first | rfl | simp, hn, by simpa using ho, hB2⟩
  case round =>
    clear ho hB2 h hlen hbyt
    obtain ⟨m, c', A', L, rfl, hm, ho, hB⟩ := hrel
    by_cases hq : pad = true ∧ m < 504
    · obtain ⟨rfl, hq⟩ := hq
      have hq1 : (m : Int) < 504 := by omega
      go_wp2_with (at_builtin; refine wpList_app rfl (.tmp 21) (.tmp 22) rfl w.heap.size m c' A' _ rfl (ho.alloc _) _ _ 1 1 _ [0] rfl (BsR.of_at (l := [0]) (At.new wr _ _) rfl (Byt.cons (by omega) (by omega) Byt.nil)) (by omega) (Nat.le_trans hB.size (ge_new _ _)) ?_; intro A5 c5 w5 ho5 hg5 hb5 hat5)
      go_roundw
      case rel => exact ⟨m + 1, c5, A5, _, rfl, by omega, ho5, below_tr (below_al hB) hb5⟩
      case measure => simp [lenV]; omega
    · have hP := Lib.hid ho.arg
      have hcap := ho.cap
      have hcase : (pad = true ∧ (504 : Int) ≤ m) ∨ pad = false := by
        cases pad
        · exact .inr rfl
        · left
          refine ⟨rfl, ?_⟩
          have : ¬ m < 504 := fun h => hq ⟨rfl, h⟩
          omega
      clear hq
      have hrest : ∀ w2, Below wr.heap.size wr w2 → BsR w2 0 w2.heap.size A' m L := fun w2 hb => (ho.later hb).arg
      cases hd : decP L with
      | none =>
        have hd' := Lib.hid hd
        clear hd
        rcases hcase with ⟨rfl, hq⟩ | rfl
        all_goals
          go_wp2_with fail
          refine (pdec_calls wr hP.out hcap).mono ?_
          rw [hd'.out]
          rintro e w2 ⟨hb2, rfl⟩
          have hB2 := below_keep hb2 hB
          go_wp2_with fail
          have k2 := At.new w2 #[.int .u8 0, .int .i64 0, .slice none 0 0] 54
          have hb3 := below_keep (below_new w2 (.cells #[.int .u8 0, .int .i64 0, .slice none 0 0] 54)) hb2
          have hB3 := below_al (O := .cells #[.int .u8 0, .int .i64 0, .slice none 0 0] 54) hB2
          generalize (w2.alloc (.cells #[.int .u8 0, .int .i64 0, .slice none 0 0] 54)) = w3 at *
          refine (rdec_calls w3 (hrest w3 hb3) hcap).mono ?_
          rw [hd'.out]
          rintro e w4 ⟨hb4, rfl⟩
          have hB4 := below_keep hb4 hB3
          replace k2 := k2.below hb4 k2.lt; have k2c := k2.c; have k2f := k2.f; have k2l := k2.lt
          have k2a := (k2.alloc (.cells #[.int .u8 0, .int .i64 0, .slice none 0 0] 54)).c
          go_wp2
          go_ret
          exact ⟨by first | rfl | simp, below_al hB4⟩
      | some p =>
        obtain ⟨kd, next, l⟩ := p
        have hpf := (decP_form hd).1
        have hd' := Lib.hid hd
        have hl : l.length ≤ 301 := by have := hpf.2.2.1; omega
        clear hd hpf
        rcases hcase with ⟨rfl, hq⟩ | rfl
        all_goals
          go_wp2_with fail
          refine (pdec_calls wr hP.out hcap).mono ?_
          rw [hd'.out]
          rintro e w2 ⟨hb2, A3, n3, c3, hs3, rfl, ho3⟩
          have hB2 := below_keep hb2 hB
          go_wp2_with fail
          have k2 := At.new w2 #[.int .u8 kd, .int .i64 next, .slice A3 n3 c3] 54
          have hb3 := below_keep (below_new w2 (.cells #[.int .u8 kd, .int .i64 next, .slice A3 n3 c3] 54)) hb2
          have hB3 := below_al (O := .cells #[.int .u8 kd, .int .i64 next, .slice A3 n3 c3] 54) hB2
          have ho3' := ho3.alloc (.cells #[.int .u8 kd, .int .i64 next, .slice A3 n3 c3] 54)
          generalize (w2.alloc (.cells #[.int .u8 kd, .int .i64 next, .slice A3 n3 c3] 54)) = w3 at *
          refine (rdec_calls w3 (hrest w3 hb3) hcap).mono ?_
          rw [hd'.out]
          rintro e w4 ⟨hb4, A4, n4, c4, rfl, ho4⟩
          have hB4 := below_keep hb4 hB3
          replace k2 := k2.below hb4 k2.lt; have k2c := k2.c; have k2f := k2.f; have k2l := k2.lt
          have ho3'' := ho3'.later hb4
          have k2a := (k2.alloc (.cells #[.int .u8 kd, .int .i64 next, .slice A4 n4 c4] 54)).c
          go_wp2_with fail
          refine (same_yes c3 c4 _ (ho3''.alloc _).arg (ho4.later (below_new w4 _)) rfl hl).mono ?_
          rintro e w6 ⟨rfl, hb6⟩
          go_wp2
          go_ret
          exact ⟨by first | rfl | simp, below_keep hb6 (below_al hB4)⟩
end Go.Proofs.Ytjgomebnlekddaa
