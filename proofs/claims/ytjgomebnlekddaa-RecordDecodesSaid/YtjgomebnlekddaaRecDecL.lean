/- RecordDecodes: the walk of the law. -/
import Derived.Test.YtjgomebnlekddaaRdDecA
import Derived.Test.YtjgomebnlekddaaRfDecA
import Derived.Test.YtjgomebnlekddaaRfSame
namespace Go.Proofs.Ytjgomebnlekddaa
set_option linter.unusedVariables false
set_option linter.unusedSimpArgs false
open Go.RowKit
theorem form_dl {R : Rc} (h : formR R = true) : R.dl.length ≤ 64 := (form_facts h).2.2.2.2
theorem RecOwn.rd {w : World} {base : Nat} {R : Rc} {v : Value} (h : RecOwn w base R v) : RecRd w R v := by
  obtain ⟨bA, aA, dA, bC, aC, dC, hv, h1, h2, h3, -⟩ := h
  exact ⟨bA, aA, dA, bC, aC, dC, hv, h1.reads.less (Nat.zero_le _), h2.reads.less (Nat.zero_le _), PrR.of_owns h3 rfl⟩
theorem zero_rd (w : World) : RecRd w zeroR (.agg zCells) := RecRd.none w 0 0 0
/-- What both Decodes answer, in one word. -/
theorem DecPostR.rd {res : Rc × Int} {w w' : World} {e : Ending} (h : DecPostR res w e w') (hz : res.2 ≠ 0 → res.1 = zeroR) : Below w.heap.size w w' ∧ ∃ v, e = .returned (.tuple #[v, .int .i64 res.2]) ∧ RecRd w' res.1 v := by
  obtain ⟨hb, ⟨h0, v, he, hr⟩ | ⟨h0, he⟩⟩ := h
  · exact ⟨hb, v, by rw [he, h0], hr.rd⟩
  · exact ⟨hb, _, he, by rw [hz h0]; exact zero_rd _⟩
theorem DecPostC.rd {res : Rc × Int} {w w' : World} {e : Ending} (h : DecPostC res w e w') (hz : res.2 ≠ 0 → res.1 = zeroR) : Below w.heap.size w w' ∧ ∃ v, e = .returned (.tuple #[v, .int .i64 res.2]) ∧ RecRd w' res.1 v := by
  obtain ⟨hb, ⟨h0, v, he, hr⟩ | ⟨h0, he⟩⟩ := h
  · exact ⟨hb, v, by rw [he, h0], hr⟩
  · exact ⟨hb, _, he, by rw [hz h0]; exact zero_rd _⟩
theorem decS_zero (l : List Int) : (decS l).2 ≠ 0 → (decS l).1 = zeroR := fun h => by
  rcases decS_err l with h1 | h1 | h1
  · exact absurd h1 h
  · rw [h1]
  · rw [h1]
theorem decS_dl {l : List Int} (hb : Byt l) : (decS l).1.dl.length ≤ 64 := by
  by_cases h : (decS l).2 = 0
  · have := decS_of (R := (decS l).1) hb (by rw [← h])
    exact form_dl this.2.1
  · rw [decS_zero l h]; exact Nat.zero_le _
/-- A record's value has ten cells. -/
theorem RecRd.form {w : World} {R : Rc} {v : Value} (h : RecRd w R v) : ∃ c0 c1 c2 c3 c4 c5 c6 c7 c8 c9 : Value, v = .agg #[c0, c1, c2, c3, c4, c5, c6, c7, c8, c9] ∧ (c0.oneCell' = true ∧ c1.oneCell' = true ∧ c2.oneCell' = true ∧ c3.oneCell' = true ∧ c4.oneCell' = true) ∧ c5.oneCell' = true ∧ c6.oneCell' = true ∧ c7.oneCell' = true ∧ c8.oneCell' = true ∧ c9.oneCell' = true := by
  obtain ⟨bA, aA, dA, bC, aC, dC, rfl, -⟩ := h
  exact ⟨_, _, _, _, _, _, _, _, _, _, rfl, ⟨rfl, rfl, rfl, rfl, rfl⟩, rfl, rfl, rfl, rfl, rfl⟩
set_option maxRecDepth 100000 in
set_option maxHeartbeats 8000000 in
theorem decodes_rec {n c : Nat} {A : Option Addr} {l : List Int} (w : World) (h : BsR w 0 w.heap.size A n l) (hc : n ≤ c) (hn : n ≤ 140737488355328) :
    Calls Try.prog 18 #[.slice A n c] w fun e w' => e = .returned (.bool true) ∧ Below w.heap.size w w' := by
  have hby := h.2.1
  have hsm := dec_same hby
  have hz := decS_zero l
  have hdl := decS_dl hby
  obtain ⟨⟨R, er⟩, hres⟩ : ∃ r, decS l = r := ⟨_, rfl⟩
  rw [hres] at hz hdl hsm
  dsimp only at hz hdl
  have hresx := Lib.hid hres
  have hsmx := Lib.hid hsm
  have hzx := Lib.hid hz
  have h0 := Lib.hid h
  clear h hres hsm hz
  go_enter Try.func18, Try.ntmps18
  go_wp2_with fail
  refine (rawake_calls w).mono ?_
  rintro e w1 ⟨rfl, hb1⟩
  go_wp2_with fail
  refine (rdec_rec_calls w1 ((h0.out.below hb1 (Nat.le_refl _)).more hb1.size) hc hn).mono ?_
  intro e w2 hp
  rw [hresx.out] at hp
  obtain ⟨hb2, v, rfl, hv⟩ := hp.rd hzx.out
  have hB2 := below_keep hb2 hb1
  clear hp
  obtain ⟨bA, aA, dA, bC, aC, dC, rfl, g1, g2, g3⟩ := hv
  dsimp only at g1 g2 g3 ⊢
  have hrx := Lib.hid (fun w' (hb : Below w2.heap.size w2 w') => RecRd.later (show RecRd w2 R _ from ⟨bA, aA, dA, bC, aC, dC, rfl, g1, g2, g3⟩) hb)
  clear g1 g2 g3
  go_wp2_with fail
  have kA := At.new w2 #[.int .u8 R.k, .int .u64 R.tx, .int .u64 R.prev, .int .i64 R.page, .int .i64 R.off, .slice bA R.bl.length bC, .slice aA R.al.length aC, .int .u64 R.next, .slice dA R.dl.length dC, .bool R.opn] 26
  have hbA := below_new w2 (.cells #[.int .u8 R.k, .int .u64 R.tx, .int .u64 R.prev, .int .i64 R.page, .int .i64 R.off, .slice bA R.bl.length bC, .slice aA R.al.length aC, .int .u64 R.next, .slice dA R.dl.length dC, .bool R.opn] 26)
  have hBA := below_keep hbA hB2
  generalize (w2.alloc (.cells #[.int .u8 R.k, .int .u64 R.tx, .int .u64 R.prev, .int .i64 R.page, .int .i64 R.off, .slice bA R.bl.length bC, .slice aA R.al.length aC, .int .u64 R.next, .slice dA R.dl.length dC, .bool R.opn] 26)) = wa at *
  refine (rdc_calls wa ((h0.out.below hBA (Nat.le_refl _)).more hBA.size) hc hn).mono ?_
  intro e w3 hp
  rw [hsmx.out] at hp
  obtain ⟨hb3, v, rfl, hv⟩ := hp.rd hzx.out
  have hB3 := below_keep hb3 hBA
  have hr3 := below_keep hb3 hbA
  clear hp
  obtain ⟨bB, aB, dB, bD, aD, dD, rfl, g1, g2, g3⟩ := hv
  dsimp only at g1 g2 g3 ⊢
  have hry := Lib.hid (fun w' (hb : Below w3.heap.size w3 w') => RecRd.later (show RecRd w3 R _ from ⟨bB, aB, dB, bD, aD, dD, rfl, g1, g2, g3⟩) hb)
  clear g1 g2 g3 hbA hB2 hBA hb1
  have k3 := At.keep hb3 kA
  go_upto_region 5 with (fail)
  have kB := At.new w3 #[.int .u8 R.k, .int .u64 R.tx, .int .u64 R.prev, .int .i64 R.page, .int .i64 R.off, .slice bB R.bl.length bD, .slice aB R.al.length aD, .int .u64 R.next, .slice dB R.dl.length dD, .bool R.opn] 26
  have hbB := below_new w3 (.cells #[.int .u8 R.k, .int .u64 R.tx, .int .u64 R.prev, .int .i64 R.page, .int .i64 R.off, .slice bB R.bl.length bD, .slice aB R.al.length aD, .int .u64 R.next, .slice dB R.dl.length dD, .bool R.opn] 26)
  have k4 := At.keep hbB k3
  have hB4 := below_keep hbB hB3
  have hx4 := hrx.out _ (below_keep hbB hr3)
  have hy4 := hry.out _ hbB
  clear kA k3 hb3 hr3 hB3 hbB hrx hry
  generalize (w3.alloc (.cells #[.int .u8 R.k, .int .u64 R.tx, .int .u64 R.prev, .int .i64 R.page, .int .i64 R.off, .slice bB R.bl.length bD, .slice aB R.al.length aD, .int .u64 R.next, .slice dB R.dl.length dD, .bool R.opn] 26)) = w4 at *
  generalize w2.heap.size = ρ1 at *
  generalize w3.heap.size = ρ2 at *
  have k4c := k4.c; have k4f := k4.f; have k4l := k4.lt
  have kBc := kB.c; have kBf := kB.f; have kBl := kB.lt
  go_wp2_with fail
  refine (rsamer_yes w4 hx4 hy4 (by omega)).mono ?_
  rintro e w5 ⟨rfl, hb5⟩
  go_wp2
  go_ret
  exact ⟨by first | rfl | simp, below_keep hb5 hB4⟩
end Go.Proofs.Ytjgomebnlekddaa
