/- The page laws' awake. -/
import Derived.Test.YtjgomebnlekddaaEnc0
namespace Go.Proofs.Ytjgomebnlekddaa
set_option linter.unusedVariables false
set_option linter.unusedSimpArgs false
open Go.RowKit
theorem lit_gen {P : Program} (t e : TypeId) (ht : P.underlying t = some (.slice e)) (he : P.underlying e = some (.int .u8)) (w : World) (x : Value) : ∃ wf, (convert t t (.slice (some ⟨w.heap.size, 0, none⟩) 1 1)).run P (w.alloc (.cells #[x] e)) = .ok (.slice (some ⟨w.heap.size, 0, none⟩) 1 1) wf ∧ Below w.heap.size w wf ∧ w.heap.size < wf.heap.size ∧ wf.cell? ⟨w.heap.size, 0, none⟩ = some x := by
  have hb : (w.alloc (.cells #[x] e)).heap[w.heap.size]? = some (.cells #[x] e (0, 0)) := At.new w #[x] e
  refine ⟨(w.alloc (.cells #[x] e)).freeze ⟨w.heap.size, 1, none⟩ 1, ?_, ?_, ?_, ?_⟩
  · have hs : (w.alloc (.cells #[x] e)).shape? w.heap.size = some (e, 1) := by
      unfold World.shape?; rw [hb]; rfl
    simp [convert, run_underlying ht, run_underlying he, markStringish, hs]
  · have hB := below_new w (.cells #[x] e)
    refine ⟨hB.os, hB.tape, hB.output, ?_, fun k hk => ?_⟩
    · simp [World.freeze]
    · rw [← hB.block k hk]
      simp only [World.freeze]
      rw [if_neg (by decide)]
      simp only [Array.getElem?_modify]
      rw [if_neg (by omega)]
  · simp [World.freeze]
  · unfold World.cell? World.freeze
    rw [if_neg (by decide)]
    simp only [Array.getElem?_modify]
    rw [if_pos trivial, hb]
    simp
theorem lit_at (w : World) (x : Int) : ∃ wf, (convert 23 23 (.slice (some ⟨w.heap.size, 0, none⟩) 1 1)).run Try.prog (w.alloc (.cells #[.int .u8 x] 5)) = .ok (.slice (some ⟨w.heap.size, 0, none⟩) 1 1) wf ∧ Below w.heap.size w wf ∧ w.heap.size < wf.heap.size ∧ wf.cell? ⟨w.heap.size, 0, none⟩ = some (.int .u8 x) := lit_gen _ _ Try.underlying23 Try.underlying5 w _
theorem BsR.one {w : World} {b hi : Nat} {x : Int} (h : w.cell? ⟨b, 0, none⟩ = some (.int .u8 x)) (hb : b < hi) (h0 : 0 ≤ x) (h1 : x ≤ 255) : BsR w 0 hi (some ⟨b, 0, none⟩) 1 [x] :=
  ⟨rfl, by intro y hy; simp at hy; omega, fun _ => ⟨b, 0, rfl, Nat.zero_le _, hb, fun j hj => by
    obtain rfl : j = 0 := by omega
    simpa [bsF] using h⟩⟩
set_option maxRecDepth 100000 in
theorem pawake_calls (w : World) : Calls Try.prog 24 #[] w fun e w' => e = .returned (.bool true) ∧ Below w.heap.size w w' := by
  go_enter Try.func24, Try.ntmps24
  go_wp2_with fail
  refine (penc0_calls _).mono ?_
  rintro e w1 ⟨A1, c1, rfl, ho1, hb1⟩
  obtain ⟨f1, e1, b1, l1, x1⟩ := lit_at w1 97
  obtain ⟨f2, e2, b2, l2, x2⟩ := lit_at f1 99
  have b3 := below_new f2 (.cells #[.slice (some ⟨w1.heap.size, 0, none⟩) 1 1, .slice none 0 0, .slice (some ⟨f1.heap.size, 0, none⟩) 1 1, .slice none 0 0] 35)
  have k3 := At.new f2 #[.slice (some ⟨w1.heap.size, 0, none⟩) 1 1, .slice none 0 0, .slice (some ⟨f1.heap.size, 0, none⟩) 1 1, .slice none 0 0] 35
  obtain ⟨f4, e4, b4, l4, x4⟩ := lit_at (f2.alloc (.cells #[.slice (some ⟨w1.heap.size, 0, none⟩) 1 1, .slice none 0 0, .slice (some ⟨f1.heap.size, 0, none⟩) 1 1, .slice none 0 0] 35)) 98
  obtain ⟨f5, e5, b5, l5, x5⟩ := lit_at f4 50
  rw [show (f2.alloc (.cells #[.slice (some ⟨w1.heap.size, 0, none⟩) 1 1, .slice none 0 0, .slice (some ⟨f1.heap.size, 0, none⟩) 1 1, .slice none 0 0] 35)).heap.size = f2.heap.size + 1 from by simp] at e4 b4 l4 x4
  go_wp2_with fail
  generalize (f2.alloc (.cells #[.slice (some ⟨w1.heap.size, 0, none⟩) 1 1, .slice none 0 0, .slice (some ⟨f1.heap.size, 0, none⟩) 1 1, .slice none 0 0] 35)) = f3 at *
  have b35 := below_tr (b4.mono (Nat.le_succ _)) (b5.mono (show f2.heap.size ≤ f4.heap.size by omega))
  have b25 := below_tr b3 b35
  have b15 := below_tr b2 (b25.mono (show f1.heap.size ≤ f2.heap.size by omega))
  have bw5 := below_tr b1 (b15.mono (show w1.heap.size ≤ f1.heap.size by omega))
  have y1 : f5.cell? ⟨w1.heap.size, 0, none⟩ = some (.int .u8 97) := (b15.cell (p := ⟨w1.heap.size, 0, none⟩) l1).trans x1
  have y2 : f5.cell? ⟨f1.heap.size, 0, none⟩ = some (.int .u8 99) := (b25.cell (p := ⟨f1.heap.size, 0, none⟩) l2).trans x2
  have y4 : f5.cell? ⟨f2.heap.size + 1, 0, none⟩ = some (.int .u8 98) := (b5.cell (p := ⟨f2.heap.size + 1, 0, none⟩) l4).trans x4
  have k5 := (k3.below b4 (Nat.lt_succ_self _)).below b5 (by omega)
  have hcs : CsR f5 0 f5.heap.size (some ⟨f2.heap.size, 0, none⟩) 2 [([97], []), ([99], [])] := by
    refine ⟨rfl, fun i hi => ?_⟩
    rcases Nat.lt_or_ge i 1 with h0 | h0
    · obtain rfl : i = 0 := by omega
      exact ⟨_, _, _, 1, 1, none, 0, 0, rfl, Nat.zero_le _, by omega, by rw [k5.c]; rfl, by rw [k5.c]; rfl, BsR.one y1 (by omega) (by omega) (by omega), ⟨rfl, Byt.nil, Rd.nil _ _ _ _ _⟩, by omega, by omega⟩
    · obtain rfl : i = 1 := by omega
      exact ⟨_, _, _, 1, 1, none, 0, 0, rfl, Nat.zero_le _, by omega, by rw [k5.c]; rfl, by rw [k5.c]; rfl, BsR.one y2 (by omega) (by omega) (by omega), ⟨rfl, Byt.nil, Rd.nil _ _ _ _ _⟩, by omega, by omega⟩
  refine (put_calls 2 1 1 f5 hcs (Nat.le_refl _) (BsR.one y4 (by omega) (by omega) (by omega)) (BsR.one x5 (by omega) (by omega) (by omega)) (by omega) (by omega) (by omega) (fun i j h1 h2 => by
    have h3 : j < 2 := h2
    obtain rfl : i = 0 := by omega
    obtain rfl : j = 1 := by omega
    decide)).mono ?_
  rintro e w6 ⟨A2, c2, n2, hs, rfl, ho2, hb2⟩
  rw [show putL [([97], []), ([99], [])] [98] [50] = [([97], []), ([98], [50]), ([99], [])] from by decide] at ho2
  have hr2 := ho2.reads
  obtain rfl : 3 = n2 := hr2.1
  obtain ⟨gb, go', kA, kN, kC, vA, vN, vC, rfl, -, -, -, d2, -, d3, -, -⟩ := hr2.2 1 (by omega)
  obtain rfl : 1 = vN := d3.1
  have r1 := run_str vC w6 d3
  rw [show strL (clAt [([97], []), ([98], [50]), ([99], [])] 1).2 = ⟨#[50]⟩ from rfl] at r1
  have h16 : Below w1.heap.size w1 w6 := below_keep hb2 bw5
  obtain ⟨gb1, go1, rfl, -, -, d1⟩ := (ho1.later h16).reads.at_ (k := 0) (by omega)
  have hB := below_keep h16 hb1
  have d1' : w6.cell? ⟨gb1, go1, none⟩ = some (.int .u8 1) := d1
  have d2' : w6.cell? ⟨gb, go' + 2 + 1, none⟩ = some (.slice vA 1 vC) := d2
  clear d1 d2 k3 k5 hcs ho1 ho2 hr2 d3 b1 b2 b3 b4 b5 b15 b25 b35 bw5 e1 e2 e4 e5 x1 x2 x4 x5 y1 y2 y4 l1 l2 l4 l5
  go_wp2
  go_ret
  exact ⟨by first | rfl | simp, hB⟩
end Go.Proofs.Ytjgomebnlekddaa
