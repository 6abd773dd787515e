/- Joined texts: Full, DAwake. -/
import Derived.Test.YtnehppeoffemlaaJLogRings18
import Derived.Laws.OwnMore
/- munimentlaw07.full by its contract. -/
namespace Go.Proofs.Ytnehppeoffemlaa
set_option linter.unusedVariables false
set_option linter.unusedSimpArgs false
open Go.RowKit
def fillTo (p : List Int) (j : Nat) : List Int := p.take j ++ List.replicate (512 - j) 0
def fullL (p : List Int) : List Int := fillTo p (min p.length 512)
theorem fillTo_len (p : List Int) (j : Nat) (h : j ≤ p.length) (h2 : j ≤ 512) : (fillTo p j).length = 512 := by
  unfold fillTo
  rw [List.length_append, List.length_take, List.length_replicate]
  omega
theorem fillTo_set (p : List Int) (j : Nat) (h : j < p.length) (h2 : j < 512) : (fillTo p j).set j (p.getD j 0) = fillTo p (j + 1) := by
  unfold fillTo
  rw [show 512 - j = (512 - (j + 1)) + 1 by omega, List.replicate_succ]
  have hl : (p.take j).length = j := by rw [List.length_take]; omega
  rw [List.set_append_right _ _ (by omega), hl, Nat.sub_self, List.set_cons_zero, List.take_succ_eq_append_getElem h, List.append_assoc, show p.getD j 0 = p[j] by simp [List.getD, h]]
  rfl
theorem fullL_sec {p : List Int} (h : Byt p) : Sec (fullL p) := by
  refine ⟨fillTo_len p _ (by omega) (by omega), fun x hx => ?_⟩
  rcases List.mem_append.1 hx with h1 | h1
  · exact h x (List.mem_of_mem_take h1)
  · rw [List.eq_of_mem_replicate h1]; omega
set_option maxRecDepth 100000 in
set_option maxHeartbeats 1000000 in
theorem full_calls {n lo hi : Nat} (c : Nat) {A : Option Addr} {p : List Int} (w : World) (h : BsR w lo hi A n p) (hhi : hi ≤ w.heap.size) :
    Calls Try.prog 49 #[.slice A n c] w fun e w' => ∃ b, e = .returned (.slice (some ⟨b, 0, none⟩) 512 512) ∧ OwB w' w.heap.size (some ⟨b, 0, none⟩) 512 512 (fullL p) ∧ Below w.heap.size w w' ∧ w.heap.size ≤ b := by
  have hln := Lib.hid h.1
  have hbyt := Lib.hid h.2.1
  have hh := Lib.hid h
  obtain ⟨i0, hi0, hz0, hz1, hz2⟩ := info_parts info8
  have q1 : i0.bytes * 512 ≤ 281474976710656 := by rw [hz2]; omega
  have q2 : (512 : Nat) ≤ maxLen := by unfold maxLen; omega
  have q1' := Lib.hid q1
  have hi0' := Lib.hid hi0
  have hz0' := Lib.hid hz0
  have hz1' := Lib.hid hz1
  clear h hi0 hz0 hz1 hz2 q1
  go_enter Try.func49, Try.ntmps49
  go_upto_region 3 with (at_make; refine wpList_make_full w rfl _ _ 32 rfl w.heap.size 5 i0 (.int .u8 0) 1 Try.underlying32 hi0'.out hz0'.out hz1'.out .i64 .i64 _ _ 512 rfl rfl rfl rfl q1'.out q2 (Nat.le_refl _) ?_; intro w1 ho1 hg1)
  have ho : OwB w1 w.heap.size (some ⟨w.heap.size, 0, none⟩) 512 512 (fillTo p 0) := by
    refine ⟨fillTo_len p 0 (by omega) (by omega), fun x hx => ?_, ?_⟩
    · rw [List.eq_of_mem_replicate (show x ∈ List.replicate 512 0 from by simpa [fillTo] using hx)]; omega
    · have h1 := ho1
      rw [show (512 : Nat) * 1 = 512 from rfl, show (Value.int .u8 0).cells = #[.int .u8 0] from rfl, toList_madeCells_one] at h1
      have h2 : (fillTo p 0).map (Value.int .u8) = List.replicate 512 (Value.int .u8 0) := by
        show (p.take 0 ++ List.replicate 512 0).map _ = _
        rw [List.take_zero, List.nil_append, List.map_replicate]
      rw [h2]; exact h1
  have hB : Below w.heap.size w w1 := ⟨hg1.os, hg1.tape, hg1.output, hg1.size, fun k hk => hg1.block k hk (by simp)⟩
  clear ho1 hg1
  go_loopw [4] (fun v4 wr => ∃ j : Nat, j ≤ n ∧ j ≤ 512 ∧ v4 = .int .i64 j ∧ OwB wr w.heap.size (some ⟨w.heap.size, 0, none⟩) 512 512 (fillTo p j) ∧ Below w.heap.size w wr) (fun v4 _ => n - (intOf v4).toNat)
  case atStart => exact ⟨0, by omega, by omega, rfl, ho, hB⟩
  case round =>
    clear ho hB
    obtain ⟨j, hj, hj5, rfl, ho, hB⟩ := hrel
    by_cases hlt : j < n ∧ j < 512
    · obtain ⟨l1, l2⟩ := hlt
      obtain ⟨gb, go', rfl, -, g2, hcl⟩ := (hh.out.below hB hhi).at_ l1
      have hst := Lib.hid (fillTo_set p j (by rw [hln.out]; exact l1) l2)
      have hx := hbyt.out.getD j
      generalize p.getD j 0 = x at *
      obtain ⟨cur, hat, -, -, -⟩ := ho.at_
      have hcc := ho.reads.at_ l2
      obtain ⟨gx, gy, hAx, -, -, hcell⟩ := hcc
      injection hAx with hAx
      injection hAx with e1 e2
      subst e1; subst e2
      rw [Nat.zero_add] at hcell
      have hfro := hat.f j
      have ht0 : (0 : Int) ≤ j := by omega
      have ht1 : (j : Int) < n := by omega
      have ht2 : (j : Int) < 512 := by omega
      clear hat
      go_wp2
      go_roundw
      case rel => exact ⟨j + 1, by omega, by omega, by go_num, by rw [← hst.out]; exact ho.set l2 hx.1 hx.2, hB.setCell (Nat.le_refl _) _⟩
      case measure => simp [intOf]; omega
    · have hq : ((n : Int) ≤ j) ∨ ((j : Int) < n ∧ (512 : Int) ≤ j) := by omega
      have hf : fillTo p j = fullL p := by
        unfold fullL
        congr 1
        rw [hln.out]; omega
      have hf' := Lib.hid hf
      clear hf hlt
      rcases hq with hq | ⟨hq1, hq2⟩
      all_goals
        go_wp2
        go_ret
        exact ⟨w.heap.size, rfl, by rw [← hf'.out]; exact ho, hB, Nat.le_refl _⟩
end Go.Proofs.Ytnehppeoffemlaa
/- The disk laws' awake. -/
namespace Go.Proofs.Ytnehppeoffemlaa
set_option linter.unusedVariables false
set_option linter.unusedSimpArgs false
open Go.RowKit
theorem litb_gen {P : Program} (t e : TypeId) (ht : P.underlying t = some (.slice e)) (he : P.underlying e = some (.int .u8)) (w : World) (x : Value) : ∃ wf, (convert t t (.slice (some ⟨w.heap.size, 0, none⟩) 1 1)).run P (w.alloc (.cells #[x] e)) = .ok (.slice (some ⟨w.heap.size, 0, none⟩) 1 1) wf ∧ Below w.heap.size w wf ∧ w.heap.size < wf.heap.size ∧ wf.cell? ⟨w.heap.size, 0, none⟩ = some x := by
  have hb : (w.alloc (.cells #[x] e)).heap[w.heap.size]? = some (.cells #[x] e (0, 0)) := At.new w #[x] e
  refine ⟨(w.alloc (.cells #[x] e)).freeze ⟨w.heap.size, 1, none⟩ 1, ?_, ?_, ?_, ?_⟩
  · have hs : (w.alloc (.cells #[x] e)).shape? w.heap.size = some (e, 1) := by
      unfold World.shape?; rw [hb]; rfl
    simp [convert, run_underlying ht, run_underlying he, markStringish, hs]
  · have hB := below_new w (.cells #[x] e)
    refine ⟨hB.os, hB.tape, hB.output, ?_, fun k hk => ?_⟩
    · simp [World.freeze]
    · rw [← hB.block k hk]
      simp only [World.freeze]
      rw [if_neg (by decide)]
      simp only [Array.getElem?_modify]
      rw [if_neg (by omega)]
  · simp [World.freeze]
  · unfold World.cell? World.freeze
    rw [if_neg (by decide)]
    simp only [Array.getElem?_modify]
    rw [if_pos trivial, hb]
    simp
theorem litb_at (w : World) (x : Int) : ∃ wf, (convert 32 32 (.slice (some ⟨w.heap.size, 0, none⟩) 1 1)).run Try.prog (w.alloc (.cells #[.int .u8 x] 5)) = .ok (.slice (some ⟨w.heap.size, 0, none⟩) 1 1) wf ∧ Below w.heap.size w wf ∧ w.heap.size < wf.heap.size ∧ wf.cell? ⟨w.heap.size, 0, none⟩ = some (.int .u8 x) := litb_gen _ _ Try.underlying32 Try.underlying5 w _
theorem BsR.single {w : World} {b hi : Nat} {x : Int} (h : w.cell? ⟨b, 0, none⟩ = some (.int .u8 x)) (hb : b < hi) (h0 : 0 ≤ x) (h1 : x ≤ 255) : BsR w 0 hi (some ⟨b, 0, none⟩) 1 [x] :=
  ⟨rfl, by intro y hy; simp at hy; omega, fun _ => ⟨b, 0, rfl, Nat.zero_le _, hb, fun j hj => by
    obtain rfl : j = 0 := by omega
    simpa [bsF] using h⟩⟩
theorem OwB.noFoot {w : World} {base n c d lb m mc : Nat} {A pA : Option Addr} {l : List Int} {D : Dk} (h : OwB w base A n c l) (hd : Dsk w d lb pA m mc D) : ∀ b, ownBlk A = some b → ¬ Foot d lb pA b := by
  intro b hb hf
  rcases hf with rfl | rfl | hf
  · exact hd.at_.ne_own h.2.2 (by decide) hb
  · exact hd.row.ne_own h.2.2 (by decide) hb
  · rcases Go.Proofs.Ytnehppeoffemlaa.ne_ty h.2.2 hd.way (by decide) with h1 | h1
    · rw [h1] at hb; cases hb
    · exact h1 (hb.trans hf.symm)
theorem OwB.mod {w w' : World} {base n c : Nat} {A : Option Addr} {l : List Int} {S : Nat → Prop} (h : OwB w base A n c l) (hm : Mod S w w') (hs : ∀ b, ownBlk A = some b → ¬ S b) : OwB w' base A n c l :=
  ⟨h.1, h.2.1, owns_heap h.2.2 (fun b hb => by
    rw [ownBlk_eq] at hb
    exact hm.block b (h.lt b hb).2 (hs b hb))⟩
/-- A disk of which all lies from base on. -/
structure DskB (w : World) (base d lb : Nat) (pA : Option Addr) (m mc : Nat) (D : Dk) : Prop where
  k : Dsk w d lb pA m mc D
  hd : base ≤ d
  hl : base ≤ lb
  hp : ∀ b, ownBlk pA = some b → base ≤ b
theorem DskB.foot {w : World} {base d lb m mc : Nat} {pA : Option Addr} {D : Dk} (h : DskB w base d lb pA m mc D) : ∀ k, Foot d lb pA k → base ≤ k := fun k hk => by
  rcases hk with rfl | rfl | hk
  · exact h.hd
  · exact h.hl
  · exact h.hp k hk
theorem DskB.footL {w : World} {base d lb m mc : Nat} {pA : Option Addr} {D : Dk} (h : DskB w base d lb pA m mc D) : ∀ k, FootL d lb k → base ≤ k := fun k hk => by
  rcases hk with rfl | rfl
  · exact h.hd
  · exact h.hl
theorem DskB.later {w w' : World} {base d lb m mc : Nat} {pA : Option Addr} {D : Dk} (h : DskB w base d lb pA m mc D) (hb : Below w.heap.size w w') : DskB w' base d lb pA m mc D := ⟨h.k.later hb, h.hd, h.hl, h.hp⟩
theorem DskB.lts {w : World} {base d lb m mc : Nat} {pA : Option Addr} {D : Dk} (h : DskB w base d lb pA m mc D) : d < w.heap.size ∧ lb < w.heap.size ∧ ∀ b, ownBlk pA = some b → b < w.heap.size :=
  ⟨h.k.at_.lt, h.k.row.lt, fun b hb => (h.k.way.lt b (by rw [ownBlk_eq]; exact hb)).2⟩
/-- Write of a row of bytes that the caller owns. -/
theorem wri_own {base b0 d lb m mc c pb : Nat} {pA : Option Addr} {D : Dk} {p : List Int} (i : Nat) (w : World) (h : DskB w base d lb pA m mc D) (hi : i < D.l.length) (hoff : D.off = false) (h9 : D.ops < 1000000000) (hm9 : m < 1000000000) (hp : OwB w b0 (some ⟨pb, 0, none⟩) 512 c p) (hbw : base ≤ w.heap.size) :
    Calls Try.prog 28 #[.pointer (some ⟨d, 0, none⟩), .int .i64 i, .slice (some ⟨pb, 0, none⟩) 512 c] w fun e w' => e = .returned (.int .i64 (wrE D)) ∧ (∃ pA' mc', DskB w' base d lb pA' (m + 1) mc' (wrD D i p)) ∧ Below base w w' ∧ OwB w' b0 (some ⟨pb, 0, none⟩) 512 c p ∧ Mod (Foot d lb pA) w w' := by
  have hnf := hp.noFoot h.k pb rfl
  have hcap : 512 ≤ c := by
    obtain ⟨cur, -, -, hc, -⟩ := hp.at_
    exact hc
  refine (wri_calls i w h.k hi hoff h9 hm9 (hp.reads.less (Nat.zero_le _)) ⟨fun e => hnf (.inl e), fun e => hnf (.inr (.inr e))⟩ hcap).mono ?_
  rintro e w' ⟨he, ⟨pA', mc', hd, hpa⟩, hm⟩
  exact ⟨he, ⟨pA', mc', hd, h.hd, h.hl, fun b hb => by
    rcases hpa b hb with h1 | h1
    · exact h.hp b h1
    · omega⟩, hm.below hbw h.foot, hp.mod hm (hp.noFoot h.k), hm⟩
def newD (n : Nat) : Dk := ⟨List.replicate n zeroS, [], 0, false, 0⟩
theorem fullL_at (x : Int) : (fullL [x]).getD 0 0 = x := rfl
theorem SecB.first {w : World} {b : Nat} {s : List Int} (h : SecB w b s) : w.cell? ⟨b, 0, none⟩ = some (.int .u8 (s.getD 0 0)) := by
  have h1 := h.range 0 (.int .u8 (s.getD 0 0)) (map_at (by rw [h.2.1]; omega))
  simpa using h1
set_option maxRecDepth 100000 in
set_option maxHeartbeats 1000000 in
theorem dawake_calls (w : World) : Calls Try.prog 48 #[] w fun e w' => e = .returned (.bool true) ∧ Below w.heap.size w w' := by
  go_enter Try.func48, Try.ntmps48
  go_wp2_with fail
  refine (new_calls 2 (by omega) (by omega) w).mono ?_
  rintro e w1 ⟨d, lb, rfl, hd0, hb1, hdd, hlb⟩
  have hD0 : DskB w1 w.heap.size d lb none 0 0 (newD 2) := ⟨hd0, hdd, hlb, fun b hb => by cases hb⟩
  clear hd0
  obtain ⟨f1, e1, b1, l1, x1⟩ := litb_at w1 97
  go_wp2_with fail
  refine (full_calls 1 f1 (BsR.single x1 l1 (by omega) (by omega)) (Nat.le_refl _)).mono ?_
  rintro e w2 ⟨p1, rfl, hp1, hb2, hpl1⟩
  have hD1 := (hD0.later b1).later hb2
  have hB2 := below_keep hb2 (below_keep b1 hb1)
  clear e1 x1
  go_wp2_with fail
  refine (wri_own 0 w2 hD1 (by show 0 < 2; omega) rfl (by show (0 : Int) < 1000000000; omega) (by omega) hp1 hB2.size).mono ?_
  rintro e w3 ⟨rfl, ⟨pA3, mc3, hD3⟩, hb3, hp1', -⟩
  rw [show wrE (newD 2) = 0 from rfl]
  have hB3 := below_tr hB2 hb3
  clear hp1' hp1
  obtain ⟨f4, e4, b4, l4, x4⟩ := litb_at w3 98
  go_wp2_with fail
  refine (full_calls 1 f4 (BsR.single x4 l4 (by omega) (by omega)) (Nat.le_refl _)).mono ?_
  rintro e w5 ⟨p5, rfl, hp5, hb5, hpl5⟩
  have hD5 := (hD3.later b4).later hb5
  have hB5 := below_keep hb5 (below_keep b4 hB3)
  clear e4 x4
  go_wp2_with fail
  refine (wri_own 0 w5 hD5 (by show 0 < 2; omega) rfl (by show (1 : Int) < 1000000000; omega) (by omega) hp5 hB5.size).mono ?_
  rintro e w6 ⟨rfl, ⟨pA6, mc6, hD6⟩, hb6, -, -⟩
  rw [show wrE (wrD (newD 2) 0 (fullL [97])) = 0 from rfl]
  have hB6 := below_tr hB5 hb6
  go_wp2_with fail
  have kk := At.new w6 #[.bool true, .bool false] 4
  have hD7 := hD6.later (below_new w6 (.cells #[.bool true, .bool false] 4))
  have hB7 := below_keep (below_new w6 (.cells #[.bool true, .bool false] 4)) hB6
  have hl6 := hD6.lts
  generalize hw7 : (w6.alloc (.cells #[.bool true, .bool false] 4)) = w7 at *
  have hkl := kk.lt
  refine (rest_calls (n := 2) (kl := [true, false]) w7 hD7.k ⟨rfl, fun _ => ⟨w6.heap.size, 0, rfl, Nat.zero_le _, hkl, fun j hj => ?_⟩⟩ (fun _ b hb => ?_)).mono ?_
  · rw [Nat.zero_add, kk.c]
    rcases Nat.lt_or_ge j 1 with h0 | h0
    · obtain rfl : j = 0 := by omega
      rfl
    · obtain rfl : j = 1 := by omega
      rfl
  · injection hb with hb
    simp at hb
    omega
  rintro e w8 ⟨rfl, hd8, hm8⟩
  have hB8 := below_tr hB7 (hm8.below hB7.size hD7.footL)
  clear hkl hl6 kk
  go_wp2_with fail
  refine (read_calls 0 w8 hd8 (by show 0 < List.length (List.set _ _ _); rw [List.length_set]; show 0 < 2; omega) rfl).mono ?_
  rintro e w9 ⟨b9, rfl, hs9, hb9, -⟩
  have hc9 := hs9.first
  rw [show readD (restD (wrD (wrD (newD 2) 0 (fullL [97])) 0 (fullL [98])) 2 [true, false]) 0 = fullL [97] from rfl, fullL_at] at hc9
  go_wp2
  go_ret
  exact ⟨by first | rfl | simp, below_keep hb9 hB8⟩
end Go.Proofs.Ytnehppeoffemlaa
