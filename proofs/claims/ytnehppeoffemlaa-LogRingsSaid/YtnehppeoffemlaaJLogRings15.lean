/- Joined texts: DiskR. -/
import Derived.Test.YtnehppeoffemlaaJLogRings14
/- disk.Read by its contract. -/
namespace Go.Proofs.Ytnehppeoffemlaa
set_option linter.unusedVariables false
set_option linter.unusedSimpArgs false
open Go.RowKit
def wayAt (D : Dk) (k : Nat) : Wr := D.way.getD k (0, [])
def readTo (D : Dk) (i : Nat) : Nat → List Int
  | 0 => D.l.getD i []
  | k + 1 => if (wayAt D k).1 = i then (wayAt D k).2 else readTo D i k
def readD (D : Dk) (i : Nat) : List Int := readTo D i D.way.length
theorem readTo_sec {D : Dk} (h : DkOk D) {i : Nat} (hi : i < D.l.length) : ∀ k, k ≤ D.way.length → Sec (readTo D i k)
  | 0, _ => sec_at h.l hi
  | k + 1, hk => by
    unfold readTo
    split
    · exact (way_at h (by omega)).2
    · exact readTo_sec h hi k (by omega)
/-- A block that is one sector. -/
def SecB (w : World) (b : Nat) (s : List Int) : Prop := At w b (secV s).toArray 107 ∧ Sec s
theorem SecB.range {w : World} {b : Nat} {s : List Int} (h : SecB w b s) : w.rangeAt b 0 (secV s) := by
  have h1 : At w b ([] ++ secV s ++ []).toArray 107 := by simpa using h.1
  exact h1.rangeAt
theorem SecB.there {w : World} {b : Nat} {s : List Int} (h : SecB w b s) : w.there b 0 512 := by
  have h1 : At w b ([] ++ secV s ++ []).toArray 107 := by simpa using h.1
  have h2 := h1.there
  rw [secV_len h.2] at h2
  exact h2
theorem SecB.store {w : World} {b : Nat} {s s' : List Int} (h : SecB w b s) (h' : Sec s') : SecB (w.setCells b 0 (secV s')) b s' := by
  have h1 : At w b ([] ++ secV s ++ []).toArray 107 := by simpa using h.1
  have h2 := At.setCells (w := w) (secV s') h1 (by rw [secV_len h.2, secV_len h'])
  refine ⟨by simpa using h2, h'⟩
theorem zc107 : Try.zeroCells107 = (secV zeroS).toArray := by kernel_rfl
theorem SecB.new (w : World) : SecB (w.alloc (.cells Try.zeroCells107 107)) w.heap.size zeroS := ⟨zc107 ▸ At.new w _ _, zeroS_sec⟩
theorem thereS {w : World} {b : Nat} {s s' : List Int} (h : SecB w b s) (h' : Sec s') : w.there b 0 (secV s').toArray.size := by
  have := h.there
  rwa [← secV_len h'] at this
theorem oneS (s : List Int) : (secV s).toArray.all (·.oneCell') = true := all_oneCell_toArray (secV_one s)
theorem SecB.keep {w w' : World} {b : Nat} {s : List Int} (h : SecB w b s) (hb : Below w.heap.size w w') : SecB w' b s := ⟨At.keep hb h.1, h.2⟩
/-- A block that is one write. -/
def WrB (w : World) (b : Nat) (x : Wr) : Prop := At w b (wrV x).toArray 109 ∧ Sec x.2
theorem zc109 : Try.zeroCells109 = (wrV (0, zeroS)).toArray := by kernel_rfl
theorem WrB.new (w : World) : WrB (w.alloc (.cells Try.zeroCells109 109)) w.heap.size (0, zeroS) := ⟨zc109 ▸ At.new w _ _, zeroS_sec⟩
theorem WrB.there {w : World} {b : Nat} {x : Wr} (h : WrB w b x) : w.there b 0 513 := by
  have h1 : At w b ([] ++ wrV x ++ []).toArray 109 := by simpa using h.1
  have h2 := h1.there
  rw [wrV_len h.2] at h2
  exact h2
theorem WrB.store {w : World} {b : Nat} {x x' : Wr} (h : WrB w b x) (h' : Sec x'.2) : WrB (w.setCells b 0 (wrV x')) b x' := by
  have h1 : At w b ([] ++ wrV x ++ []).toArray 109 := by simpa using h.1
  have h2 := At.setCells (w := w) (wrV x') h1 (by rw [wrV_len h.2, wrV_len h'])
  refine ⟨by simpa using h2, h'⟩
theorem WrB.at_ {w : World} {b : Nat} {x : Wr} (h : WrB w b x) : w.cell? ⟨b, 0, none⟩ = some (.int .i64 x.1) := by
  rw [h.1.c]; simp [wrV]
theorem WrB.sec {w : World} {b : Nat} {x : Wr} (h : WrB w b x) : w.rangeAt b 1 (secV x.2) := by
  have h1 : At w b ([Value.int .i64 x.1] ++ secV x.2 ++ []).toArray 109 := by
    have := h.1
    simpa [wrV] using this
  exact h1.rangeAt
theorem wrV_one (x : Wr) : ∀ v ∈ wrV x, v.oneCell' = true := by
  intro v hv
  rcases List.mem_cons.1 hv with rfl | hv
  · rfl
  · exact secV_one _ v hv
theorem i107n {s : List Int} (h : Sec s) : (Try.prog.info? 107).map (·.size) = some (secV s).length := by rw [secV_len h]; exact i107
theorem i109n {x : Wr} (h : Sec x.2) : (Try.prog.info? 109).map (·.size) = some (wrV x).length := by rw [wrV_len h]; exact i109
theorem below_setCells {B b : Nat} {a w : World} (h : Below B a w) (hb : B ≤ b) (o : Nat) (vs : List Value) : Below B a (w.setCells b o vs) := by
  obtain ⟨s1, s2, s3, s4⟩ := setCells_size (b := b) vs o w
  exact ⟨s2.trans h.os, s3.trans h.tape, s4.trans h.output, by rw [s1]; exact h.size, fun k hk => by rw [setCells_ne vs o w (by omega)]; exact h.block k hk⟩
theorem thereW {w : World} {b : Nat} {x x' : Wr} (h : WrB w b x) (h' : Sec x'.2) : w.there b 0 (wrV x').toArray.size := by
  have := h.there
  rwa [← wrV_len h'] at this
theorem oneW (x : Wr) : (wrV x).toArray.all (·.oneCell') = true := all_oneCell_toArray (wrV_one x)
theorem SecB.set_ne {w : World} {b b' : Nat} {s : List Int} (h : SecB w b s) (hne : b ≠ b') (o : Nat) (vs : List Value) : SecB (w.setCells b' o vs) b s := ⟨h.1.of_heap (setCells_ne vs o w hne), h.2⟩
theorem readTo_yes {D : Dk} {i k : Nat} (h : (wayAt D k).1 = i) : readTo D i (k + 1) = (wayAt D k).2 := if_pos h
theorem readTo_no {D : Dk} {i k : Nat} (h : (wayAt D k).1 ≠ i) : readTo D i (k + 1) = readTo D i k := if_neg h
set_option maxRecDepth 100000 in
set_option maxHeartbeats 1000000 in
theorem read_calls {d lb m mc : Nat} {pA : Option Addr} {D : Dk} (i : Nat) (w : World) (h : Dsk w d lb pA m mc D) (hi : i < D.l.length) (hoff : D.off = false) :
    Calls Try.prog 50 #[.pointer (some ⟨d, 0, none⟩), .int .i64 i] w fun e w' => ∃ b, e = .returned (.tuple #[.slice (some ⟨b, 0, none⟩) 512 512, .int .i64 0]) ∧ SecB w' b (readD D i) ∧ Below w.heap.size w w' ∧ w.heap.size ≤ b := by
  have k0 := h.at_
  rw [hoff] at k0
  have k0c := k0.c; have k0f := k0.f; have k0l := k0.lt
  have hlk : lookE D i = 0 := if_pos (by omega)
  have hsec := sec_at h.ok.l hi
  have hrg := (h.sector hi).1
  have hz := zero107
  have hl1 := h.ok.len.2
  have hi0 : (0 : Int) ≤ i := by omega
  have hi1 : (i : Int) < D.l.length := by omega
  have hsec' := Lib.hid hsec
  have hrg' := Lib.hid hrg
  have hz' := Lib.hid hz
  have hh := Lib.hid h
  clear hsec hrg hz h
  go_enter Try.func50, Try.ntmps50
  go_wp2_with fail
  refine (look_calls i w hh.out).mono ?_
  rintro e w' ⟨rfl, rfl⟩
  rw [hlk]
  have hlast := Lib.hid (show readTo D i 0 = D.l.getD i [] from rfl)
  generalize D.l.getD i [] = s at *
  have hst := Lib.hid (thereS (SecB.new w) hsec'.out)
  have hsz := Lib.hid (i107n hsec'.out)
  go_upto_region 7 with (first
    | (refine wpList_load_mid rfl 107 (.tmp 25) rfl lb (i * 512) rfl (secV s) _ hrg'.out u107 rfl hsz.out ?_)
    | (refine wpList_store_mid rfl 107 (.tmp 7) (.tmp 26) rfl w.heap.size 0 (secV s).toArray rfl rfl hst.out hsz.out (oneS s) ?_))
  generalize hw1 : World.setCells (w.alloc _) w.heap.size 0 _ = w1
  have kS : SecB w1 w.heap.size (readTo D i 0) := by rw [← hw1, hlast.out]; exact (SecB.new w).store hsec'.out
  have hB1 : Below w.heap.size w w1 := by rw [← hw1]; exact below_setCells (below_new w _) (Nat.le_refl _) _ _
  clear hw1 hst hlast hrg' hsec' hsz
  replace k0 := k0.below hB1 k0l
  clear k0c k0f k0l
  have k0c := k0.c; have k0f := k0.f; have k0l := k0.lt
  go_upto_region 8 with (fail)
  clear k0 k0c k0f k0l
  have hcn := hh.out.ok.cnt
  have hwl := hh.out.wl
  rw [hwl] at hcn
  have hwl' := Lib.hid hwl
  clear hwl
  go_loopw [9, 32] (fun _ v32 wr => ∃ k : Nat, k ≤ m ∧ v32 = .int .i64 k ∧ SecB wr w.heap.size (readTo D i k) ∧ Below w.heap.size w wr) (fun _ v32 _ => m - (intOf v32).toNat)
  case atStart => exact ⟨0, by omega, rfl, kS, hB1⟩
  case round =>
    clear kS hB1
    obtain ⟨k, hk, rfl, kS, hB⟩ := hrel
    by_cases hlt : k < m
    · obtain ⟨g, rfl, hg, hmc, hrg⟩ := (hh.out.later hB).write hlt
      have hxs := (way_at hh.out.ok (i := k) (by rw [hwl'.out]; exact hlt)).2
      have hyes := Lib.hid (readTo_yes (D := D) (i := i) (k := k))
      have hno := Lib.hid (readTo_no (D := D) (i := i) (k := k))
      unfold wayAt at hyes hno
      generalize D.way.getD k (0, []) = x at *
      have hj0 : (0 : Int) ≤ k := by omega
      have hj1 : (k : Int) < m := by omega
      have hrg' := Lib.hid hrg
      have hxs' := Lib.hid hxs
      have hst := Lib.hid (thereW (WrB.new wr) hxs)
      have hsz := Lib.hid (i109n hxs)
      clear hrg hxs
      go_upto_region 10 with (first
        | (refine wpList_load_mid rfl 109 (.tmp 34) rfl g (k * 513) rfl (wrV x) _ hrg'.out Try.underlying109 rfl hsz.out ?_)
        | (refine wpList_store_mid rfl 109 (.tmp 9) (.tmp 35) rfl wr.heap.size 0 (wrV x).toArray rfl rfl hst.out hsz.out (oneW x) ?_))
      generalize hw2 : World.setCells (wr.alloc _) wr.heap.size 0 _ = w2
      have kW : WrB w2 wr.heap.size x := by rw [← hw2]; exact (WrB.new wr).store hxs'.out
      have hne : w.heap.size ≠ wr.heap.size := fun e => by have := kS.1.lt; omega
      have kS2 : SecB w2 w.heap.size (readTo D i k) := by rw [← hw2]; exact (kS.keep (below_new wr _)).set_ne hne _ _
      have hB2 : Below w.heap.size w w2 := by rw [← hw2]; exact below_setCells (below_al hB) hB.size _ _
      clear hw2 hst hrg' hsz kS hB
      have kWc := kW.at_
      have kWs := Lib.hid kW.sec
      by_cases hx : x.1 = i
      · have hx' : (x.1 : Int) = i := by omega
        rw [hx'] at kWc
        have hst := Lib.hid (thereS kS2 hxs'.out)
        have hsz := Lib.hid (i107n hxs'.out)
        go_upto_region 12 with (first
          | (refine wpList_load_mid rfl 107 (.tmp 40) rfl wr.heap.size 1 rfl (secV x.2) _ kWs.out u107 rfl hsz.out ?_)
          | (refine wpList_store_mid rfl 107 (.tmp 7) (.tmp 41) rfl w.heap.size 0 (secV x.2).toArray rfl rfl hst.out hsz.out (oneS x.2) ?_))
        generalize hw3 : World.setCells w2 w.heap.size 0 _ = w3
        have kS3 : SecB w3 w.heap.size (readTo D i (k + 1)) := by rw [← hw3, hyes.out hx]; exact kS2.store hxs'.out
        have hB3 : Below w.heap.size w w3 := by rw [← hw3]; exact below_setCells hB2 (Nat.le_refl _) _ _
        clear hw3 hst hsz kWc
        go_wp2
        go_roundw
        case rel => exact ⟨k + 1, by omega, by go_num, kS3, hB3⟩
        case measure => simp [intOf]; omega
      · have hx' : ¬ (x.1 : Int) = i := by omega
        go_wp2
        go_roundw
        case rel => exact ⟨k + 1, by omega, by go_num, by rw [hno.out hx]; exact kS2, hB2⟩
        case measure => simp [intOf]; omega
    · obtain rfl : k = m := by omega
      go_wp2
      go_ret2
      refine ⟨w.heap.size, rfl, ?_, hB, Nat.le_refl _⟩
      unfold readD
      rw [hwl'.out]
      exact kS
end Go.Proofs.Ytnehppeoffemlaa
