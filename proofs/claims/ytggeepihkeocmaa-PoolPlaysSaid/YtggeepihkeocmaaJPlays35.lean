/- Joined texts: PpD. -/
import Derived.Test.YtggeepihkeocmaaJPlays34
import Derived.Test.YtggeepihkeocmaaJPlays32
import Derived.Test.YtggeepihkeocmaaJPlays02
/- The pool's Dirty. -/
namespace Go.Proofs.Ytggeepihkeocmaa
set_option linter.unusedVariables false
set_option linter.unusedSimpArgs false
open Go.RowKit Go.Maps
theorem dirtyEltP : EltOk Try.prog 51 136 2 16 (.agg #[.int .i64 0, .int .u64 0]) := ⟨Try.underlying51, info_parts (by kernel_rfl), rfl, by decide⟩
theorem drP_one (a b : Int) : ∀ u ∈ (#[.int .i64 a, .int .u64 b] : Array Value).toList, u.oneCell' = true := by
  intro u hu
  simp at hu
  rcases hu with rfl | rfl <;> rfl
/-- The cells of what Dirty tells. -/
def drC (P : Pl) (ks : List Int) : List Value := ks.flatMap (fun k => [.int .i64 k, .int .u64 ((dirtyV P k).getD 0)])
theorem drC_take (P : Pl) (ks : List Int) (j : Nat) (h : j < ks.length) : drC P (ks.take (j + 1)) = drC P (ks.take j) ++ [.int .i64 (ks.getD j 0), .int .u64 ((dirtyV P (ks.getD j 0)).getD 0)] := by
  unfold drC
  rw [List.take_add_one, List.flatMap_append]
  congr 1
  simp [h]
theorem owns_later {w w' : World} {base e sz n c m : Nat} {A : Option Addr} {xs : List Value} (h : w.ownsRow base e sz (.slice A n c) m xs) (hb : Below w.heap.size w w') : w'.ownsRow base e sz (.slice A n c) m xs := by
  refine h.kept (grown_of_below hb (some w.heap.size)) ?_
  rw [ownBlk_eq]
  right
  intro e2
  have := h.lt w.heap.size (by rw [ownBlk_eq]; exact e2)
  omega
theorem owns_less {w : World} {base base' e sz n c m : Nat} {A : Option Addr} {xs : List Value} (h : w.ownsRow base e sz (.slice A n c) m xs) (hb : base' ≤ base) : w.ownsRow base' e sz (.slice A n c) m xs := by
  refine ⟨h.1, ?_⟩
  rcases h.2 with h1 | ⟨g, cap, cur, h1, h2, h3⟩
  · exact .inl h1
  · exact .inr ⟨g, cap, cur, h1, by omega, h3⟩
theorem dirty_in {P : Pl} {n : Nat} (hok : PlOk P n) {k x : Int} (h : dirtyV P k = some x) : (0 ≤ k ∧ k < P.pages) ∧ 0 ≤ x ∧ x < 18446744073709551616 := by
  unfold dirtyV at h
  cases hf : P.fr k with
  | none => rw [hf] at h; exact hok.gone k x h
  | some f =>
    rw [hf] at h
    have h : (if f.dirty = true ∧ ∀ x, P.gone k = some x → f.since < x then some f.since else P.gone k) = some x := h
    by_cases hd : f.dirty = true ∧ ∀ x, P.gone k = some x → f.since < x
    · rw [if_pos hd] at h
      injection h with h
      obtain ⟨h1, h2, h3⟩ := hok.fr k f hf
      rw [← h]; exact ⟨⟨h2, h3⟩, h1.since⟩
    · rw [if_neg hd] at h; exact hok.gone k x h
/-- The clone on its way: what is left of the frames stands as gone says. -/
def midM (P : Pl) (left : Lit → Bool) (i : Int) : Option Int := if left (ikey i) = true then P.gone i else dirtyV P i
theorem mid_in {P : Pl} {n : Nat} (hok : PlOk P n) (left : Lit → Bool) {k x : Int} (h : midM P left k = some x) : (0 ≤ k ∧ k < P.pages) ∧ 0 ≤ x ∧ x < 18446744073709551616 := by
  unfold midM at h
  by_cases hl : left (ikey k) = true
  · rw [if_pos hl] at h; exact hok.gone k x h
  · rw [if_neg hl] at h; exact dirty_in hok h
theorem same_ikey (i x : Int) : (ikey i).sameKey (ikey x) = decide (i = x) := by
  by_cases e : i = x
  · subst e; rw [WideAt.sameKey_self (ikey_lit i)]; simp
  · have : (ikey i).sameKey (ikey x) = false := by
      cases h : (ikey i).sameKey (ikey x) with
      | false => rfl
      | true => exact absurd (WideAt.sameKey_eq h) (ikey_ne e)
    rw [this]; simp [e]
theorem mid_keep {P : Pl} {left : Lit → Bool} {x : Int} (h : left (ikey x) = true → dirtyV P x = P.gone x) : midM P (fun z => left z && !z.sameKey (ikey x)) = midM P left := by
  funext i
  show (if (left (ikey i) && !(ikey i).sameKey (ikey x)) = true then P.gone i else dirtyV P i) = (if left (ikey i) = true then P.gone i else dirtyV P i)
  rw [same_ikey]
  by_cases e : i = x
  · subst e
    by_cases hl : left (ikey i) = true
    · simp [hl, h hl]
    · simp [hl]
  · simp [e]
theorem mid_put {P : Pl} {left : Lit → Bool} {x s : Int} (h : dirtyV P x = some s) : midM P (fun z => left z && !z.sameKey (ikey x)) = updM (midM P left) x (some s) := by
  funext i
  show (if (left (ikey i) && !(ikey i).sameKey (ikey x)) = true then P.gone i else dirtyV P i) = (if i = x then some s else (if left (ikey i) = true then P.gone i else dirtyV P i))
  rw [same_ikey]
  by_cases e : i = x
  · subst e; simp [h]
  · simp [e]
theorem MpR.le {P : Pl} {n : Nat} {left : Lit → Bool} {w : World} {b : Nat} {ks : List Int} (hok : PlOk P n) (h : MpR EG w b (midM P left) ks) : ks.length ≤ 4096 := by
  obtain ⟨D, h1, h2, h3, h4, h5, h6⟩ := h
  have := hok.pages
  have := rise_len9 ks 0 P.pages h4 (fun k hk => by
    obtain ⟨x, hx⟩ := Option.isSome_iff_exists.1 ((h5 k).1 hk)
    exact (mid_in hok left hx).1) (by omega)
  omega
set_option maxRecDepth 100000 in
set_option maxHeartbeats 8000000 in
theorem pdirty_calls {base d g pp n : Nat} {o : Lo} {P : Pl} (w : World) (h : PlH w base d g pp o P) (hok : PlOk P n) :
    Calls Try.prog 28 #[.pointer (some ⟨pp, 0, none⟩)] w fun e w' => ∃ A c ks, e = .returned (.slice A ks.length c) ∧ w'.ownsRow w.heap.size 136 2 (.slice A ks.length c) ks.length (drC P ks) ∧ ks.Pairwise (· < ·) ∧ (∀ k, k ∈ ks ↔ (dirtyV P k).isSome = true) ∧ Below w.heap.size w w' := by
  have k0 := h.at_
  have hhx := Lib.hid h
  have hokx := Lib.hid hok
  have hclone := mp_clone o.gb w h.gm
  clear h hok
  have k0c := k0.c; have k0f := k0.f; have k0l := k0.lt
  go_enter Try.func28, Try.ntmps28
  go_wp2_with fail
  refine hclone.mono ?_
  rintro e w1 ⟨rfl, hm1, hb1⟩
  have hs1 := hb1.size
  have h1 := hhx.out.later hb1
  have k1 := h1.at_
  obtain ⟨D, hown, hhas, hat0, hrise, hmem, hkok⟩ := h1.fm
  have hm1x := Lib.hid hm1
  have hmemx := Lib.hid hhas
  have hat0x := Lib.hid hat0
  clear h1 hm1 k0c k0f k0l hclone hhas hat0 hrise hmem hkok
  have k1c := k1.c; have k1f := k1.f; have k1l := k1.lt
  go_wp2_with (first
    | (at_range; refine wpList_range_own _ rfl _ 108 rfl 3 101 ikeyed Try.underlying108 EF.R o.fb P.ks.length D rfl hown ?_; intro w0 hrg0 hg0 hs0)
    | fail)
  go_frame
  have hbl1 : w.heap.size < w1.heap.size := hm1x.out.lt
  have hB0 : Below w.heap.size w w0 := hb1.grown hg0 hs1 (fun j hj => by cases hj)
  have hm0 : MpR EG w0 w.heap.size (midM P (Maps.has D)) P.gs := by
    have e : midM P (Maps.has D) = P.gone := by
      funext i
      unfold midM
      by_cases hl : Maps.has D (ikey i) = true
      · rw [if_pos hl]
      · rw [if_neg hl]
        have h2 := hmemx.out i
        unfold dirtyV
        cases hf : P.fr i with
        | none => rfl
        | some f => rw [hf] at h2; exact absurd h2 hl
    rw [e]
    exact hm1x.out.of_heap (hg0.block _ hbl1 (by simp))
  have hm0x := Lib.hid hm0
  clear hm0 k1 k1c k1f k1l
  go_loopw [4, 5, 6, 7] (fun _ _ _ _ wr => ∃ (left : Lit → Bool) (cnt : Nat) (ks : List Int), wr.ranges Try.prog 3 EF.R o.fb w1.heap.size P.ks.length D left cnt ∧ MpR EG wr w.heap.size (midM P left) ks ∧ (∀ i, left (ikey i) = true → (P.fr i).isSome = true) ∧ Below w.heap.size w wr) (fun _ _ _ _ wr => wr.rangeLeft o.fb w1.heap.size)
  case atStart =>
    exact ⟨_, _, _, hrg0, hm0x.out, fun i hi => by
      have h2 := hmemx.out i
      rw [hi] at h2
      cases hf : P.fr i with
      | none => rw [hf] at h2; cases h2
      | some f => rfl, hB0⟩
  case round =>
    obtain ⟨left, cnt, ks, hrg, hmp, hin, hB⟩ := hrel
    have hmpx := Lib.hid hmp
    have hinx := Lib.hid hin
    clear hmp hin
    go_wp2_with (first
      | (at_next; refine wpList_next_ranges _ rfl _ rfl 3 ikeyed EF.R (Value.int .i64) (fun v : Value => v) (fun key kl hk => by obtain ⟨x, hx, _⟩ := Maps.keyOf_int_inv Try.underlying3 hk; exact ⟨x, hx⟩) (fun v y _ => ⟨v, rfl⟩) o.fb w1.heap.size P.ks.length _ _ _ rfl hrg ?_ ?_)
      | fail)
    · intro hc0 hl0
      obtain ⟨wA, hwA⟩ : ∃ wA, wA = wr := ⟨_, rfl⟩
      subst hwA
      have hfin : midM P left = dirtyV P := by
        funext i
        unfold midM
        rw [if_neg (by rw [hl0]; decide)]
      have hmpf := hmpx.out
      have hlen := MpR.le hokx.out hmpf
      rw [hfin] at hmpf
      obtain ⟨D2, -, -, -, hr2, hmem2, -⟩ := hmpf
      have hmpf := hmpx.out
      rw [hfin] at hmpf
      have hmpfx := Lib.hid hmpf
      have hr2x := Lib.hid hr2
      have hmem2x := Lib.hid hmem2
      have hokf := Lib.hid hokx.out
      clear hmpf hr2 hmem2 hfin hrg hmpx hinx hl0
      go_wp2_with fail
      refine (gkeys_calls (some w.heap.size) wA).mono ?_
      rintro e w3 ⟨rfl, rfl⟩
      go_wp2_with fail
      refine (gsorted_mp w.heap.size wA hmpfx.out (by omega)).mono ?_
      rintro e w4 ⟨A, c, rfl, hz, hb4⟩
      have hB4 := below_keep hb4 hB
      have hmp4 := hmpfx.out.later hb4
      have hmp4x := Lib.hid hmp4
      clear hmp4
      go_wp2_with fail
      go_loopw [8, 10, 60] (fun v8 _ v60 wr => ∃ (j : Nat) (oA : Option Addr) (oc : Nat), v60 = .int .i64 (j : Int) ∧ v8 = .slice oA j oc ∧ j ≤ ks.length ∧ wr.ownsRow w4.heap.size 136 2 (.slice oA j oc) j (drC P (ks.take j)) ∧ Below w4.heap.size w4 wr) (fun _ _ v60 _ => ks.length - (intOf v60).toNat)
      case atStart => exact ⟨0, none, 0, rfl, rfl, Nat.zero_le _, World.ownsRow_nil _ _ _ _, Below.refl _ _⟩
      case round =>
        obtain ⟨j, oA, oc, rfl, rfl, hj, hrow, hBq⟩ := hrel
        by_cases hltj : j < ks.length
        · obtain ⟨i, hi⟩ : ∃ x, ks.getD j 0 = x := ⟨_, rfl⟩
          obtain ⟨gz, oz, rfl, hgz0, hgz, hcz⟩ := hz (by omega)
          have hci : wr.cell? ⟨gz, oz + j, none⟩ = some (.int .i64 i) := by
            rw [← hi]
            exact (hBq.cell (p := ⟨gz, oz + j, none⟩) hgz).trans (hcz j hltj)
          have him : i ∈ ks := by rw [← hi]; simp [List.getD_eq_getElem?_getD, hltj]
          obtain ⟨sv, hsv⟩ := Option.isSome_iff_exists.1 ((hmem2x.out i).1 him)
          have hin := dirty_in hokf.out hsv
          have hpg := hokf.out.pages
          have l3 : (Instr.lookup 109 (.map (some w.heap.size)) (.int .i64 i) false).run Try.prog wr = .ok (.int .u64 sv) wr := by
            have := (hmp4x.out.later hBq).look Try.underlying109 (k := i) ⟨by omega, by omega⟩
            rw [hsv] at this
            exact this
          have htk := drC_take P ks j hltj
          rw [hi, hsv] at htk
          have htkx := Lib.hid htk
          have hltji : (j : Int) < ks.length := by omega
          have hj0 : (0 : Int) ≤ j := by omega
          have hw63 : IntKind.i64.wrap ((j : Int) + 1) = (j : Int) + 1 := IntWalk.i64_in _ (by omega)
          have q1 : j + 1 ≤ maxLen := by unfold maxLen; omega
          have q2 : (j + 1) * 16 ≤ 140737488355328 := by omega
          have hrowx := Lib.hid hrow
          clear htk hi hcz him hsv hin hpg hrow
          go_wp2_with (first
            | (at_builtin; refine wpList_appG dirtyEltP rfl (.tmp 64) (.tmp 70) rfl w4.heap.size j oc oA _ rfl (owns_later hrowx.out (below_new wr (.cells #[.int .i64 i, .int .u64 sv] 136))) 1 1 (some ⟨wr.heap.size, 0, none⟩) [.int .i64 i, .int .u64 sv] rfl (Src.of_at (At.new wr #[.int .i64 i, .int .u64 sv] 136) rfl (drP_one _ _)) q1 q2 (Nat.le_trans hBq.size (ge_new wr (.cells #[.int .i64 i, .int .u64 sv] 136))) ?_; intro A9 c9 w9 ho9 hg9 hb9 hat9)
            | fail)
          have hB9 := below_tr (below_keep (below_new wr (.cells #[.int .i64 i, .int .u64 sv] 136)) hBq) hb9
          go_roundw
          case rel => exact ⟨j + 1, A9, c9, by go_num, rfl, by omega, by (rw [htkx.out]; exact ho9), hB9⟩
          case measure => simp [intOf]; omega
        · have hltji : ¬ ((j : Int) < ks.length) := by omega
          have hjl : j = ks.length := by omega
          subst hjl
          rw [List.take_length] at hrow
          go_wp2
          go_ret
          exact ⟨oA, oc, ks, by first | rfl | simp, owns_less hrow hB4.size, hr2x.out, hmem2x.out, below_keep hBq hB4⟩
    · intro x c kl y1 y2 w2 cnt1 hkey hlk hv hat2 hrg1 hlt hg1 hs2 hen
      obtain ⟨x', ex, rfl, hwf⟩ := Maps.keyOf_int_inv Try.underlying3 hkey
      cases ex
      have hlx : left (ikey x) = true := hlk
      obtain ⟨f, hf⟩ := Option.isSome_iff_exists.1 (hinx.out x hlx)
      have hc : c = .pointer (some ⟨o.blk x, 0, none⟩) := by
        have h1 := hat0x.out x (o.blk x) (by rw [hf]; rfl) (.lit (.bool false))
        have h2 : D.atKey (ikey x) (.lit (.bool false)) = y1 := hat2 _
        rw [h1] at h2
        have h2 : EF.enc (o.blk x) = y1 := h2
        rw [← h2] at hv
        exact EF.inv _ _ _ hv
      subst hc
      have hs2' : w1.heap.size < w2.heap.size := hrg1.lt
      have hB2 : Below w.heap.size w w2 := hB.grown hg1 hB.size (fun j hj => by cases hj; omega)
      have q2 := At.keep hB2 (hhx.out.frs x f hf).1
      have hmp2 : MpR EG w2 w.heap.size (midM P left) ks := hmpx.out.of_heap (hg1.block _ hmpx.out.lt (fun e => by have := Option.some.inj e; omega))
      have hlen := MpR.le hokx.out hmp2
      obtain ⟨hfk, hx0, hx1⟩ := hokx.out.fr x f hf
      have hpg := hokx.out.pages
      have hkok : KOk x := ⟨by omega, by omega⟩
      have hsnc := hfk.since
      have l2 := hmp2.look2 Try.underlying109 hkok
      have hgx : midM P left x = P.gone x := by unfold midM; rw [if_pos hlx]
      rw [hgx] at l2
      obtain ⟨w3, hrun, hmp3, hturn⟩ := hmp2.put Try.underlying109 hkok (v := f.since) hsnc (by unfold maxLen; omega)
      have hrun : (Instr.mapUpdate 109 (.map (some w.heap.size)) (.int .i64 x) (.int .u64 f.since)).run Try.prog w2 = .ok () w3 := hrun
      have hin1 : ∀ i, (fun z => left z && !z.sameKey (ikey x)) (ikey i) = true → (P.fr i).isSome = true := fun i hi => hinx.out i (by
        have hi : (left (ikey i) && !(ikey i).sameKey (ikey x)) = true := hi
        simp only [Bool.and_eq_true] at hi
        exact hi.1)
      -- the two ways of a round: the clone turns, or it does not
      have hkeep : (¬ (f.dirty = true ∧ ∀ z, P.gone x = some z → f.since < z)) → ∃ (left' : Lit → Bool) (cnt' : Nat) (ks' : List Int), w2.ranges Try.prog 3 EF.R o.fb w1.heap.size P.ks.length D left' cnt' ∧ MpR EG w2 w.heap.size (midM P left') ks' ∧ (∀ i, left' (ikey i) = true → (P.fr i).isSome = true) ∧ Below w.heap.size w w2 := fun hno => by
        refine ⟨_, _, ks, hrg1, ?_, hin1, hB2⟩
        have e := mid_keep (P := P) (left := left) (x := x) (fun _ => by
          unfold dirtyV
          rw [hf]
          exact if_neg hno)
        show MpR EG w2 w.heap.size (midM P (fun z => left z && !z.sameKey (ikey x))) ks
        rw [e]; exact hmp2
      have hturnB : Below w.heap.size w w3 := below_tr hB2 ((turned_mod (S := fun k => k = w.heap.size) hturn rfl).below hB2.size (fun k hk => Nat.le_of_eq hk.symm))
      have hrg3 := hrg1.kept hturn.grown (fun e => by have h1 := Option.some.inj e; have h2 := hhx.out.fm.lt; omega) (fun e => by have := Option.some.inj e; omega)
      have hput : (f.dirty = true ∧ ∀ z, P.gone x = some z → f.since < z) → ∃ (left' : Lit → Bool) (cnt' : Nat) (ks' : List Int), w3.ranges Try.prog 3 EF.R o.fb w1.heap.size P.ks.length D left' cnt' ∧ MpR EG w3 w.heap.size (midM P left') ks' ∧ (∀ i, left' (ikey i) = true → (P.fr i).isSome = true) ∧ Below w.heap.size w w3 := fun hyes => by
        refine ⟨_, _, insK x ks, hrg3, ?_, hin1, hturnB⟩
        have e := mid_put (P := P) (left := left) (x := x) (s := f.since) (by
          unfold dirtyV
          rw [hf]
          exact if_pos hyes)
        show MpR EG w3 w.heap.size (midM P (fun z => left z && !z.sameKey (ikey x))) (insK x ks)
        rw [e]; exact hmp3
      have hmeas2 : w2.rangeLeft o.fb w1.heap.size < wr.rangeLeft o.fb w1.heap.size := by rw [hrg1.left_eq, hrg.left_eq]; exact hlt
      have hmeas3 : w3.rangeLeft o.fb w1.heap.size < wr.rangeLeft o.fb w1.heap.size := by rw [hrg3.left_eq, hrg.left_eq]; exact hlt
      have hkeepx := Lib.hid hkeep
      have hputx := Lib.hid hput
      have hm2x := Lib.hid hmeas2
      have hm3x := Lib.hid hmeas3
      obtain ⟨sn, hsn⟩ : ∃ z, f.since = z := ⟨_, rfl⟩
      rw [hsn] at q2 hrun hkeepx hputx
      obtain ⟨go, hgo⟩ : ∃ z, P.gone x = z := ⟨_, rfl⟩
      rw [hgo] at l2 hkeepx hputx
      obtain ⟨fd, hfd⟩ : ∃ z, f.dirty = z := ⟨_, rfl⟩
      rw [hfd] at q2 hkeepx hputx
      clear hkeep hput hmeas2 hmeas3 hsn hgo hfd hmp2 hmp3 hrg1 hrg3 hturn hturnB hin1 hfk hsnc hgx hlk hlx hat2 hv hkey hwf hg1 hrg hf
      have q2c := q2.c; have q2f := q2.f; have q2l := q2.lt
      cases fd with
      | false =>
        have hr := hkeepx.out (fun h => by cases h.1)
        have hrx := Lib.hid hr
        clear hr
        cases go with
        | none =>
          go_wp2
          go_roundw
          case rel => exact hrx.out
          case measure => exact hm2x.out
        | some z =>
          go_wp2
          go_roundw
          case rel => exact hrx.out
          case measure => exact hm2x.out
      | true =>
        cases go with
        | none =>
          have hr := hputx.out ⟨rfl, fun z h => by cases h⟩
          have hrx := Lib.hid hr
          clear hr
          go_wp2
          go_roundw
          case rel => exact hrx.out
          case measure => exact hm3x.out
        | some z =>
          by_cases hlz : sn < z
          · have hr := hputx.out ⟨rfl, fun y h => by injection h with h; omega⟩
            have hrx := Lib.hid hr
            clear hr
            have hlb : decide (sn < z) = true := by simpa using hlz
            have l2' : (Instr.lookup 109 (.map (some w.heap.size)) (.int .i64 x) true).run Try.prog w2 = .ok (.tuple #[.int .u64 z, .bool true]) w2 := l2
            clear l2
            go_wp2
            go_roundw
            case rel => exact hrx.out
            case measure => exact hm3x.out
          · have hr := hkeepx.out (fun h => hlz (h.2 z rfl))
            have hrx := Lib.hid hr
            clear hr
            have hlb : decide (sn < z) = false := by simpa using hlz
            have l2' : (Instr.lookup 109 (.map (some w.heap.size)) (.int .i64 x) true).run Try.prog w2 = .ok (.tuple #[.int .u64 z, .bool true]) w2 := l2
            clear l2
            go_wp2
            go_roundw
            case rel => exact hrx.out
            case measure => exact hm2x.out
end Go.Proofs.Ytggeepihkeocmaa
