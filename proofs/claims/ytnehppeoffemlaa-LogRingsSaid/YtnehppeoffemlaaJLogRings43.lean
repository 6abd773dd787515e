/- Joined texts: LogRh. -/
import Derived.Test.YtnehppeoffemlaaJLogRings42
/- LogRings: the walk of the law. -/
namespace Go.Proofs.Ytnehppeoffemlaa
set_option linter.unusedVariables false
set_option linter.unusedSimpArgs false
open Go.RowKit
set_option maxRecDepth 100000 in
set_option maxHeartbeats 8000000 in
theorem logrings_calls (ct ev : Int) (sA : Option Addr) (sn sc : Nat) (sv : Nat → Int) (h1 : 0 ≤ ct ∧ ct ≤ 255) (h3 : 0 ≤ ev ∧ ev ≤ 255) (w : World)
    (hsv : ∀ j, j < sn → 0 ≤ sv j ∧ sv j ≤ 65535 ∧ ∃ b o, sA = some ⟨b, o, none⟩ ∧ b < w.heap.size ∧ w.cell? ⟨b, o + j, none⟩ = some (.int .u16 (sv j))) :
    Calls Try.prog 4 #[.int .u8 ct, .slice sA sn sc, .int .u8 ev] w fun e w' => e = .returned (.bool true) ∧ Below w.heap.size w w' := by
  obtain ⟨c, hc⟩ : ∃ c : Nat, (c : Int) = 4 + ct % 6 := ⟨(4 + ct % 6).toNat, by omega⟩
  have hc4 : 4 ≤ c ∧ c ≤ 9 := by omega
  have t1 : IntKind.i64.wrap (4 + ct.tmod 6) = (c : Int) := by rw [Int.tmod_eq_emod_of_nonneg h1.1, hc]; exact IntWalk.i64_in _ (by omega)
  obtain ⟨e9, he9⟩ : ∃ e9 : Nat, (e9 : Int) = 1 + ev % 9 := ⟨(1 + ev % 9).toNat, by omega⟩
  have t2 : IntKind.i64.wrap (1 + ev.tmod 9) = (e9 : Int) := by rw [Int.tmod_eq_emod_of_nonneg h3.1, he9]; exact IntWalk.i64_in _ (by omega)
  have e91 : 1 ≤ e9 ∧ e9 ≤ 9 := by omega
  have u1 : IntKind.i64.wrap ct = ct := IntWalk.i64_in _ (by omega)
  have u3 : IntKind.i64.wrap ev = ev := IntWalk.i64_in _ (by omega)
  obtain ⟨i0, hi0, hz0, hz1, hz2⟩ := info_parts info8
  have hi0' := Lib.hid hi0
  have hz0' := Lib.hid hz0
  have hz1' := Lib.hid hz1
  have hz2' := Lib.hid hz2
  clear hi0 hz0 hz1 hz2 hc he9 h1 h3
  go_enter Try.func4, Try.ntmps4
  go_wp2_with fail
  refine (log_awake w).mono ?_
  rintro e w1 ⟨rfl, hb1⟩
  go_wp2_with fail
  refine (fresh_calls c hc4.1 (by omega) w1).mono ?_
  rintro e w2 ⟨d, lb, g0, bA0, bc0, F0, rfl, hD2, hL2, hb2⟩
  have hB2 : Below w.heap.size w w2 := below_keep hb2 hb1
  have hw1 : w.heap.size ≤ w1.heap.size := hb1.size
  have hbw2 := hb2.size
  have hln : (opnD (c + 3) 1 c).l.length = c + 3 := opnD_len (by omega) (by omega) (by omega)
  have hqt : Qt (opnD (c + 3) 1 c) := opnD_qt (by omega) (by omega) (by omega)
  have hops : (opnD (c + 3) 1 c).ops = 6 := opnD_ops (by omega) (by omega) (by omega)
  have hway : (opnD (c + 3) 1 c).way = [] := opnD_way (by omega) (by omega) (by omega)
  have hring : Ring (opnD (c + 3) 1 c) (newL 1 c) [] (fun _ => 2) := new_ring hc4
  go_wp2_with fail
  go_loopw [6, 9, 11, 12, 13, 14, 15, 16] (fun _ v9 v11 _ _ _ _ _ wr => ∃ (g i : Nat) (L : Lg) (D : Dk) (F : Nat → Prop) (B : List Int) (ep : Nat → Int) (rs : List (List Int)) (lA : Option Addr) (lc : Nat) (bA : Option Addr) (bc : Nat), v9 = .pointer (some ⟨g, 0, none⟩) ∧ v11 = .int .i64 (i : Int) ∧ i ≤ 80 ∧ i ≤ sn ∧ RSt wr w1.heap.size d lb w2.heap.size c g (480 + 402 * (i : Int)) (2 + (i : Int)) (100 * (i : Int) + 100) L D F B ep rs lA lc bA bc ∧ rs.length ≤ 2 ∧ Below w.heap.size w wr) (fun _ _ v11 _ _ _ _ _ _ => 100 - (intOf v11).toNat)
  case atStart =>
    have hb3 := below_new w2 (.cells #[.slice none 0 0, .int .u64 480, .int .u64 480, .int .u64 480, .int .u64 0, .int .i64 0, .int .i64 c] 41)
    refine ⟨g0, 0, newL 1 c, opnD (c + 3) 1 c, F0, [], fun _ => 2, [], none, 0, bA0, bc0, rfl, rfl, by omega, by omega, ⟨hL2.later hb3, hD2.later hb3, hring, hqt, hway, rfl, fun p hp => absurd hp (by simp), At.new w2 _ _, OwO.nil _ _, rfl, rfl, rfl, rfl, by show (480 : Int) ≤ 480; omega, by show (480 : Int) + 0 ≤ _; omega, by show (2 : Int) ≤ _; omega, by omega, by omega⟩, by simp, below_keep hb3 hB2⟩
  case round =>
    obtain ⟨g, i, L, D, F, B, ep, rs, lA, lc, bA, bc, rfl, rfl, hi80, hisn, hS, hrn, hB⟩ := hrel
    clear hring hqt hway hops hln hL2 hD2
    have hi0 : (0 : Int) ≤ i := by omega
    by_cases hgo : i < sn ∧ i < 80
    · obtain ⟨hg1, hg2⟩ := hgo
      have hg1i : (i : Int) < sn := by omega
      have hg2i : (i : Int) < 80 := by omega
      have hg1b : decide ((i : Int) < sn) = true := by simp; omega
      have hg2b : decide ((i : Int) < 80) = true := by simp; omega
      obtain ⟨sr0, sr1, sb, so, rfl, hsb, hsc⟩ := hsv i hg1
      have hsc' : wr.cell? ⟨sb, so + i, none⟩ = some (.int .u16 (sv i)) := (hB.cell (p := ⟨sb, so + i, none⟩) hsb).trans hsc
      obtain ⟨v, hv⟩ : ∃ v, sv i = v := ⟨_, rfl⟩
      rw [hv] at sr0 sr1 hsc'
      obtain ⟨n, hn⟩ : ∃ n : Nat, (n : Int) = 1 + v % 400 := ⟨(1 + v % 400).toNat, by omega⟩
      have hn1 : 1 ≤ n ∧ n ≤ 400 := by omega
      have y1 : IntKind.i64.wrap v = v := IntWalk.i64_in _ (by omega)
      have y2 : IntKind.i64.wrap (1 + v.tmod 400) = (n : Int) := by rw [Int.tmod_eq_emod_of_nonneg sr0, hn]; exact IntWalk.i64_in _ (by omega)
      have y3 : IntKind.u8.wrap (i : Int) = i := IntWalk.u8_in _ (by omega)
      have y4 : (1 : Int) + v % 400 = (n : Int) := hn.symm
      have q3' : Hid (i0.bytes * n ≤ 281474976710656) := Lib.hid (by rw [hz2'.out]; omega)
      have q4' : Hid (n ≤ maxLen) := Lib.hid (by unfold maxLen; omega)
      have hn0 : (0 : Int) ≤ n := by omega
      have hn0' : (0 : Int) < n := by omega
      clear hv hn hsc
      go_upto_region 12 with (at_make; refine wpList_make_full wr rfl _ _ 32 rfl wr.heap.size 5 i0 (.int .u8 0) 1 Try.underlying32 hi0'.out hz0'.out hz1'.out .i64 .i64 _ _ n rfl rfl rfl rfl q3'.out q4'.out (Nat.le_refl _) ?_; intro w3 hom hgm)
      have hb3 := grown_none hgm
      have hz3 : OwB w3 wr.heap.size (some ⟨wr.heap.size, 0, none⟩) n n (List.replicate n 0) := by
        rw [Nat.mul_one, show (Value.int .u8 0).cells = #[.int .u8 0] from rfl, toList_madeCells_one] at hom
        exact ⟨List.length_replicate, fun x hx => by rw [List.eq_of_mem_replicate hx]; omega, by rw [List.map_replicate]; exact hom⟩
      obtain ⟨cur3, hcur3, hcs3, hcn3, hct3⟩ := OwB.at_ hz3
      have hx0 : w3.cell? ⟨wr.heap.size, 0, none⟩ = some (.int .u8 0) := by
        obtain ⟨gb', go', hA, -, -, hc0⟩ := hz3.reads.at_ (k := 0) (by omega)
        injection hA with hA
        injection hA with e1 e2
        subst e1; subst e2
        rw [Nat.zero_add] at hc0
        rw [hc0]
        congr 2
        cases n with
        | zero => omega
        | succ n => rfl
      have hxf := hcur3.f 0
      have hz4 := OwB.set hz3 (k := 0) (by omega) (x := (i : Int)) (by omega) (by omega)
      go_upto_region 13 with (fail)
      have hb4 : Below wr.heap.size wr (w3.setCell ⟨wr.heap.size, 0, none⟩ (.int .u8 i)) := hb3.setCell (Nat.le_refl _) _
      have hpl := set_len n (i : Int)
      clear hx0 hxf hom hgm hz3 hcur3 hct3
      generalize (w3.setCell ⟨wr.heap.size, 0, none⟩ (.int .u8 i)) = w4 at *
      generalize (List.replicate n (0 : Int)).set 0 (i : Int) = p at *
      have hS4 := hS.later hb4
      have hB4 : Below w.heap.size w w4 := below_keep hb4 hB
      have hrm := hS.room hc4.1 hrn
      have hA := app_ok (hold := 0) (p := p) hS.r.i (by omega) (by omega)
      have hft := foot_low hS4.l hS4.dd
      have hft0 := foot_low hS.l hS.dd
      have hbw4 : w1.heap.size ≤ w4.heap.size := by have := hS4.dd.lts d hS4.dd.d; omega
      have hei := end_i hS.r.i.ok
      obtain ⟨en, hen⟩ : ∃ en, endL L = en := ⟨_, rfl⟩
      rw [hen] at hei
      have henx := Lib.hid hen
      clear hen
      go_wp2_with fail
      refine (lapp_ok 0 w4 hS4.l hbw4 (hz4.reads.less (Nat.zero_le _)) (fun _ b hb hf => by injection hb with hb; have h1 := (hft0.1 b hf).2; simp at hb; omega) (by omega) (by omega) (by omega) (by omega) hA.1 hA.2.ok).mono ?_
      rw [henx.out]
      rintro e w5 ⟨rfl, ⟨bA5, bc5, hL5, hat5⟩, hm5⟩
      have hD5 := hS4.dd.mod hm5 hft.2
      have hz5 := hz4.mod hm5 (fun b hb hf => by injection hb with hb; have h1 := (hft0.1 b hf).2; simp at hb; omega)
      have hmne : ¬ LFoot g bA w2.heap.size := fun hf => by
        have hmd : At w4 w2.heap.size _ 41 := hS4.md
        rcases hf with hf | hf
        · exact absurd (hf ▸ hmd |>.inj hS4.l.at_) (by decide)
        · exact hmd.ne_own hS4.l.buf.2.2 (by decide) hf
      have hlne : ∀ b, ownBlk lA = some b → ¬ LFoot g bA b := fun b hb hf => by
        rcases hf with hf | hf
        · exact hS4.ro.ne hS4.l.at_ (by decide) (hf ▸ hb)
        · rcases hS4.ro.2 with ⟨h0, -, -⟩ | ⟨g', o', cur, h1, -, hat, -⟩
          · rw [h0] at hb; cases hb
          · rw [h1] at hb
            have e9 : g' = b := by simpa [ownBlk] using hb
            subst e9
            exact hat.ne_own hS4.l.buf.2.2 (by decide) hf
      have hM5 : At w5 w2.heap.size #[.slice lA rs.length lc, .int .u64 en, .int .u64 L.sure, .int .u64 L.start, .int .u64 L.check, .int .i64 L.held, .int .i64 L.count] 41 := by
        have hmd : At w4 w2.heap.size #[.slice lA rs.length lc, .int .u64 (endL L), .int .u64 L.sure, .int .u64 L.start, .int .u64 L.check, .int .i64 L.held, .int .i64 L.count] 41 := hS4.md
        rw [henx.out] at hmd
        exact hmd.mod hm5 hmne
      have hO5 := hS4.ro.mod hm5 hlne
      have hB5 : Below w.heap.size w w5 := below_tr hB4 (below_up (hm5.below hbw4 (fun k hk => (hft.1 k hk).1)) hw1)
      have hbw5 : w1.heap.size ≤ w5.heap.size := Nat.le_trans hbw4 hm5.size
      go_wp2_with fail
      refine (mput_calls w5 hM5 hO5 (hz5.reads.less (Nat.zero_le _)) (by omega) (by omega) (by omega) hbw5).mono ?_
      rintro e w6 ⟨rfl, ⟨lA6, lc6, hM6, hO6, hla6⟩, hm6⟩
      have hL6 := hL5.mod hm6 (fun hf => by
        rcases hf with hf | hf
        · exact absurd (hf ▸ hL5.at_ |>.inj hM5) (by decide)
        · exact hO5.ne hL5.at_ (by decide) hf) (fun b hb hf => by
        rcases hf with hf | hf
        · exact hM5.ne_own hL5.buf.2.2 (by decide) (hf ▸ hb)
        · rcases hO5.2 with ⟨h0, -, -⟩ | ⟨g', o', cur, h1, -, hat, -⟩
          · rw [h0] at hf; cases hf
          · rw [h1] at hf
            have e9 : g' = b := by simpa [ownBlk] using hf
            subst e9
            exact hat.ne_own hL5.buf.2.2 (by decide) hb)
      have hD6 := hD5.mod hm6 (fun k hk hf => by
        rcases hf with hf | hf
        · exact hD5.noT hM5 (by decide) (by decide) (by decide) (hf ▸ hk)
        · rcases hO5.2 with ⟨h0, -, -⟩ | ⟨g', o', cur, h1, -, hat, -⟩
          · rw [h0] at hf; cases hf
          · rw [h1] at hf
            have e9 : g' = k := by simpa [ownBlk] using hf
            subst e9
            exact hD5.noT hat (by decide) (by decide) (by decide) hk)
      have hB6 : Below w.heap.size w w6 := below_tr hB5 (hm6.below hB5.size (fun k hk => by
        rcases hk with hk | hk
        · omega
        · have := (hO5.lt k hk).1; omega))
      have hbw6 : w1.heap.size ≤ w6.heap.size := Nat.le_trans hbw5 hm6.size
      have he1 := appL_end L 0 p
      have hbuf1 := appL_buf L 0 p
      rw [henx.out] at he1
      have hsz1 : L.buf.length < 480 := by
        have a1 : endL L = L.base + L.buf.length := rfl
        have a2 := hS.r.base
        rw [henx.out] at a1 a2
        omega
      have hen9 := hS.en
      rw [henx.out] at hen9
      have hfo := fl_ok hA.2 (by omega)
      have hnp : nparts (appL L 0 p) ≤ 2 := by unfold nparts; rw [hbuf1]; omega
      have hpby : Byt p := hz4.2.1
      obtain ⟨hDe, hqe, hZe⟩ := apD_eq (D := D) (L := L) (p := p) hS.q (by have := hS.r.sure; rw [henx.out] at this; omega)
      have hrg := ap_ring (p := p) hS.r hS.q (by omega) hpby (by omega) (by omega) (by rw [henx.out]; omega)
      have hopq := flR_ops (appL L 0 p) (nparts (appL L 0 p)) 0 D
      have hfE := flE_qt (D := D) (appL L 0 p) hS.q
      have hlen7 : (appL L 0 p).pos + 1 + (appL L 0 p).count ≤ D.l.length := hS.r.len
      have hop9 := hS.op
      have hwy9 : D.way.length = 0 := by rw [hS.wy]; rfl
      clear hft hft0
      go_wp2_with fail
      refine (lflush_calls w6 hL6 hD6 hbw6 hlen7 hA.2.mul hA.2.lo (by omega) (by omega) hfo.ok).mono ?_
      rw [hfE, hZe]
      rintro e w7 ⟨rfl, F7, bA7, bc7, hD7, hL7, hg7, hat7, hm7⟩
      have hM6' : At w6 w2.heap.size #[.slice lA6 (rs.length + 1) lc6, .int .u64 (en + (n + 2)), .int .u64 L.sure, .int .u64 L.start, .int .u64 L.check, .int .i64 L.held, .int .i64 L.count] 41 := hM6
      obtain ⟨hM7, hO7⟩ := m_keep hM6' hO6 hL6 hD6 hm7
      have hB7 : Below w.heap.size w w7 := below_tr hB6 (hm7.below hB6.size (fun k hk => by
        rcases hk with hk | hk
        · have := (hD6.lts k hk).1; omega
        · have := ((foot_low hL6 hD6).1 k hk).1; omega))
      have hM7c := hM7.c; have hM7f := hM7.f; have hM7l := hM7.lt
      go_upto_region 17 with (fail)
      have hM8 := At.set (o := 2) (v := .int .u64 (en + (n + 2))) hM7
      simp only [List.setIfInBounds_toArray, List.set_cons_zero, List.set_cons_succ] at hM8
      have m8 := (Mod.refl (fun k => k = w2.heap.size) w7).set (k := w2.heap.size) (.inl rfl) (o := 2) (.int .u64 (en + (n + 2)))
      obtain ⟨hL8, hD8, hO8⟩ := m_set hM7 hO7 hL7 hD7 m8
      have hB8 : Below w.heap.size w (w7.setCell ⟨w2.heap.size, 2, none⟩ (.int .u64 (en + (n + 2)))) := below_tr hB7 (m8.below hB7.size (fun k hk => by omega))
      clear hM7 hM7c hM7f hM7l
      generalize (w7.setCell ⟨w2.heap.size, 2, none⟩ (.int .u64 (en + (n + 2)))) = w8 at *
      have hea : endL (apL L p) = en + (n + 2) := by
        have a1 : endL (apL L p) = endL (appL L 0 p) := flL_end hA.2
        rw [a1, he1]; omega
      have hend := hS.endB
      have hrbl : B.drop (L.start - org L).toNat = recB rs := hS.rb
      have hS8 : RSt w8 w1.heap.size d lb w2.heap.size c g (480 + 402 * (i : Int) + 402) (2 + (i : Int)) (100 * (i : Int) + 103) (apL L p) (apD D L p) F7 (B ++ two2 p.length ++ p) (apE L ep) (rs ++ [p]) lA6 lc6 bA7 bc7 := by
        refine ⟨hL8, hD8, hrg, hqe, by rw [hDe]; rfl, ?_, fun q hq => ?_, ?_, ?_, hS.ps, hS.ct, by (show L.held + 0 = 0; rw [hS.hd]; rfl), hS.ck, hS.st, by (rw [hea]; omega), by (show L.epoch ≤ _; have := hS.eo; omega), by (rw [hDe]; show (flR D (appL L 0 p) (nparts (appL L 0 p)) 0).1.ops + 1 ≤ _; omega), by (rw [hDe, sync_len, flR_len]; exact hS.ln)⟩
        · show (B ++ two2 p.length ++ p).drop (L.start - org L).toNat = _
          rw [recB_len, ← hrbl, List.append_assoc, List.append_assoc]
          refine List.drop_append_of_le_length ?_
          have a0 := congrArg List.length hrbl
          rw [List.length_drop] at a0
          have a9 := hend.1
          have a1 := hS.r.blen
          have a2 := hS.r.i.ok.start; have a3 := hS.r.i.ok.sure
          have a4 : org L = L.start / 480 * 480 := rfl
          omega
        · rcases List.mem_append.1 hq with hq | hq
          · exact hS.rv q hq
          · simp at hq; subst hq; omega
        · have hz := hM8
          unfold MdAt
          rw [hea, show (apL L p).sure = en + (n + 2) from (show endL (appL L 0 p) = _ by rw [he1]; omega), show (apL L p).held = L.held from (show L.held + 0 = L.held by omega), List.length_append]
          exact hz
        · have hz := hO8
          show OwO w8 w1.heap.size lA6 (rs ++ [p]).length lc6 (recVs L.start (rs ++ [p]))
          rw [recVs_snoc, List.length_append, ← hend.1, henx.out]
          exact hz
      have hrl1 : (rs ++ [p]).length = rs.length + 1 := by rw [List.length_append]; rfl
      have hM8c := hM8.c; have hM8f := hM8.f; have hM8l := hM8.lt
      generalize rs ++ [p] = r8 at hS8 hrl1
      generalize apL L p = L8 at hS8
      generalize apD D L p = D8 at hS8
      generalize apE L ep = E8 at hS8
      generalize B ++ two2 p.length ++ p = B8 at hS8
      by_cases hcase : rs.length = 2
      · obtain ⟨p0, r9, rfl⟩ : ∃ p0 r9, r8 = p0 :: r9 := by
          cases r8 with
          | nil => simp at hrl1
          | cons a b => exact ⟨a, b, rfl⟩
        have hr9 : r9.length = 2 := by simp at hrl1; omega
        obtain ⟨gl, ol, rfl⟩ : ∃ gl ol, lA6 = some ⟨gl, ol, none⟩ := by
          rcases hS8.ro.2 with ⟨-, h0, -⟩ | ⟨g', o', -, h1, -⟩
          · simp at h0
          · exact ⟨g', o', h1⟩
        have hl3 : (2 : Int) < ((rs.length + 1 : Nat) : Int) := by omega
        have hl3b : decide ((2 : Int) < (rs.length : Int) + 1) = true := by simp; omega
        clear hD7 hL7 hM6 hM6' hL6 hD6 hO6 hL5 hD5 hO5 hM5 hO7 hm7 hm6 hm5 hz5 hS4 hz4
        go_upto_region 18 with (fail)
        have d8 : Below w8.heap.size w8 w8.drew := below_dr (Below.refl _ _)
        have kd := At.keep d8 hM8
        have hlen3 : IntKind.i64.wrap (((rs.length + 1 : Nat) : Int) - 2) = 1 := by rw [hcase]; rfl
        have hlen3' : IntKind.i64.wrap (((rs.length : Int) + 1) - 2) = 1 := by rw [hcase]; rfl
        have kdc := kd.c
        have kdf := kd.f
        have kdl := kd.lt
        have hle1 : (1 : Int) ≤ (rs.length : Int) + 1 := by omega
        have hlc3 : 3 ≤ lc6 := by
          rcases hS8.ro.2 with ⟨h0, -, -⟩ | ⟨g', o', -, h1, -, -, h4, -⟩
          · cases h0
          · simp at h4; omega
        have hlc1 : ¬ (lc6 = 1) := by omega
        have hcx := Lib.hid hcase
        clear hcase
        apply dedup9
        · intro hK
          go_region_law (fail)
          all_goals exact hK.out
        have hrr9 : r9.length = rs.length := by rw [hr9, hcx.out]
        have hmd8 : At w8 w2.heap.size #[.slice (some ⟨gl, ol, none⟩) (p0 :: r9).length lc6, .int .u64 (endL L8), .int .u64 L8.sure, .int .u64 L8.start, .int .u64 L8.check, .int .i64 L8.held, .int .i64 L8.count] 41 := hS8.md
        have hro8 : OwO w8 w1.heap.size (some ⟨gl, ol, none⟩) (r9.length + 1) lc6 (.int .u64 L8.start :: .string (strL p0) :: recVs (L8.start + (2 + p0.length)) r9) := hS8.ro
        have hM9 : At (w8.setCell ⟨w2.heap.size, 0, none⟩ (.slice (some ⟨gl, ol + 2, none⟩) rs.length (lc6 - 1))).drew w2.heap.size _ _ := (At.set (o := 0) (v := .slice (some ⟨gl, ol + 2, none⟩) rs.length (lc6 - 1)) hmd8).drewN 1
        simp only [List.setIfInBounds_toArray, List.set_cons_zero, List.set_cons_succ] at hM9
        have m9 : Mod (fun k => k = w2.heap.size) w8 (w8.setCell ⟨w2.heap.size, 0, none⟩ (.slice (some ⟨gl, ol + 2, none⟩) rs.length (lc6 - 1))).drew := ((Mod.refl (fun k => k = w2.heap.size) w8).set (k := w2.heap.size) (.inl rfl) (o := 0) (.slice (some ⟨gl, ol + 2, none⟩) rs.length (lc6 - 1))).drewN 1
        clear hM8c hM8f hM8l kd kdc kdf kdl
        generalize (w8.setCell ⟨w2.heap.size, 0, none⟩ (.slice (some ⟨gl, ol + 2, none⟩) rs.length (lc6 - 1))).drew = w9 at *
        obtain ⟨hL9, hD9, hO9x⟩ := m_set hmd8 hro8 hS8.l hS8.dd m9
        have hB9 : Below w.heap.size w w9 := below_tr hB8 (m9.below hB8.size (fun k hk => by omega))
        obtain ⟨st9, hst9⟩ : ∃ st9, st9 = L8.start + (2 + (p0.length : Int)) := ⟨_, rfl⟩
        rw [← hst9] at hO9x
        have hO9 := OwO.tail hO9x
        have hMd9 : MdAt w9 w2.heap.size (some ⟨gl, ol + 2, none⟩) r9.length (lc6 - 1) L8 := by
          rw [← hrr9] at hM9
          exact hM9
        have hof0 : st9 + (offR r9 0 : Nat) = st9 := by
          show st9 + ((0 : Nat) : Int) = st9
          omega
        have hc9 : w9.cell? ⟨gl, ol + 2, none⟩ = some (.int .u64 st9) := by
          obtain ⟨b, o, e1, -, e2, -⟩ := hO9.recs 0 (by omega)
          injection e1 with e1
          injection e1 with e1 e3
          subst e1; subst e3
          rw [hof0] at e2
          exact e2
        have h0r : (0 : Int) < (rs.length : Int) := by rw [← hrr9]; omega
        have hM9c := hM9.c; have hM9f := hM9.f; have hM9l := hM9.lt
        have hst9x : Hid (st9 = L8.start + (2 + (p0.length : Int))) := Lib.hid hst9
        have hrr9x := Lib.hid hrr9
        clear hst9 hle1 hlc1 hr9 hrr9
        go_wp2_with fail
        refine (mark_st hS8 hL9 hD9 hMd9 st9 hst9x.out hO9 (by omega) (by omega)).mono ?_
        rintro e wM ⟨rfl, hMk, hOk, hbM, hfin⟩
        have hBM : Below w.heap.size w wM := below_tr hB9 (below_up hbM hw1)
        have hM10 : At wM w2.heap.size #[.slice (some ⟨gl, ol + 2, none⟩) rs.length (lc6 - 1), .int .u64 (endL L8), .int .u64 L8.sure, .int .u64 L8.start, .int .u64 L8.check, .int .i64 L8.held, .int .i64 L8.count] 41 := by
          have hz : At wM w2.heap.size #[.slice (some ⟨gl, ol + 2, none⟩) r9.length (lc6 - 1), .int .u64 (endL L8), .int .u64 L8.sure, .int .u64 L8.start, .int .u64 L8.check, .int .i64 L8.held, .int .i64 L8.count] 41 := hMk
          rw [hrr9x.out] at hz
          exact hz
        have hc10 : wM.cell? ⟨gl, ol + 2, none⟩ = some (.int .u64 st9) := by
          obtain ⟨b, o, e1, -, e2, -⟩ := hOk.recs 0 (by rw [hrr9x.out]; omega)
          injection e1 with e1
          injection e1 with e1 e3
          subst e1; subst e3
          rw [hof0] at e2
          exact e2
        clear hof0 hM9c hM9f hM9l hc9 hMk hOk
        have hM10c := hM10.c; have hM10f := hM10.f; have hM10l := hM10.lt
        go_upto_region 22 with (fail)
        obtain ⟨F10, B10, bA10, bc10, hS10⟩ := hfin (wM.setCell ⟨w2.heap.size, 3, none⟩ (.int .u64 st9)) ((Mod.refl (fun k => k = w2.heap.size) wM).set (k := w2.heap.size) (.inl rfl) _) (by
          have hz := At.set (o := 3) (v := .int .u64 st9) hM10
          simp only [List.setIfInBounds_toArray, List.set_cons_zero, List.set_cons_succ] at hz
          rw [hrr9x.out]
          exact hz)
        have hB10 : Below w.heap.size w (wM.setCell ⟨w2.heap.size, 3, none⟩ (.int .u64 st9)) := below_tr hBM (((Mod.refl (fun k => k = w2.heap.size) wM).set (k := w2.heap.size) (.inl rfl) (o := 3) (.int .u64 st9)).below hBM.size (fun k hk => by omega))
        have hrn9 : r9.length ≤ 2 := by rw [hrr9x.out]; exact hrn
        clear hM10 hM10c hM10f hM10l hc10 hfin
        generalize (wM.setCell ⟨w2.heap.size, 3, none⟩ (.int .u64 st9)) = w10 at *
        by_cases hev : (i : Int) % e9 = 0
        · have hev2 : (i : Int).tmod e9 = 0 := by rw [Int.tmod_eq_emod_of_nonneg hi0, hev]
          have hevx := Lib.hid hev
          clear hev
          have e9n : ¬ ((e9 : Int) = 0) := by omega
          go_wp2_with fail
          refine (rest_st hS10).mono ?_
          rintro e wA ⟨rfl, ⟨FA, hSA⟩, hbA⟩
          have hBA : Below w.heap.size w wA := below_tr hB10 (below_up hbA hw1)
          go_wp2_with fail
          refine (open_st hSA hc4 (by omega) (by omega) (by omega) (by omega)).mono ?_
          rintro e wB ⟨⟨gB, bAB, bcB, FB, rfl, hSB⟩, hbB⟩
          have hBB : Below w.heap.size w wB := below_tr hBA (below_up hbB hw1)
          go_wp2_with fail
          refine (same_st hSB).mono ?_
          rintro e wC ⟨rfl, hSC, hbC⟩
          have hBC : Below w.heap.size w wC := below_tr hBB (below_up hbC hw1)
          go_wp2_with fail
          refine (all_st hSC).mono ?_
          rintro e wD ⟨rfl, hSE, hbD⟩
          have hBD : Below w.heap.size w wD := below_tr hBC (below_up hbD hw1)
          go_wp2
          go_roundw
          case rel => exact ⟨_, i + 1, _, _, _, _, _, _, _, _, _, _, rfl, by go_num, by omega, by omega, hSE.relax (by omega) (by omega) (by omega), hrn9, hBD⟩
          case measure => simp [intOf]; omega
        · have hev2 : (i : Int).tmod e9 = (i : Int) % e9 := Int.tmod_eq_emod_of_nonneg hi0
          have e9n : ¬ ((e9 : Int) = 0) := by omega
          have hSB := hS10
          have hBB := hB10
          go_wp2_with fail
          refine (same_st hSB).mono ?_
          rintro e wC ⟨rfl, hSC, hbC⟩
          have hBC : Below w.heap.size w wC := below_tr hBB (below_up hbC hw1)
          go_wp2_with fail
          refine (all_st hSC).mono ?_
          rintro e wD ⟨rfl, hSE, hbD⟩
          have hBD : Below w.heap.size w wD := below_tr hBC (below_up hbD hw1)
          go_wp2
          go_roundw
          case rel => exact ⟨_, i + 1, _, _, _, _, _, _, _, _, _, _, rfl, by go_num, by omega, by omega, hSE.relax (by omega) (by omega) (by omega), hrn9, hBD⟩
          case measure => simp [intOf]; omega
      · have hl3 : ¬ ((2 : Int) < ((rs.length + 1 : Nat) : Int)) := by omega
        have hl3b : decide ((2 : Int) < (rs.length : Int) + 1) = false := by simp; omega
        have hrn9 : r8.length ≤ 2 := by omega
        by_cases hev : (i : Int) % e9 = 0
        · have hev2 : (i : Int).tmod e9 = 0 := by rw [Int.tmod_eq_emod_of_nonneg hi0, hev]
          have hevx := Lib.hid hev
          clear hev
          have e9n : ¬ ((e9 : Int) = 0) := by omega
          go_wp2_with fail
          refine (rest_st hS8).mono ?_
          rintro e wA ⟨rfl, ⟨FA, hSA⟩, hbA⟩
          have hBA : Below w.heap.size w wA := below_tr hB8 (below_up hbA hw1)
          go_wp2_with fail
          refine (open_st hSA hc4 (by omega) (by omega) (by omega) (by omega)).mono ?_
          rintro e wB ⟨⟨gB, bAB, bcB, FB, rfl, hSB⟩, hbB⟩
          have hBB : Below w.heap.size w wB := below_tr hBA (below_up hbB hw1)
          go_wp2_with fail
          refine (same_st hSB).mono ?_
          rintro e wC ⟨rfl, hSC, hbC⟩
          have hBC : Below w.heap.size w wC := below_tr hBB (below_up hbC hw1)
          go_wp2_with fail
          refine (all_st hSC).mono ?_
          rintro e wD ⟨rfl, hSE, hbD⟩
          have hBD : Below w.heap.size w wD := below_tr hBC (below_up hbD hw1)
          go_wp2
          go_roundw
          case rel => exact ⟨_, i + 1, _, _, _, _, _, _, _, _, _, _, rfl, by go_num, by omega, by omega, hSE.relax (by omega) (by omega) (by omega), hrn9, hBD⟩
          case measure => simp [intOf]; omega
        · have hev2 : (i : Int).tmod e9 = (i : Int) % e9 := Int.tmod_eq_emod_of_nonneg hi0
          have e9n : ¬ ((e9 : Int) = 0) := by omega
          have hSB := hS8
          have hBB := hB8
          go_wp2_with fail
          refine (same_st hSB).mono ?_
          rintro e wC ⟨rfl, hSC, hbC⟩
          have hBC : Below w.heap.size w wC := below_tr hBB (below_up hbC hw1)
          go_wp2_with fail
          refine (all_st hSC).mono ?_
          rintro e wD ⟨rfl, hSE, hbD⟩
          have hBD : Below w.heap.size w wD := below_tr hBC (below_up hbD hw1)
          go_wp2
          go_roundw
          case rel => exact ⟨_, i + 1, _, _, _, _, _, _, _, _, _, _, rfl, by go_num, by omega, by omega, hSE.relax (by omega) (by omega) (by omega), hrn9, hBD⟩
          case measure => simp [intOf]; omega
    · have hno : ¬ ((i : Int) < sn) ∨ ¬ ((i : Int) < 80) := by omega
      by_cases hg1 : i < sn
      · have a1 : decide ((i : Int) < sn) = true := by simp; omega
        have a2 : decide ((i : Int) < 80) = false := by simp; omega
        clear hno
        go_wp2_with fail
        go_ret
        exact ⟨by first | rfl | simp, hB⟩
      · have a1 : decide ((i : Int) < sn) = false := by simp; omega
        clear hno
        go_wp2_with fail
        go_ret
        exact ⟨by first | rfl | simp, hB⟩
end Go.Proofs.Ytnehppeoffemlaa
