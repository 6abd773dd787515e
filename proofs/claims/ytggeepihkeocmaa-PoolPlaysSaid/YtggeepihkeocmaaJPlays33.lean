/- Joined texts: PpG, PpH. -/
import Derived.Test.YtggeepihkeocmaaJPlays32
/- PoolPlays: the model's pinned, may and write. -/
namespace Go.Proofs.Ytggeepihkeocmaa
set_option linter.unusedVariables false
set_option linter.unusedSimpArgs false
open Go.RowKit Go.Maps
theorem cnt_step (pins : Int → Int) {n i : Nat} (h : i < n) : cntF pins i (n - i) = (if 0 < pins i then 1 else 0) + cntF pins ((i : Int) + 1) (n - (i + 1)) := by
  obtain ⟨m, hm⟩ : ∃ m, n - i = m + 1 := ⟨n - i - 1, by omega⟩
  rw [hm, show n - (i + 1) = m by omega]
  rfl
set_option maxRecDepth 100000 in
set_option maxHeartbeats 4000000 in
theorem pinned_q {base b n : Nat} {mo : Int} {C : Int → List Int} {pins : Int → Int} {q : Mq} (w : World) (h : MdH w base b n mo C pins q) (hn : n ≤ 8) :
    Calls Try.prog 102 #[.pointer (some ⟨b, 0, none⟩)] w fun e w' => e = .returned (.int .i64 (cntF pins 0 n)) ∧ w' = w := by
  have k0 := h.at_
  have hrp := h.rp
  clear h
  have k0c := k0.c; have k0f := k0.f; have k0l := k0.lt
  go_enter Try.func102, Try.ntmps102
  go_wp2_with fail
  go_loopw [3, 4] (fun v3 v4 wr => ∃ i c : Nat, v3 = .int .i64 (c : Int) ∧ v4 = .int .i64 (i : Int) ∧ i ≤ n ∧ c + cntF pins i (n - i) = cntF pins 0 n ∧ wr = w) (fun _ v4 _ => n - (intOf v4).toNat)
  case atStart => exact ⟨0, 0, rfl, rfl, Nat.zero_le _, by simp, rfl⟩
  case round =>
    obtain ⟨i, c, rfl, rfl, hi, hc, rfl⟩ := hrel
    have hmx := cnt_max pins n 0
    by_cases hlt : i < n
    · have hlti : (i : Int) < n := by omega
      have hi0 : (0 : Int) ≤ i := by omega
      have hcell := hrp.cell hlt
      rw [cnt_step pins hlt] at hc
      obtain ⟨x, hx⟩ : ∃ x, pins i = x := ⟨_, rfl⟩
      rw [hx] at hcell hc
      have e1 : IntKind.i64.wrap ((i : Int) + 1) = (i : Int) + 1 := IntWalk.i64_in _ (by omega)
      have e2 : IntKind.i64.wrap ((c : Int) + 1) = (c : Int) + 1 := IntWalk.i64_in _ (by omega)
      by_cases hp : 0 < x
      · rw [if_pos hp] at hc
        have hpb : decide (x > 0) = true := by simp; exact hp
        have hcx := Lib.hid hc
        clear hc hx
        go_wp2
        go_roundw
        case rel => exact ⟨i + 1, c + 1, by go_num, by go_num, by omega, by have := hcx.out; rw [show ((i + 1 : Nat) : Int) = (i : Int) + 1 by omega]; omega, by first | rfl | trivial⟩
        case measure => simp [intOf]; omega
      · rw [if_neg hp] at hc
        have hpb : decide (x > 0) = false := by simp; omega
        have hcx := Lib.hid hc
        clear hc hx
        go_wp2
        go_roundw
        case rel => exact ⟨i + 1, c, by go_num, by go_num, by omega, by have := hcx.out; rw [show ((i + 1 : Nat) : Int) = (i : Int) + 1 by omega]; omega, by first | rfl | trivial⟩
        case measure => simp [intOf]; omega
    · have hlti : ¬ ((i : Int) < n) := by omega
      have hin : i = n := by omega
      subst hin
      rw [Nat.sub_self] at hc
      have hc2 : c = cntF pins 0 i := hc
      have hcx := Lib.hid hc2
      clear hc hc2
      go_wp2
      go_ret
      rw [hcx.out]
      exact ⟨by first | rfl | simp, rfl⟩
set_option maxRecDepth 100000 in
set_option maxHeartbeats 4000000 in
theorem may_calls {base b n : Nat} {mo : Int} {C : Int → List Int} {pins : Int → Int} {q : Mq} (i : Nat) (ob : Bool) (w : World) (h : MdH w base b n mo C pins q) (hn : n ≤ 8) (hi : i < n) (hob : ob = true ↔ mayB pins n mo i) :
    Calls Try.prog 76 #[.pointer (some ⟨b, 0, none⟩), .int .i64 (i : Int)] w fun e w' => e = .returned (.bool ob) ∧ ∃ k, w' = w.drewN k := by
  have k0 := h.at_
  have hcell := h.rp.cell hi
  have hlti : (i : Int) < n := by omega
  have hi0 : (0 : Int) ≤ i := by omega
  have hpin := Lib.hid (fun k => pinned_q (w.drewN k) (h.later (below_drewN (Below.refl _ _) k)) hn)
  unfold mayB at hob
  obtain ⟨x, hx⟩ : ∃ x, pins i = x := ⟨_, rfl⟩
  rw [hx] at hcell hob
  obtain ⟨cn, hcn⟩ : ∃ c, cntF pins 0 n = c := ⟨_, rfl⟩
  rw [hcn] at hpin hob
  clear h hx hcn hn
  have k0c := k0.c; have k0f := k0.f; have k0l := k0.lt
  go_enter Try.func76, Try.ntmps76
  by_cases hp : 0 < x
  · have hpb : decide (x > 0) = true := by simp; exact hp
    obtain rfl : ob = true := hob.2 (.inl hp)
    clear hob
    go_upto_region 1 with (fail)
    go_quiet (fail)
    go_wp2
    go_ret
    exact ⟨by first | rfl | simp, _, rfl⟩
  · have hpb : decide (x > 0) = false := by simp; omega
    have hob2 : decide ((cn : Int) < mo) = ob := by
      by_cases hc : (cn : Int) < mo
      · rw [hob.2 (.inr hc)]; simpa using hc
      · have : ob = false := by
          cases ob with
          | false => rfl
          | true => exact ((hob.1 rfl).elim hp hc).elim
        rw [this]; simpa using hc
    clear hob
    go_upto_region 1 with (fail)
    go_quiet ((go_at_call 102; with_reducible exact Calls.quiet_of_same (hpin.out _)))
    go_wp2
    go_ret
    exact ⟨by first | rfl | simp, _, rfl⟩
theorem OwB.mod1 {w w' : World} {base n c g g2 : Nat} {l : List Int} (h : OwB w base (some ⟨g, 0, none⟩) n c l) (hm : Mod (fun k => k = g2) w w') (hne : g ≠ g2) : OwB w' base (some ⟨g, 0, none⟩) n c l :=
  h.mod hm (fun k hk => by
    have e : g = k := by simpa [ownBlk] using hk
    rw [← e]; exact hne)
theorem splice_set {L p : List Int} {off k : Nat} (hk : k < p.length) (hf : off + p.length ≤ L.length) : (splice L off (p.take k)).set (off + k) (p.getD k 0) = splice L off (p.take (k + 1)) := by
  unfold splice
  have h1 : (L.take off).length = off := by rw [List.length_take]; omega
  have h2 : (p.take k).length = k := by rw [List.length_take]; omega
  have h3 : (p.take (k + 1)).length = k + 1 := by rw [List.length_take]; omega
  rw [h2, h3, List.set_append_right _ _ (by omega), h1, show off + k - off = k by omega, List.set_append_right _ _ (by omega), h2, Nat.sub_self, List.drop_eq_getElem_cons (by omega : off + k < L.length), List.take_succ_eq_append_getElem hk]
  have e : p.getD k 0 = p[k] := by simp [hk]
  rw [e, List.append_assoc (p.take k)]
  rfl
set_option maxRecDepth 100000 in
set_option maxHeartbeats 8000000 in
theorem mwrite_calls {base b n m mc : Nat} {mo : Int} {C : Int → List Int} {pins : Int → Int} {q : Mq} {B : Option Addr} {p : List Int} (i off : Nat) (lsn : Int) (w : World) (h : MdH w base b n mo C pins q) (hi : i < n) (hoff : off + m ≤ 504) (hl : 0 ≤ lsn ∧ lsn < 18446744073709551616) (hp : BsR w 0 base B m p) (hbw : base ≤ w.heap.size) (hC : (C i).length = 512) :
    Calls Try.prog 103 #[.pointer (some ⟨b, 0, none⟩), .int .i64 (i : Int), .int .i64 (off : Int), .slice B m mc, .int .u64 lsn] w fun e w' => e = .returned (.tuple #[]) ∧ ∃ q', MdH w' base b n mo (fun k => if k = (i : Int) then wrB (C k) off p lsn else C k) pins q' ∧ Mod (MdF b n q) w w' ∧ ∀ k, MdF b n q' k → MdF b n q k ∨ (w.heap.size ≤ k ∧ k < w'.heap.size) := by
  have k0 := h.at_
  have hcl := h.rl.cell hi
  have hpg := (h.pg i hi).reads
  have hhx := Lib.hid h
  have hpx := Lib.hid hp
  have hlx := Lib.hid hl
  have hlti : (i : Int) < n := by omega
  have hi0 : (0 : Int) ≤ i := by omega
  obtain ⟨L, hL⟩ : ∃ L, (C i).drop 8 = L := ⟨_, rfl⟩
  rw [hL] at hpg
  have hLl : Hid (L.length = 504) := Lib.hid (by rw [← hL, List.length_drop, hC])
  have hwp := Lib.hid (wrB_parts hC off p lsn hl.1 hl.2)
  have hLx := Lib.hid hL
  clear h hp hl hL hC
  have k0c := k0.c; have k0f := k0.f; have k0l := k0.lt
  go_enter Try.func103, Try.ntmps103
  go_wp2_with (first
    | (at_builtin; refine wpList_app rfl (.tmp 12) (.tmp 19) rfl w.heap.size 0 0 none [] rfl (OwB.nil _ _) _ _ 504 (q.pc i) (some ⟨q.pa i, 0, none⟩) L rfl hpg (by omega) (Nat.le_refl _) ?_; intro A1 c1 w1 ho1 hg1 hb1 hat1)
    | fail)
  rw [Nat.zero_add, List.nil_append] at ho1
  try rw [Nat.zero_add]
  obtain ⟨g1, rfl⟩ := OwB.some8 ho1 (by omega)
  have ho1x := Lib.hid ho1
  clear ho1 hpg hat1
  go_wp2_with fail
  go_loopw [11] (fun v11 wr => ∃ k : Nat, v11 = .int .i64 (k : Int) ∧ k ≤ m ∧ OwB wr w.heap.size (some ⟨g1, 0, none⟩) 504 c1 (splice L off (p.take k)) ∧ Below w.heap.size w wr) (fun v11 _ => m - (intOf v11).toNat)
  case atStart => exact ⟨0, rfl, Nat.zero_le _, (by
    have e : splice L off (p.take 0) = L := (by unfold splice; simp)
    rw [e]; exact ho1x.out), hb1⟩
  case round =>
    obtain ⟨k, rfl, hk, ho, hB⟩ := hrel
    have hox := Lib.hid ho
    by_cases hlt : k < m
    · obtain ⟨gb, go', rfl, -, hgl, hcp⟩ := hpx.out.2.2 (by omega)
      obtain ⟨x, hx⟩ : ∃ x, p.getD k 0 = x := ⟨_, rfl⟩
      have hxr := hpx.out.2.1.getD k
      rw [hx] at hxr
      have hcx : wr.cell? ⟨gb, go' + k, none⟩ = some (.int .u8 x) := by
        have := hcp k hlt
        unfold bsF at this
        rw [hx] at this
        exact (hB.cell (p := ⟨gb, go' + k, none⟩) (Nat.lt_of_lt_of_le hgl hbw)).trans this
      have hkl : (k : Int) < m := by omega
      have hk0 : (0 : Int) ≤ k := by omega
      have e1 : IntKind.i64.wrap ((k : Int) + 1) = (k : Int) + 1 := IntWalk.i64_in _ (by omega)
      have e2 : IntKind.i64.wrap ((off : Int) + k) = ((off + k : Nat) : Int) := by rw [IntWalk.i64_in _ (by omega)]; omega
      have e3 : off + k < 504 := by omega
      obtain ⟨cur, hat, hcs, hcn, -⟩ := ho.at_
      have hatf := hat.f
      have hatl := hat.lt
      have hcc : wr.cell? ⟨g1, off + k, none⟩ = some (cur[off + k]'(by omega)) := by rw [hat.c]; simp
      obtain ⟨y, hy⟩ : ∃ y, cur[off + k]'(by omega) = y := ⟨_, rfl⟩
      rw [hy] at hcc
      have hxx := Lib.hid hx
      clear ho hx hcp hy hat
      go_wp2
      go_roundw
      case rel =>
        have hset := hox.out.set (k := off + k) e3 hxr.1 hxr.2
        have hs2 := splice_set (L := L) (p := p) (off := off) (k := k) (by rw [hpx.out.1]; exact hlt) (by rw [hpx.out.1, hLl.out]; exact hoff)
        rw [hxx.out] at hs2
        rw [hs2] at hset
        exact ⟨k + 1, by go_num, by omega, hset, ((Mod.refl (fun q => q = g1) wr).set (k := g1) (.inl rfl) (o := off + k) (.int .u8 x)).below hB.size (fun q hq => by rw [hq]; exact (hox.out.lt g1 rfl).1) |> below_tr hB⟩
      case measure => simp [intOf]; omega
    · have hkl : ¬ ((k : Int) < m) := by omega
      have hkm : k = m := by omega
      have hpe : p.take k = p := by rw [hkm, ← hpx.out.1, List.take_length]
      rw [hpe] at hox
      have hM := hhx.out.later hB
      obtain ⟨⟨d1, d2, d3, d4⟩, ⟨d5, d6, d7⟩, ⟨d8, d9⟩, d10⟩ := hM.apart
      have d11 := hM.sd
      have hg1w : w.heap.size ≤ g1 := (hox.out.lt g1 rfl).1
      have hlts := Lib.hid hhx.out.lts
      have hne : ∀ k, MdF b n q k → g1 ≠ k := fun k hk e => by have := (hlts.out k hk).2; omega
      have n1 : g1 ≠ q.gl := hne _ (.inr (.inl rfl))
      have n2 : g1 ≠ q.gs := hne _ (.inr (.inr (.inl rfl)))
      have n3 : g1 ≠ q.gd := hne _ (.inr (.inr (.inr (.inr (.inl rfl)))))
      have kb := hM.at_
      have c1l := hM.rl.cell hi
      have f1l := hM.rl.fz
      have l1l := hM.rl.lt
      have hMx := Lib.hid hM
      clear ho hM hpe hkm k0 k0c k0f k0l hcl
      have kbc := kb.c; have kbf := kb.f; have kbl := kb.lt
      go_upto_region 7 with (fail)
      have m2 := (Mod.refl (fun k => k = q.gl) wr).set (k := q.gl) (.inl rfl) (o := i) (.slice (some ⟨g1, 0, none⟩) 504 c1)
      have kb2 := kb.mod m2 d1
      have rl2 := hMx.out.rl.set i (.slice (some ⟨g1, 0, none⟩) 504 c1)
      have rs2 := hMx.out.rs.mod m2 (Ne.symm d5)
      have rp2 := hMx.out.rp.mod m2 (Ne.symm d6)
      have rd2 := hMx.out.rd.mod m2 (Ne.symm d7)
      have ow2 := hox.out.mod1 m2 n1
      have pg2 := fun j (hj : j < n) => (hMx.out.pg j hj).mod1 m2 (d10 j hj).2.1
      have hM2 := m2.mono (T := MdF b n q) (fun k hk => hk ▸ .inr (.inl rfl))
      have c2s := rs2.cell hi
      have f2s := rs2.fz
      have l2s := rs2.lt
      generalize (wr.setCell ⟨q.gl, i, none⟩ (.slice (some ⟨g1, 0, none⟩) 504 c1)) = w2 at *
      have rl2x := Lib.hid rl2
      have rs2x := Lib.hid rs2
      have rp2x := Lib.hid rp2
      have rd2x := Lib.hid rd2
      have ow2x := Lib.hid ow2
      have pg2x := Lib.hid pg2
      have hM2x := Lib.hid hM2
      clear rl2 rs2 rp2 rd2 ow2 pg2 hM2 m2 kb kbc kbf kbl c1l f1l l1l
      have kb2c := kb2.c; have kb2f := kb2.f; have kb2l := kb2.lt
      go_upto_region 8 with (fail)
      have m3 := (Mod.refl (fun k => k = q.gs) w2).set (k := q.gs) (.inl rfl) (o := i) (.int .u64 lsn)
      have hM3 : MdH (w2.setCell ⟨q.gs, i, none⟩ (.int .u64 lsn)) base b n mo (fun k => if k = (i : Int) then wrB (C k) off p lsn else C k) pins { q with pa := fun j => if j = i then g1 else q.pa j, pc := fun j => if j = i then c1 else q.pc j } := by
        refine ⟨kb2.mod m3 d2, (rl2x.out.mod m3 d5).to (fun j hj => ?_), (rs2x.out.set i (.int .u64 lsn)).to (fun j hj => ?_), rp2x.out.mod m3 (Ne.symm d8), rd2x.out.mod m3 (Ne.symm d11), d11, fun j hj => ?_, hhx.out.hb⟩
        · by_cases e : j = i
          · simp [e]
          · simp [e]
        · by_cases e : j = i
          · subst e
            simp only [if_true]
            rw [hwp.out.1]
          · rw [if_neg e, if_neg (by omega)]
        · by_cases e : j = i
          · subst e
            simp only [if_true]
            rw [hwp.out.2, hLx.out]
            exact (ow2x.out.mod1 m3 n2).less hbw
          · simp only [if_neg e]
            rw [if_neg (by omega)]
            exact (pg2x.out j hj).mod1 m3 (d10 j hj).2.2.1
      have hMa : Mod (MdF b n q) w (w2.setCell ⟨q.gs, i, none⟩ (.int .u64 lsn)) := ((Mod.of_below hB).trans hM2x.out (fun _ _ h => h)).trans (m3.mono (T := MdF b n q) (fun k hk => hk ▸ .inr (.inr (.inl rfl)))) (fun _ _ h => h)
      have hg1l : g1 < (w2.setCell ⟨q.gs, i, none⟩ (.int .u64 lsn)).heap.size := Nat.lt_of_lt_of_le (ow2x.out.lt g1 rfl).2 m3.size
      have hnew : ∀ (S : Nat → Int) (k : Nat), MdF b n { q with pa := fun j => if j = i then g1 else q.pa j, pc := fun j => if j = i then c1 else q.pc j, sn := S } k → MdF b n q k ∨ k = g1 := fun S k hk => by
        rcases hk with h | h | h | h | h | ⟨j, hj, h⟩
        · exact .inl (.inl h)
        · exact .inl (.inr (.inl h))
        · exact .inl (.inr (.inr (.inl h)))
        · exact .inl (.inr (.inr (.inr (.inl h))))
        · exact .inl (.inr (.inr (.inr (.inr (.inl h)))))
        · have h : k = if j = i then g1 else q.pa j := h
          by_cases e : j = i
          · rw [if_pos e] at h; exact .inr h
          · rw [if_neg e] at h; exact .inl (.inr (.inr (.inr (.inr (.inr ⟨j, hj, h⟩)))))
      generalize (w2.setCell ⟨q.gs, i, none⟩ (.int .u64 lsn)) = w3 at *
      have kb3 := hM3.at_
      have c3d := hM3.rd.cell hi
      have f3d := hM3.rd.fz
      have l3d := hM3.rd.lt
      have hM3x := Lib.hid hM3
      have hMax := Lib.hid hMa
      have hnewx := Lib.hid hnew
      clear hM3 hMa hnew m3 kb2 kb2c kb2f kb2l c2s f2s l2s
      have kb3c := kb3.c; have kb3f := kb3.f; have kb3l := kb3.lt
      obtain ⟨sn, hsn⟩ : ∃ y, q.sn i = y := ⟨_, rfl⟩
      have c3e : w3.cell? ⟨q.gd, i, none⟩ = some (.int .u64 sn) := by rw [← hsn]; exact c3d
      clear hsn c3d
      by_cases hz : sn = 0
      · have hzb : decide (sn = 0) = true := by simpa using hz
        go_wp2
        have m4 := (Mod.refl (fun k => k = q.gd) w3).set (k := q.gd) (.inl rfl) (o := i) (.int .u64 lsn)
        refine bodyPost_end (v := .tuple #[]) (by simp [results, Try.results103, go_sem]) rfl ?_
        exact ⟨rfl, _, hM3x.out.setSn i lsn, hMax.out.trans (m4.mono (T := MdF b n q) (fun k hk => hk ▸ .inr (.inr (.inr (.inr (.inl rfl)))))) (fun _ _ h => h), fun k hk => (hnewx.out _ k hk).imp id (fun e => by rw [e]; exact ⟨hg1w, Nat.lt_of_lt_of_le hg1l m4.size⟩)⟩
      · have hzb : decide (sn = 0) = false := by simpa using hz
        go_wp2
        refine bodyPost_end (v := .tuple #[]) (by simp [results, Try.results103, go_sem]) rfl ?_
        exact ⟨rfl, _, hM3x.out, hMax.out, fun k hk => (hnewx.out q.sn k hk).imp id (fun e => by rw [e]; exact ⟨hg1w, hg1l⟩)⟩
end Go.Proofs.Ytggeepihkeocmaa
/- PoolPlays: Unpin where there is nothing to unpin; the law's state; the model's put. -/
namespace Go.Proofs.Ytggeepihkeocmaa
set_option linter.unusedVariables false
set_option linter.unusedSimpArgs false
open Go.RowKit Go.Maps
theorem unpin_arg {base d lb g pp bc : Nat} {F : Nat → Prop} {bA : Option Addr} {o : Lo} {s : St} (i : Int) (w : World) (h : PWo w base d lb g pp F bA bc o s) (hi : 0 ≤ i) (hn : s.P.pages ≤ i) :
    Calls Try.prog 18 #[.pointer (some ⟨pp, 0, none⟩), .int .i64 i] w fun e w' => e = .returned (.int .i64 1) ∧ w = w' := by
  have k0 := h.p.at_
  have o1 : decide (i < 0) = false := by simp; omega
  have o2 : decide (s.P.pages ≤ i) = true := by simp; omega
  have o3 : ¬ (i < 0) := by omega
  clear h
  have k0c := k0.c; have k0f := k0.f; have k0l := k0.lt
  go_enter Try.func18, Try.ntmps18
  go_wp2
  go_ret
  exact ⟨by first | rfl | simp, rfl⟩
theorem unpin_no {base d lb g pp bc : Nat} {F : Nat → Prop} {bA : Option Addr} {o : Lo} {s : St} (i : Int) (w : World) (h : PWo w base d lb g pp F bA bc o s) (hi : 0 ≤ i) (hn : i < s.P.pages) (hf : s.P.fr i = none) :
    Calls Try.prog 18 #[.pointer (some ⟨pp, 0, none⟩), .int .i64 i] w fun e w' => e = .returned (.int .i64 10) ∧ w = w' := by
  have k0 := h.p.at_
  have hpg := h.ok.pages
  have l0 : (Instr.lookup 108 (.map (some o.fb)) (.int .i64 i) false).run Try.prog w = .ok (.pointer none) w := by
    have := h.p.fm.look Try.underlying108 (k := i) ⟨by omega, by omega⟩
    rw [hf] at this
    exact this
  have o1 : decide (i < 0) = false := by simp; omega
  have o2 : decide (s.P.pages ≤ i) = false := by simp; omega
  have o3 : ¬ (i < 0) := by omega
  clear h
  have k0c := k0.c; have k0f := k0.f; have k0l := k0.lt
  go_enter Try.func18, Try.ntmps18
  go_wp2
  go_ret
  exact ⟨by first | rfl | simp, rfl⟩
theorem unpin_zero {base d lb g pp bc : Nat} {F : Nat → Prop} {bA : Option Addr} {o : Lo} {s : St} (i : Int) (f : Fr) (w : World) (h : PWo w base d lb g pp F bA bc o s) (hf : s.P.fr i = some f) (hp : f.pins = 0) :
    Calls Try.prog 18 #[.pointer (some ⟨pp, 0, none⟩), .int .i64 i] w fun e w' => e = .returned (.int .i64 10) ∧ w = w' := by
  obtain ⟨hfk, hi0, hi1⟩ := h.ok.fr i f hf
  have k0 := h.p.at_
  have q0 := (h.p.frs i f hf).1
  have l0 : (Instr.lookup 108 (.map (some o.fb)) (.int .i64 i) false).run Try.prog w = .ok (.pointer (some ⟨o.blk i, 0, none⟩)) w := lookF h hf 0
  rw [hp] at q0
  have o1 : decide (i < 0) = false := by simp; omega
  have o2 : decide (s.P.pages ≤ i) = false := by simp; omega
  clear h hf hfk
  have k0c := k0.c; have k0f := k0.f; have k0l := k0.lt
  have q0c := q0.c; have q0f := q0.f; have q0l := q0.lt
  go_enter Try.func18, Try.ntmps18
  go_wp2
  go_ret
  exact ⟨by first | rfl | simp, rfl⟩
theorem ws_unpin0 {w : World} {base x d lb g pp : Nat} {s : St} {S : Nat → Prop} (i : Int) (h : WS w base x d lb g pp s S) (hi : 0 ≤ i) (hn : i < s.P.pages) (hp : pinsOf s.P i = 0) :
    Calls Try.prog 18 #[.pointer (some ⟨pp, 0, none⟩), .int .i64 i] w fun e w' => e = .returned (.int .i64 10) ∧ w = w' := by
  obtain ⟨F, bA, bc, o, kx, hP, hx, hS⟩ := h
  cases hf : s.P.fr i with
  | none => exact unpin_no i w hP hi hn hf
  | some f => exact unpin_zero i f w hP hf (by unfold pinsOf at hp; rw [hf] at hp; exact hp)
theorem ws_unpinA {w : World} {base x d lb g pp : Nat} {s : St} {S : Nat → Prop} (i : Int) (h : WS w base x d lb g pp s S) (hi : 0 ≤ i) (hn : s.P.pages ≤ i) :
    Calls Try.prog 18 #[.pointer (some ⟨pp, 0, none⟩), .int .i64 i] w fun e w' => e = .returned (.int .i64 1) ∧ w = w' := by
  obtain ⟨F, bA, bc, o, kx, hP, hx, hS⟩ := h
  exact unpin_arg i w hP hi hn
/-- The law's state behind i rounds. -/
structure LS (w : World) (base x d lb g pp b n i : Nat) (mo : Int) (s : St) (C : Int → List Int) (pins : Int → Int) (q : Mq) : Prop where
  ws : WS w base x d lb g pp s (MdF b n q)
  md : MdH w base b n mo C pins q
  pv : Pv s n mo C pins
  bq : Bq s pins i
/-- What a round leaves. -/
def LTo (w w' : World) (base x d lb g pp b n i : Nat) (mo : Int) : Prop := ∃ s C pins q, LS w' base x d lb g pp b n i mo s C pins q ∧ Below base w w'
section
variable {w w' : World} {base x d lb g pp b n i : Nat} {mo : Int} {s t : St} {C : Int → List Int} {pins : Int → Int} {q : Mq}
theorem LS.later (h : LS w base x d lb g pp b n i mo s C pins q) (hb : Below w.heap.size w w') : LS w' base x d lb g pp b n i mo s C pins q := ⟨h.ws.later hb, h.md.later hb, h.pv, h.bq⟩
theorem LS.keys (h : LS w base x d lb g pp b n i mo s C pins q) : KeyOk s := h.ws.wx.keys
theorem md_on (h : MdH w base b n mo C pins q) (hT : WSTo w w' base x d lb g pp t (MdF b n q)) : MdH w' base b n mo C pins q := h.mod hT.2.1 (fun _ hk hn => hn hk)
end
/-- What a page is wanted for: there is none; it may be had; it may not. -/
def Wnt (i n : Nat) (mo : Int) (pins : Int → Int) (inb : Bool) (W : Int) : Prop := (i = n ∧ inb = false ∧ W = 1) ∨ (i < n ∧ inb = true ∧ W = 0 ∧ mayB pins n mo i) ∨ (i < n ∧ inb = true ∧ W = 9)
end Go.Proofs.Ytggeepihkeocmaa
