/- The reference disk's Sync by its contract. -/
import Derived.Test.YtjgomebnlekddaaRefPut
namespace Go.Proofs.Ytjgomebnlekddaa
set_option linter.unusedVariables false
set_option linter.unusedSimpArgs false
open Go.RowKit
theorem strV_set (l : List (List Int)) (j : Nat) (s : List Int) : (strV l).set j (.string (strL s)) = strV (l.set j s) := by
  unfold strV
  rw [List.map_set]
theorem Rf.store {w : World} {base x lc wc gl : Nat} {wA : Option Addr} {D : Dk} (h : Rf w base x (some ⟨gl, 0, none⟩) lc wA wc D) {j : Nat} (hj : j < D.l.length) {s : List Int} (hs : Sec s) : Rf (w.setCell ⟨gl, j, none⟩ (.string (strL s))) base x (some ⟨gl, 0, none⟩) lc wA wc (withL D (D.l.set j s)) := by
  have hne : gl ≠ x := fun e => h.ne1 (by rw [← e]; rfl)
  have hlen : (withL D (D.l.set j s)).l.length = D.l.length := by simp [withL]
  have hok : DkOk (withL D (D.l.set j s)) := by
    refine ⟨fun y hy => ?_, fun y hy => ?_, ?_, h.ok.arm, h.ok.ops, h.ok.cnt⟩
    · rcases List.mem_or_eq_of_mem_set (show y ∈ D.l.set j s from hy) with h2 | h2
      · exact h.ok.l y h2
      · rw [h2]; exact hs
    · rw [hlen]; exact h.ok.way y hy
    · rw [hlen]; exact h.ok.len
  refine ⟨?_, ?_, ?_, hok, h.hx⟩
  · rw [hlen]
    exact h.at_.set_ne (fun e => hne e.symm)
  · rw [hlen]
    have hr := h.row
    rcases hr.2 with ⟨hv, _⟩ | ⟨g', cap, cur, hv, hb, hat, hnc, hcm, hcs, htk⟩
    · injection hv with e; cases e
    · injection hv with e1 _ e3
      injection e1 with e1
      injection e1 with e1
      subst e1; subst e3
      have hat' : At w gl cur 9 := hat
      refine ⟨by simp [strV, withL], .inr ⟨gl, lc, cur.setIfInBounds j (.string (strL s)), rfl, hb, hat'.set, hnc, hcm, by simpa using hcs, ?_⟩⟩
      rw [Array.toList_setIfInBounds, List.take_set, htk, strV_set]
      rfl
  · exact owns_heap h.way (fun b hb => by
      rw [ownBlk_eq] at hb
      refine Below.heap_setCell _ _ _ _ (fun e => ?_)
      rcases ne_ty h.row h.way (by decide) with h4 | h4
      · cases h4
      · exact h4 (by rw [hb, e]; rfl))
theorem Rf.drew {w : World} {base x lc wc : Nat} {lA wA : Option Addr} {D : Dk} (h : Rf w base x lA lc wA wc D) : Rf w.drew base x lA lc wA wc D := ⟨h.at_, h.row, h.way, h.ok, h.hx⟩
theorem Rf.clear {w : World} {base x lc wc : Nat} {lA wA : Option Addr} {D : Dk} (h : Rf w base x lA lc wA wc D) : Rf (w.setCell ⟨x, 1, none⟩ (.slice none 0 0)) base x lA lc none 0 (clearD D) :=
  ⟨(h.at_.set (o := 1) (v := .slice none 0 0)).to (by simp [clearD]), owns_mod2 h.row ((Mod.refl (fun k => k = x) w).set (.inl rfl) _) (fun b hb e => h.ne1 (by rw [hb, e])), World.ownsRow_nil _ _ _ _, ⟨h.ok.l, fun y hy => absurd hy (by simp [clearD]), h.ok.len, h.ok.arm, h.ok.ops, by simp [clearD]⟩, h.hx⟩
theorem rsync_off {base x lc wc : Nat} {lA wA : Option Addr} {D : Dk} (w : World) (h : Rf w base x lA lc wA wc D) (hoff : D.off = true) :
    Calls Try.prog 73 #[.pointer (some ⟨x, 0, none⟩)] w fun e w' => e = .returned (.int .i64 8) ∧ w = w' := by
  have k0 := h.at_
  rw [hoff] at k0
  have k0c := k0.c; have k0f := k0.f; have k0l := k0.lt
  go_enter Try.func73, Try.ntmps73
  go_wp2
  go_ret
  exact ⟨rfl, rfl⟩
theorem rsync_dies {base x lc wc : Nat} {lA wA : Option Addr} {D : Dk} (w : World) (h : Rf w base x lA lc wA wc D) (hoff : D.off = false) (h9 : D.ops < 1000000000) (hdie : (opD D).off = true) :
    Calls Try.prog 73 #[.pointer (some ⟨x, 0, none⟩)] w fun e w' => e = .returned (.int .i64 8) ∧ Rf w' base x lA lc wA wc (opD D) ∧ Mod (RFoot x lA wA) w w' := by
  have k0 := h.at_
  rw [hoff] at k0
  have k0c := k0.c; have k0f := k0.f; have k0l := k0.lt
  have hh := Lib.hid h
  clear h
  go_enter Try.func73, Try.ntmps73
  go_wp2_with fail
  refine (rop_calls w hh.out h9).mono ?_
  rintro e w1 ⟨rfl, hd, hm⟩
  rw [hdie]
  have hfin := Lib.hid (And.intro hd (hm.mono (T := RFoot x lA wA) (fun i hi => .inl hi)))
  clear hd hm
  go_wp2
  go_ret
  exact ⟨by first | rfl | simp, hfin.out.1, hfin.out.2⟩
set_option maxRecDepth 100000 in
set_option maxHeartbeats 4000000 in
theorem rsync_ok {base x lc wc : Nat} {lA wA : Option Addr} {D : Dk} (w : World) (h : Rf w base x lA lc wA wc D) (hoff : D.off = false) (h9 : D.ops < 1000000000) (hlive : (opD D).off = false) :
    Calls Try.prog 73 #[.pointer (some ⟨x, 0, none⟩)] w fun e w' => e = .returned (.int .i64 0) ∧ Rf w' base x lA lc none 0 (syncD D) ∧ Mod (RFoot x lA wA) w w' := by
  obtain ⟨gl, rfl, -⟩ := row_str h.row (Nat.lt_of_lt_of_le Nat.zero_lt_one h.ok.len.1)
  have k0 := h.at_
  rw [hoff] at k0
  have k0c := k0.c; have k0f := k0.f; have k0l := k0.lt
  have hh := Lib.hid h
  have hcn := h.ok.cnt
  clear h
  go_enter Try.func73, Try.ntmps73
  go_wp2_with fail
  refine (rop_calls w hh.out h9).mono ?_
  rintro e w1 ⟨rfl, hd, hm⟩
  rw [hlive]
  clear k0 k0c k0f k0l
  have hm1 : Mod (RFoot x (some ⟨gl, 0, none⟩) wA) w w1 := hm.mono (fun i hi => .inl hi)
  clear hm
  have hsy := Lib.hid (show syncD D = clearD (withL (opD D) (setTo (opD D) (fun _ => true) (opD D).way.length)) from by rw [setTo_op]; rfl)
  go_upto_region 6 with (fail)
  rw [show D.way.length = (opD D).way.length from rfl] at hcn
  generalize opD D = D1 at *
  go_loopw [3] (fun v3 wr => ∃ k : Nat, k ≤ D1.way.length ∧ v3 = .int .i64 k ∧ Rf wr base x (some ⟨gl, 0, none⟩) lc wA wc (withL D1 (setTo D1 (fun _ => true) k)) ∧ Mod (RFoot x (some ⟨gl, 0, none⟩) wA) w wr) (fun v3 _ => D1.way.length - (intOf v3).toNat)
  case atStart => exact ⟨0, Nat.zero_le _, rfl, hd, hm1⟩
  case round =>
    clear hd hm1
    obtain ⟨k, hk, rfl, hd, hm⟩ := hrel
    have k1 := hd.at_
    rw [show (withL D1 (setTo D1 (fun _ => true) k)).way = D1.way from rfl] at k1
    have hlen := setTo_len D1 (fun _ => true) k
    rw [show (withL D1 (setTo D1 (fun _ => true) k)).l.length = D1.l.length from hlen] at k1
    have hlen1 := hd.ok.len.1
    rw [show (withL D1 (setTo D1 (fun _ => true) k)).l.length = D1.l.length from hlen] at hlen1
    have k1c := k1.c; have k1f := k1.f; have k1l := k1.lt
    by_cases hlt : k < D1.way.length
    · obtain ⟨g, rfl, hg, hgc⟩ := hd.wayc (show 0 < D1.way.length by omega)
      obtain ⟨c1, c2⟩ := hgc k hlt
      have hwa := way_at hd.ok (i := k) hlt
      have hgl := hd.row
      obtain ⟨gl', hgl', hcl⟩ := row_str hd.row (show 0 < (withL D1 (setTo D1 (fun _ => true) k)).l.length from by rw [show (withL D1 (setTo D1 (fun _ => true) k)).l.length = D1.l.length from hlen]; omega)
      injection hgl' with hgl'
      injection hgl' with hgl'
      subst hgl'
      have hyes := Lib.hid (setTo_yes (D := D1) (f := fun _ => true) (k := k) rfl)
      unfold wayAt at c1 c2 hyes
      rw [show (withL D1 (setTo D1 (fun _ => true) k)).way = D1.way from rfl] at c1 c2 hwa
      generalize D1.way.getD k (0, []) = y at *
      have hj0 : (0 : Int) ≤ k := by omega
      have hj1 : (k : Int) < D1.way.length := by omega
      have hy1 : y.1 < D1.l.length := by
        have := hwa.1
        rw [show (withL D1 (setTo D1 (fun _ => true) k)).l.length = D1.l.length from hlen] at this
        exact this
      have hyi0 : (0 : Int) ≤ y.1 := by omega
      have hyi1 : (y.1 : Int) < D1.l.length := by omega
      have hgc0 := hcl y.1 (by rw [show (withL D1 (setTo D1 (fun _ => true) k)).l.length = D1.l.length from hlen]; exact hy1)
      have hgf : wr.frozen? ⟨gl, y.1, none⟩ = false := by
        rcases hd.row.2 with ⟨hv, _⟩ | ⟨g', cap, cur, hv, hb, hat, _⟩
        · injection hv with e; cases e
        · injection hv with e1 _ e3
          injection e1 with e1
          injection e1 with e1
          subst e1
          exact At.f (show At wr gl cur 9 from hat) _
      have hst := Lib.hid (hd.drew.store (j := y.1) (by rw [show (withL D1 (setTo D1 (fun _ => true) k)).l.length = D1.l.length from hlen]; exact hy1) hwa.2)
      have hnx : x ≠ gl := fun e => hd.ne1 (by rw [e]; rfl)
      have hng : g ≠ gl := fun e => by
        rcases ne_ty hd.row hd.way (by decide) with h4 | h4
        · cases h4
        · exact h4 (by rw [e])
      have hSa : wr.drew.cell? ⟨x, 0, none⟩ = some (.slice (some ⟨gl, 0, none⟩) D1.l.length lc) ∧ wr.drew.cell? ⟨x, 1, none⟩ = some (.slice (some ⟨g, 0, none⟩) D1.way.length wc) ∧ wr.drew.cell? ⟨g, k * 2, none⟩ = some (.int .i64 y.1) ∧ wr.drew.cell? ⟨g, k * 2 + 1, none⟩ = some (.string (strL y.2)) := ⟨k1.c 0, k1.c 1, c1, c2⟩
      have hSb := Lib.hid (show (wr.drew.setCell ⟨gl, y.1, none⟩ (.string (strL y.2))).cell? ⟨x, 0, none⟩ = some (.slice (some ⟨gl, 0, none⟩) D1.l.length lc) ∧ (wr.drew.setCell ⟨gl, y.1, none⟩ (.string (strL y.2))).cell? ⟨x, 1, none⟩ = some (.slice (some ⟨g, 0, none⟩) D1.way.length wc) ∧ (wr.drew.setCell ⟨gl, y.1, none⟩ (.string (strL y.2))).cell? ⟨g, k * 2, none⟩ = some (.int .i64 y.1) ∧ (wr.drew.setCell ⟨gl, y.1, none⟩ (.string (strL y.2))).cell? ⟨g, k * 2 + 1, none⟩ = some (.string (strL y.2)) from
        ⟨(World.cell?_of_block (a := ⟨x, 0, none⟩) (Below.heap_setCell _ _ _ _ hnx)).trans hSa.1, (World.cell?_of_block (a := ⟨x, 1, none⟩) (Below.heap_setCell _ _ _ _ hnx)).trans hSa.2.1, (World.cell?_of_block (a := ⟨g, k * 2, none⟩) (Below.heap_setCell _ _ _ _ hng)).trans hSa.2.2.1, (World.cell?_of_block (a := ⟨g, k * 2 + 1, none⟩) (Below.heap_setCell _ _ _ _ hng)).trans hSa.2.2.2⟩)
      have hSa' := Lib.hid hSa
      have hmS : Mod (RFoot x (some ⟨gl, 0, none⟩) (some ⟨g, 0, none⟩)) w (wr.drew.setCell ⟨gl, y.1, none⟩ (.string (strL y.2))) := hm.drew.set (.inl (.inr (.inl rfl))) _
      clear hm hd hcl hgl hgc hwa hSa
      go_upto_region 8 with (fail)
      go_region_held3 (fun w' => w'.cell? ⟨x, 0, none⟩ = some (.slice (some ⟨gl, 0, none⟩) D1.l.length lc) ∧ w'.cell? ⟨x, 1, none⟩ = some (.slice (some ⟨g, 0, none⟩) D1.way.length wc) ∧ w'.cell? ⟨g, k * 2, none⟩ = some (.int .i64 y.1) ∧ w'.cell? ⟨g, k * 2 + 1, none⟩ = some (.string (strL y.2)))
        (first
          | (exact hSa'.out)
          | (exact hSb.out))
        (fail)
      go_wp2
      go_roundw
      case rel => exact ⟨k + 1, hlt, by go_num, by rw [hyes.out]; exact hst.out, hmS⟩
      case measure => simp [intOf]; omega
    · obtain rfl : k = D1.way.length := by omega
      have hcl := Lib.hid hd.clear
      have hmS : Mod (RFoot x (some ⟨gl, 0, none⟩) wA) w (wr.setCell ⟨x, 1, none⟩ (.slice none 0 0)) := hm.set (.inl (.inl rfl)) _
      clear hd hm
      go_wp2
      go_ret
      exact ⟨by first | rfl | simp, by rw [hsy.out]; exact hcl.out, hmS⟩
end Go.Proofs.Ytjgomebnlekddaa
