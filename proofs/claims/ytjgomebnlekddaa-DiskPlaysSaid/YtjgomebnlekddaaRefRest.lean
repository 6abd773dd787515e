/- The reference disk's Restart by its contract. -/
import Derived.Test.YtjgomebnlekddaaRefSync
namespace Go.Proofs.Ytjgomebnlekddaa
set_option linter.unusedVariables false
set_option linter.unusedSimpArgs false
open Go.RowKit
theorem Rf.away {w : World} {base x lc wc : Nat} {lA wA : Option Addr} {D : Dk} (h : Rf w base x lA lc wA wc D) : Rf ((w.setCell ⟨x, 3, none⟩ (.bool false)).setCell ⟨x, 2, none⟩ (.int .i64 0)) base x lA lc wA wc (awayD D) :=
  have hm := ((Mod.refl (fun k => k = x) w).set (k := x) (o := 3) (.inl rfl) (.bool false)).set (k := x) (o := 2) (.inl rfl) (.int .i64 0)
  ⟨((h.at_.set (o := 3) (v := .bool false)).set (o := 2) (v := .int .i64 0)).to (by simp [awayD]), owns_mod2 h.row hm (fun b hb e => h.ne1 (by rw [hb, e])), owns_mod2 h.way hm (fun b hb e => h.ne2 (by rw [hb, e])), ⟨h.ok.l, h.ok.way, h.ok.len, by simp [awayD], h.ok.ops, h.ok.cnt⟩, h.hx⟩
set_option maxRecDepth 100000 in
set_option maxHeartbeats 4000000 in
theorem rrest_calls {base x lc wc n kc : Nat} {lA wA kA : Option Addr} {D : Dk} {kl : List Bool} (w : World) (h : Rf w base x lA lc wA wc D) (hk : BoR w 0 w.heap.size kA n kl) (hkd : 0 < n → ∀ b, ownBlk kA = some b → ¬ RFoot x lA wA b) :
    Calls Try.prog 56 #[.pointer (some ⟨x, 0, none⟩), .slice kA n kc] w fun e w' => e = .returned (.tuple #[]) ∧ Rf w' base x lA lc none 0 (restD D n kl) ∧ Mod (RFoot x lA wA) w w' := by
  obtain ⟨gl, rfl, -⟩ := row_str h.row (Nat.lt_of_lt_of_le Nat.zero_lt_one h.ok.len.1)
  have hcn := h.ok.cnt
  have hd := h
  have hk' := Lib.hid hk
  have hkd' := Lib.hid hkd
  have hm1 := Mod.refl (RFoot x (some ⟨gl, 0, none⟩) wA) w
  clear h hk hkd
  go_enter Try.func56, Try.ntmps56
  go_upto_region 1 with (fail)
  go_loopw [4] (fun v4 wr => ∃ k : Nat, k ≤ D.way.length ∧ v4 = .int .i64 k ∧ Rf wr base x (some ⟨gl, 0, none⟩) lc wA wc (withL D (setTo D (keepF n kl) k)) ∧ Mod (RFoot x (some ⟨gl, 0, none⟩) wA) w wr) (fun v4 _ => D.way.length - (intOf v4).toNat)
  case atStart => exact ⟨0, Nat.zero_le _, rfl, hd, hm1⟩
  case round =>
    clear hd hm1
    obtain ⟨k, hk, rfl, hd, hm⟩ := hrel
    have k1 := hd.at_
    rw [show (withL D (setTo D (keepF n kl) k)).way = D.way from rfl] at k1
    have hlen := setTo_len D (keepF n kl) k
    rw [show (withL D (setTo D (keepF n kl) k)).l.length = D.l.length from hlen] at k1
    have hlen1 := hd.ok.len.1
    rw [show (withL D (setTo D (keepF n kl) k)).l.length = D.l.length from hlen] at hlen1
    have k1c := k1.c; have k1f := k1.f; have k1l := k1.lt
    by_cases hlt : k < D.way.length
    · obtain ⟨g, rfl, hg, hgc⟩ := hd.wayc (show 0 < D.way.length by omega)
      obtain ⟨c1, c2⟩ := hgc k hlt
      have hwa := way_at hd.ok (i := k) hlt
      have hgl := hd.row
      obtain ⟨gl', hgl', hcl⟩ := row_str hd.row (show 0 < (withL D (setTo D (keepF n kl) k)).l.length from by rw [show (withL D (setTo D (keepF n kl) k)).l.length = D.l.length from hlen]; omega)
      injection hgl' with hgl'
      injection hgl' with hgl'
      subst hgl'
      have hyes := Lib.hid (setTo_yes (D := D) (f := keepF n kl) (k := k))
      have hno := Lib.hid (setTo_no (D := D) (f := keepF n kl) (k := k))
      unfold wayAt at c1 c2 hyes hno
      rw [show (withL D (setTo D (keepF n kl) k)).way = D.way from rfl] at c1 c2 hwa
      generalize D.way.getD k (0, []) = y at *
      have hj0 : (0 : Int) ≤ k := by omega
      have hj1 : (k : Int) < D.way.length := by omega
      have hy1 : y.1 < D.l.length := by
        have := hwa.1
        rw [show (withL D (setTo D (keepF n kl) k)).l.length = D.l.length from hlen] at this
        exact this
      have hyi0 : (0 : Int) ≤ y.1 := by omega
      have hyi1 : (y.1 : Int) < D.l.length := by omega
      have hgc0 := hcl y.1 (by rw [show (withL D (setTo D (keepF n kl) k)).l.length = D.l.length from hlen]; exact hy1)
      have hgf : wr.frozen? ⟨gl, y.1, none⟩ = false := by
        rcases hd.row.2 with ⟨hv, _⟩ | ⟨g', cap, cur, hv, hb, hat, _⟩
        · injection hv with e; cases e
        · injection hv with e1 _ e3
          injection e1 with e1
          injection e1 with e1
          subst e1
          exact At.f (show At wr gl cur 9 from hat) _
      have hst := Lib.hid (hd.drew.store (j := y.1) (by rw [show (withL D (setTo D (keepF n kl) k)).l.length = D.l.length from hlen]; exact hy1) hwa.2)
      have hnx : x ≠ gl := fun e => hd.ne1 (by rw [e]; rfl)
      have hng : g ≠ gl := fun e => by
        rcases ne_ty hd.row hd.way (by decide) with h4 | h4
        · cases h4
        · exact h4 (by rw [e])
      have hSa : wr.drew.cell? ⟨x, 0, none⟩ = some (.slice (some ⟨gl, 0, none⟩) D.l.length lc) ∧ wr.drew.cell? ⟨x, 1, none⟩ = some (.slice (some ⟨g, 0, none⟩) D.way.length wc) ∧ wr.drew.cell? ⟨g, k * 2, none⟩ = some (.int .i64 y.1) ∧ wr.drew.cell? ⟨g, k * 2 + 1, none⟩ = some (.string (strL y.2)) := ⟨k1.c 0, k1.c 1, c1, c2⟩
      have hSb := Lib.hid (show (wr.drew.setCell ⟨gl, y.1, none⟩ (.string (strL y.2))).cell? ⟨x, 0, none⟩ = some (.slice (some ⟨gl, 0, none⟩) D.l.length lc) ∧ (wr.drew.setCell ⟨gl, y.1, none⟩ (.string (strL y.2))).cell? ⟨x, 1, none⟩ = some (.slice (some ⟨g, 0, none⟩) D.way.length wc) ∧ (wr.drew.setCell ⟨gl, y.1, none⟩ (.string (strL y.2))).cell? ⟨g, k * 2, none⟩ = some (.int .i64 y.1) ∧ (wr.drew.setCell ⟨gl, y.1, none⟩ (.string (strL y.2))).cell? ⟨g, k * 2 + 1, none⟩ = some (.string (strL y.2)) from
        ⟨(World.cell?_of_block (a := ⟨x, 0, none⟩) (Below.heap_setCell _ _ _ _ hnx)).trans hSa.1, (World.cell?_of_block (a := ⟨x, 1, none⟩) (Below.heap_setCell _ _ _ _ hnx)).trans hSa.2.1, (World.cell?_of_block (a := ⟨g, k * 2, none⟩) (Below.heap_setCell _ _ _ _ hng)).trans hSa.2.2.1, (World.cell?_of_block (a := ⟨g, k * 2 + 1, none⟩) (Below.heap_setCell _ _ _ _ hng)).trans hSa.2.2.2⟩)
      have hSa' := Lib.hid hSa
      have hmS : Mod (RFoot x (some ⟨gl, 0, none⟩) (some ⟨g, 0, none⟩)) w (wr.drew.setCell ⟨gl, y.1, none⟩ (.string (strL y.2))) := hm.drew.set (.inl (.inr (.inl rfl))) _
      have hd' := Lib.hid hd
      have hm' := Lib.hid hm
      have hkn' := Lib.hid (fun hkn : k < n => show ∃ gb go' : Nat, kA = some ⟨gb, go', none⟩ ∧ wr.cell? ⟨gb, go' + k, none⟩ = some (.bool (kl.getD k false)) from by
        obtain ⟨gb, go', hA, -, h2, h3⟩ := hk'.out.2 (by omega)
        refine ⟨gb, go', hA, ?_⟩
        rw [← h3 k hkn]
        exact World.cell?_of_block (a := ⟨gb, go' + k, none⟩) (hm.block gb h2 (fun e => hkd'.out (by omega) gb (by rw [hA]; rfl) e)))
      clear hm hd hcl hgl hgc hwa hSa
      by_cases hk1 : k < n
      · obtain ⟨gb, go', rfl, hkc⟩ := hkn'.out hk1
        have hk2 : (k : Int) < n := by omega
        have hkf : keepF n kl k = kl.getD k false := by simp [keepF, hk1]
        generalize kl.getD k false = kb at *
        cases kb
        · have hfk := Lib.hid hkf
          replace hfk := hfk.out
          clear hkf
          go_wp2
          go_roundw
          case rel => exact ⟨k + 1, hlt, by go_num, by rw [hno.out hfk]; exact hd'.out, hm'.out⟩
          case measure => simp [intOf]; omega
        · have hfk := hkf
          clear hkf
          go_upto_region 4 with (fail)
          go_region_held3 (fun w' => w'.cell? ⟨x, 0, none⟩ = some (.slice (some ⟨gl, 0, none⟩) D.l.length lc) ∧ w'.cell? ⟨x, 1, none⟩ = some (.slice (some ⟨g, 0, none⟩) D.way.length wc) ∧ w'.cell? ⟨g, k * 2, none⟩ = some (.int .i64 y.1) ∧ w'.cell? ⟨g, k * 2 + 1, none⟩ = some (.string (strL y.2)))
            (first
              | (exact hSa'.out)
              | (exact hSb.out))
            (fail)
          go_wp2
          go_roundw
          case rel => exact ⟨k + 1, hlt, by go_num, by rw [hyes.out hfk]; exact hst.out, hmS⟩
          case measure => simp [intOf]; omega
      · have hk2 : ¬ (k : Int) < n := by omega
        have hfk : keepF n kl k = false := by simp [keepF, hk1]
        go_wp2
        go_roundw
        case rel => exact ⟨k + 1, hlt, by go_num, by rw [hno.out hfk]; exact hd'.out, hm'.out⟩
        case measure => simp [intOf]; omega
    · obtain rfl : k = D.way.length := by omega
      have hcl := Lib.hid hd.clear.away
      have hmS : Mod (RFoot x (some ⟨gl, 0, none⟩) wA) w (((wr.setCell ⟨x, 1, none⟩ (.slice none 0 0)).setCell ⟨x, 3, none⟩ (.bool false)).setCell ⟨x, 2, none⟩ (.int .i64 0)) := ((hm.set (.inl (.inl rfl)) _).set (.inl (.inl rfl)) _).set (.inl (.inl rfl)) _
      clear hd hm
      go_wp2
      refine bodyPost_end (v := .tuple #[]) (by simp [results, Try.results56, go_sem]) rfl ⟨rfl, hcl.out, hmS⟩
end Go.Proofs.Ytjgomebnlekddaa
