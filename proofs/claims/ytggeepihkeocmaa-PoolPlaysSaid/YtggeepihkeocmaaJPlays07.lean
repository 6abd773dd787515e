/- Joined texts: DiskS, DiskW. -/
import Derived.Test.YtggeepihkeocmaaJPlays06
/- (*Disk).settle by its contract; Sync and Restart. -/
namespace Go.Proofs.Ytggeepihkeocmaa
set_option linter.unusedVariables false
set_option linter.unusedSimpArgs false
open Go.RowKit
def BoR (w : World) (lo hi : Nat) (A : Option Addr) (n : Nat) (l : List Bool) : Prop := l.length = n ∧ Rd w lo hi A n (fun j => .bool (l.getD j false))
def setTo (D : Dk) (f : Nat → Bool) : Nat → List (List Int)
  | 0 => D.l
  | k + 1 => if f k then (setTo D f k).set (wayAt D k).1 (wayAt D k).2 else setTo D f k
def withL (D : Dk) (l : List (List Int)) : Dk := { D with l := l }
theorem setTo_len (D : Dk) (f : Nat → Bool) : ∀ k, (setTo D f k).length = D.l.length
  | 0 => rfl
  | k + 1 => by
    unfold setTo
    split
    · rw [List.length_set, setTo_len D f k]
    · exact setTo_len D f k
theorem set_split (l : List (List Int)) (i : Nat) (s : List Int) (h : i < l.length) : (l.set i s).flatMap secV = (l.take i).flatMap secV ++ secV s ++ (l.drop (i + 1)).flatMap secV := by
  rw [List.set_eq_take_append_cons_drop, if_pos h]
  simp
theorem Dsk.store {w : World} {d lb m mc : Nat} {pA : Option Addr} {D : Dk} (h : Dsk w d lb pA m mc D) {i : Nat} (hi : i < D.l.length) {s : List Int} (hs : Sec s) : Dsk (w.setCells lb (i * 512) (secV s)) d lb pA m mc (withL D (D.l.set i s)) := by
  have h1 := h.row
  rw [secs_split D.l i hi] at h1
  have h2 := At.setCells (w := w) (secV s) h1 (by rw [secV_len (sec_at h.ok.l hi), secV_len hs])
  rw [secs_len h.ok.l i (by omega)] at h2
  refine ⟨?_, ?_, owns_heap h.way (fun b hb => ?_), h.wl, ⟨fun x hx => ?_, fun x hx => ?_, ?_, h.ok.arm, h.ok.ops, h.ok.cnt⟩⟩
  · show At _ d #[.slice (some ⟨lb, 0, none⟩) (D.l.set i s).length (D.l.set i s).length, .slice pA m mc, .int .i64 D.arm, .bool D.off, .int .i64 D.ops] _
    rw [List.length_set]
    exact h.at_.of_heap (setCells_ne _ _ _ h.ne1)
  · show At _ lb ((D.l.set i s).flatMap secV).toArray _
    rw [set_split D.l i s hi]
    exact h2
  · rw [ownBlk_eq] at hb
    exact setCells_ne _ _ _ (fun e => h.ne3 (by rw [hb, e]))
  · rcases List.mem_or_eq_of_mem_set hx with h3 | h3
    · exact h.ok.l x h3
    · rw [h3]; exact hs
  · have := h.ok.way x hx
    exact ⟨by show x.1 < (D.l.set i s).length; rw [List.length_set]; exact this.1, this.2⟩
  · have := h.ok.len
    show 1 ≤ (D.l.set i s).length ∧ (D.l.set i s).length ≤ 4096
    rw [List.length_set]; exact this
def clearD (D : Dk) : Dk := { D with way := [] }
theorem Dsk.clear {w : World} {d lb m mc : Nat} {pA : Option Addr} {D : Dk} (h : Dsk w d lb pA m mc D) : Dsk (w.setCell ⟨d, 1, none⟩ (.slice none 0 0)) d lb none 0 0 (clearD D) :=
  ⟨(h.at_.set (o := 1) (v := .slice none 0 0)).to (by simp [clearD]), h.row.set_ne h.ne1.symm, World.ownsRow_nil _ _ _ _, rfl, ⟨h.ok.l, fun x hx => absurd hx (by simp [clearD]), h.ok.len, h.ok.arm, h.ok.ops, by simp [clearD]⟩⟩
theorem setTo_yes {D : Dk} {f : Nat → Bool} {k : Nat} (h : f k = true) : setTo D f (k + 1) = (setTo D f k).set (wayAt D k).1 (wayAt D k).2 := if_pos h
theorem setTo_no {D : Dk} {f : Nat → Bool} {k : Nat} (h : f k = false) : setTo D f (k + 1) = setTo D f k := by
  show (if f k then _ else _) = _
  rw [h]; rfl
theorem withL_same (D : Dk) : withL D D.l = D := rfl
theorem Mod.lower {S : Nat → Prop} {a b : World} (h : Mod S a b) {B : Nat} (hS : ∀ i, S i → B ≤ i) (hB : B ≤ a.heap.size) : Below B a b := h.below hB hS
set_option maxRecDepth 100000 in
set_option maxHeartbeats 2000000 in
theorem settle_calls {d lb m mc n kc : Nat} {pA kA : Option Addr} {D : Dk} {kl : List Bool} (all : Bool) (f : Nat → Bool) (w : World) (h : Dsk w d lb pA m mc D) (hk : BoR w 0 w.heap.size kA n kl) (hkd : 0 < n → ∀ b, ownBlk kA = some b → b ≠ d ∧ b ≠ lb) (hf : ∀ k, f k = (all || (decide (k < n) && kl.getD k false))) :
    Calls Try.prog 71 #[.pointer (some ⟨d, 0, none⟩), .slice kA n kc, .bool all] w fun e w' => e = .returned (.tuple #[]) ∧ Dsk w' d lb none 0 0 (clearD (withL D (setTo D f m))) ∧ Mod (fun k => k = d ∨ k = lb) w w' := by
  have k0 := h.at_
  have k0c := k0.c; have k0f := k0.f; have k0l := k0.lt
  have hh := Lib.hid h
  have hwl := Lib.hid h.wl
  have hcn := h.ok.cnt
  rw [hwl.out] at hcn
  have hf' := Lib.hid hf
  have hkd' := Lib.hid hkd
  have hk' := Lib.hid hk
  clear h hf hkd hk
  go_enter Try.func71, Try.ntmps71
  go_upto_region 1 with (fail)
  clear k0 k0c k0f k0l
  go_loopw [6, 7, 13] (fun _ _ v13 wr => ∃ k : Nat, k ≤ m ∧ v13 = .int .i64 k ∧ Dsk wr d lb pA m mc (withL D (setTo D f k)) ∧ Mod (fun k => k = lb) w wr) (fun _ _ v13 _ => m - (intOf v13).toNat)
  case atStart => exact ⟨0, by omega, rfl, hh.out, Mod.refl _ _⟩
  case round =>
    obtain ⟨k, hk, rfl, hd, hm⟩ := hrel
    by_cases hlt : k < m
    · obtain ⟨g, rfl, hg, hmc, hrg⟩ := hd.write hlt
      have hwa := way_at hd.ok (i := k) (by rw [hd.wl]; exact hlt)
      have hyes := Lib.hid (setTo_yes (D := D) (f := f) (k := k))
      have hno := Lib.hid (setTo_no (D := D) (f := f) (k := k))
      unfold wayAt at hyes hno
      have hl4 := hd.ok.len
      rw [show (withL D (setTo D f k)).way = D.way from rfl] at hrg hwa
      generalize D.way.getD k (0, []) = x at *
      obtain ⟨hx1, hxs⟩ := hwa
      have hj0 : (0 : Int) ≤ k := by omega
      have hj1 : (k : Int) < m := by omega
      have hrg' := Lib.hid hrg
      have hxs' := Lib.hid hxs
      have hst := Lib.hid (thereW (WrB.new wr) hxs)
      have hsz := Lib.hid (i109n hxs)
      clear hrg hxs
      go_upto_region 3 with (first
        | (refine wpList_load_mid rfl 128 (.tmp 16) rfl g (k * 513) rfl (wrV x) _ hrg'.out Try.underlying128 rfl hsz.out ?_)
        | (refine wpList_store_mid rfl 128 (.tmp 7) (.tmp 17) rfl wr.heap.size 0 (wrV x).toArray rfl rfl hst.out hsz.out (oneW x) ?_))
      generalize hw2 : World.setCells (wr.alloc _) wr.heap.size 0 _ = w2
      have kW : WrB w2 wr.heap.size x := by rw [← hw2]; exact (WrB.new wr).store hxs'.out
      have hb2 : Below wr.heap.size wr w2 := by rw [← hw2]; exact below_setCells (below_new wr _) (Nat.le_refl _) _ _
      clear hw2 hst hrg' hsz
      have hm2 : Mod (fun k => k = lb) w w2 := hm.trans (T := Nob) (Mod.of_below hb2) (fun _ _ h => h.elim)
      have hnl : wr.heap.size ≠ lb := fun e => by have := hd.row.lt; omega
      have hd2 := hd.later hb2
      have hd0 : w2.cell? ⟨d, 0, none⟩ = some (.slice (some ⟨lb, 0, none⟩) D.l.length D.l.length) := by
        rw [hd2.at_.c]; simp [withL, setTo_len]
      have hx1' : x.1 < (withL D (setTo D f k)).l.length := hx1
      have hxl : (x.1 : Int) < D.l.length := by
        have h9 := hx1
        rw [show (withL D (setTo D f k)).l.length = D.l.length from setTo_len D f k] at h9
        omega
      have hx0 : (0 : Int) ≤ x.1 := by omega
      have kWc := kW.at_
      have hthere : w2.there lb (x.1 * 512) 512 := (hd2.sector hx1').2
      have hSa := Lib.hid (show w2.drew.cell? ⟨d, 0, none⟩ = some (.slice (some ⟨lb, 0, none⟩) D.l.length D.l.length) ∧ w2.drew.cell? ⟨wr.heap.size, 0, none⟩ = some (.int .i64 x.1) ∧ w2.drew.rangeAt wr.heap.size 1 (secV x.2) ∧ w2.drew.there lb (x.1 * 512) 512 from ⟨hd0, kWc, kW.sec, hthere⟩)
      have hSb := Lib.hid (show (w2.drew.setCells lb (x.1 * 512) (secV x.2)).cell? ⟨d, 0, none⟩ = some (.slice (some ⟨lb, 0, none⟩) D.l.length D.l.length) ∧ (w2.drew.setCells lb (x.1 * 512) (secV x.2)).cell? ⟨wr.heap.size, 0, none⟩ = some (.int .i64 x.1) ∧ (w2.drew.setCells lb (x.1 * 512) (secV x.2)).rangeAt wr.heap.size 1 (secV x.2) ∧ (w2.drew.setCells lb (x.1 * 512) (secV x.2)).there lb (x.1 * 512) 512 from
        ⟨(World.cell?_of_block (a := ⟨d, 0, none⟩) (setCells_ne _ _ _ hd2.ne1)).trans hd0, (World.cell?_of_block (a := ⟨wr.heap.size, 0, none⟩) (setCells_ne _ _ _ hnl)).trans kWc, World.rangeAt_setCells_apart (show w2.drew.rangeAt wr.heap.size 1 (secV x.2) from kW.sec) _ _ _ (.inl hnl), World.there_setCells (show w2.drew.there lb (x.1 * 512) 512 from hthere) _ _ _⟩)
      have hu := u107
      have hi7 := i107n hxs'.out
      have hl7 := secV_len hxs'.out
      have ho7 := secV_one x.2
      have hkn : k < n → ∃ gb go' : Nat, kA = some ⟨gb, go', none⟩ ∧ w2.cell? ⟨gb, go' + k, none⟩ = some (.bool (kl.getD k false)) := fun hkn => by
        obtain ⟨gb, go', hA, -, h2, h3⟩ := hk'.out.2 (by omega)
        refine ⟨gb, go', hA, ?_⟩
        rw [← h3 k hkn]
        exact World.cell?_of_block (a := ⟨gb, go' + k, none⟩) (hm2.block gb h2 (fun e => (hkd'.out (by omega) gb (by rw [hA]; rfl)).2 e))
      have hkn' := Lib.hid hkn
      clear hkn hthere kWc hm hd kW
      cases all
      · by_cases hk1 : k < n
        · obtain ⟨gb, go', rfl, hkc⟩ := hkn'.out hk1
          have hk2 : (k : Int) < n := by omega
          generalize hkb : kl.getD k false = kb at *
          cases kb
          · have hfk : f k = false := by rw [hf'.out]; rw [hkb]; simp
            go_wp2
            go_roundw
            case rel => exact ⟨k + 1, by omega, by go_num, by rw [hno.out hfk]; exact hd2, hm2⟩
            case measure => simp [intOf]; omega
          · have hfk : f k = true := by rw [hf'.out]; rw [hkb]; simp [hk1]
            go_upto_region 4 with (fail)
            go_region_held3 (fun w' => w'.cell? ⟨d, 0, none⟩ = some (.slice (some ⟨lb, 0, none⟩) D.l.length D.l.length) ∧ w'.cell? ⟨wr.heap.size, 0, none⟩ = some (.int .i64 x.1) ∧ w'.rangeAt wr.heap.size 1 (secV x.2) ∧ w'.there lb (x.1 * 512) 512)
              (first
                | (exact hSa.out)
                | (exact hSb.out))
              (fail)
            generalize hw3 : World.setCells _ lb _ _ = w3
            have hd3 : Dsk w3 d lb (some ⟨g, 0, none⟩) m mc (withL D ((setTo D f k).set x.1 x.2)) := by rw [← hw3]; exact hd2.drew.store hx1' hxs'.out
            have hm3 : Mod (fun k => k = lb) w w3 := by rw [← hw3]; exact hm2.drew.setCells (.inl rfl) _ _
            clear hw3
            go_wp2
            go_roundw
            case rel => exact ⟨k + 1, by omega, by go_num, by rw [hyes.out hfk]; exact hd3, hm3⟩
            case measure => simp [intOf]; omega
        · have hk2 : ¬ (k : Int) < n := by omega
          have hfk : f k = false := by rw [hf'.out]; simp [hk1]
          go_wp2
          go_roundw
          case rel => exact ⟨k + 1, by omega, by go_num, by rw [hno.out hfk]; exact hd2, hm2⟩
          case measure => simp [intOf]; omega
      · have hfk : f k = true := by rw [hf'.out]; rfl
        go_upto_region 4 with (fail)
        go_region_held3 (fun w' => w'.cell? ⟨d, 0, none⟩ = some (.slice (some ⟨lb, 0, none⟩) D.l.length D.l.length) ∧ w'.cell? ⟨wr.heap.size, 0, none⟩ = some (.int .i64 x.1) ∧ w'.rangeAt wr.heap.size 1 (secV x.2) ∧ w'.there lb (x.1 * 512) 512)
          (first
            | (exact hSa.out)
            | (exact hSb.out))
          (fail)
        generalize hw3 : World.setCells _ lb _ _ = w3
        have hd3 : Dsk w3 d lb (some ⟨g, 0, none⟩) m mc (withL D ((setTo D f k).set x.1 x.2)) := by rw [← hw3]; exact hd2.drew.store hx1' hxs'.out
        have hm3 : Mod (fun k => k = lb) w w3 := by rw [← hw3]; exact hm2.drew.setCells (.inl rfl) _ _
        clear hw3
        go_wp2
        go_roundw
        case rel => exact ⟨k + 1, by omega, by go_num, by rw [hyes.out hfk]; exact hd3, hm3⟩
        case measure => simp [intOf]; omega
    · obtain rfl : k = m := by omega
      have k1 := hd.at_
      have k1c := k1.c; have k1f := k1.f; have k1l := k1.lt
      have hcl := Lib.hid hd.clear
      go_wp2
      refine bodyPost_end (v := .tuple #[]) (by simp [results, Try.results71, go_sem]) rfl ⟨rfl, hcl.out, ?_⟩
      exact Mod.set (S := fun k => k = d ∨ k = lb) (hm.mono (fun i hi => Or.inr hi)) (k := d) (.inl (.inl rfl)) _
end Go.Proofs.Ytggeepihkeocmaa
/- (*Disk).Sync, Restart and Write by their contracts. -/
namespace Go.Proofs.Ytggeepihkeocmaa
set_option linter.unusedVariables false
set_option linter.unusedSimpArgs false
open Go.RowKit
def awayD (D : Dk) : Dk := { D with off := false, arm := 0 }
theorem Dsk.away {w : World} {d lb m mc : Nat} {pA : Option Addr} {D : Dk} (h : Dsk w d lb pA m mc D) : Dsk ((w.setCell ⟨d, 3, none⟩ (.bool false)).setCell ⟨d, 2, none⟩ (.int .i64 0)) d lb pA m mc (awayD D) :=
  ⟨((h.at_.set (o := 3) (v := .bool false)).set (o := 2) (v := .int .i64 0)).to (by simp [awayD]), (h.row.set_ne h.ne1.symm).set_ne h.ne1.symm, owns_heap h.way (fun b hb => by
    rw [ownBlk_eq] at hb
    have hne : b ≠ d := fun e => h.ne2 (by rw [hb, e])
    exact (Below.heap_setCell _ _ _ _ hne).trans (Below.heap_setCell _ _ _ _ hne)), h.wl, ⟨h.ok.l, h.ok.way, h.ok.len, by simp [awayD], h.ok.ops, h.ok.cnt⟩⟩
def keepF (n : Nat) (kl : List Bool) (k : Nat) : Bool := decide (k < n) && kl.getD k false
def restD (D : Dk) (n : Nat) (kl : List Bool) : Dk := awayD (clearD (withL D (setTo D (keepF n kl) D.way.length)))
def FootL (d lb : Nat) (k : Nat) : Prop := k = d ∨ k = lb
set_option maxRecDepth 100000 in
theorem rest_calls {d lb m mc n kc : Nat} {pA kA : Option Addr} {D : Dk} {kl : List Bool} (w : World) (h : Dsk w d lb pA m mc D) (hk : BoR w 0 w.heap.size kA n kl) (hkd : 0 < n → ∀ b, ownBlk kA = some b → b ≠ d ∧ b ≠ lb) :
    Calls Try.prog 25 #[.pointer (some ⟨d, 0, none⟩), .slice kA n kc] w fun e w' => e = .returned (.int .i64 0) ∧ Dsk w' d lb none 0 0 (restD D n kl) ∧ Mod (FootL d lb) w w' := by
  go_enter Try.func25, Try.ntmps25
  go_wp2_with fail
  refine (settle_calls false (keepF n kl) w h hk hkd (fun k => by simp [keepF])).mono ?_
  rintro e w1 ⟨rfl, hd, hm⟩
  have k1 := hd.at_
  have k1c := k1.c; have k1f := k1.f; have k1l := k1.lt
  have haw := Lib.hid hd.away
  go_wp2
  go_ret
  refine ⟨rfl, ?_, ?_⟩
  · unfold restD; rw [h.wl]; exact haw.out
  · exact Mod.set (S := FootL d lb) (Mod.set (S := FootL d lb) (hm.mono (fun i hi => hi)) (k := d) (.inl (.inl rfl)) _) (k := d) (.inl (.inl rfl)) _
theorem setTo_op (D : Dk) (f : Nat → Bool) : ∀ k, setTo (opD D) f k = setTo D f k
  | 0 => rfl
  | k + 1 => by
    unfold setTo
    rw [setTo_op D f k]; rfl
def syncD (D : Dk) : Dk := clearD (withL (opD D) (setTo D (fun _ => true) D.way.length))
set_option maxRecDepth 100000 in
theorem sync_off {d lb m mc : Nat} {pA : Option Addr} {D : Dk} (w : World) (h : Dsk w d lb pA m mc D) (hoff : D.off = true) :
    Calls Try.prog 50 #[.pointer (some ⟨d, 0, none⟩)] w fun e w' => e = .returned (.int .i64 8) ∧ w = w' := by
  have k0 := h.at_
  rw [hoff] at k0
  have k0c := k0.c; have k0f := k0.f; have k0l := k0.lt
  go_enter Try.func50, Try.ntmps50
  go_wp2
  go_ret
  exact ⟨rfl, rfl⟩
set_option maxRecDepth 100000 in
theorem sync_dies {d lb m mc : Nat} {pA : Option Addr} {D : Dk} (w : World) (h : Dsk w d lb pA m mc D) (hoff : D.off = false) (h9 : D.ops < 1000000000) (hdie : (opD D).off = true) :
    Calls Try.prog 50 #[.pointer (some ⟨d, 0, none⟩)] w fun e w' => e = .returned (.int .i64 8) ∧ Dsk w' d lb pA m mc (opD D) ∧ Mod (FootL d lb) w w' := by
  have k0 := h.at_
  rw [hoff] at k0
  have k0c := k0.c; have k0f := k0.f; have k0l := k0.lt
  go_enter Try.func50, Try.ntmps50
  go_wp2_with fail
  refine (begin_calls w h h9).mono ?_
  rintro e w1 ⟨rfl, hd, hm⟩
  rw [hdie]
  go_wp2
  go_ret
  exact ⟨rfl, hd, hm.mono (fun i hi => Or.inl hi)⟩
set_option maxRecDepth 100000 in
theorem sync_calls {d lb m mc : Nat} {pA : Option Addr} {D : Dk} (w : World) (h : Dsk w d lb pA m mc D) (hoff : D.off = false) (h9 : D.ops < 1000000000) (hlive : (opD D).off = false) :
    Calls Try.prog 50 #[.pointer (some ⟨d, 0, none⟩)] w fun e w' => e = .returned (.int .i64 0) ∧ Dsk w' d lb none 0 0 (syncD D) ∧ Mod (FootL d lb) w w' := by
  have k0 := h.at_
  rw [hoff] at k0
  have k0c := k0.c; have k0f := k0.f; have k0l := k0.lt
  go_enter Try.func50, Try.ntmps50
  go_wp2_with fail
  refine (begin_calls w h h9).mono ?_
  rintro e w1 ⟨rfl, hd, hm⟩
  rw [hlive]
  go_wp2_with fail
  refine (settle_calls (n := 0) (kc := 0) (kA := none) (kl := []) true (fun _ => true) w1 hd ⟨rfl, Rd.nil _ _ _ _ _⟩ (fun h => absurd h (by omega)) (fun k => rfl)).mono ?_
  rintro e w2 ⟨rfl, hd2, hm2⟩
  go_wp2
  go_ret
  refine ⟨rfl, ?_, (hm.mono (fun i hi => Or.inl hi)).trans hm2 (fun i _ hi => hi)⟩
  unfold syncD
  rw [setTo_op] at hd2
  rw [h.wl]
  exact hd2
end Go.Proofs.Ytggeepihkeocmaa
