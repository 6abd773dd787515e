/- Joined texts: DiskW. -/
import Derived.Test.YtnehppeoffemlaaJLogRings16
/- (*Disk).Sync, Restart and Write by their contracts. -/
namespace Go.Proofs.Ytnehppeoffemlaa
set_option linter.unusedVariables false
set_option linter.unusedSimpArgs false
open Go.RowKit
def awayD (D : Dk) : Dk := { D with off := false, arm := 0 }
theorem Dsk.away {w : World} {d lb m mc : Nat} {pA : Option Addr} {D : Dk} (h : Dsk w d lb pA m mc D) : Dsk ((w.setCell ⟨d, 3, none⟩ (.bool false)).setCell ⟨d, 2, none⟩ (.int .i64 0)) d lb pA m mc (awayD D) :=
  ⟨((h.at_.set (o := 3) (v := .bool false)).set (o := 2) (v := .int .i64 0)).to (by simp [awayD]), (h.row.set_ne h.ne1.symm).set_ne h.ne1.symm, owns_heap h.way (fun b hb => by
    rw [ownBlk_eq] at hb
    have hne : b ≠ d := fun e => h.ne2 (by rw [hb, e])
    exact (Below.heap_setCell _ _ _ _ hne).trans (Below.heap_setCell _ _ _ _ hne)), h.wl, ⟨h.ok.l, h.ok.way, h.ok.len, by simp [awayD], h.ok.ops, h.ok.cnt⟩⟩
def keepF (n : Nat) (kl : List Bool) (k : Nat) : Bool := decide (k < n) && kl.getD k false
def restD (D : Dk) (n : Nat) (kl : List Bool) : Dk := awayD (clearD (withL D (setTo D (keepF n kl) D.way.length)))
def FootL (d lb : Nat) (k : Nat) : Prop := k = d ∨ k = lb
set_option maxRecDepth 100000 in
theorem rest_calls {d lb m mc n kc : Nat} {pA kA : Option Addr} {D : Dk} {kl : List Bool} (w : World) (h : Dsk w d lb pA m mc D) (hk : BoR w 0 w.heap.size kA n kl) (hkd : 0 < n → ∀ b, ownBlk kA = some b → b ≠ d ∧ b ≠ lb) :
    Calls Try.prog 22 #[.pointer (some ⟨d, 0, none⟩), .slice kA n kc] w fun e w' => e = .returned (.int .i64 0) ∧ Dsk w' d lb none 0 0 (restD D n kl) ∧ Mod (FootL d lb) w w' := by
  go_enter Try.func22, Try.ntmps22
  go_wp2_with fail
  refine (settle_calls false (keepF n kl) w h hk hkd (fun k => by simp [keepF])).mono ?_
  rintro e w1 ⟨rfl, hd, hm⟩
  have k1 := hd.at_
  have k1c := k1.c; have k1f := k1.f; have k1l := k1.lt
  have haw := Lib.hid hd.away
  go_wp2
  go_ret
  refine ⟨rfl, ?_, ?_⟩
  · unfold restD; rw [h.wl]; exact haw.out
  · exact Mod.set (S := FootL d lb) (Mod.set (S := FootL d lb) (hm.mono (fun i hi => hi)) (k := d) (.inl (.inl rfl)) _) (k := d) (.inl (.inl rfl)) _
theorem setTo_op (D : Dk) (f : Nat → Bool) : ∀ k, setTo (opD D) f k = setTo D f k
  | 0 => rfl
  | k + 1 => by
    unfold setTo
    rw [setTo_op D f k]; rfl
def syncD (D : Dk) : Dk := clearD (withL (opD D) (setTo D (fun _ => true) D.way.length))
set_option maxRecDepth 100000 in
theorem sync_off {d lb m mc : Nat} {pA : Option Addr} {D : Dk} (w : World) (h : Dsk w d lb pA m mc D) (hoff : D.off = true) :
    Calls Try.prog 51 #[.pointer (some ⟨d, 0, none⟩)] w fun e w' => e = .returned (.int .i64 8) ∧ w = w' := by
  have k0 := h.at_
  rw [hoff] at k0
  have k0c := k0.c; have k0f := k0.f; have k0l := k0.lt
  go_enter Try.func51, Try.ntmps51
  go_wp2
  go_ret
  exact ⟨rfl, rfl⟩
set_option maxRecDepth 100000 in
theorem sync_dies {d lb m mc : Nat} {pA : Option Addr} {D : Dk} (w : World) (h : Dsk w d lb pA m mc D) (hoff : D.off = false) (h9 : D.ops < 1000000000) (hdie : (opD D).off = true) :
    Calls Try.prog 51 #[.pointer (some ⟨d, 0, none⟩)] w fun e w' => e = .returned (.int .i64 8) ∧ Dsk w' d lb pA m mc (opD D) ∧ Mod (FootL d lb) w w' := by
  have k0 := h.at_
  rw [hoff] at k0
  have k0c := k0.c; have k0f := k0.f; have k0l := k0.lt
  go_enter Try.func51, Try.ntmps51
  go_wp2_with fail
  refine (begin_calls w h h9).mono ?_
  rintro e w1 ⟨rfl, hd, hm⟩
  rw [hdie]
  go_wp2
  go_ret
  exact ⟨rfl, hd, hm.mono (fun i hi => Or.inl hi)⟩
set_option maxRecDepth 100000 in
theorem sync_calls {d lb m mc : Nat} {pA : Option Addr} {D : Dk} (w : World) (h : Dsk w d lb pA m mc D) (hoff : D.off = false) (h9 : D.ops < 1000000000) (hlive : (opD D).off = false) :
    Calls Try.prog 51 #[.pointer (some ⟨d, 0, none⟩)] w fun e w' => e = .returned (.int .i64 0) ∧ Dsk w' d lb none 0 0 (syncD D) ∧ Mod (FootL d lb) w w' := by
  have k0 := h.at_
  rw [hoff] at k0
  have k0c := k0.c; have k0f := k0.f; have k0l := k0.lt
  go_enter Try.func51, Try.ntmps51
  go_wp2_with fail
  refine (begin_calls w h h9).mono ?_
  rintro e w1 ⟨rfl, hd, hm⟩
  rw [hlive]
  go_wp2_with fail
  refine (settle_calls (n := 0) (kc := 0) (kA := none) (kl := []) true (fun _ => true) w1 hd ⟨rfl, Rd.nil _ _ _ _ _⟩ (fun h => absurd h (by omega)) (fun k => rfl)).mono ?_
  rintro e w2 ⟨rfl, hd2, hm2⟩
  go_wp2
  go_ret
  refine ⟨rfl, ?_, (hm.mono (fun i hi => Or.inl hi)).trans hm2 (fun i _ hi => hi)⟩
  unfold syncD
  rw [setTo_op] at hd2
  rw [h.wl]
  exact hd2
end Go.Proofs.Ytnehppeoffemlaa
