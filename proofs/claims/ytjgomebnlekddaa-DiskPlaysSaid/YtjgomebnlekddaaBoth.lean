/- The two disks side by side: the same plain meaning, memory apart. -/
import Derived.Test.YtjgomebnlekddaaRefNew
import Derived.Test.YtjgomebnlekddaaDiskMore
namespace Go.Proofs.Ytjgomebnlekddaa
set_option linter.unusedVariables false
set_option linter.unusedSimpArgs false
open Go.RowKit
theorem feet_apart {w : World} {base d lb m mc x lc wc : Nat} {pA lA wA : Option Addr} {D D' : Dk} (h : Dsk w d lb pA m mc D) (r : Rf w base x lA lc wA wc D') : ∀ k, RFoot x lA wA k → ¬ Foot d lb pA k := by
  intro k hr hf
  rcases hf with rfl | rfl | hf
  · rcases hr with rfl | hr | hr
    · exact absurd (h.at_.inj r.at_) (by decide)
    · exact h.at_.ne_own r.row (by decide) hr
    · exact h.at_.ne_own r.way (by decide) hr
  · rcases hr with rfl | hr | hr
    · exact absurd (h.row.inj r.at_) (by decide)
    · exact h.row.ne_own r.row (by decide) hr
    · exact h.row.ne_own r.way (by decide) hr
  · rcases hr with rfl | hr | hr
    · exact r.at_.ne_own h.way (by decide) hf
    · rcases ne_ty h.way r.row (by decide) with h4 | h4
      · rw [h4] at hf; cases hf
      · exact h4 (hf.trans hr.symm)
    · rcases ne_ty h.way r.way (by decide) with h4 | h4
      · rw [h4] at hf; cases hf
      · exact h4 (hf.trans hr.symm)
/-- After a step of the program's disk, the reference's stands as it was. -/
theorem Rf.over {w w' : World} {base d lb m mc x lc wc : Nat} {pA lA wA : Option Addr} {D D' : Dk} (r : Rf w base x lA lc wA wc D') (h : Dsk w d lb pA m mc D) (hm : Mod (Foot d lb pA) w w') : Rf w' base x lA lc wA wc D' :=
  r.mod hm (fun k hk => feet_apart h r k hk)
/-- After a step of the reference's disk, the program's stands as it was. -/
theorem DskB.over {w w' : World} {base d lb m mc x lc wc : Nat} {pA lA wA : Option Addr} {D D' : Dk} (h : DskB w base d lb pA m mc D) (r : Rf w base x lA lc wA wc D') (hm : Mod (RFoot x lA wA) w w') : DskB w' base d lb pA m mc D :=
  ⟨h.k.mod hm (fun e => feet_apart h.k r _ e (.inl rfl)) (fun e => feet_apart h.k r _ e (.inr (.inl rfl))) (fun k hk e => feet_apart h.k r k e (.inr (.inr hk))), h.hd, h.hl, h.hp⟩
theorem Rf.foot {w : World} {base x lc wc : Nat} {lA wA : Option Addr} {D : Dk} (r : Rf w base x lA lc wA wc D) : ∀ k, RFoot x lA wA k → base ≤ k := by
  intro k hk
  rcases hk with rfl | hk | hk
  · exact r.hx
  · exact (r.row.lt k (by rw [ownBlk_eq]; exact hk)).1
  · exact (r.way.lt k (by rw [ownBlk_eq]; exact hk)).1
theorem DkOk.opOps {D : Dk} : (opD D).ops = D.ops + 1 ∧ (opD D).way = D.way ∧ (opD D).l = D.l := ⟨rfl, rfl, rfl⟩
end Go.Proofs.Ytjgomebnlekddaa
