/- RolesGrow: the printed program of the law answers true at every verb, flag and account. -/
import Derived.Test.YtbpdjcjhdjkinaaPRolesGrowx1
namespace Go.Proofs.Ytbpdjcjhdjkinaa.Pure
open Go.RowKit Go.Proofs.Ytbpdjcjhdjkinaa.PRolesGrow Go.Proofs.YtbpdjcjhdjkinaaW.PrintWords Go.Proofs.YtbpdjcjhdjkinaaW.PrintLast
namespace RolesGrowOwn

def mayB (r v : Int) (own : Bool) (wh fr : Int) : Bool :=
  if r < 1 then false else if r > 3 then false else
  if v = 4 then own else if v = 5 then own else if v = 6 then own else
  if v = 9 then (own || decide (2 ≤ r)) else if v = 10 then decide (2 ≤ r) else if v = 11 then decide (r = 3) else
  if v = 8 then (!own && decide (2 ≤ r) && decide (wh < r)) else if v = 2 then (!own && decide (2 ≤ r) && decide (wh < r)) else
  if v = 1 then ((decide (2 ≤ r) && decide (1 ≤ fr) && decide (fr < r)) || (decide (r = 3) && decide (fr = 3))) else
  if v = 7 then (!own && decide (r = 3) && decide (wh < 3) && decide (1 ≤ fr) && decide (fr ≤ 3)) else false

theorem may_eq (k : Nat) (r v : Int) (own : Bool) (wh fr : Int) : roles_May.f (k + 3) r v own wh fr = some (mayB r v own wh fr) := by
  unfold mayB
  by_cases c1 : r < 1
  · simp [roles_May.f, roles_May.j0, c1]
  by_cases c2 : r > 3
  · simp [roles_May.f, roles_May.j0, c1, c2]
  have c3 : r = 1 ∨ r = 2 ∨ r = 3 := by omega
  by_cases d4 : v = 4
  · subst d4; simp [roles_May.f, roles_May.j0, roles_May.j1, c1, c2]
  by_cases d5 : v = 5
  · subst d5; simp [roles_May.f, roles_May.j0, roles_May.j1, c1, c2]
  by_cases d6 : v = 6
  · subst d6; simp [roles_May.f, roles_May.j0, roles_May.j1, c1, c2]
  by_cases d9 : v = 9
  · subst d9; cases own <;> simp [roles_May.f, roles_May.j0, roles_May.j1, c1, c2]
  by_cases d10 : v = 10
  · subst d10; simp [roles_May.f, roles_May.j0, roles_May.j1, c1, c2]
  by_cases d11 : v = 11
  · subst d11; rcases c3 with rfl | rfl | rfl <;> simp [roles_May.f, roles_May.j0, roles_May.j1]
  by_cases d8 : v = 8
  · subst d8; rcases c3 with rfl | rfl | rfl <;> cases own <;> simp [roles_May.f, roles_May.j0, roles_May.j1, roles_May.j2]
  by_cases d2 : v = 2
  · subst d2; rcases c3 with rfl | rfl | rfl <;> cases own <;> simp [roles_May.f, roles_May.j0, roles_May.j1, roles_May.j2]
  by_cases d1 : v = 1
  · subst d1
    rcases c3 with rfl | rfl | rfl <;> simp only [roles_May.f, roles_May.j0, roles_May.j1, roles_May.j2] <;> simp <;> repeat' split
    all_goals first | rfl | (simp; done) | (simp; omega) | (rw [Option.some_inj, Bool.eq_iff_iff]; simp; omega) | (exfalso; omega)
  by_cases d7 : v = 7
  · subst d7
    rcases c3 with rfl | rfl | rfl <;> cases own <;> simp only [roles_May.f, roles_May.j0, roles_May.j1, roles_May.j2] <;> simp <;> repeat' split
    all_goals first | rfl | (simp; done) | (simp; omega) | (rw [Option.some_inj, Bool.eq_iff_iff]; simp; omega) | (exfalso; omega)
  rcases c3 with rfl | rfl | rfl <;> simp [roles_May.f, roles_May.j0, roles_May.j1, roles_May.j2, d1, d2, d4, d5, d6, d7, d8, d9, d10, d11]

theorem awake_yes (k : Nat) : munimentlaw06_awake.f (k + 3) = some true := by
  simp only [munimentlaw06_awake.f, may_eq, Option.bind_some]; simp [mayB]

end RolesGrowOwn
open RolesGrowOwn

theorem grows (r : Int) (h : 1 ≤ r) (h' : r < 3) (v : Int) (own : Bool) (wh fr : Int) (hm : mayB r v own wh fr = true) : mayB (r + 1) v own wh fr = true := by
  unfold mayB at hm ⊢
  rw [if_neg (by omega), if_neg (by omega)] at hm
  rw [if_neg (by omega), if_neg (by omega)]
  by_cases d4 : v = 4
  · subst d4; simpa using hm
  by_cases d5 : v = 5
  · subst d5; simpa using hm
  by_cases d6 : v = 6
  · subst d6; simpa using hm
  by_cases d9 : v = 9
  · subst d9; simp at hm ⊢; omega
  by_cases d10 : v = 10
  · subst d10; simp at hm ⊢; omega
  by_cases d11 : v = 11
  · subst d11; simp at hm ⊢; omega
  by_cases d8 : v = 8
  · subst d8; cases own <;> simp at hm ⊢; omega
  by_cases d2 : v = 2
  · subst d2; cases own <;> simp at hm ⊢; omega
  by_cases d1 : v = 1
  · subst d1; simp at hm ⊢; omega
  by_cases d7 : v = 7
  · subst d7; cases own <;> simp at hm ⊢; omega
  simp [d1, d2, d4, d5, d6, d7, d8, d9, d10, d11] at hm

theorem RolesGrow : munimentlaw06_RolesGrow.Pure := by
  intro a0 a1 a2 a3 h0 h2 h3
  refine ⟨3, ?_⟩
  clear h0 h2 h3
  simp only [munimentlaw06_RolesGrow.f, awake_yes 0, may_eq 0, Option.bind_some, if_true]
  have g1 := grows 1 (by omega) (by omega) a0 a1 a2 a3
  have g2 := grows 2 (by omega) (by omega) a0 a1 a2 a3
  cases e1 : mayB 1 a0 a1 a2 a3 <;> cases e2 : mayB 2 a0 a1 a2 a3 <;> cases e3 : mayB 3 a0 a1 a2 a3 <;> simp_all

end Go.Proofs.Ytbpdjcjhdjkinaa.Pure
