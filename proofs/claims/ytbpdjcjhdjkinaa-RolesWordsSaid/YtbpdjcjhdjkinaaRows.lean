/-
  No cell of these rows narrows 'for every input' (looked for: loops, veiled, ifaces, maps, wideKeys, modest, calm, conditions, laid).
  DERIVED. THE GIVEN ROWS OF THIS SEAT. 10 by the template 'for every input the law returns true; each argument reads behind the call as it read before'; 0 by the template 'total and deterministic' (their statements: YtbpdjcjhdjkinaaTotals.lean).
  GIVEN WITH THE SEED: the statements are not yours to turn. If you find one false, say at which input.
  Laid BY PROGRAM, IN A SANDBOX (cutbox-rows.mjs): the forced cells as the released guide's own fill.sh prints them over the translation 30f96b541c41a43b… (all of the seat's roots in one cut). By AI agents, Wed Nov 11 2026. No macro, syntax, notation, axiom, sorry.
-/
import Derived.Test.YtbpdjcjhdjkinaaChecked
import GoSem.Claim
import GoSem.ClaimJoined
import GoSem.ClaimMapViews
import Derived.JoinedTies
import Derived.KernelRfl
namespace Go.Proofs.Ytbpdjcjhdjkinaa
/- THE CELL 'sum', in the pinned program and in every row, IS THE sha256 OF THE DUMP (.gsa) THAT YtbpdjcjhdjkinaaProg.lean LOADS. Nothing in Lean hashes anything: it is a label: what it is worth is what the hold of that sum in a sandbox is worth. -/
noncomputable def Try.pinned : Pinned := { name := "ytbpdjcjhdjkinaa", sum := "30f96b541c41a43bd45c46850618260bbe6a083c0ee9ede93b8020307a632b65", checked := Try.checked }
namespace Rows
def none {H : Type} : Left H := { results := [], args := [] }

/-- 'munimentlaw20.LockoutSlow': WHATEVER THE INPUT: true; the input reads as it did. -/
def lockoutSlowSpec : ChangeSpec := { name := "lockoutSlow", fn := fun _ => fun
  | [d1, d2, d3] => { results := [.lit (.bool true)], args := [d1, d2, d3] }
  | _ => none }
def lockoutSlowRow : OpenClaim := { program := "ytbpdjcjhdjkinaa", sum := "30f96b541c41a43bd45c46850618260bbe6a083c0ee9ede93b8020307a632b65", func := "muniment/munimentlaw20.LockoutSlow", spec := "lockoutSlow", apart := false }
def LockoutSlowSaid : Prop := lockoutSlowRow.holds Try.pinned (OpenSpec.ofChange lockoutSlowSpec)

/-- ITS FALSE NEIGHBOUR: 'it returns false'. Refute it at one input. -/
def lockoutSlowWrong : ChangeSpec := { name := "lockoutSlow", fn := fun _ => fun
  | [d1, d2, d3] => { results := [.lit (.bool false)], args := [d1, d2, d3] }
  | _ => none }
def LockoutSlowWrongFalsely : Prop := lockoutSlowRow.holds Try.pinned (OpenSpec.ofChange lockoutSlowWrong)

/-- 'munimentlaw06.RolesMay': WHATEVER THE INPUT: true; the input reads as it did. -/
def rolesMaySpec : ChangeSpec := { name := "rolesMay", fn := fun _ => fun
  | [d1, d2, d3, d4, d5] => { results := [.lit (.bool true)], args := [d1, d2, d3, d4, d5] }
  | _ => none }
def rolesMayRow : OpenClaim := { program := "ytbpdjcjhdjkinaa", sum := "30f96b541c41a43bd45c46850618260bbe6a083c0ee9ede93b8020307a632b65", func := "muniment/munimentlaw06.RolesMay", spec := "rolesMay", apart := false }
def RolesMaySaid : Prop := rolesMayRow.holds Try.pinned (OpenSpec.ofChange rolesMaySpec)

/-- ITS FALSE NEIGHBOUR: 'it returns false'. Refute it at one input. -/
def rolesMayWrong : ChangeSpec := { name := "rolesMay", fn := fun _ => fun
  | [d1, d2, d3, d4, d5] => { results := [.lit (.bool false)], args := [d1, d2, d3, d4, d5] }
  | _ => none }
def RolesMayWrongFalsely : Prop := rolesMayRow.holds Try.pinned (OpenSpec.ofChange rolesMayWrong)

/-- 'munimentlaw06.RolesUp': WHATEVER THE INPUT: true; the input reads as it did. -/
def rolesUpSpec : ChangeSpec := { name := "rolesUp", fn := fun _ => fun
  | [d1, d2, d3, d4, d5] => { results := [.lit (.bool true)], args := [d1, d2, d3, d4, d5] }
  | _ => none }
def rolesUpRow : OpenClaim := { program := "ytbpdjcjhdjkinaa", sum := "30f96b541c41a43bd45c46850618260bbe6a083c0ee9ede93b8020307a632b65", func := "muniment/munimentlaw06.RolesUp", spec := "rolesUp", apart := false }
def RolesUpSaid : Prop := rolesUpRow.holds Try.pinned (OpenSpec.ofChange rolesUpSpec)

/-- ITS FALSE NEIGHBOUR: 'it returns false'. Refute it at one input. -/
def rolesUpWrong : ChangeSpec := { name := "rolesUp", fn := fun _ => fun
  | [d1, d2, d3, d4, d5] => { results := [.lit (.bool false)], args := [d1, d2, d3, d4, d5] }
  | _ => none }
def RolesUpWrongFalsely : Prop := rolesUpRow.holds Try.pinned (OpenSpec.ofChange rolesUpWrong)

/-- 'munimentlaw06.RolesGrow': WHATEVER THE INPUT: true; the input reads as it did. -/
def rolesGrowSpec : ChangeSpec := { name := "rolesGrow", fn := fun _ => fun
  | [d1, d2, d3, d4] => { results := [.lit (.bool true)], args := [d1, d2, d3, d4] }
  | _ => none }
def rolesGrowRow : OpenClaim := { program := "ytbpdjcjhdjkinaa", sum := "30f96b541c41a43bd45c46850618260bbe6a083c0ee9ede93b8020307a632b65", func := "muniment/munimentlaw06.RolesGrow", spec := "rolesGrow", apart := false }
def RolesGrowSaid : Prop := rolesGrowRow.holds Try.pinned (OpenSpec.ofChange rolesGrowSpec)

/-- ITS FALSE NEIGHBOUR: 'it returns false'. Refute it at one input. -/
def rolesGrowWrong : ChangeSpec := { name := "rolesGrow", fn := fun _ => fun
  | [d1, d2, d3, d4] => { results := [.lit (.bool false)], args := [d1, d2, d3, d4] }
  | _ => none }
def RolesGrowWrongFalsely : Prop := rolesGrowRow.holds Try.pinned (OpenSpec.ofChange rolesGrowWrong)

/-- 'munimentlaw06.RolesOwn': WHATEVER THE INPUT: true; the input reads as it did. -/
def rolesOwnSpec : ChangeSpec := { name := "rolesOwn", fn := fun _ => fun
  | [d1, d2, d3, d4] => { results := [.lit (.bool true)], args := [d1, d2, d3, d4] }
  | _ => none }
def rolesOwnRow : OpenClaim := { program := "ytbpdjcjhdjkinaa", sum := "30f96b541c41a43bd45c46850618260bbe6a083c0ee9ede93b8020307a632b65", func := "muniment/munimentlaw06.RolesOwn", spec := "rolesOwn", apart := false }
def RolesOwnSaid : Prop := rolesOwnRow.holds Try.pinned (OpenSpec.ofChange rolesOwnSpec)

/-- ITS FALSE NEIGHBOUR: 'it returns false'. Refute it at one input. -/
def rolesOwnWrong : ChangeSpec := { name := "rolesOwn", fn := fun _ => fun
  | [d1, d2, d3, d4] => { results := [.lit (.bool false)], args := [d1, d2, d3, d4] }
  | _ => none }
def RolesOwnWrongFalsely : Prop := rolesOwnRow.holds Try.pinned (OpenSpec.ofChange rolesOwnWrong)

/-- 'munimentlaw20.LockoutSteps': WHATEVER THE INPUT: true; the input reads as it did. -/
def lockoutStepsSpec : ChangeSpec := { name := "lockoutSteps", fn := fun _ => fun
  | [d1, d2, d3] => { results := [.lit (.bool true)], args := [d1, d2, d3] }
  | _ => none }
def lockoutStepsRow : OpenClaim := { program := "ytbpdjcjhdjkinaa", sum := "30f96b541c41a43bd45c46850618260bbe6a083c0ee9ede93b8020307a632b65", func := "muniment/munimentlaw20.LockoutSteps", spec := "lockoutSteps", apart := false }
def LockoutStepsSaid : Prop := lockoutStepsRow.holds Try.pinned (OpenSpec.ofChange lockoutStepsSpec)

/-- ITS FALSE NEIGHBOUR: 'it returns false'. Refute it at one input. -/
def lockoutStepsWrong : ChangeSpec := { name := "lockoutSteps", fn := fun _ => fun
  | [d1, d2, d3] => { results := [.lit (.bool false)], args := [d1, d2, d3] }
  | _ => none }
def LockoutStepsWrongFalsely : Prop := lockoutStepsRow.holds Try.pinned (OpenSpec.ofChange lockoutStepsWrong)

/-- 'munimentlaw20.LockoutLocks': WHATEVER THE INPUT: true; the input reads as it did. -/
def lockoutLocksSpec : ChangeSpec := { name := "lockoutLocks", fn := fun _ => fun
  | [d1, d2, d3] => { results := [.lit (.bool true)], args := [d1, d2, d3] }
  | _ => none }
def lockoutLocksRow : OpenClaim := { program := "ytbpdjcjhdjkinaa", sum := "30f96b541c41a43bd45c46850618260bbe6a083c0ee9ede93b8020307a632b65", func := "muniment/munimentlaw20.LockoutLocks", spec := "lockoutLocks", apart := false }
def LockoutLocksSaid : Prop := lockoutLocksRow.holds Try.pinned (OpenSpec.ofChange lockoutLocksSpec)

/-- ITS FALSE NEIGHBOUR: 'it returns false'. Refute it at one input. -/
def lockoutLocksWrong : ChangeSpec := { name := "lockoutLocks", fn := fun _ => fun
  | [d1, d2, d3] => { results := [.lit (.bool false)], args := [d1, d2, d3] }
  | _ => none }
def LockoutLocksWrongFalsely : Prop := lockoutLocksRow.holds Try.pinned (OpenSpec.ofChange lockoutLocksWrong)

/-- 'munimentlaw20.LockoutRight': WHATEVER THE INPUT: true; the input reads as it did. -/
def lockoutRightSpec : ChangeSpec := { name := "lockoutRight", fn := fun _ => fun
  | [d1, d2, d3] => { results := [.lit (.bool true)], args := [d1, d2, d3] }
  | _ => none }
def lockoutRightRow : OpenClaim := { program := "ytbpdjcjhdjkinaa", sum := "30f96b541c41a43bd45c46850618260bbe6a083c0ee9ede93b8020307a632b65", func := "muniment/munimentlaw20.LockoutRight", spec := "lockoutRight", apart := false }
def LockoutRightSaid : Prop := lockoutRightRow.holds Try.pinned (OpenSpec.ofChange lockoutRightSpec)

/-- ITS FALSE NEIGHBOUR: 'it returns false'. Refute it at one input. -/
def lockoutRightWrong : ChangeSpec := { name := "lockoutRight", fn := fun _ => fun
  | [d1, d2, d3] => { results := [.lit (.bool false)], args := [d1, d2, d3] }
  | _ => none }
def LockoutRightWrongFalsely : Prop := lockoutRightRow.holds Try.pinned (OpenSpec.ofChange lockoutRightWrong)

/-- 'munimentlaw06.RolesWords': WHATEVER THE INPUT: true; the input reads as it did. -/
def rolesWordsSpec : ChangeSpec := { name := "rolesWords", fn := fun _ => fun
  | [d1, d2] => { results := [.lit (.bool true)], args := [d1, d2] }
  | _ => none }
def rolesWordsRow : OpenClaim := { program := "ytbpdjcjhdjkinaa", sum := "30f96b541c41a43bd45c46850618260bbe6a083c0ee9ede93b8020307a632b65", func := "muniment/munimentlaw06.RolesWords", spec := "rolesWords", apart := false }
def RolesWordsSaid : Prop := rolesWordsRow.holds Try.pinned (OpenSpec.ofChange rolesWordsSpec)

/-- ITS FALSE NEIGHBOUR: 'it returns false'. Refute it at one input. -/
def rolesWordsWrong : ChangeSpec := { name := "rolesWords", fn := fun _ => fun
  | [d1, d2] => { results := [.lit (.bool false)], args := [d1, d2] }
  | _ => none }
def RolesWordsWrongFalsely : Prop := rolesWordsRow.holds Try.pinned (OpenSpec.ofChange rolesWordsWrong)

/-- 'munimentlaw08.RecordSizes': WHATEVER THE INPUT: true; the input reads as it did. -/
def recordSizesSpec : ChangeSpec := { name := "recordSizes", fn := fun _ => fun
  | [d] => { results := [.lit (.bool true)], args := [d] }
  | _ => none }
def recordSizesRow : OpenClaim := { program := "ytbpdjcjhdjkinaa", sum := "30f96b541c41a43bd45c46850618260bbe6a083c0ee9ede93b8020307a632b65", func := "muniment/munimentlaw08.RecordSizes", spec := "recordSizes", apart := false }
def RecordSizesSaid : Prop := recordSizesRow.holds Try.pinned (OpenSpec.ofChange recordSizesSpec)

/-- ITS FALSE NEIGHBOUR: 'it returns false'. Refute it at one input. -/
def recordSizesWrong : ChangeSpec := { name := "recordSizes", fn := fun _ => fun
  | [d] => { results := [.lit (.bool false)], args := [d] }
  | _ => none }
def RecordSizesWrongFalsely : Prop := recordSizesRow.holds Try.pinned (OpenSpec.ofChange recordSizesWrong)

/- THE SECOND FORM. 'bulk': how many values and letters a reading holds, each counted each time it is reached (what is shared counts as often as it is met; a slice's spare places count too). A statement '..UptoSaid' is the law's where the arguments, and the package variables that the reading takes, are together of bulk at most 1048576: NARROWER than '..Said'. Prove '..Said' where nothing that the law and all that it calls make is longer than what came in: it says more and counts as full. Else prove '..UptoSaid'. A law counts once. -/
mutual
def uptoBulk {H : Type} : DataW H → Nat
  | .lit (.string bytes) => bytes.length + 1
  | .lit _ => 1
  | .nil => 1
  | .ptr d => uptoBulk d + 1
  | .slice elems spare => uptoBulkAll elems + uptoBulkAll spare + 1
  | .agg parts => uptoBulkAll parts + 1
  | .iface _ d => uptoBulk d + 1
  | .map entries => uptoBulkEntries entries + 1
  | .held _ => 1
def uptoBulkAll {H : Type} : List (DataW H) → Nat
  | [] => 0
  | d :: r => uptoBulk d + uptoBulkAll r
def uptoBulkEntries {H : Type} : List (Lit × DataW H) → Nat
  | [] => 0
  | x :: r => uptoBulkEntry x + uptoBulkEntries r
def uptoBulkEntry {H : Type} : Lit × DataW H → Nat
  | (.string bytes, d) => bytes.length + uptoBulk d + 1
  | (_, d) => uptoBulk d + 1
 end
def uptoSmall : (H : Type) → List (DataW H) → Bool := fun _ ds => decide (uptoBulkAll ds ≤ 1048576)
def OpenSpec.upto (s : _root_.Go.ChangeSpec) : _root_.Go.OpenSpec := { _root_.Go.OpenSpec.ofChange s with cond := some uptoSmall }

/-- 'munimentlaw20.LockoutSlow', WHERE WHAT IT READS IS OF BULK AT MOST 1048576: true; the input reads as it did. -/
def lockoutSlowUptoRow : OpenClaim := { program := "ytbpdjcjhdjkinaa", sum := "30f96b541c41a43bd45c46850618260bbe6a083c0ee9ede93b8020307a632b65", func := "muniment/munimentlaw20.LockoutSlow", spec := "lockoutSlow", apart := false, narrowed := true }
def LockoutSlowUptoSaid : Prop := lockoutSlowUptoRow.holds Try.pinned (OpenSpec.upto lockoutSlowSpec)

/-- 'munimentlaw06.RolesMay', WHERE WHAT IT READS IS OF BULK AT MOST 1048576: true; the input reads as it did. -/
def rolesMayUptoRow : OpenClaim := { program := "ytbpdjcjhdjkinaa", sum := "30f96b541c41a43bd45c46850618260bbe6a083c0ee9ede93b8020307a632b65", func := "muniment/munimentlaw06.RolesMay", spec := "rolesMay", apart := false, narrowed := true }
def RolesMayUptoSaid : Prop := rolesMayUptoRow.holds Try.pinned (OpenSpec.upto rolesMaySpec)

/-- 'munimentlaw06.RolesUp', WHERE WHAT IT READS IS OF BULK AT MOST 1048576: true; the input reads as it did. -/
def rolesUpUptoRow : OpenClaim := { program := "ytbpdjcjhdjkinaa", sum := "30f96b541c41a43bd45c46850618260bbe6a083c0ee9ede93b8020307a632b65", func := "muniment/munimentlaw06.RolesUp", spec := "rolesUp", apart := false, narrowed := true }
def RolesUpUptoSaid : Prop := rolesUpUptoRow.holds Try.pinned (OpenSpec.upto rolesUpSpec)

/-- 'munimentlaw06.RolesGrow', WHERE WHAT IT READS IS OF BULK AT MOST 1048576: true; the input reads as it did. -/
def rolesGrowUptoRow : OpenClaim := { program := "ytbpdjcjhdjkinaa", sum := "30f96b541c41a43bd45c46850618260bbe6a083c0ee9ede93b8020307a632b65", func := "muniment/munimentlaw06.RolesGrow", spec := "rolesGrow", apart := false, narrowed := true }
def RolesGrowUptoSaid : Prop := rolesGrowUptoRow.holds Try.pinned (OpenSpec.upto rolesGrowSpec)

/-- 'munimentlaw06.RolesOwn', WHERE WHAT IT READS IS OF BULK AT MOST 1048576: true; the input reads as it did. -/
def rolesOwnUptoRow : OpenClaim := { program := "ytbpdjcjhdjkinaa", sum := "30f96b541c41a43bd45c46850618260bbe6a083c0ee9ede93b8020307a632b65", func := "muniment/munimentlaw06.RolesOwn", spec := "rolesOwn", apart := false, narrowed := true }
def RolesOwnUptoSaid : Prop := rolesOwnUptoRow.holds Try.pinned (OpenSpec.upto rolesOwnSpec)

/-- 'munimentlaw20.LockoutSteps', WHERE WHAT IT READS IS OF BULK AT MOST 1048576: true; the input reads as it did. -/
def lockoutStepsUptoRow : OpenClaim := { program := "ytbpdjcjhdjkinaa", sum := "30f96b541c41a43bd45c46850618260bbe6a083c0ee9ede93b8020307a632b65", func := "muniment/munimentlaw20.LockoutSteps", spec := "lockoutSteps", apart := false, narrowed := true }
def LockoutStepsUptoSaid : Prop := lockoutStepsUptoRow.holds Try.pinned (OpenSpec.upto lockoutStepsSpec)

/-- 'munimentlaw20.LockoutLocks', WHERE WHAT IT READS IS OF BULK AT MOST 1048576: true; the input reads as it did. -/
def lockoutLocksUptoRow : OpenClaim := { program := "ytbpdjcjhdjkinaa", sum := "30f96b541c41a43bd45c46850618260bbe6a083c0ee9ede93b8020307a632b65", func := "muniment/munimentlaw20.LockoutLocks", spec := "lockoutLocks", apart := false, narrowed := true }
def LockoutLocksUptoSaid : Prop := lockoutLocksUptoRow.holds Try.pinned (OpenSpec.upto lockoutLocksSpec)

/-- 'munimentlaw20.LockoutRight', WHERE WHAT IT READS IS OF BULK AT MOST 1048576: true; the input reads as it did. -/
def lockoutRightUptoRow : OpenClaim := { program := "ytbpdjcjhdjkinaa", sum := "30f96b541c41a43bd45c46850618260bbe6a083c0ee9ede93b8020307a632b65", func := "muniment/munimentlaw20.LockoutRight", spec := "lockoutRight", apart := false, narrowed := true }
def LockoutRightUptoSaid : Prop := lockoutRightUptoRow.holds Try.pinned (OpenSpec.upto lockoutRightSpec)

/-- 'munimentlaw06.RolesWords', WHERE WHAT IT READS IS OF BULK AT MOST 1048576: true; the input reads as it did. -/
def rolesWordsUptoRow : OpenClaim := { program := "ytbpdjcjhdjkinaa", sum := "30f96b541c41a43bd45c46850618260bbe6a083c0ee9ede93b8020307a632b65", func := "muniment/munimentlaw06.RolesWords", spec := "rolesWords", apart := false, narrowed := true }
def RolesWordsUptoSaid : Prop := rolesWordsUptoRow.holds Try.pinned (OpenSpec.upto rolesWordsSpec)

/-- 'munimentlaw08.RecordSizes', WHERE WHAT IT READS IS OF BULK AT MOST 1048576: true; the input reads as it did. -/
def recordSizesUptoRow : OpenClaim := { program := "ytbpdjcjhdjkinaa", sum := "30f96b541c41a43bd45c46850618260bbe6a083c0ee9ede93b8020307a632b65", func := "muniment/munimentlaw08.RecordSizes", spec := "recordSizes", apart := false, narrowed := true }
def RecordSizesUptoSaid : Prop := recordSizesUptoRow.holds Try.pinned (OpenSpec.upto recordSizesSpec)

end Rows
end Go.Proofs.Ytbpdjcjhdjkinaa
