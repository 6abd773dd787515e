/-
  No cell of these rows narrows 'for every input' (looked for: loops, veiled, ifaces, maps, wideKeys, modest, calm, conditions, laid).
  DERIVED. THE GIVEN ROWS OF THIS SEAT. 11 by the template 'for every input the law returns true; each argument reads behind the call as it read before'; 0 by the template 'total and deterministic' (their statements: YtggeepihkeocmaaTotals.lean).
  GIVEN WITH THE SEED: the statements are not yours to turn. If you find one false, say at which input.
  Laid BY PROGRAM, IN A SANDBOX (cutbox-rows.mjs): the forced cells as the released guide's own fill.sh prints them over the translation 5e83976be45f8dde… (all of the seat's roots in one cut). By AI agents, Wed Nov 11 2026. No macro, syntax, notation, axiom, sorry.
-/
import Derived.Test.YtggeepihkeocmaaChecked
import GoSem.Claim
import GoSem.ClaimJoined
import GoSem.ClaimMapViews
import Derived.JoinedTies
import Derived.KernelRfl
namespace Go.Proofs.Ytggeepihkeocmaa
/- THE CELL 'sum', in the pinned program and in every row, IS THE sha256 OF THE DUMP (.gsa) THAT YtggeepihkeocmaaProg.lean LOADS. Nothing in Lean hashes anything: it is a label: what it is worth is what the hold of that sum in a sandbox is worth. -/
noncomputable def Try.pinned : Pinned := { name := "ytggeepihkeocmaa", sum := "5e83976be45f8dde766ba386f4c53c630c3afc92caf608ecbea702dc81128dd0", checked := Try.checked }
namespace Rows
def none {H : Type} : Left H := { results := [], args := [] }

/-- 'munimentlaw11.PoolPins': WHATEVER THE INPUT: true; the input reads as it did. -/
def poolPinsSpec : ChangeSpec := { name := "poolPins", fn := fun _ => fun
  | [d] => { results := [.lit (.bool true)], args := [d] }
  | _ => none }
def poolPinsRow : OpenClaim := { program := "ytggeepihkeocmaa", sum := "5e83976be45f8dde766ba386f4c53c630c3afc92caf608ecbea702dc81128dd0", func := "muniment/munimentlaw11.PoolPins", spec := "poolPins", unfollowed := true, recurses := true, apart := false }
def PoolPinsSaid : Prop := poolPinsRow.holds Try.pinned (OpenSpec.ofChange poolPinsSpec)

/-- ITS FALSE NEIGHBOUR: 'it returns false'. Refute it at one input. -/
def poolPinsWrong : ChangeSpec := { name := "poolPins", fn := fun _ => fun
  | [d] => { results := [.lit (.bool false)], args := [d] }
  | _ => none }
def PoolPinsWrongFalsely : Prop := poolPinsRow.holds Try.pinned (OpenSpec.ofChange poolPinsWrong)

/-- 'munimentlaw11.PoolSteals': WHATEVER THE INPUT: true; the input reads as it did. -/
def poolStealsSpec : ChangeSpec := { name := "poolSteals", fn := fun _ => fun
  | [d1, d2, d3] => { results := [.lit (.bool true)], args := [d1, d2, d3] }
  | _ => none }
def poolStealsRow : OpenClaim := { program := "ytggeepihkeocmaa", sum := "5e83976be45f8dde766ba386f4c53c630c3afc92caf608ecbea702dc81128dd0", func := "muniment/munimentlaw11.PoolSteals", spec := "poolSteals", unfollowed := true, recurses := true, apart := false }
def PoolStealsSaid : Prop := poolStealsRow.holds Try.pinned (OpenSpec.ofChange poolStealsSpec)

/-- ITS FALSE NEIGHBOUR: 'it returns false'. Refute it at one input. -/
def poolStealsWrong : ChangeSpec := { name := "poolSteals", fn := fun _ => fun
  | [d1, d2, d3] => { results := [.lit (.bool false)], args := [d1, d2, d3] }
  | _ => none }
def PoolStealsWrongFalsely : Prop := poolStealsRow.holds Try.pinned (OpenSpec.ofChange poolStealsWrong)

/-- 'munimentlaw11.PoolErrs': WHATEVER THE INPUT: true; the input reads as it did. -/
def poolErrsSpec : ChangeSpec := { name := "poolErrs", fn := fun _ => fun
  | [d1, d2, d3, d4, d5, d6] => { results := [.lit (.bool true)], args := [d1, d2, d3, d4, d5, d6] }
  | _ => none }
def poolErrsRow : OpenClaim := { program := "ytggeepihkeocmaa", sum := "5e83976be45f8dde766ba386f4c53c630c3afc92caf608ecbea702dc81128dd0", func := "muniment/munimentlaw11.PoolErrs", spec := "poolErrs", inPlace := ["maps.clone"], unfollowed := true, recurses := true, apart := false }
def PoolErrsSaid : Prop := poolErrsRow.holds Try.pinned (OpenSpec.ofChange poolErrsSpec)

/-- ITS FALSE NEIGHBOUR: 'it returns false'. Refute it at one input. -/
def poolErrsWrong : ChangeSpec := { name := "poolErrs", fn := fun _ => fun
  | [d1, d2, d3, d4, d5, d6] => { results := [.lit (.bool false)], args := [d1, d2, d3, d4, d5, d6] }
  | _ => none }
def PoolErrsWrongFalsely : Prop := poolErrsRow.holds Try.pinned (OpenSpec.ofChange poolErrsWrong)

/-- 'munimentlaw11.PoolPlays': WHATEVER THE INPUT: true; the input reads as it did. -/
def poolPlaysSpec : ChangeSpec := { name := "poolPlays", fn := fun _ => fun
  | [d1, d2, d3] => { results := [.lit (.bool true)], args := [d1, d2, d3] }
  | _ => none }
def poolPlaysRow : OpenClaim := { program := "ytggeepihkeocmaa", sum := "5e83976be45f8dde766ba386f4c53c630c3afc92caf608ecbea702dc81128dd0", func := "muniment/munimentlaw11.PoolPlays", spec := "poolPlays", inPlace := ["maps.clone"], unfollowed := true, recurses := true, apart := false }
def PoolPlaysSaid : Prop := poolPlaysRow.holds Try.pinned (OpenSpec.ofChange poolPlaysSpec)

/-- ITS FALSE NEIGHBOUR: 'it returns false'. Refute it at one input. -/
def poolPlaysWrong : ChangeSpec := { name := "poolPlays", fn := fun _ => fun
  | [d1, d2, d3] => { results := [.lit (.bool false)], args := [d1, d2, d3] }
  | _ => none }
def PoolPlaysWrongFalsely : Prop := poolPlaysRow.holds Try.pinned (OpenSpec.ofChange poolPlaysWrong)

/-- 'munimentlaw09.LogHeld': WHATEVER THE INPUT: true; the input reads as it did. -/
def logHeldSpec : ChangeSpec := { name := "logHeld", fn := fun _ => fun
  | [d1, d2, d3] => { results := [.lit (.bool true)], args := [d1, d2, d3] }
  | _ => none }
def logHeldRow : OpenClaim := { program := "ytggeepihkeocmaa", sum := "5e83976be45f8dde766ba386f4c53c630c3afc92caf608ecbea702dc81128dd0", func := "muniment/munimentlaw09.LogHeld", spec := "logHeld", apart := false }
def LogHeldSaid : Prop := logHeldRow.holds Try.pinned (OpenSpec.ofChange logHeldSpec)

/-- ITS FALSE NEIGHBOUR: 'it returns false'. Refute it at one input. -/
def logHeldWrong : ChangeSpec := { name := "logHeld", fn := fun _ => fun
  | [d1, d2, d3] => { results := [.lit (.bool false)], args := [d1, d2, d3] }
  | _ => none }
def LogHeldWrongFalsely : Prop := logHeldRow.holds Try.pinned (OpenSpec.ofChange logHeldWrong)

/-- 'munimentlaw08.RecordSizes': WHATEVER THE INPUT: true; the input reads as it did. -/
def recordSizesSpec : ChangeSpec := { name := "recordSizes", fn := fun _ => fun
  | [d] => { results := [.lit (.bool true)], args := [d] }
  | _ => none }
def recordSizesRow : OpenClaim := { program := "ytggeepihkeocmaa", sum := "5e83976be45f8dde766ba386f4c53c630c3afc92caf608ecbea702dc81128dd0", func := "muniment/munimentlaw08.RecordSizes", spec := "recordSizes", apart := false }
def RecordSizesSaid : Prop := recordSizesRow.holds Try.pinned (OpenSpec.ofChange recordSizesSpec)

/-- ITS FALSE NEIGHBOUR: 'it returns false'. Refute it at one input. -/
def recordSizesWrong : ChangeSpec := { name := "recordSizes", fn := fun _ => fun
  | [d] => { results := [.lit (.bool false)], args := [d] }
  | _ => none }
def RecordSizesWrongFalsely : Prop := recordSizesRow.holds Try.pinned (OpenSpec.ofChange recordSizesWrong)

/-- 'munimentlaw10.PageKeeps': WHATEVER THE INPUT: true; the input reads as it did. -/
def pageKeepsSpec : ChangeSpec := { name := "pageKeeps", fn := fun _ => fun
  | [d1, d2] => { results := [.lit (.bool true)], args := [d1, d2] }
  | _ => none }
def pageKeepsRow : OpenClaim := { program := "ytggeepihkeocmaa", sum := "5e83976be45f8dde766ba386f4c53c630c3afc92caf608ecbea702dc81128dd0", func := "muniment/munimentlaw10.PageKeeps", spec := "pageKeeps", inPlace := ["internal/bytealg.Compare"], apart := false }
def PageKeepsSaid : Prop := pageKeepsRow.holds Try.pinned (OpenSpec.ofChange pageKeepsSpec)

/-- ITS FALSE NEIGHBOUR: 'it returns false'. Refute it at one input. -/
def pageKeepsWrong : ChangeSpec := { name := "pageKeeps", fn := fun _ => fun
  | [d1, d2] => { results := [.lit (.bool false)], args := [d1, d2] }
  | _ => none }
def PageKeepsWrongFalsely : Prop := pageKeepsRow.holds Try.pinned (OpenSpec.ofChange pageKeepsWrong)

/-- 'munimentlaw07.DiskKeeps': WHATEVER THE INPUT: true; the input reads as it did. -/
def diskKeepsSpec : ChangeSpec := { name := "diskKeeps", fn := fun _ => fun
  | [d] => { results := [.lit (.bool true)], args := [d] }
  | _ => none }
def diskKeepsRow : OpenClaim := { program := "ytggeepihkeocmaa", sum := "5e83976be45f8dde766ba386f4c53c630c3afc92caf608ecbea702dc81128dd0", func := "muniment/munimentlaw07.DiskKeeps", spec := "diskKeeps", apart := false }
def DiskKeepsSaid : Prop := diskKeepsRow.holds Try.pinned (OpenSpec.ofChange diskKeepsSpec)

/-- ITS FALSE NEIGHBOUR: 'it returns false'. Refute it at one input. -/
def diskKeepsWrong : ChangeSpec := { name := "diskKeeps", fn := fun _ => fun
  | [d] => { results := [.lit (.bool false)], args := [d] }
  | _ => none }
def DiskKeepsWrongFalsely : Prop := diskKeepsRow.holds Try.pinned (OpenSpec.ofChange diskKeepsWrong)

/-- 'munimentlaw10.PageHalves': WHATEVER THE INPUT: true; the input reads as it did. -/
def pageHalvesSpec : ChangeSpec := { name := "pageHalves", fn := fun _ => fun
  | [d] => { results := [.lit (.bool true)], args := [d] }
  | _ => none }
def pageHalvesRow : OpenClaim := { program := "ytggeepihkeocmaa", sum := "5e83976be45f8dde766ba386f4c53c630c3afc92caf608ecbea702dc81128dd0", func := "muniment/munimentlaw10.PageHalves", spec := "pageHalves", inPlace := ["internal/bytealg.Compare"], apart := false }
def PageHalvesSaid : Prop := pageHalvesRow.holds Try.pinned (OpenSpec.ofChange pageHalvesSpec)

/-- ITS FALSE NEIGHBOUR: 'it returns false'. Refute it at one input. -/
def pageHalvesWrong : ChangeSpec := { name := "pageHalves", fn := fun _ => fun
  | [d] => { results := [.lit (.bool false)], args := [d] }
  | _ => none }
def PageHalvesWrongFalsely : Prop := pageHalvesRow.holds Try.pinned (OpenSpec.ofChange pageHalvesWrong)

/-- 'munimentlaw10.PageDecodes': WHATEVER THE INPUT: true; the input reads as it did. -/
def pageDecodesSpec : ChangeSpec := { name := "pageDecodes", fn := fun _ => fun
  | [d1, d2] => { results := [.lit (.bool true)], args := [d1, d2] }
  | _ => none }
def pageDecodesRow : OpenClaim := { program := "ytggeepihkeocmaa", sum := "5e83976be45f8dde766ba386f4c53c630c3afc92caf608ecbea702dc81128dd0", func := "muniment/munimentlaw10.PageDecodes", spec := "pageDecodes", inPlace := ["internal/bytealg.Compare"], apart := false }
def PageDecodesSaid : Prop := pageDecodesRow.holds Try.pinned (OpenSpec.ofChange pageDecodesSpec)

/-- ITS FALSE NEIGHBOUR: 'it returns false'. Refute it at one input. -/
def pageDecodesWrong : ChangeSpec := { name := "pageDecodes", fn := fun _ => fun
  | [d1, d2] => { results := [.lit (.bool false)], args := [d1, d2] }
  | _ => none }
def PageDecodesWrongFalsely : Prop := pageDecodesRow.holds Try.pinned (OpenSpec.ofChange pageDecodesWrong)

/-- 'munimentlaw07.DiskNil': WHATEVER THE INPUT: true; the input reads as it did. -/
def diskNilSpec : ChangeSpec := { name := "diskNil", fn := fun _ => fun
  | [d1, d2] => { results := [.lit (.bool true)], args := [d1, d2] }
  | _ => none }
def diskNilRow : OpenClaim := { program := "ytggeepihkeocmaa", sum := "5e83976be45f8dde766ba386f4c53c630c3afc92caf608ecbea702dc81128dd0", func := "muniment/munimentlaw07.DiskNil", spec := "diskNil", apart := false }
def DiskNilSaid : Prop := diskNilRow.holds Try.pinned (OpenSpec.ofChange diskNilSpec)

/-- ITS FALSE NEIGHBOUR: 'it returns false'. Refute it at one input. -/
def diskNilWrong : ChangeSpec := { name := "diskNil", fn := fun _ => fun
  | [d1, d2] => { results := [.lit (.bool false)], args := [d1, d2] }
  | _ => none }
def DiskNilWrongFalsely : Prop := diskNilRow.holds Try.pinned (OpenSpec.ofChange diskNilWrong)

/- THE SECOND FORM. 'bulk': how many values and letters a reading holds, each counted each time it is reached (what is shared counts as often as it is met; a slice's spare places count too). A statement '..UptoSaid' is the law's where the arguments, and the package variables that the reading takes, are together of bulk at most 1048576: NARROWER than '..Said'. Prove '..Said' where nothing that the law and all that it calls make is longer than what came in: it says more and counts as full. Else prove '..UptoSaid'. A law counts once. -/
mutual
def uptoBulk {H : Type} : DataW H → Nat
  | .lit (.string bytes) => bytes.length + 1
  | .lit _ => 1
  | .nil => 1
  | .ptr d => uptoBulk d + 1
  | .slice elems spare => uptoBulkAll elems + uptoBulkAll spare + 1
  | .agg parts => uptoBulkAll parts + 1
  | .iface _ d => uptoBulk d + 1
  | .map entries => uptoBulkEntries entries + 1
  | .held _ => 1
def uptoBulkAll {H : Type} : List (DataW H) → Nat
  | [] => 0
  | d :: r => uptoBulk d + uptoBulkAll r
def uptoBulkEntries {H : Type} : List (Lit × DataW H) → Nat
  | [] => 0
  | x :: r => uptoBulkEntry x + uptoBulkEntries r
def uptoBulkEntry {H : Type} : Lit × DataW H → Nat
  | (.string bytes, d) => bytes.length + uptoBulk d + 1
  | (_, d) => uptoBulk d + 1
 end
def uptoSmall : (H : Type) → List (DataW H) → Bool := fun _ ds => decide (uptoBulkAll ds ≤ 1048576)
def OpenSpec.upto (s : _root_.Go.ChangeSpec) : _root_.Go.OpenSpec := { _root_.Go.OpenSpec.ofChange s with cond := some uptoSmall }

/-- 'munimentlaw11.PoolPins', WHERE WHAT IT READS IS OF BULK AT MOST 1048576: true; the input reads as it did. -/
def poolPinsUptoRow : OpenClaim := { program := "ytggeepihkeocmaa", sum := "5e83976be45f8dde766ba386f4c53c630c3afc92caf608ecbea702dc81128dd0", func := "muniment/munimentlaw11.PoolPins", spec := "poolPins", unfollowed := true, recurses := true, apart := false, narrowed := true }
def PoolPinsUptoSaid : Prop := poolPinsUptoRow.holds Try.pinned (OpenSpec.upto poolPinsSpec)

/-- 'munimentlaw11.PoolSteals', WHERE WHAT IT READS IS OF BULK AT MOST 1048576: true; the input reads as it did. -/
def poolStealsUptoRow : OpenClaim := { program := "ytggeepihkeocmaa", sum := "5e83976be45f8dde766ba386f4c53c630c3afc92caf608ecbea702dc81128dd0", func := "muniment/munimentlaw11.PoolSteals", spec := "poolSteals", unfollowed := true, recurses := true, apart := false, narrowed := true }
def PoolStealsUptoSaid : Prop := poolStealsUptoRow.holds Try.pinned (OpenSpec.upto poolStealsSpec)

/-- 'munimentlaw11.PoolErrs', WHERE WHAT IT READS IS OF BULK AT MOST 1048576: true; the input reads as it did. -/
def poolErrsUptoRow : OpenClaim := { program := "ytggeepihkeocmaa", sum := "5e83976be45f8dde766ba386f4c53c630c3afc92caf608ecbea702dc81128dd0", func := "muniment/munimentlaw11.PoolErrs", spec := "poolErrs", inPlace := ["maps.clone"], unfollowed := true, recurses := true, apart := false, narrowed := true }
def PoolErrsUptoSaid : Prop := poolErrsUptoRow.holds Try.pinned (OpenSpec.upto poolErrsSpec)

/-- 'munimentlaw11.PoolPlays', WHERE WHAT IT READS IS OF BULK AT MOST 1048576: true; the input reads as it did. -/
def poolPlaysUptoRow : OpenClaim := { program := "ytggeepihkeocmaa", sum := "5e83976be45f8dde766ba386f4c53c630c3afc92caf608ecbea702dc81128dd0", func := "muniment/munimentlaw11.PoolPlays", spec := "poolPlays", inPlace := ["maps.clone"], unfollowed := true, recurses := true, apart := false, narrowed := true }
def PoolPlaysUptoSaid : Prop := poolPlaysUptoRow.holds Try.pinned (OpenSpec.upto poolPlaysSpec)

/-- 'munimentlaw09.LogHeld', WHERE WHAT IT READS IS OF BULK AT MOST 1048576: true; the input reads as it did. -/
def logHeldUptoRow : OpenClaim := { program := "ytggeepihkeocmaa", sum := "5e83976be45f8dde766ba386f4c53c630c3afc92caf608ecbea702dc81128dd0", func := "muniment/munimentlaw09.LogHeld", spec := "logHeld", apart := false, narrowed := true }
def LogHeldUptoSaid : Prop := logHeldUptoRow.holds Try.pinned (OpenSpec.upto logHeldSpec)

/-- 'munimentlaw08.RecordSizes', WHERE WHAT IT READS IS OF BULK AT MOST 1048576: true; the input reads as it did. -/
def recordSizesUptoRow : OpenClaim := { program := "ytggeepihkeocmaa", sum := "5e83976be45f8dde766ba386f4c53c630c3afc92caf608ecbea702dc81128dd0", func := "muniment/munimentlaw08.RecordSizes", spec := "recordSizes", apart := false, narrowed := true }
def RecordSizesUptoSaid : Prop := recordSizesUptoRow.holds Try.pinned (OpenSpec.upto recordSizesSpec)

/-- 'munimentlaw10.PageKeeps', WHERE WHAT IT READS IS OF BULK AT MOST 1048576: true; the input reads as it did. -/
def pageKeepsUptoRow : OpenClaim := { program := "ytggeepihkeocmaa", sum := "5e83976be45f8dde766ba386f4c53c630c3afc92caf608ecbea702dc81128dd0", func := "muniment/munimentlaw10.PageKeeps", spec := "pageKeeps", inPlace := ["internal/bytealg.Compare"], apart := false, narrowed := true }
def PageKeepsUptoSaid : Prop := pageKeepsUptoRow.holds Try.pinned (OpenSpec.upto pageKeepsSpec)

/-- 'munimentlaw07.DiskKeeps', WHERE WHAT IT READS IS OF BULK AT MOST 1048576: true; the input reads as it did. -/
def diskKeepsUptoRow : OpenClaim := { program := "ytggeepihkeocmaa", sum := "5e83976be45f8dde766ba386f4c53c630c3afc92caf608ecbea702dc81128dd0", func := "muniment/munimentlaw07.DiskKeeps", spec := "diskKeeps", apart := false, narrowed := true }
def DiskKeepsUptoSaid : Prop := diskKeepsUptoRow.holds Try.pinned (OpenSpec.upto diskKeepsSpec)

/-- 'munimentlaw10.PageHalves', WHERE WHAT IT READS IS OF BULK AT MOST 1048576: true; the input reads as it did. -/
def pageHalvesUptoRow : OpenClaim := { program := "ytggeepihkeocmaa", sum := "5e83976be45f8dde766ba386f4c53c630c3afc92caf608ecbea702dc81128dd0", func := "muniment/munimentlaw10.PageHalves", spec := "pageHalves", inPlace := ["internal/bytealg.Compare"], apart := false, narrowed := true }
def PageHalvesUptoSaid : Prop := pageHalvesUptoRow.holds Try.pinned (OpenSpec.upto pageHalvesSpec)

/-- 'munimentlaw10.PageDecodes', WHERE WHAT IT READS IS OF BULK AT MOST 1048576: true; the input reads as it did. -/
def pageDecodesUptoRow : OpenClaim := { program := "ytggeepihkeocmaa", sum := "5e83976be45f8dde766ba386f4c53c630c3afc92caf608ecbea702dc81128dd0", func := "muniment/munimentlaw10.PageDecodes", spec := "pageDecodes", inPlace := ["internal/bytealg.Compare"], apart := false, narrowed := true }
def PageDecodesUptoSaid : Prop := pageDecodesUptoRow.holds Try.pinned (OpenSpec.upto pageDecodesSpec)

/-- 'munimentlaw07.DiskNil', WHERE WHAT IT READS IS OF BULK AT MOST 1048576: true; the input reads as it did. -/
def diskNilUptoRow : OpenClaim := { program := "ytggeepihkeocmaa", sum := "5e83976be45f8dde766ba386f4c53c630c3afc92caf608ecbea702dc81128dd0", func := "muniment/munimentlaw07.DiskNil", spec := "diskNil", apart := false, narrowed := true }
def DiskNilUptoSaid : Prop := diskNilUptoRow.holds Try.pinned (OpenSpec.upto diskNilSpec)

end Rows
end Go.Proofs.Ytggeepihkeocmaa
