/-
  No cell of these rows narrows 'for every input' (looked for: loops, veiled, ifaces, maps, wideKeys, modest, calm, conditions, laid).
  DERIVED. THE GIVEN ROWS OF THIS SEAT. 18 by the template 'for every input the law returns true; each argument reads behind the call as it read before'; 0 by the template 'total and deterministic' (their statements: YtjgomebnlekddaaTotals.lean).
  GIVEN WITH THE SEED: the statements are not yours to turn. If you find one false, say at which input.
  Laid BY PROGRAM, IN A SANDBOX (cutbox-rows.mjs): the forced cells as the released guide's own fill.sh prints them over the translation 59a784ef571324d0… (all of the seat's roots in one cut). By AI agents, Wed Nov 11 2026. No macro, syntax, notation, axiom, sorry.
-/
import Derived.Test.YtjgomebnlekddaaChecked
import GoSem.Claim
import GoSem.ClaimJoined
import GoSem.ClaimMapViews
import Derived.JoinedTies
import Derived.KernelRfl
namespace Go.Proofs.Ytjgomebnlekddaa
/- THE CELL 'sum', in the pinned program and in every row, IS THE sha256 OF THE DUMP (.gsa) THAT YtjgomebnlekddaaProg.lean LOADS. Nothing in Lean hashes anything: it is a label: what it is worth is what the hold of that sum in a sandbox is worth. -/
noncomputable def Try.pinned : Pinned := { name := "ytjgomebnlekddaa", sum := "59a784ef571324d0bb3a2790275487f87d6ed387ca209f6e9013575dee35d13e", checked := Try.checked }
namespace Rows
def none {H : Type} : Left H := { results := [], args := [] }

/-- 'munimentlaw08.RecordSizes': WHATEVER THE INPUT: true; the input reads as it did. -/
def recordSizesSpec : ChangeSpec := { name := "recordSizes", fn := fun _ => fun
  | [d] => { results := [.lit (.bool true)], args := [d] }
  | _ => none }
def recordSizesRow : OpenClaim := { program := "ytjgomebnlekddaa", sum := "59a784ef571324d0bb3a2790275487f87d6ed387ca209f6e9013575dee35d13e", func := "muniment/munimentlaw08.RecordSizes", spec := "recordSizes", apart := false }
def RecordSizesSaid : Prop := recordSizesRow.holds Try.pinned (OpenSpec.ofChange recordSizesSpec)

/-- ITS FALSE NEIGHBOUR: 'it returns false'. Refute it at one input. -/
def recordSizesWrong : ChangeSpec := { name := "recordSizes", fn := fun _ => fun
  | [d] => { results := [.lit (.bool false)], args := [d] }
  | _ => none }
def RecordSizesWrongFalsely : Prop := recordSizesRow.holds Try.pinned (OpenSpec.ofChange recordSizesWrong)

/-- 'munimentlaw10.PageSorts': WHATEVER THE INPUT: true; the input reads as it did. -/
def pageSortsSpec : ChangeSpec := { name := "pageSorts", fn := fun _ => fun
  | [d] => { results := [.lit (.bool true)], args := [d] }
  | _ => none }
def pageSortsRow : OpenClaim := { program := "ytjgomebnlekddaa", sum := "59a784ef571324d0bb3a2790275487f87d6ed387ca209f6e9013575dee35d13e", func := "muniment/munimentlaw10.PageSorts", spec := "pageSorts", inPlace := ["internal/bytealg.Compare"], apart := false }
def PageSortsSaid : Prop := pageSortsRow.holds Try.pinned (OpenSpec.ofChange pageSortsSpec)

/-- ITS FALSE NEIGHBOUR: 'it returns false'. Refute it at one input. -/
def pageSortsWrong : ChangeSpec := { name := "pageSorts", fn := fun _ => fun
  | [d] => { results := [.lit (.bool false)], args := [d] }
  | _ => none }
def PageSortsWrongFalsely : Prop := pageSortsRow.holds Try.pinned (OpenSpec.ofChange pageSortsWrong)

/-- 'munimentlaw10.PageCells': WHATEVER THE INPUT: true; the input reads as it did. -/
def pageCellsSpec : ChangeSpec := { name := "pageCells", fn := fun _ => fun
  | [d1, d2] => { results := [.lit (.bool true)], args := [d1, d2] }
  | _ => none }
def pageCellsRow : OpenClaim := { program := "ytjgomebnlekddaa", sum := "59a784ef571324d0bb3a2790275487f87d6ed387ca209f6e9013575dee35d13e", func := "muniment/munimentlaw10.PageCells", spec := "pageCells", inPlace := ["internal/bytealg.Compare"], apart := false }
def PageCellsSaid : Prop := pageCellsRow.holds Try.pinned (OpenSpec.ofChange pageCellsSpec)

/-- ITS FALSE NEIGHBOUR: 'it returns false'. Refute it at one input. -/
def pageCellsWrong : ChangeSpec := { name := "pageCells", fn := fun _ => fun
  | [d1, d2] => { results := [.lit (.bool false)], args := [d1, d2] }
  | _ => none }
def PageCellsWrongFalsely : Prop := pageCellsRow.holds Try.pinned (OpenSpec.ofChange pageCellsWrong)

/-- 'munimentlaw10.PageKeeps': WHATEVER THE INPUT: true; the input reads as it did. -/
def pageKeepsSpec : ChangeSpec := { name := "pageKeeps", fn := fun _ => fun
  | [d1, d2] => { results := [.lit (.bool true)], args := [d1, d2] }
  | _ => none }
def pageKeepsRow : OpenClaim := { program := "ytjgomebnlekddaa", sum := "59a784ef571324d0bb3a2790275487f87d6ed387ca209f6e9013575dee35d13e", func := "muniment/munimentlaw10.PageKeeps", spec := "pageKeeps", inPlace := ["internal/bytealg.Compare"], apart := false }
def PageKeepsSaid : Prop := pageKeepsRow.holds Try.pinned (OpenSpec.ofChange pageKeepsSpec)

/-- ITS FALSE NEIGHBOUR: 'it returns false'. Refute it at one input. -/
def pageKeepsWrong : ChangeSpec := { name := "pageKeeps", fn := fun _ => fun
  | [d1, d2] => { results := [.lit (.bool false)], args := [d1, d2] }
  | _ => none }
def PageKeepsWrongFalsely : Prop := pageKeepsRow.holds Try.pinned (OpenSpec.ofChange pageKeepsWrong)

/-- 'munimentlaw10.PageSwaps': WHATEVER THE INPUT: true; the input reads as it did. -/
def pageSwapsSpec : ChangeSpec := { name := "pageSwaps", fn := fun _ => fun
  | [d1, d2] => { results := [.lit (.bool true)], args := [d1, d2] }
  | _ => none }
def pageSwapsRow : OpenClaim := { program := "ytjgomebnlekddaa", sum := "59a784ef571324d0bb3a2790275487f87d6ed387ca209f6e9013575dee35d13e", func := "muniment/munimentlaw10.PageSwaps", spec := "pageSwaps", inPlace := ["internal/bytealg.Compare"], apart := false }
def PageSwapsSaid : Prop := pageSwapsRow.holds Try.pinned (OpenSpec.ofChange pageSwapsSpec)

/-- ITS FALSE NEIGHBOUR: 'it returns false'. Refute it at one input. -/
def pageSwapsWrong : ChangeSpec := { name := "pageSwaps", fn := fun _ => fun
  | [d1, d2] => { results := [.lit (.bool false)], args := [d1, d2] }
  | _ => none }
def PageSwapsWrongFalsely : Prop := pageSwapsRow.holds Try.pinned (OpenSpec.ofChange pageSwapsWrong)

/-- 'munimentlaw07.DiskKeeps': WHATEVER THE INPUT: true; the input reads as it did. -/
def diskKeepsSpec : ChangeSpec := { name := "diskKeeps", fn := fun _ => fun
  | [d] => { results := [.lit (.bool true)], args := [d] }
  | _ => none }
def diskKeepsRow : OpenClaim := { program := "ytjgomebnlekddaa", sum := "59a784ef571324d0bb3a2790275487f87d6ed387ca209f6e9013575dee35d13e", func := "muniment/munimentlaw07.DiskKeeps", spec := "diskKeeps", apart := false }
def DiskKeepsSaid : Prop := diskKeepsRow.holds Try.pinned (OpenSpec.ofChange diskKeepsSpec)

/-- ITS FALSE NEIGHBOUR: 'it returns false'. Refute it at one input. -/
def diskKeepsWrong : ChangeSpec := { name := "diskKeeps", fn := fun _ => fun
  | [d] => { results := [.lit (.bool false)], args := [d] }
  | _ => none }
def DiskKeepsWrongFalsely : Prop := diskKeepsRow.holds Try.pinned (OpenSpec.ofChange diskKeepsWrong)

/-- 'munimentlaw10.PageHalves': WHATEVER THE INPUT: true; the input reads as it did. -/
def pageHalvesSpec : ChangeSpec := { name := "pageHalves", fn := fun _ => fun
  | [d] => { results := [.lit (.bool true)], args := [d] }
  | _ => none }
def pageHalvesRow : OpenClaim := { program := "ytjgomebnlekddaa", sum := "59a784ef571324d0bb3a2790275487f87d6ed387ca209f6e9013575dee35d13e", func := "muniment/munimentlaw10.PageHalves", spec := "pageHalves", inPlace := ["internal/bytealg.Compare"], apart := false }
def PageHalvesSaid : Prop := pageHalvesRow.holds Try.pinned (OpenSpec.ofChange pageHalvesSpec)

/-- ITS FALSE NEIGHBOUR: 'it returns false'. Refute it at one input. -/
def pageHalvesWrong : ChangeSpec := { name := "pageHalves", fn := fun _ => fun
  | [d] => { results := [.lit (.bool false)], args := [d] }
  | _ => none }
def PageHalvesWrongFalsely : Prop := pageHalvesRow.holds Try.pinned (OpenSpec.ofChange pageHalvesWrong)

/-- 'munimentlaw10.PageFits': WHATEVER THE INPUT: true; the input reads as it did. -/
def pageFitsSpec : ChangeSpec := { name := "pageFits", fn := fun _ => fun
  | [d1, d2] => { results := [.lit (.bool true)], args := [d1, d2] }
  | _ => none }
def pageFitsRow : OpenClaim := { program := "ytjgomebnlekddaa", sum := "59a784ef571324d0bb3a2790275487f87d6ed387ca209f6e9013575dee35d13e", func := "muniment/munimentlaw10.PageFits", spec := "pageFits", inPlace := ["internal/bytealg.Compare"], apart := false }
def PageFitsSaid : Prop := pageFitsRow.holds Try.pinned (OpenSpec.ofChange pageFitsSpec)

/-- ITS FALSE NEIGHBOUR: 'it returns false'. Refute it at one input. -/
def pageFitsWrong : ChangeSpec := { name := "pageFits", fn := fun _ => fun
  | [d1, d2] => { results := [.lit (.bool false)], args := [d1, d2] }
  | _ => none }
def PageFitsWrongFalsely : Prop := pageFitsRow.holds Try.pinned (OpenSpec.ofChange pageFitsWrong)

/-- 'munimentlaw07.DiskOrder': WHATEVER THE INPUT: true; the input reads as it did. -/
def diskOrderSpec : ChangeSpec := { name := "diskOrder", fn := fun _ => fun
  | [d1, d2, d3] => { results := [.lit (.bool true)], args := [d1, d2, d3] }
  | _ => none }
def diskOrderRow : OpenClaim := { program := "ytjgomebnlekddaa", sum := "59a784ef571324d0bb3a2790275487f87d6ed387ca209f6e9013575dee35d13e", func := "muniment/munimentlaw07.DiskOrder", spec := "diskOrder", apart := false }
def DiskOrderSaid : Prop := diskOrderRow.holds Try.pinned (OpenSpec.ofChange diskOrderSpec)

/-- ITS FALSE NEIGHBOUR: 'it returns false'. Refute it at one input. -/
def diskOrderWrong : ChangeSpec := { name := "diskOrder", fn := fun _ => fun
  | [d1, d2, d3] => { results := [.lit (.bool false)], args := [d1, d2, d3] }
  | _ => none }
def DiskOrderWrongFalsely : Prop := diskOrderRow.holds Try.pinned (OpenSpec.ofChange diskOrderWrong)

/-- 'munimentlaw10.PageEncodes': WHATEVER THE INPUT: true; the input reads as it did. -/
def pageEncodesSpec : ChangeSpec := { name := "pageEncodes", fn := fun _ => fun
  | [d] => { results := [.lit (.bool true)], args := [d] }
  | _ => none }
def pageEncodesRow : OpenClaim := { program := "ytjgomebnlekddaa", sum := "59a784ef571324d0bb3a2790275487f87d6ed387ca209f6e9013575dee35d13e", func := "muniment/munimentlaw10.PageEncodes", spec := "pageEncodes", inPlace := ["internal/bytealg.Compare"], apart := false }
def PageEncodesSaid : Prop := pageEncodesRow.holds Try.pinned (OpenSpec.ofChange pageEncodesSpec)

/-- ITS FALSE NEIGHBOUR: 'it returns false'. Refute it at one input. -/
def pageEncodesWrong : ChangeSpec := { name := "pageEncodes", fn := fun _ => fun
  | [d] => { results := [.lit (.bool false)], args := [d] }
  | _ => none }
def PageEncodesWrongFalsely : Prop := pageEncodesRow.holds Try.pinned (OpenSpec.ofChange pageEncodesWrong)

/-- 'munimentlaw10.PageDecodes': WHATEVER THE INPUT: true; the input reads as it did. -/
def pageDecodesSpec : ChangeSpec := { name := "pageDecodes", fn := fun _ => fun
  | [d1, d2] => { results := [.lit (.bool true)], args := [d1, d2] }
  | _ => none }
def pageDecodesRow : OpenClaim := { program := "ytjgomebnlekddaa", sum := "59a784ef571324d0bb3a2790275487f87d6ed387ca209f6e9013575dee35d13e", func := "muniment/munimentlaw10.PageDecodes", spec := "pageDecodes", inPlace := ["internal/bytealg.Compare"], apart := false }
def PageDecodesSaid : Prop := pageDecodesRow.holds Try.pinned (OpenSpec.ofChange pageDecodesSpec)

/-- ITS FALSE NEIGHBOUR: 'it returns false'. Refute it at one input. -/
def pageDecodesWrong : ChangeSpec := { name := "pageDecodes", fn := fun _ => fun
  | [d1, d2] => { results := [.lit (.bool false)], args := [d1, d2] }
  | _ => none }
def PageDecodesWrongFalsely : Prop := pageDecodesRow.holds Try.pinned (OpenSpec.ofChange pageDecodesWrong)

/-- 'munimentlaw07.DiskLasts': WHATEVER THE INPUT: true; the input reads as it did. -/
def diskLastsSpec : ChangeSpec := { name := "diskLasts", fn := fun _ => fun
  | [d1, d2, d3, d4] => { results := [.lit (.bool true)], args := [d1, d2, d3, d4] }
  | _ => none }
def diskLastsRow : OpenClaim := { program := "ytjgomebnlekddaa", sum := "59a784ef571324d0bb3a2790275487f87d6ed387ca209f6e9013575dee35d13e", func := "muniment/munimentlaw07.DiskLasts", spec := "diskLasts", apart := false }
def DiskLastsSaid : Prop := diskLastsRow.holds Try.pinned (OpenSpec.ofChange diskLastsSpec)

/-- ITS FALSE NEIGHBOUR: 'it returns false'. Refute it at one input. -/
def diskLastsWrong : ChangeSpec := { name := "diskLasts", fn := fun _ => fun
  | [d1, d2, d3, d4] => { results := [.lit (.bool false)], args := [d1, d2, d3, d4] }
  | _ => none }
def DiskLastsWrongFalsely : Prop := diskLastsRow.holds Try.pinned (OpenSpec.ofChange diskLastsWrong)

/-- 'munimentlaw07.DiskPlays': WHATEVER THE INPUT: true; the input reads as it did. -/
def diskPlaysSpec : ChangeSpec := { name := "diskPlays", fn := fun _ => fun
  | [d1, d2] => { results := [.lit (.bool true)], args := [d1, d2] }
  | _ => none }
def diskPlaysRow : OpenClaim := { program := "ytjgomebnlekddaa", sum := "59a784ef571324d0bb3a2790275487f87d6ed387ca209f6e9013575dee35d13e", func := "muniment/munimentlaw07.DiskPlays", spec := "diskPlays", apart := false }
def DiskPlaysSaid : Prop := diskPlaysRow.holds Try.pinned (OpenSpec.ofChange diskPlaysSpec)

/-- ITS FALSE NEIGHBOUR: 'it returns false'. Refute it at one input. -/
def diskPlaysWrong : ChangeSpec := { name := "diskPlays", fn := fun _ => fun
  | [d1, d2] => { results := [.lit (.bool false)], args := [d1, d2] }
  | _ => none }
def DiskPlaysWrongFalsely : Prop := diskPlaysRow.holds Try.pinned (OpenSpec.ofChange diskPlaysWrong)

/-- 'munimentlaw07.DiskNil': WHATEVER THE INPUT: true; the input reads as it did. -/
def diskNilSpec : ChangeSpec := { name := "diskNil", fn := fun _ => fun
  | [d1, d2] => { results := [.lit (.bool true)], args := [d1, d2] }
  | _ => none }
def diskNilRow : OpenClaim := { program := "ytjgomebnlekddaa", sum := "59a784ef571324d0bb3a2790275487f87d6ed387ca209f6e9013575dee35d13e", func := "muniment/munimentlaw07.DiskNil", spec := "diskNil", apart := false }
def DiskNilSaid : Prop := diskNilRow.holds Try.pinned (OpenSpec.ofChange diskNilSpec)

/-- ITS FALSE NEIGHBOUR: 'it returns false'. Refute it at one input. -/
def diskNilWrong : ChangeSpec := { name := "diskNil", fn := fun _ => fun
  | [d1, d2] => { results := [.lit (.bool false)], args := [d1, d2] }
  | _ => none }
def DiskNilWrongFalsely : Prop := diskNilRow.holds Try.pinned (OpenSpec.ofChange diskNilWrong)

/-- 'munimentlaw08.RecordEncodes': WHATEVER THE INPUT: true; the input reads as it did. -/
def recordEncodesSpec : ChangeSpec := { name := "recordEncodes", fn := fun _ => fun
  | [d] => { results := [.lit (.bool true)], args := [d] }
  | _ => none }
def recordEncodesRow : OpenClaim := { program := "ytjgomebnlekddaa", sum := "59a784ef571324d0bb3a2790275487f87d6ed387ca209f6e9013575dee35d13e", func := "muniment/munimentlaw08.RecordEncodes", spec := "recordEncodes", apart := false }
def RecordEncodesSaid : Prop := recordEncodesRow.holds Try.pinned (OpenSpec.ofChange recordEncodesSpec)

/-- ITS FALSE NEIGHBOUR: 'it returns false'. Refute it at one input. -/
def recordEncodesWrong : ChangeSpec := { name := "recordEncodes", fn := fun _ => fun
  | [d] => { results := [.lit (.bool false)], args := [d] }
  | _ => none }
def RecordEncodesWrongFalsely : Prop := recordEncodesRow.holds Try.pinned (OpenSpec.ofChange recordEncodesWrong)

/-- 'munimentlaw08.RecordDecodes': WHATEVER THE INPUT: true; the input reads as it did. -/
def recordDecodesSpec : ChangeSpec := { name := "recordDecodes", fn := fun _ => fun
  | [d] => { results := [.lit (.bool true)], args := [d] }
  | _ => none }
def recordDecodesRow : OpenClaim := { program := "ytjgomebnlekddaa", sum := "59a784ef571324d0bb3a2790275487f87d6ed387ca209f6e9013575dee35d13e", func := "muniment/munimentlaw08.RecordDecodes", spec := "recordDecodes", apart := false }
def RecordDecodesSaid : Prop := recordDecodesRow.holds Try.pinned (OpenSpec.ofChange recordDecodesSpec)

/-- ITS FALSE NEIGHBOUR: 'it returns false'. Refute it at one input. -/
def recordDecodesWrong : ChangeSpec := { name := "recordDecodes", fn := fun _ => fun
  | [d] => { results := [.lit (.bool false)], args := [d] }
  | _ => none }
def RecordDecodesWrongFalsely : Prop := recordDecodesRow.holds Try.pinned (OpenSpec.ofChange recordDecodesWrong)

/-- 'munimentlaw08.RecordTurned': WHATEVER THE INPUT: true; the input reads as it did. -/
def recordTurnedSpec : ChangeSpec := { name := "recordTurned", fn := fun _ => fun
  | [d1, d2, d3] => { results := [.lit (.bool true)], args := [d1, d2, d3] }
  | _ => none }
def recordTurnedRow : OpenClaim := { program := "ytjgomebnlekddaa", sum := "59a784ef571324d0bb3a2790275487f87d6ed387ca209f6e9013575dee35d13e", func := "muniment/munimentlaw08.RecordTurned", spec := "recordTurned", apart := false }
def RecordTurnedSaid : Prop := recordTurnedRow.holds Try.pinned (OpenSpec.ofChange recordTurnedSpec)

/-- ITS FALSE NEIGHBOUR: 'it returns false'. Refute it at one input. -/
def recordTurnedWrong : ChangeSpec := { name := "recordTurned", fn := fun _ => fun
  | [d1, d2, d3] => { results := [.lit (.bool false)], args := [d1, d2, d3] }
  | _ => none }
def RecordTurnedWrongFalsely : Prop := recordTurnedRow.holds Try.pinned (OpenSpec.ofChange recordTurnedWrong)

/-- 'munimentlaw08.RecordKeeps': WHATEVER THE INPUT: true; the input reads as it did. -/
def recordKeepsSpec : ChangeSpec := { name := "recordKeeps", fn := fun _ => fun
  | [d] => { results := [.lit (.bool true)], args := [d] }
  | _ => none }
def recordKeepsRow : OpenClaim := { program := "ytjgomebnlekddaa", sum := "59a784ef571324d0bb3a2790275487f87d6ed387ca209f6e9013575dee35d13e", func := "muniment/munimentlaw08.RecordKeeps", spec := "recordKeeps", apart := false }
def RecordKeepsSaid : Prop := recordKeepsRow.holds Try.pinned (OpenSpec.ofChange recordKeepsSpec)

/-- ITS FALSE NEIGHBOUR: 'it returns false'. Refute it at one input. -/
def recordKeepsWrong : ChangeSpec := { name := "recordKeeps", fn := fun _ => fun
  | [d] => { results := [.lit (.bool false)], args := [d] }
  | _ => none }
def RecordKeepsWrongFalsely : Prop := recordKeepsRow.holds Try.pinned (OpenSpec.ofChange recordKeepsWrong)

/- THE SECOND FORM. 'bulk': how many values and letters a reading holds, each counted each time it is reached (what is shared counts as often as it is met; a slice's spare places count too). A statement '..UptoSaid' is the law's where the arguments, and the package variables that the reading takes, are together of bulk at most 1048576: NARROWER than '..Said'. Prove '..Said' where nothing that the law and all that it calls make is longer than what came in: it says more and counts as full. Else prove '..UptoSaid'. A law counts once. -/
mutual
def uptoBulk {H : Type} : DataW H → Nat
  | .lit (.string bytes) => bytes.length + 1
  | .lit _ => 1
  | .nil => 1
  | .ptr d => uptoBulk d + 1
  | .slice elems spare => uptoBulkAll elems + uptoBulkAll spare + 1
  | .agg parts => uptoBulkAll parts + 1
  | .iface _ d => uptoBulk d + 1
  | .map entries => uptoBulkEntries entries + 1
  | .held _ => 1
def uptoBulkAll {H : Type} : List (DataW H) → Nat
  | [] => 0
  | d :: r => uptoBulk d + uptoBulkAll r
def uptoBulkEntries {H : Type} : List (Lit × DataW H) → Nat
  | [] => 0
  | x :: r => uptoBulkEntry x + uptoBulkEntries r
def uptoBulkEntry {H : Type} : Lit × DataW H → Nat
  | (.string bytes, d) => bytes.length + uptoBulk d + 1
  | (_, d) => uptoBulk d + 1
 end
def uptoSmall : (H : Type) → List (DataW H) → Bool := fun _ ds => decide (uptoBulkAll ds ≤ 1048576)
def OpenSpec.upto (s : _root_.Go.ChangeSpec) : _root_.Go.OpenSpec := { _root_.Go.OpenSpec.ofChange s with cond := some uptoSmall }

/-- 'munimentlaw08.RecordSizes', WHERE WHAT IT READS IS OF BULK AT MOST 1048576: true; the input reads as it did. -/
def recordSizesUptoRow : OpenClaim := { program := "ytjgomebnlekddaa", sum := "59a784ef571324d0bb3a2790275487f87d6ed387ca209f6e9013575dee35d13e", func := "muniment/munimentlaw08.RecordSizes", spec := "recordSizes", apart := false, narrowed := true }
def RecordSizesUptoSaid : Prop := recordSizesUptoRow.holds Try.pinned (OpenSpec.upto recordSizesSpec)

/-- 'munimentlaw10.PageSorts', WHERE WHAT IT READS IS OF BULK AT MOST 1048576: true; the input reads as it did. -/
def pageSortsUptoRow : OpenClaim := { program := "ytjgomebnlekddaa", sum := "59a784ef571324d0bb3a2790275487f87d6ed387ca209f6e9013575dee35d13e", func := "muniment/munimentlaw10.PageSorts", spec := "pageSorts", inPlace := ["internal/bytealg.Compare"], apart := false, narrowed := true }
def PageSortsUptoSaid : Prop := pageSortsUptoRow.holds Try.pinned (OpenSpec.upto pageSortsSpec)

/-- 'munimentlaw10.PageCells', WHERE WHAT IT READS IS OF BULK AT MOST 1048576: true; the input reads as it did. -/
def pageCellsUptoRow : OpenClaim := { program := "ytjgomebnlekddaa", sum := "59a784ef571324d0bb3a2790275487f87d6ed387ca209f6e9013575dee35d13e", func := "muniment/munimentlaw10.PageCells", spec := "pageCells", inPlace := ["internal/bytealg.Compare"], apart := false, narrowed := true }
def PageCellsUptoSaid : Prop := pageCellsUptoRow.holds Try.pinned (OpenSpec.upto pageCellsSpec)

/-- 'munimentlaw10.PageKeeps', WHERE WHAT IT READS IS OF BULK AT MOST 1048576: true; the input reads as it did. -/
def pageKeepsUptoRow : OpenClaim := { program := "ytjgomebnlekddaa", sum := "59a784ef571324d0bb3a2790275487f87d6ed387ca209f6e9013575dee35d13e", func := "muniment/munimentlaw10.PageKeeps", spec := "pageKeeps", inPlace := ["internal/bytealg.Compare"], apart := false, narrowed := true }
def PageKeepsUptoSaid : Prop := pageKeepsUptoRow.holds Try.pinned (OpenSpec.upto pageKeepsSpec)

/-- 'munimentlaw10.PageSwaps', WHERE WHAT IT READS IS OF BULK AT MOST 1048576: true; the input reads as it did. -/
def pageSwapsUptoRow : OpenClaim := { program := "ytjgomebnlekddaa", sum := "59a784ef571324d0bb3a2790275487f87d6ed387ca209f6e9013575dee35d13e", func := "muniment/munimentlaw10.PageSwaps", spec := "pageSwaps", inPlace := ["internal/bytealg.Compare"], apart := false, narrowed := true }
def PageSwapsUptoSaid : Prop := pageSwapsUptoRow.holds Try.pinned (OpenSpec.upto pageSwapsSpec)

/-- 'munimentlaw07.DiskKeeps', WHERE WHAT IT READS IS OF BULK AT MOST 1048576: true; the input reads as it did. -/
def diskKeepsUptoRow : OpenClaim := { program := "ytjgomebnlekddaa", sum := "59a784ef571324d0bb3a2790275487f87d6ed387ca209f6e9013575dee35d13e", func := "muniment/munimentlaw07.DiskKeeps", spec := "diskKeeps", apart := false, narrowed := true }
def DiskKeepsUptoSaid : Prop := diskKeepsUptoRow.holds Try.pinned (OpenSpec.upto diskKeepsSpec)

/-- 'munimentlaw10.PageHalves', WHERE WHAT IT READS IS OF BULK AT MOST 1048576: true; the input reads as it did. -/
def pageHalvesUptoRow : OpenClaim := { program := "ytjgomebnlekddaa", sum := "59a784ef571324d0bb3a2790275487f87d6ed387ca209f6e9013575dee35d13e", func := "muniment/munimentlaw10.PageHalves", spec := "pageHalves", inPlace := ["internal/bytealg.Compare"], apart := false, narrowed := true }
def PageHalvesUptoSaid : Prop := pageHalvesUptoRow.holds Try.pinned (OpenSpec.upto pageHalvesSpec)

/-- 'munimentlaw10.PageFits', WHERE WHAT IT READS IS OF BULK AT MOST 1048576: true; the input reads as it did. -/
def pageFitsUptoRow : OpenClaim := { program := "ytjgomebnlekddaa", sum := "59a784ef571324d0bb3a2790275487f87d6ed387ca209f6e9013575dee35d13e", func := "muniment/munimentlaw10.PageFits", spec := "pageFits", inPlace := ["internal/bytealg.Compare"], apart := false, narrowed := true }
def PageFitsUptoSaid : Prop := pageFitsUptoRow.holds Try.pinned (OpenSpec.upto pageFitsSpec)

/-- 'munimentlaw07.DiskOrder', WHERE WHAT IT READS IS OF BULK AT MOST 1048576: true; the input reads as it did. -/
def diskOrderUptoRow : OpenClaim := { program := "ytjgomebnlekddaa", sum := "59a784ef571324d0bb3a2790275487f87d6ed387ca209f6e9013575dee35d13e", func := "muniment/munimentlaw07.DiskOrder", spec := "diskOrder", apart := false, narrowed := true }
def DiskOrderUptoSaid : Prop := diskOrderUptoRow.holds Try.pinned (OpenSpec.upto diskOrderSpec)

/-- 'munimentlaw10.PageEncodes', WHERE WHAT IT READS IS OF BULK AT MOST 1048576: true; the input reads as it did. -/
def pageEncodesUptoRow : OpenClaim := { program := "ytjgomebnlekddaa", sum := "59a784ef571324d0bb3a2790275487f87d6ed387ca209f6e9013575dee35d13e", func := "muniment/munimentlaw10.PageEncodes", spec := "pageEncodes", inPlace := ["internal/bytealg.Compare"], apart := false, narrowed := true }
def PageEncodesUptoSaid : Prop := pageEncodesUptoRow.holds Try.pinned (OpenSpec.upto pageEncodesSpec)

/-- 'munimentlaw10.PageDecodes', WHERE WHAT IT READS IS OF BULK AT MOST 1048576: true; the input reads as it did. -/
def pageDecodesUptoRow : OpenClaim := { program := "ytjgomebnlekddaa", sum := "59a784ef571324d0bb3a2790275487f87d6ed387ca209f6e9013575dee35d13e", func := "muniment/munimentlaw10.PageDecodes", spec := "pageDecodes", inPlace := ["internal/bytealg.Compare"], apart := false, narrowed := true }
def PageDecodesUptoSaid : Prop := pageDecodesUptoRow.holds Try.pinned (OpenSpec.upto pageDecodesSpec)

/-- 'munimentlaw07.DiskLasts', WHERE WHAT IT READS IS OF BULK AT MOST 1048576: true; the input reads as it did. -/
def diskLastsUptoRow : OpenClaim := { program := "ytjgomebnlekddaa", sum := "59a784ef571324d0bb3a2790275487f87d6ed387ca209f6e9013575dee35d13e", func := "muniment/munimentlaw07.DiskLasts", spec := "diskLasts", apart := false, narrowed := true }
def DiskLastsUptoSaid : Prop := diskLastsUptoRow.holds Try.pinned (OpenSpec.upto diskLastsSpec)

/-- 'munimentlaw07.DiskPlays', WHERE WHAT IT READS IS OF BULK AT MOST 1048576: true; the input reads as it did. -/
def diskPlaysUptoRow : OpenClaim := { program := "ytjgomebnlekddaa", sum := "59a784ef571324d0bb3a2790275487f87d6ed387ca209f6e9013575dee35d13e", func := "muniment/munimentlaw07.DiskPlays", spec := "diskPlays", apart := false, narrowed := true }
def DiskPlaysUptoSaid : Prop := diskPlaysUptoRow.holds Try.pinned (OpenSpec.upto diskPlaysSpec)

/-- 'munimentlaw07.DiskNil', WHERE WHAT IT READS IS OF BULK AT MOST 1048576: true; the input reads as it did. -/
def diskNilUptoRow : OpenClaim := { program := "ytjgomebnlekddaa", sum := "59a784ef571324d0bb3a2790275487f87d6ed387ca209f6e9013575dee35d13e", func := "muniment/munimentlaw07.DiskNil", spec := "diskNil", apart := false, narrowed := true }
def DiskNilUptoSaid : Prop := diskNilUptoRow.holds Try.pinned (OpenSpec.upto diskNilSpec)

/-- 'munimentlaw08.RecordEncodes', WHERE WHAT IT READS IS OF BULK AT MOST 1048576: true; the input reads as it did. -/
def recordEncodesUptoRow : OpenClaim := { program := "ytjgomebnlekddaa", sum := "59a784ef571324d0bb3a2790275487f87d6ed387ca209f6e9013575dee35d13e", func := "muniment/munimentlaw08.RecordEncodes", spec := "recordEncodes", apart := false, narrowed := true }
def RecordEncodesUptoSaid : Prop := recordEncodesUptoRow.holds Try.pinned (OpenSpec.upto recordEncodesSpec)

/-- 'munimentlaw08.RecordDecodes', WHERE WHAT IT READS IS OF BULK AT MOST 1048576: true; the input reads as it did. -/
def recordDecodesUptoRow : OpenClaim := { program := "ytjgomebnlekddaa", sum := "59a784ef571324d0bb3a2790275487f87d6ed387ca209f6e9013575dee35d13e", func := "muniment/munimentlaw08.RecordDecodes", spec := "recordDecodes", apart := false, narrowed := true }
def RecordDecodesUptoSaid : Prop := recordDecodesUptoRow.holds Try.pinned (OpenSpec.upto recordDecodesSpec)

/-- 'munimentlaw08.RecordTurned', WHERE WHAT IT READS IS OF BULK AT MOST 1048576: true; the input reads as it did. -/
def recordTurnedUptoRow : OpenClaim := { program := "ytjgomebnlekddaa", sum := "59a784ef571324d0bb3a2790275487f87d6ed387ca209f6e9013575dee35d13e", func := "muniment/munimentlaw08.RecordTurned", spec := "recordTurned", apart := false, narrowed := true }
def RecordTurnedUptoSaid : Prop := recordTurnedUptoRow.holds Try.pinned (OpenSpec.upto recordTurnedSpec)

/-- 'munimentlaw08.RecordKeeps', WHERE WHAT IT READS IS OF BULK AT MOST 1048576: true; the input reads as it did. -/
def recordKeepsUptoRow : OpenClaim := { program := "ytjgomebnlekddaa", sum := "59a784ef571324d0bb3a2790275487f87d6ed387ca209f6e9013575dee35d13e", func := "muniment/munimentlaw08.RecordKeeps", spec := "recordKeeps", apart := false, narrowed := true }
def RecordKeepsUptoSaid : Prop := recordKeepsUptoRow.holds Try.pinned (OpenSpec.upto recordKeepsSpec)

end Rows
end Go.Proofs.Ytjgomebnlekddaa
