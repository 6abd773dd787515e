/- A sector of the log, as bytes (plain). -/
import Derived.Test.YtnehppeoffemlaaLogF
namespace Go.Proofs.Ytnehppeoffemlaa
set_option linter.unusedVariables false
set_option linter.unusedSimpArgs false
open Go.RowKit
/-- Ahead of the noughts: the sector's number, the epoch, the part's length, the part. -/
def layH (k ep : Int) (p : List Int) : List Int := u8L k ++ u8L ep ++ two2 p.length ++ p
def layB (k ep : Int) (p : List Int) : List Int := layH k ep p ++ List.replicate (486 - p.length) 0
def layL (k ep : Int) (p : List Int) : List Int := layB k ep p ++ u8L (sumL (layB k ep p))
theorem layH_len (k ep : Int) (p : List Int) : (layH k ep p).length = 18 + p.length := by unfold layH two2; simp [u8L_len]; omega
theorem layB_len {k ep : Int} {p : List Int} (hp : p.length ≤ 480) : (layB k ep p).length = 504 := by unfold layB; rw [List.length_append, layH_len, List.length_replicate]; omega
theorem layL_len {k ep : Int} {p : List Int} (hp : p.length ≤ 480) : (layL k ep p).length = 512 := by unfold layL; rw [List.length_append, layB_len hp, u8L_len]
end Go.Proofs.Ytnehppeoffemlaa
