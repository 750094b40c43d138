/-
  What every row of this seat needs: a world that holds the two tables of unicode/utf8.
-/
import Derived.Test.YtokcpammdhkecaaGreatDoorCards
import Derived.Test.YtokcpammdhkecaaGreatDoorTie
import Derived.Test.YtokcpammdhkecaaGreatDoorGl
import Derived.WalkKit
import Derived.ProofKit
import Derived.OpenShut
import Derived.ShutString
import Derived.ChangeOld
import Derived.Below
import Derived.Deep.DeepHandedRow
import Derived.Lib.LaidTab
import Derived.Lib.LaidU8
namespace Go.Proofs.YtokcpammdhkecaaGreatDoor
open Go.ChangeShapes Go.WideShapes Go.ChangeAt Go.RowKit

theorem ownKnob_none : ownKnob Tryz.prog.godebug = none := by kernel_rfl
theorem laidOut : laidOutB Tryz.prog = true := by kernel_rfl
/-- What each row of this seat lists. -/
def listed : List (String × DataW Unit) := [("unicode/utf8.acceptRanges", Rows.laid_unicode_utf8_acceptRanges), ("unicode/utf8.first", Rows.laid_unicode_utf8_first)]
/-- The cells of the two tables. -/
def firstCells : Array Value := ((List.range 256).map fun c => Value.int .u8 (Lib.firstT c : Int)).toArray
def acceptCells : Array Value := ((List.range 32).map fun j => Value.int .u8 (if j % 2 = 0 then (Lib.accLo (j / 2) : Int) else (Lib.accHi (j / 2) : Int))).toArray
def putFirst : Obj → Obj
  | .cells _ t frozen => .cells firstCells t frozen
  | o => o
def putAccept : Obj → Obj
  | .cells _ t frozen => .cells acceptCells t frozen
  | o => o
/-- A world for the witness: the settled one, both tables as their initialisers lay them. -/
noncomputable def laidWorld (os : Os) : World :=
  let W := World.holding Tryz.prog os ⟨#[], #[], []⟩
  { W with heap := (W.heap.modify 1 putFirst).modify 2 putAccept }
end Go.Proofs.YtokcpammdhkecaaGreatDoor
