/-
  What every row of this seat needs: the two tables of unicode/utf8 out of what the row lists, and a world that holds them.
-/
import Derived.Test.YteiidcoapgnoaaaDoorCards
import Derived.Test.YteiidcoapgnoaaaDoorTie
import Derived.Test.YteiidcoapgnoaaaDoorWords
import Derived.WalkKit
import Derived.ProofKit
import Derived.OpenShut
import Derived.ShutString
import Derived.ChangeOld
import Derived.Below
import Derived.Deep.DeepHandedRow
import Derived.Lib.LaidTab
import Derived.Lib.LaidU8
namespace Go.Proofs.YteiidcoapgnoaaaDoor
open Go.ChangeShapes Go.WideShapes Go.ChangeAt Go.RowKit

theorem ownKnob_none : ownKnob Tryd.prog.godebug = none := by kernel_rfl
theorem laidOut : laidOutB Tryd.prog = true := by kernel_rfl
/-- What each row of this seat lists. -/
def listed : List (String × DataW Unit) := [("unicode/utf8.acceptRanges", Rows.laid_unicode_utf8_acceptRanges), ("unicode/utf8.first", Rows.laid_unicode_utf8_first)]
theorem extra : U8Extra Tryd.prog Tryd.lays260_ren where
  n3 := by kernel_rfl
  n4 := by kernel_rfl
  y3 := by kernel_rfl
  y4 := by kernel_rfl
  c5 := by kernel_rfl
  c119 := by kernel_rfl
  c138 := by kernel_rfl
theorem first_eq : (Rows.laid_unicode_utf8_first : DataW Unit) = Lib.firstData := by kernel_rfl
theorem accept_eq : (Rows.laid_unicode_utf8_acceptRanges : DataW Unit) = Lib.acceptData := by kernel_rfl
theorem tabs_of {W : World} (h : laidMetH Tryd.prog listed W) : Tabs W := by
  have h' : laidMet Tryd.prog listed W := by
    rw [MakeChecks.laidMetH_plain _ _ _ (by kernel_rfl)] at h
    exact h
  have r3 := Lib.laidMet.reads h' (n := "unicode/utf8.first") (d := Rows.laid_unicode_utf8_first) (by simp [listed])
  have r4 := Lib.laidMet.reads h' (n := "unicode/utf8.acceptRanges") (d := Rows.laid_unicode_utf8_acceptRanges) (by simp [listed])
  rw [first_eq] at r3
  rw [accept_eq] at r4
  exact utf8Tabs_of_reads Tryd.lays260 extra r3 r4

/-- The cells of the two tables. -/
def firstCells : Array Value := ((List.range 256).map fun c => Value.int .u8 (Lib.firstT c : Int)).toArray
def acceptCells : Array Value := ((List.range 32).map fun j => Value.int .u8 (if j % 2 = 0 then (Lib.accLo (j / 2) : Int) else (Lib.accHi (j / 2) : Int))).toArray
def putFirst : Obj → Obj
  | .cells _ t frozen => .cells firstCells t frozen
  | o => o
def putAccept : Obj → Obj
  | .cells _ t frozen => .cells acceptCells t frozen
  | o => o
/-- A world for the witness: the settled one, both tables as their initialisers lay them. -/
noncomputable def laidWorld (os : Os) : World :=
  let W := World.holding Tryd.prog os ⟨#[], #[], []⟩
  { W with heap := (W.heap.modify 1 putFirst).modify 2 putAccept }
end Go.Proofs.YteiidcoapgnoaaaDoor
