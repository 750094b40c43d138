/-
  NARROWER THAN 'FOR EVERY INPUT', by the rows' own cells (each row's printed sentence says how): CharsetTexts: laid · CharsetClasses: laid · CharsetFields: laid · CharsetWide: laid · CharsetReturns: laid · CharsetFilled: laid · CharsetUpper: laid · CharsetOrder: laid.
  DERIVED. THE GIVEN ROWS OF THIS SEAT. 8 by the template 'for every input the law returns true; each argument reads behind the call as it read before'; 0 by the template 'total and deterministic' (their statements: YteiidcoapgnoaaaDoorTotals.lean).
  GIVEN WITH THE SEED: the statements are not yours to turn. If you find one false, say at which input.
  Laid BY PROGRAM, IN A SANDBOX (cutbox-rows.mjs): the forced cells as the released guide's own fill.sh prints them over the translation 3627bd6fe643afab… (all of the seat's roots in one cut). By AI agents, Wed Nov 11 2026. No macro, syntax, notation, axiom, sorry.
-/
import Derived.Test.YteiidcoapgnoaaaDoorChecked
import GoSem.PinnedTables
import GoSem.Claim
import GoSem.ClaimJoined
import GoSem.ClaimMapViews
import Derived.JoinedTies
import Derived.KernelRfl
namespace Go.Proofs.YteiidcoapgnoaaaDoor
/- THE CELL 'sum', in the pinned program and in every row, IS THE sha256 OF THE DUMP (.gsa) THAT YteiidcoapgnoaaaDoorProg.lean LOADS. Nothing in Lean hashes anything: it is a label: what it is worth is what the hold of that sum in a sandbox is worth. -/
noncomputable def Tryd.pinned : Pinned := { name := "yteiidcoapgnoaaadoor", sum := "3627bd6fe643afabbc579ea3eb4fa835c493db6b6e0d5c082eb79039a341d410", checked := Tryd.checked }
namespace Rows
def none {H : Type} : Left H := { results := [], args := [] }

/- WHAT THE LISTED PACKAGE-LEVEL VARIABLES READ AS WHEN THE CALL BEGINS. Each datum BY PROGRAM (the guide's laid-datum.mjs) off the statement by which the dump's own 'gosem.cut.vars' lays the variable. In a bare row this is a premise. The card (YteiidcoapgnoaaaDoorCards.lean) ties it to the program's text. -/
def laid_unicode_utf8_acceptRanges {H : Type} : DataW H := .agg [.agg [.lit (.int .u8 128), .lit (.int .u8 191)], .agg [.lit (.int .u8 160), .lit (.int .u8 191)], .agg [.lit (.int .u8 128), .lit (.int .u8 159)], .agg [.lit (.int .u8 144), .lit (.int .u8 191)], .agg [.lit (.int .u8 128), .lit (.int .u8 143)], .agg [.lit (.int .u8 0), .lit (.int .u8 0)], .agg [.lit (.int .u8 0), .lit (.int .u8 0)], .agg [.lit (.int .u8 0), .lit (.int .u8 0)], .agg [.lit (.int .u8 0), .lit (.int .u8 0)], .agg [.lit (.int .u8 0), .lit (.int .u8 0)], .agg [.lit (.int .u8 0), .lit (.int .u8 0)], .agg [.lit (.int .u8 0), .lit (.int .u8 0)], .agg [.lit (.int .u8 0), .lit (.int .u8 0)], .agg [.lit (.int .u8 0), .lit (.int .u8 0)], .agg [.lit (.int .u8 0), .lit (.int .u8 0)], .agg [.lit (.int .u8 0), .lit (.int .u8 0)]]
/-- One of Go's own tables, pinned by name: the form's constant. -/
def laid_unicode_utf8_first : DataW Unit := Go.Pinned.utf8First

/-- 'masterdisclaw17.CharsetTexts': WHATEVER THE INPUT: true; the input reads as it did. -/
def charsetTextsSpec : ChangeSpec := { name := "charsetTexts", fn := fun _ => fun
  | [d1, d2] => { results := [.lit (.bool true)], args := [d1, d2] }
  | _ => none }
def charsetTextsRow : OpenClaim := { program := "yteiidcoapgnoaaadoor", sum := "3627bd6fe643afabbc579ea3eb4fa835c493db6b6e0d5c082eb79039a341d410", func := "masterdisc/masterdisclaw17.CharsetTexts", spec := "charsetTexts", inPlace := ["internal/abi.NoEscape", "internal/bytealg.MakeNoZero", "internal/bytealg.IndexByteString", "internal/bytealg.IndexString"], unfollowed := true, recurses := true, named := ["unicode/utf8.first", "unicode/utf8.acceptRanges", "internal/bytealg.MaxLen"], apart := false, laid := [("unicode/utf8.acceptRanges", laid_unicode_utf8_acceptRanges), ("unicode/utf8.first", laid_unicode_utf8_first)] }
def CharsetTextsSaid : Prop := charsetTextsRow.holds Tryd.pinned (OpenSpec.ofChange charsetTextsSpec)

/-- ITS FALSE NEIGHBOUR: 'it returns false'. Refute it at one input. -/
def charsetTextsWrong : ChangeSpec := { name := "charsetTexts", fn := fun _ => fun
  | [d1, d2] => { results := [.lit (.bool false)], args := [d1, d2] }
  | _ => none }
def CharsetTextsWrongFalsely : Prop := charsetTextsRow.holds Tryd.pinned (OpenSpec.ofChange charsetTextsWrong)

/-- 'masterdisclaw17.CharsetClasses': WHATEVER THE INPUT: true; the input reads as it did. -/
def charsetClassesSpec : ChangeSpec := { name := "charsetClasses", fn := fun _ => fun
  | [d] => { results := [.lit (.bool true)], args := [d] }
  | _ => none }
def charsetClassesRow : OpenClaim := { program := "yteiidcoapgnoaaadoor", sum := "3627bd6fe643afabbc579ea3eb4fa835c493db6b6e0d5c082eb79039a341d410", func := "masterdisc/masterdisclaw17.CharsetClasses", spec := "charsetClasses", inPlace := ["internal/abi.NoEscape", "internal/bytealg.MakeNoZero", "internal/bytealg.IndexByteString", "internal/bytealg.IndexString"], unfollowed := true, recurses := true, named := ["unicode/utf8.first", "unicode/utf8.acceptRanges", "internal/bytealg.MaxLen"], apart := false, laid := [("unicode/utf8.acceptRanges", laid_unicode_utf8_acceptRanges), ("unicode/utf8.first", laid_unicode_utf8_first)] }
def CharsetClassesSaid : Prop := charsetClassesRow.holds Tryd.pinned (OpenSpec.ofChange charsetClassesSpec)

/-- ITS FALSE NEIGHBOUR: 'it returns false'. Refute it at one input. -/
def charsetClassesWrong : ChangeSpec := { name := "charsetClasses", fn := fun _ => fun
  | [d] => { results := [.lit (.bool false)], args := [d] }
  | _ => none }
def CharsetClassesWrongFalsely : Prop := charsetClassesRow.holds Tryd.pinned (OpenSpec.ofChange charsetClassesWrong)

/-- 'masterdisclaw17.CharsetFields': WHATEVER THE INPUT: true; the input reads as it did. -/
def charsetFieldsSpec : ChangeSpec := { name := "charsetFields", fn := fun _ => fun
  | [d1, d2] => { results := [.lit (.bool true)], args := [d1, d2] }
  | _ => none }
def charsetFieldsRow : OpenClaim := { program := "yteiidcoapgnoaaadoor", sum := "3627bd6fe643afabbc579ea3eb4fa835c493db6b6e0d5c082eb79039a341d410", func := "masterdisc/masterdisclaw17.CharsetFields", spec := "charsetFields", inPlace := ["internal/abi.NoEscape", "internal/bytealg.MakeNoZero", "internal/bytealg.IndexByteString", "internal/bytealg.IndexString"], unfollowed := true, recurses := true, named := ["unicode/utf8.first", "unicode/utf8.acceptRanges", "internal/bytealg.MaxLen"], apart := false, laid := [("unicode/utf8.acceptRanges", laid_unicode_utf8_acceptRanges), ("unicode/utf8.first", laid_unicode_utf8_first)] }
def CharsetFieldsSaid : Prop := charsetFieldsRow.holds Tryd.pinned (OpenSpec.ofChange charsetFieldsSpec)

/-- ITS FALSE NEIGHBOUR: 'it returns false'. Refute it at one input. -/
def charsetFieldsWrong : ChangeSpec := { name := "charsetFields", fn := fun _ => fun
  | [d1, d2] => { results := [.lit (.bool false)], args := [d1, d2] }
  | _ => none }
def CharsetFieldsWrongFalsely : Prop := charsetFieldsRow.holds Tryd.pinned (OpenSpec.ofChange charsetFieldsWrong)

/-- 'masterdisclaw17.CharsetWide': WHATEVER THE INPUT: true; the input reads as it did. -/
def charsetWideSpec : ChangeSpec := { name := "charsetWide", fn := fun _ => fun
  | [d1, d2, d3] => { results := [.lit (.bool true)], args := [d1, d2, d3] }
  | _ => none }
def charsetWideRow : OpenClaim := { program := "yteiidcoapgnoaaadoor", sum := "3627bd6fe643afabbc579ea3eb4fa835c493db6b6e0d5c082eb79039a341d410", func := "masterdisc/masterdisclaw17.CharsetWide", spec := "charsetWide", inPlace := ["internal/abi.NoEscape", "internal/bytealg.MakeNoZero", "internal/bytealg.IndexByteString", "internal/bytealg.IndexString"], unfollowed := true, recurses := true, named := ["unicode/utf8.first", "unicode/utf8.acceptRanges", "internal/bytealg.MaxLen"], apart := false, laid := [("unicode/utf8.acceptRanges", laid_unicode_utf8_acceptRanges), ("unicode/utf8.first", laid_unicode_utf8_first)] }
def CharsetWideSaid : Prop := charsetWideRow.holds Tryd.pinned (OpenSpec.ofChange charsetWideSpec)

/-- ITS FALSE NEIGHBOUR: 'it returns false'. Refute it at one input. -/
def charsetWideWrong : ChangeSpec := { name := "charsetWide", fn := fun _ => fun
  | [d1, d2, d3] => { results := [.lit (.bool false)], args := [d1, d2, d3] }
  | _ => none }
def CharsetWideWrongFalsely : Prop := charsetWideRow.holds Tryd.pinned (OpenSpec.ofChange charsetWideWrong)

/-- 'masterdisclaw17.CharsetReturns': WHATEVER THE INPUT: true; the input reads as it did. -/
def charsetReturnsSpec : ChangeSpec := { name := "charsetReturns", fn := fun _ => fun
  | [d1, d2] => { results := [.lit (.bool true)], args := [d1, d2] }
  | _ => none }
def charsetReturnsRow : OpenClaim := { program := "yteiidcoapgnoaaadoor", sum := "3627bd6fe643afabbc579ea3eb4fa835c493db6b6e0d5c082eb79039a341d410", func := "masterdisc/masterdisclaw17.CharsetReturns", spec := "charsetReturns", inPlace := ["internal/abi.NoEscape", "internal/bytealg.MakeNoZero", "internal/bytealg.IndexByteString", "internal/bytealg.IndexString"], unfollowed := true, recurses := true, named := ["unicode/utf8.first", "unicode/utf8.acceptRanges", "internal/bytealg.MaxLen"], apart := false, laid := [("unicode/utf8.acceptRanges", laid_unicode_utf8_acceptRanges), ("unicode/utf8.first", laid_unicode_utf8_first)] }
def CharsetReturnsSaid : Prop := charsetReturnsRow.holds Tryd.pinned (OpenSpec.ofChange charsetReturnsSpec)

/-- ITS FALSE NEIGHBOUR: 'it returns false'. Refute it at one input. -/
def charsetReturnsWrong : ChangeSpec := { name := "charsetReturns", fn := fun _ => fun
  | [d1, d2] => { results := [.lit (.bool false)], args := [d1, d2] }
  | _ => none }
def CharsetReturnsWrongFalsely : Prop := charsetReturnsRow.holds Tryd.pinned (OpenSpec.ofChange charsetReturnsWrong)

/-- 'masterdisclaw17.CharsetFilled': WHATEVER THE INPUT: true; the input reads as it did. -/
def charsetFilledSpec : ChangeSpec := { name := "charsetFilled", fn := fun _ => fun
  | [d1, d2] => { results := [.lit (.bool true)], args := [d1, d2] }
  | _ => none }
def charsetFilledRow : OpenClaim := { program := "yteiidcoapgnoaaadoor", sum := "3627bd6fe643afabbc579ea3eb4fa835c493db6b6e0d5c082eb79039a341d410", func := "masterdisc/masterdisclaw17.CharsetFilled", spec := "charsetFilled", inPlace := ["internal/abi.NoEscape", "internal/bytealg.MakeNoZero", "internal/bytealg.IndexByteString", "internal/bytealg.IndexString"], unfollowed := true, recurses := true, named := ["unicode/utf8.first", "unicode/utf8.acceptRanges", "internal/bytealg.MaxLen"], apart := false, laid := [("unicode/utf8.acceptRanges", laid_unicode_utf8_acceptRanges), ("unicode/utf8.first", laid_unicode_utf8_first)] }
def CharsetFilledSaid : Prop := charsetFilledRow.holds Tryd.pinned (OpenSpec.ofChange charsetFilledSpec)

/-- ITS FALSE NEIGHBOUR: 'it returns false'. Refute it at one input. -/
def charsetFilledWrong : ChangeSpec := { name := "charsetFilled", fn := fun _ => fun
  | [d1, d2] => { results := [.lit (.bool false)], args := [d1, d2] }
  | _ => none }
def CharsetFilledWrongFalsely : Prop := charsetFilledRow.holds Tryd.pinned (OpenSpec.ofChange charsetFilledWrong)

/-- 'masterdisclaw17.CharsetUpper': WHATEVER THE INPUT: true; the input reads as it did. -/
def charsetUpperSpec : ChangeSpec := { name := "charsetUpper", fn := fun _ => fun
  | [d] => { results := [.lit (.bool true)], args := [d] }
  | _ => none }
def charsetUpperRow : OpenClaim := { program := "yteiidcoapgnoaaadoor", sum := "3627bd6fe643afabbc579ea3eb4fa835c493db6b6e0d5c082eb79039a341d410", func := "masterdisc/masterdisclaw17.CharsetUpper", spec := "charsetUpper", inPlace := ["internal/abi.NoEscape", "internal/bytealg.MakeNoZero", "internal/bytealg.IndexByteString", "internal/bytealg.IndexString"], unfollowed := true, recurses := true, named := ["unicode/utf8.first", "unicode/utf8.acceptRanges", "internal/bytealg.MaxLen"], apart := false, laid := [("unicode/utf8.acceptRanges", laid_unicode_utf8_acceptRanges), ("unicode/utf8.first", laid_unicode_utf8_first)] }
def CharsetUpperSaid : Prop := charsetUpperRow.holds Tryd.pinned (OpenSpec.ofChange charsetUpperSpec)

/-- ITS FALSE NEIGHBOUR: 'it returns false'. Refute it at one input. -/
def charsetUpperWrong : ChangeSpec := { name := "charsetUpper", fn := fun _ => fun
  | [d] => { results := [.lit (.bool false)], args := [d] }
  | _ => none }
def CharsetUpperWrongFalsely : Prop := charsetUpperRow.holds Tryd.pinned (OpenSpec.ofChange charsetUpperWrong)

/-- 'masterdisclaw17.CharsetOrder': WHATEVER THE INPUT: true; the input reads as it did. -/
def charsetOrderSpec : ChangeSpec := { name := "charsetOrder", fn := fun _ => fun
  | [d1, d2] => { results := [.lit (.bool true)], args := [d1, d2] }
  | _ => none }
def charsetOrderRow : OpenClaim := { program := "yteiidcoapgnoaaadoor", sum := "3627bd6fe643afabbc579ea3eb4fa835c493db6b6e0d5c082eb79039a341d410", func := "masterdisc/masterdisclaw17.CharsetOrder", spec := "charsetOrder", inPlace := ["internal/abi.NoEscape", "internal/bytealg.MakeNoZero", "internal/bytealg.IndexByteString", "internal/bytealg.IndexString", "internal/bytealg.abigen_runtime_cmpstring"], unfollowed := true, recurses := true, named := ["unicode/utf8.first", "unicode/utf8.acceptRanges", "internal/bytealg.MaxLen"], apart := false, laid := [("unicode/utf8.acceptRanges", laid_unicode_utf8_acceptRanges), ("unicode/utf8.first", laid_unicode_utf8_first)] }
def CharsetOrderSaid : Prop := charsetOrderRow.holds Tryd.pinned (OpenSpec.ofChange charsetOrderSpec)

/-- ITS FALSE NEIGHBOUR: 'it returns false'. Refute it at one input. -/
def charsetOrderWrong : ChangeSpec := { name := "charsetOrder", fn := fun _ => fun
  | [d1, d2] => { results := [.lit (.bool false)], args := [d1, d2] }
  | _ => none }
def CharsetOrderWrongFalsely : Prop := charsetOrderRow.holds Tryd.pinned (OpenSpec.ofChange charsetOrderWrong)

/- THE SECOND FORM. 'bulk': how many values and letters a reading holds, each counted each time it is reached (what is shared counts as often as it is met; a slice's spare places count too). A statement '..UptoSaid' is the law's where the arguments, and the package variables that the reading takes, are together of bulk at most 1048576: NARROWER than '..Said'. Prove '..Said' where nothing that the law and all that it calls make is longer than what came in: it says more and counts as full. Else prove '..UptoSaid'. A law counts once. -/
mutual
def uptoBulk {H : Type} : DataW H → Nat
  | .lit (.string bytes) => bytes.length + 1
  | .lit _ => 1
  | .nil => 1
  | .ptr d => uptoBulk d + 1
  | .slice elems spare => uptoBulkAll elems + uptoBulkAll spare + 1
  | .agg parts => uptoBulkAll parts + 1
  | .iface _ d => uptoBulk d + 1
  | .map entries => uptoBulkEntries entries + 1
  | .held _ => 1
def uptoBulkAll {H : Type} : List (DataW H) → Nat
  | [] => 0
  | d :: r => uptoBulk d + uptoBulkAll r
def uptoBulkEntries {H : Type} : List (Lit × DataW H) → Nat
  | [] => 0
  | x :: r => uptoBulkEntry x + uptoBulkEntries r
def uptoBulkEntry {H : Type} : Lit × DataW H → Nat
  | (.string bytes, d) => bytes.length + uptoBulk d + 1
  | (_, d) => uptoBulk d + 1
 end
def uptoSmall : (H : Type) → List (DataW H) → Bool := fun _ ds => decide (uptoBulkAll ds ≤ 1048576)
def OpenSpec.upto (s : _root_.Go.ChangeSpec) : _root_.Go.OpenSpec := { _root_.Go.OpenSpec.ofChange s with cond := some uptoSmall }

/-- 'masterdisclaw17.CharsetTexts', WHERE WHAT IT READS IS OF BULK AT MOST 1048576: true; the input reads as it did. -/
def charsetTextsUptoRow : OpenClaim := { program := "yteiidcoapgnoaaadoor", sum := "3627bd6fe643afabbc579ea3eb4fa835c493db6b6e0d5c082eb79039a341d410", func := "masterdisc/masterdisclaw17.CharsetTexts", spec := "charsetTexts", inPlace := ["internal/abi.NoEscape", "internal/bytealg.MakeNoZero", "internal/bytealg.IndexByteString", "internal/bytealg.IndexString"], unfollowed := true, recurses := true, named := ["unicode/utf8.first", "unicode/utf8.acceptRanges", "internal/bytealg.MaxLen"], apart := false, laid := [("unicode/utf8.acceptRanges", laid_unicode_utf8_acceptRanges), ("unicode/utf8.first", laid_unicode_utf8_first)], narrowed := true }
def CharsetTextsUptoSaid : Prop := charsetTextsUptoRow.holds Tryd.pinned (OpenSpec.upto charsetTextsSpec)

/-- 'masterdisclaw17.CharsetClasses', WHERE WHAT IT READS IS OF BULK AT MOST 1048576: true; the input reads as it did. -/
def charsetClassesUptoRow : OpenClaim := { program := "yteiidcoapgnoaaadoor", sum := "3627bd6fe643afabbc579ea3eb4fa835c493db6b6e0d5c082eb79039a341d410", func := "masterdisc/masterdisclaw17.CharsetClasses", spec := "charsetClasses", inPlace := ["internal/abi.NoEscape", "internal/bytealg.MakeNoZero", "internal/bytealg.IndexByteString", "internal/bytealg.IndexString"], unfollowed := true, recurses := true, named := ["unicode/utf8.first", "unicode/utf8.acceptRanges", "internal/bytealg.MaxLen"], apart := false, laid := [("unicode/utf8.acceptRanges", laid_unicode_utf8_acceptRanges), ("unicode/utf8.first", laid_unicode_utf8_first)], narrowed := true }
def CharsetClassesUptoSaid : Prop := charsetClassesUptoRow.holds Tryd.pinned (OpenSpec.upto charsetClassesSpec)

/-- 'masterdisclaw17.CharsetFields', WHERE WHAT IT READS IS OF BULK AT MOST 1048576: true; the input reads as it did. -/
def charsetFieldsUptoRow : OpenClaim := { program := "yteiidcoapgnoaaadoor", sum := "3627bd6fe643afabbc579ea3eb4fa835c493db6b6e0d5c082eb79039a341d410", func := "masterdisc/masterdisclaw17.CharsetFields", spec := "charsetFields", inPlace := ["internal/abi.NoEscape", "internal/bytealg.MakeNoZero", "internal/bytealg.IndexByteString", "internal/bytealg.IndexString"], unfollowed := true, recurses := true, named := ["unicode/utf8.first", "unicode/utf8.acceptRanges", "internal/bytealg.MaxLen"], apart := false, laid := [("unicode/utf8.acceptRanges", laid_unicode_utf8_acceptRanges), ("unicode/utf8.first", laid_unicode_utf8_first)], narrowed := true }
def CharsetFieldsUptoSaid : Prop := charsetFieldsUptoRow.holds Tryd.pinned (OpenSpec.upto charsetFieldsSpec)

/-- 'masterdisclaw17.CharsetWide', WHERE WHAT IT READS IS OF BULK AT MOST 1048576: true; the input reads as it did. -/
def charsetWideUptoRow : OpenClaim := { program := "yteiidcoapgnoaaadoor", sum := "3627bd6fe643afabbc579ea3eb4fa835c493db6b6e0d5c082eb79039a341d410", func := "masterdisc/masterdisclaw17.CharsetWide", spec := "charsetWide", inPlace := ["internal/abi.NoEscape", "internal/bytealg.MakeNoZero", "internal/bytealg.IndexByteString", "internal/bytealg.IndexString"], unfollowed := true, recurses := true, named := ["unicode/utf8.first", "unicode/utf8.acceptRanges", "internal/bytealg.MaxLen"], apart := false, laid := [("unicode/utf8.acceptRanges", laid_unicode_utf8_acceptRanges), ("unicode/utf8.first", laid_unicode_utf8_first)], narrowed := true }
def CharsetWideUptoSaid : Prop := charsetWideUptoRow.holds Tryd.pinned (OpenSpec.upto charsetWideSpec)

/-- 'masterdisclaw17.CharsetReturns', WHERE WHAT IT READS IS OF BULK AT MOST 1048576: true; the input reads as it did. -/
def charsetReturnsUptoRow : OpenClaim := { program := "yteiidcoapgnoaaadoor", sum := "3627bd6fe643afabbc579ea3eb4fa835c493db6b6e0d5c082eb79039a341d410", func := "masterdisc/masterdisclaw17.CharsetReturns", spec := "charsetReturns", inPlace := ["internal/abi.NoEscape", "internal/bytealg.MakeNoZero", "internal/bytealg.IndexByteString", "internal/bytealg.IndexString"], unfollowed := true, recurses := true, named := ["unicode/utf8.first", "unicode/utf8.acceptRanges", "internal/bytealg.MaxLen"], apart := false, laid := [("unicode/utf8.acceptRanges", laid_unicode_utf8_acceptRanges), ("unicode/utf8.first", laid_unicode_utf8_first)], narrowed := true }
def CharsetReturnsUptoSaid : Prop := charsetReturnsUptoRow.holds Tryd.pinned (OpenSpec.upto charsetReturnsSpec)

/-- 'masterdisclaw17.CharsetFilled', WHERE WHAT IT READS IS OF BULK AT MOST 1048576: true; the input reads as it did. -/
def charsetFilledUptoRow : OpenClaim := { program := "yteiidcoapgnoaaadoor", sum := "3627bd6fe643afabbc579ea3eb4fa835c493db6b6e0d5c082eb79039a341d410", func := "masterdisc/masterdisclaw17.CharsetFilled", spec := "charsetFilled", inPlace := ["internal/abi.NoEscape", "internal/bytealg.MakeNoZero", "internal/bytealg.IndexByteString", "internal/bytealg.IndexString"], unfollowed := true, recurses := true, named := ["unicode/utf8.first", "unicode/utf8.acceptRanges", "internal/bytealg.MaxLen"], apart := false, laid := [("unicode/utf8.acceptRanges", laid_unicode_utf8_acceptRanges), ("unicode/utf8.first", laid_unicode_utf8_first)], narrowed := true }
def CharsetFilledUptoSaid : Prop := charsetFilledUptoRow.holds Tryd.pinned (OpenSpec.upto charsetFilledSpec)

/-- 'masterdisclaw17.CharsetUpper', WHERE WHAT IT READS IS OF BULK AT MOST 1048576: true; the input reads as it did. -/
def charsetUpperUptoRow : OpenClaim := { program := "yteiidcoapgnoaaadoor", sum := "3627bd6fe643afabbc579ea3eb4fa835c493db6b6e0d5c082eb79039a341d410", func := "masterdisc/masterdisclaw17.CharsetUpper", spec := "charsetUpper", inPlace := ["internal/abi.NoEscape", "internal/bytealg.MakeNoZero", "internal/bytealg.IndexByteString", "internal/bytealg.IndexString"], unfollowed := true, recurses := true, named := ["unicode/utf8.first", "unicode/utf8.acceptRanges", "internal/bytealg.MaxLen"], apart := false, laid := [("unicode/utf8.acceptRanges", laid_unicode_utf8_acceptRanges), ("unicode/utf8.first", laid_unicode_utf8_first)], narrowed := true }
def CharsetUpperUptoSaid : Prop := charsetUpperUptoRow.holds Tryd.pinned (OpenSpec.upto charsetUpperSpec)

/-- 'masterdisclaw17.CharsetOrder', WHERE WHAT IT READS IS OF BULK AT MOST 1048576: true; the input reads as it did. -/
def charsetOrderUptoRow : OpenClaim := { program := "yteiidcoapgnoaaadoor", sum := "3627bd6fe643afabbc579ea3eb4fa835c493db6b6e0d5c082eb79039a341d410", func := "masterdisc/masterdisclaw17.CharsetOrder", spec := "charsetOrder", inPlace := ["internal/abi.NoEscape", "internal/bytealg.MakeNoZero", "internal/bytealg.IndexByteString", "internal/bytealg.IndexString", "internal/bytealg.abigen_runtime_cmpstring"], unfollowed := true, recurses := true, named := ["unicode/utf8.first", "unicode/utf8.acceptRanges", "internal/bytealg.MaxLen"], apart := false, laid := [("unicode/utf8.acceptRanges", laid_unicode_utf8_acceptRanges), ("unicode/utf8.first", laid_unicode_utf8_first)], narrowed := true }
def CharsetOrderUptoSaid : Prop := charsetOrderUptoRow.holds Tryd.pinned (OpenSpec.upto charsetOrderSpec)

end Rows
end Go.Proofs.YteiidcoapgnoaaaDoor
