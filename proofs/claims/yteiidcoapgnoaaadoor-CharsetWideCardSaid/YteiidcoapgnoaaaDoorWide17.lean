/-
  What the functions of layer 17 return: UCS-2 of a string, the string of UCS-2, and the fields.
-/
import Derived.Test.YteiidcoapgnoaaaDoorFld
import Derived.Test.YteiidcoapgnoaaaDoorTrm
import Derived.Test.YteiidcoapgnoaaaDoorUp
namespace Go.Proofs.YteiidcoapgnoaaaDoor
open Go.RowKit

/-- UCS-2 of a string, and the error. -/
def ucsS (s : ByteArray) : ByteArray := if 65536 < s.size then ⟨#[]⟩ else match Ch.chars s.data.toList with | some cs => ⟨(Ch.ucs cs).toArray⟩ | none => ⟨#[]⟩
def ucsE (s : ByteArray) : Int := if 65536 < s.size then 7 else match Ch.chars s.data.toList with | some _ => 0 | none => 3
theorem ucs_big {s : ByteArray} (h : 65536 < s.size) : ucsS s = ⟨#[]⟩ ∧ ucsE s = 7 := by
  unfold ucsS ucsE; rw [if_pos h, if_pos h]; exact ⟨rfl, rfl⟩
theorem ucs_none {s : ByteArray} (h : s.size ≤ 65536) (hc : Ch.chars s.data.toList = none) : ucsS s = ⟨#[]⟩ ∧ ucsE s = 3 := by
  unfold ucsS ucsE; rw [if_neg (by omega), if_neg (by omega), hc]; exact ⟨rfl, rfl⟩
theorem ucs_some {s : ByteArray} {cs : List Nat} (h : s.size ≤ 65536) (hc : Ch.chars s.data.toList = some cs) : ucsS s = ⟨(Ch.ucs cs).toArray⟩ ∧ ucsE s = 0 := by
  unfold ucsS ucsE; rw [if_neg (by omega), if_neg (by omega), hc]; exact ⟨rfl, rfl⟩

/-- The string of UCS-2, and the error. -/
def frmS (s : ByteArray) : ByteArray := if 65536 < s.size then ⟨#[]⟩ else if s.size % 2 = 1 then ⟨#[]⟩ else match Ch.pairs s.data.toList with | some cs => ⟨(Ch.encs cs).toArray⟩ | none => ⟨#[]⟩
def frmE (s : ByteArray) : Int := if 65536 < s.size then 7 else if s.size % 2 = 1 then 3 else match Ch.pairs s.data.toList with | some _ => 0 | none => 2
theorem frm_big {s : ByteArray} (h : 65536 < s.size) : frmS s = ⟨#[]⟩ ∧ frmE s = 7 := by
  unfold frmS frmE; rw [if_pos h, if_pos h]; exact ⟨rfl, rfl⟩
theorem frm_odd {s : ByteArray} (h : s.size ≤ 65536) (ho : s.size % 2 = 1) : frmS s = ⟨#[]⟩ ∧ frmE s = 3 := by
  unfold frmS frmE; rw [if_neg (by omega), if_pos ho, if_neg (by omega), if_pos ho]; exact ⟨rfl, rfl⟩
theorem frm_none {s : ByteArray} (h : s.size ≤ 65536) (ho : s.size % 2 = 0) (hc : Ch.pairs s.data.toList = none) : frmS s = ⟨#[]⟩ ∧ frmE s = 2 := by
  unfold frmS frmE; rw [if_neg (by omega), if_neg (by omega), if_neg (by omega), if_neg (by omega), hc]; exact ⟨rfl, rfl⟩
theorem frm_some {s : ByteArray} {cs : List Nat} (h : s.size ≤ 65536) (ho : s.size % 2 = 0) (hc : Ch.pairs s.data.toList = some cs) : frmS s = ⟨(Ch.encs cs).toArray⟩ ∧ frmE s = 0 := by
  unfold frmS frmE; rw [if_neg (by omega), if_neg (by omega), if_neg (by omega), if_neg (by omega), hc]; exact ⟨rfl, rfl⟩

/-- A blank in UCS-2 some times. -/
def blkL (n : Nat) : List UInt8 := Ch.ucs (List.replicate n 32)
/-- A field in UCS-2, and the error. -/
def wfdS (s : ByteArray) (n : Int) : ByteArray :=
  if ucsE s ≠ 0 then ⟨#[]⟩ else if n < 0 ∨ 65536 < n then ⟨#[]⟩ else if n < ((ucsS s).size : Int) then ⟨#[]⟩
  else ucsS s ++ ⟨(blkL ((n.toNat - (ucsS s).size) / 2)).toArray⟩ ++ repS 0 ((n.toNat - (ucsS s).size) % 2)
def wfdE (s : ByteArray) (n : Int) : Int := if ucsE s ≠ 0 then ucsE s else if n < 0 ∨ 65536 < n then 2 else if n < ((ucsS s).size : Int) then 12 else 0

/-- What is read of a field in UCS-2, and the error. -/
def wtrT (s : ByteArray) : ByteArray := ⟨(Ch.wtL s.data.toList).toArray⟩
def wtrS (s : ByteArray) : ByteArray := if 65536 < s.size then ⟨#[]⟩ else frmS (wtrT s)
def wtrE (s : ByteArray) : Int := if 65536 < s.size then 7 else frmE (wtrT s)

def uprS (s : ByteArray) : ByteArray := if 65536 < s.size then ⟨#[]⟩ else ⟨(s.data.toList.map Ch.upB).toArray⟩
end Go.Proofs.YteiidcoapgnoaaaDoor
