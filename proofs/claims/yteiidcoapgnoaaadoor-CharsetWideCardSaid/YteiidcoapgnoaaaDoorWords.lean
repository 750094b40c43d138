/-
  Words over the program: rows of numbers and bytes that a call owns, the tables of unicode/utf8 in later worlds, the decode of a string as a list of bytes.
-/
import Derived.Test.YteiidcoapgnoaaaDoorMem
import Derived.Test.YteiidcoapgnoaaaDoorDec
import Derived.Test.YteiidcoapgnoaaaDoorUcs
import Derived.Test.YteiidcoapgnoaaaDoorShelf
import Derived.Test.YteiidcoapgnoaaaDoorRune
import Derived.WalkKit
import Derived.WalkSpells
import Derived.IntWalk
import Derived.Lib.Strings
import Derived.Lib.IndexBytes
import Derived.Lib.Hide
import Derived.Deep.DeepFit
namespace Go.Proofs.YteiidcoapgnoaaaDoor
open Go.RowKit

/-- Characters as numbers in a row of ints. -/
def ints (cs : List Nat) : List Value := cs.map fun (c : Nat) => Value.int .i64 (c : Int)
theorem ints_length (cs : List Nat) : (ints cs).length = cs.length := by simp [ints]
theorem ints_append (a b : List Nat) : ints (a ++ b) = ints a ++ ints b := by simp [ints]
theorem ints_at {cs : List Nat} {k : Nat} (h : k < cs.length) : (ints cs)[k]? = some (.int .i64 (cs[k] : Int)) := by simp [ints, h]
theorem intInfo : (Tryd.prog.info? 3).map (fun i => (i.zero, i.size, i.bytes)) = some (some (.int .i64 0), 1, 8) := by kernel_rfl
theorem byteInfo : (Tryd.prog.info? 5).map (fun i => (i.zero, i.size, i.bytes)) = some (some (.int .u8 0), 1, 1) := by kernel_rfl

/-- The two tables of unicode/utf8 as their initialisers lay them. -/
abbrev Tabs (w : World) : Prop := Lib.Utf8Tabs 1 2 w

theorem cell_lt {w : World} {b o : Nat} {v : Value} (h : w.cell? ⟨b, o, none⟩ = some v) : b < w.heap.size := by
  rcases Nat.lt_or_ge b w.heap.size with hl | hg
  · exact hl
  · unfold World.cell? at h
    rw [Array.getElem?_eq_none hg] at h
    simp at h
theorem tabs_keep {w w' : World} (h : Tabs w) (hk : ∀ p : Addr, p.block < w.heap.size → w'.cell? p = w.cell? p) : Tabs w' :=
  ⟨fun c hc => (hk _ (cell_lt (h.1 c hc))).trans (h.1 c hc), fun i hi => ⟨(hk _ (cell_lt (h.2 i hi).1)).trans (h.2 i hi).1, (hk _ (cell_lt (h.2 i hi).2)).trans (h.2 i hi).2⟩⟩
theorem tabs_below {B : Nat} {w w' : World} (h : Tabs w) (hB : w.heap.size ≤ B) (hb : Below B w w') : Tabs w' :=
  tabs_keep h fun _ hp => hb.cell (Nat.lt_of_lt_of_le hp hB)

/-- A string's decode is that of its list of bytes. -/
theorem get_list (s : ByteArray) (i : Nat) : s.get! i = s.data.toList.getD i 0 := by
  obtain ⟨⟨l⟩⟩ := s
  simp only [ByteArray.get!]
  simp [List.getD_eq_getElem?_getD]
  rfl
theorem decodeGo_list (s : ByteArray) (h : s.data.toList ≠ []) : Lib.decodeGo s = Ch.decL s.data.toList := by
  have hs : s.size ≠ 0 := fun e => h (List.eq_nil_of_length_eq_zero (by rw [← Lib.size_eq]; exact e))
  unfold Lib.decodeGo Ch.decL
  rw [if_neg hs, Lib.decode_at, Nat.sub_zero, get_list, get_list, get_list, get_list, Lib.size_eq]

theorem dec_yes {s : ByteArray} (h : s.data.toList ≠ []) {c k : Nat} (hd : Lib.decodeGo s = (c, k)) (ho : Ch.okDec (c, k) = true) : Ch.dec s.data.toList = some (c, k) := by
  have := Ch.dec_tells h
  rw [← decodeGo_list s h, hd] at this
  unfold Ch.Tells at this
  rw [this, if_pos ho]
theorem dec_no {s : ByteArray} (h : s.data.toList ≠ []) {c k : Nat} (hd : Lib.decodeGo s = (c, k)) (ho : Ch.okDec (c, k) = false) : Ch.dec s.data.toList = none := by
  have := Ch.dec_tells h
  rw [← decodeGo_list s h, hd] at this
  unfold Ch.Tells at this
  rw [this, if_neg (by simp [ho])]
theorem decN_bounds (n b0 b1 b2 b3 : Nat) : (Lib.decodeN n b0 b1 b2 b3).1 ≤ 1114111 ∧ 1 ≤ (Lib.decodeN n b0 b1 b2 b3).2 ∧ (Lib.decodeN n b0 b1 b2 b3).2 ≤ 4 := by
  unfold Lib.decodeN
  repeat' split
  all_goals (simp only; omega)
theorem dec_bounds (s : ByteArray) (h : s.data.toList ≠ []) {c k : Nat} (hd : Lib.decodeGo s = (c, k)) : c ≤ 1114111 ∧ 1 ≤ k ∧ k ≤ 4 := by
  have := decN_bounds s.data.toList.length (s.data.toList.getD 0 0).toNat (s.data.toList.getD 1 0).toNat (s.data.toList.getD 2 0).toNat (s.data.toList.getD 3 0).toNat
  rw [decodeGo_list s h] at hd
  unfold Ch.decL at hd
  rw [hd] at this
  exact this
/-- Numbers as they stand in a row of ints. -/
def nat2int (cs : List Nat) : List Int := cs.map fun (c : Nat) => (c : Int)
theorem nat2int_length (cs : List Nat) : (nat2int cs).length = cs.length := by simp [nat2int]
/-- A number is a character. -/
def chI (n : Int) : Bool := decide (32 ≤ n ∧ n ≤ 65533 ∧ (n < 55296 ∨ 57343 < n))
theorem chI_nat (n : Nat) : chI (n : Int) = Ch.isCh n := by
  unfold chI Ch.isCh
  congr 1
  apply propext
  omega

theorem ret_eq {a b : Value} (h : a = b) : Ending.returned a = .returned b := by rw [h]
theorem ret_bool {a b : Bool} (h : a = b) : Ending.returned (.bool a) = .returned (.bool b) := by rw [h]
theorem ret_int {k : IntKind} {a b : Int} (h : a = b) : Ending.returned (.int k a) = .returned (.int k b) := by rw [h]
theorem ret_str {a b : ByteArray} (h : a = b) : Ending.returned (.string a) = .returned (.string b) := by rw [h]
end Go.Proofs.YteiidcoapgnoaaaDoor
