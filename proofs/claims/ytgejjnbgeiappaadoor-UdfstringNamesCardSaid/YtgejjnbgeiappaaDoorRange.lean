/-
  The decodes that a range over a text gives: one for each of its characters; the bytes of compressed Unicode, one by one.
-/
import Derived.Test.YtgejjnbgeiappaaDoorWalkFits
import Derived.Laws.RangeAny
import Derived.Lib.RuneCount
namespace Go.Proofs.YtgejjnbgeiappaaDoor
open Go.RowKit

/-- Where the character j of a text begins. -/
def posL (cs : List Nat) (j : Nat) : Nat := (Ch.encs (cs.take j)).length
theorem posL_zero (cs : List Nat) : posL cs 0 = 0 := by unfold posL; rw [List.take_zero]; rfl
theorem posL_succ {cs : List Nat} {j : Nat} (h : j < cs.length) : posL cs (j + 1) = posL cs j + (Ch.enc cs[j]).length := by
  unfold posL
  rw [← List.take_append_getElem h, Ch.encs_append, List.length_append, Ch.encs_cons, Ch.encs_nil, List.append_nil]
theorem posL_all {s : ByteArray} {cs : List Nat} (hc : Ch.chars s.data.toList = some cs) : posL cs cs.length = s.size := by
  unfold posL; rw [List.take_length, Lib.size_eq, (Ch.chars_iff.1 hc).2]
theorem decode_drop (s : ByteArray) (i : Nat) : Utf8.decode s i = Ch.decL (s.data.toList.drop i) := by
  unfold Ch.decL
  rw [Lib.decode_at, get_list, get_list, get_list, get_list, Lib.size_eq, List.length_drop]
  simp only [List.getD_eq_getElem?_getD, List.getElem?_drop, Nat.add_zero]
theorem posL_at {s : ByteArray} {cs : List Nat} (hc : Ch.chars s.data.toList = some cs) {j : Nat} (h : j < cs.length) :
    Utf8.decode s (posL cs j) = (cs[j], (Ch.enc cs[j]).length) ∧ posL cs j < s.size := by
  have he := (Ch.chars_iff.1 hc).2
  have hch := (Ch.chars_iff.1 hc).1
  have hall : s.data.toList = Ch.encs (cs.take j) ++ (Ch.enc cs[j] ++ Ch.encs (cs.drop (j + 1))) := by
    rw [he, ← Ch.encs_cons, ← List.drop_eq_getElem_cons h, ← Ch.encs_append, List.take_append_drop]
  have hd : s.data.toList.drop (posL cs j) = Ch.enc cs[j] ++ Ch.encs (cs.drop (j + 1)) := by
    unfold posL; rw [hall, List.drop_left]
  have hdec := Ch.dec_enc (hch _ (List.getElem_mem h)) (Ch.encs (cs.drop (j + 1)))
  rw [← hd] at hdec
  have hne : s.data.toList.drop (posL cs j) ≠ [] := by intro e; rw [e] at hdec; cases hdec
  constructor
  · rw [decode_drop]
    have ht := Ch.dec_tells hne
    unfold Ch.Tells at ht
    rw [hdec] at ht
    split at ht
    · exact (Option.some.inj ht).symm
    · cases ht
  · rw [Lib.size_eq]
    apply Classical.byContradiction
    intro hn
    exact hne (List.drop_eq_nil_of_le (by omega))
theorem count_from {s : ByteArray} {cs : List Nat} (hc : Ch.chars s.data.toList = some cs) : ∀ (f j : Nat), j ≤ cs.length → cs.length - j ≤ f → Lib.runeCountFrom s f (posL cs j) = cs.length - j
  | 0, j, hj, hf => by
    have : j = cs.length := by omega
    subst this
    rw [Lib.runeCountFrom_end _ _ _ (by rw [posL_all hc]; omega)]; omega
  | f + 1, j, hj, hf => by
    by_cases h : j < cs.length
    · obtain ⟨h1, h2⟩ := posL_at hc h
      unfold Lib.runeCountFrom
      rw [if_pos h2, h1]
      simp only
      rw [← posL_succ h, count_from hc f (j + 1) (by omega) (by omega)]
      omega
    · have : j = cs.length := by omega
      subst this
      rw [Lib.runeCountFrom_end _ _ _ (by rw [posL_all hc]; omega)]; omega
theorem count_chars {s : ByteArray} {cs : List Nat} (hc : Ch.chars s.data.toList = some cs) : Lib.runeCount s = cs.length := by
  unfold Lib.runeCount
  have h := count_from hc s.size 0 (Nat.zero_le _) (by have := (chars_small hc).2; omega)
  rw [posL_zero] at h
  rw [h]; omega

theorem narrow_bytes {cs : List Nat} (hn : Ch.isNarrow cs = true) (h0 : cs ≠ []) : Ch.comp cs = 8 :: cs.map UInt8.ofNat := by
  unfold Ch.comp; rw [if_neg h0, if_pos hn]
theorem wide_bytes {cs : List Nat} (hn : Ch.isNarrow cs = false) (h0 : cs ≠ []) : Ch.comp cs = 16 :: Ch.ucs cs := by
  unfold Ch.comp; rw [if_neg h0, if_neg (by rw [hn]; simp)]
theorem ucs_at : ∀ (cs : List Nat) (j : Nat) (h : j < cs.length), (∀ c ∈ cs, c ≤ 65535) → ((Ch.ucs cs).getD (2 * j) 0).toNat = cs[j] / 256 ∧ ((Ch.ucs cs).getD (2 * j + 1) 0).toNat = cs[j] % 256
  | c :: cs, 0, h, hb => by
    have := hb c (by simp)
    rw [Ch.ucs_cons]
    exact ⟨Ch.ofNat_toNat (by omega), Ch.ofNat_toNat (by omega)⟩
  | c :: cs, j + 1, h, hb => by
    rw [Ch.ucs_cons, show 2 * (j + 1) = 2 * j + 1 + 1 by omega]
    exact ucs_at cs j (by simpa using h) fun x hx => hb x (List.mem_cons_of_mem _ hx)
theorem byte_at (s : ByteArray) (i : Nat) (h : i < s.size) : s[i]'h = s.data.toList.getD i 0 := by
  have h2 : i < s.data.toList.length := by rw [← Lib.size_eq]; exact h
  have e : s[i]'h = s.data.toList[i]'h2 := rfl
  rw [e, List.getD_eq_getElem?_getD, List.getElem?_eq_getElem h2]; rfl
theorem rune_count {s : ByteArray} {cs : List Nat} (hc : Ch.chars s.data.toList = some cs) (hs : s.size ≤ 65536) (w : World) :
    Calls Tryd.prog 23 #[.string s] w fun e w' => e = .returned (.int .i64 (cs.length : Int)) ∧ Below w.heap.size w w' := by
  refine (Tryd.utf8_RuneCountInString s w (by omega)).mono fun e w' ⟨he, pos, hw⟩ => ?_
  rw [count_chars hc] at he
  subst hw
  exact ⟨he, (Below.refl _ _).alloc (Nat.le_refl _) _⟩
end Go.Proofs.YtgejjnbgeiappaaDoor
