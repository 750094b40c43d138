/-
  Entity identifiers: parsing what Entity gives, and encoding what ParseEntity accepts: plain facts.
-/
import Derived.Test.YtgejjnbgeiappaaDoorEnt6
namespace Go.Proofs.YtgejjnbgeiappaaDoor
open Go.RowKit

theorem data_zS (n : Nat) : (zS n).data.toList = List.replicate n 0 := by simp [zS]
theorem entS_data {i s : ByteArray} (h : entO i s = true) : (entS i s).data.toList = 0 :: (i.data.toList ++ (List.replicate (23 - i.size) 0 ++ (s.data.toList ++ List.replicate (8 - s.size) 0))) := by
  unfold entS
  rw [if_pos h]
  simp [ByteArray.data_append, data_zS]
theorem entO_size {i s : ByteArray} (h : entO i s = true) : 1 ≤ i.size ∧ i.size ≤ 23 ∧ prL i.data.toList = true ∧ s.size ≤ 8 := by
  unfold entO at h
  rw [Bool.and_eq_true, decide_eq_true_eq] at h
  obtain ⟨h1, h2⟩ := h
  obtain ⟨a, b, c⟩ := prS_size h1
  exact ⟨a, b, c, h2⟩
theorem entS_size {i s : ByteArray} (h : entO i s = true) : (entS i s).size = 32 := by
  obtain ⟨h1, h2, _, h4⟩ := entO_size h
  have a := Lib.size_eq i
  have b := Lib.size_eq s
  rw [Lib.size_eq, entS_data h]
  simp only [List.length_cons, List.length_append, List.length_replicate]
  omega
theorem entS_A {i s : ByteArray} (h : entO i s = true) : peA (entS i s) = i.data.toList ++ List.replicate (23 - i.size) 0 := by
  obtain ⟨h1, h2, _, h4⟩ := entO_size h
  have a := Lib.size_eq i
  unfold peA
  rw [entS_data h, List.drop_succ_cons, List.drop_zero, ← List.append_assoc, List.take_left']
  simp only [List.length_append, List.length_replicate]
  omega
theorem nz_print : ∀ (l : List UInt8) (n : Nat), prL l = true → nz (l ++ List.replicate n 0) = l.length
  | [], n, _ => by cases n <;> simp [nz, List.replicate_succ]
  | a :: t, n, h => by
    unfold prL at h
    rw [List.all_cons, Bool.and_eq_true] at h
    obtain ⟨h1, h2⟩ := h
    have ha : a ≠ 0 := by
      rintro rfl
      revert h1; decide
    have ih := nz_print t n h2
    unfold nz at ih ⊢
    rw [List.cons_append, List.takeWhile_cons_of_pos (by simpa using ha), List.length_cons, ih, List.length_cons]
theorem entS_N {i s : ByteArray} (h : entO i s = true) : peN (entS i s) = i.size := by
  obtain ⟨_, _, h3, _⟩ := entO_size h
  unfold peN
  rw [entS_A h, nz_print _ _ h3, Lib.size_eq]
theorem entS_O {i s : ByteArray} (h : entO i s = true) : peO (entS i s) = true := by
  obtain ⟨h1, h2, h3, _⟩ := entO_size h
  have a := Lib.size_eq i
  unfold peO
  rw [entS_N h, entS_A h, a, List.take_left, List.drop_left, h3, decide_eq_true (by omega)]
  simp
/-- What ParseEntity gives at what Entity gives. -/
theorem parse_ent {i s : ByteArray} (h : entO i s = true) : peI (entS i s) = i ∧ peX (entS i s) = s ++ zS (8 - s.size) ∧ peE (entS i s) = 0 := by
  obtain ⟨h1, h2, h3, h4⟩ := entO_size h
  have a := Lib.size_eq i
  obtain ⟨r1, r2, r3⟩ := pe_yes (entS_size h) (entS_O h)
  refine ⟨?_, ?_, r3⟩
  · rw [r1]
    apply ByteArray.ext
    apply Array.ext'
    rw [ext_I (entS_size h), entS_N h, entS_A h, a, List.take_left]
  · rw [r2]
    apply ByteArray.ext
    apply Array.ext'
    rw [Lib.extract_data, entS_size h, entS_data h, ByteArray.data_append, Array.toList_append, data_zS]
    rw [show (0 : UInt8) :: (i.data.toList ++ (List.replicate (23 - i.size) 0 ++ (s.data.toList ++ List.replicate (8 - s.size) 0))) = ((0 : UInt8) :: (i.data.toList ++ List.replicate (23 - i.size) 0)) ++ (s.data.toList ++ List.replicate (8 - s.size) 0) by simp]
    rw [List.drop_left' (by simp only [List.length_cons, List.length_append, List.length_replicate]; omega), List.take_of_length_le]
    have b := Lib.size_eq s
    simp only [List.length_append, List.length_replicate]; omega
theorem dropW_rep (n : Nat) (L : List UInt8) : (List.replicate n 0 ++ L).dropWhile (· == (0 : UInt8)) = L.dropWhile (· == 0) := by
  induction n with
  | zero => rfl
  | succ n ih => rw [List.replicate_succ, List.cons_append, List.dropWhile_cons_of_pos (by rfl), ih]
theorem trim_pad (s : ByteArray) (n : Nat) : Lib.trimRightB (s ++ zS n).data.toList 0 = Lib.trimRightB s.data.toList 0 := by
  unfold Lib.trimRightB
  rw [ByteArray.data_append, Array.toList_append, data_zS, List.reverse_append, List.reverse_replicate, dropW_rep]
theorem pre_pad (s : ByteArray) (n : Nat) : Lib.hasPrefix (s ++ zS n).data.toList s.data.toList = true := by
  unfold Lib.hasPrefix
  rw [List.isPrefixOf_iff_prefix, ByteArray.data_append, Array.toList_append]
  exact List.prefix_append _ _
/-- What ParseEntity accepts is encoded to the same bytes, but for the first. -/
theorem ent_parse {f : ByteArray} (h32 : f.size = 32) (ho : peO f = true) : entO (peI f) (peX f) = true ∧ (entS (peI f) (peX f)).data.toList.drop 1 = f.data.toList.drop 1 := by
  obtain ⟨r1, r2, _⟩ := pe_yes h32 ho
  have hn := peN_le h32
  have hx : (peX f).data.toList = f.data.toList.drop 24 := by
    rw [r2, Lib.extract_data, List.take_of_length_le]
    rw [List.length_drop, ← Lib.size_eq]; omega
  have hi : (peI f).data.toList = (peA f).take (peN f) := by rw [r1, ext_I h32]
  have hxs : (peX f).size = 8 := by rw [Lib.size_eq, hx, List.length_drop, ← Lib.size_eq]; omega
  have his : (peI f).size = peN f := by rw [r1]; exact size_I h32
  have hpo := ho
  unfold peO at hpo
  rw [Bool.and_eq_true, Bool.and_eq_true, decide_eq_true_eq] at hpo
  obtain ⟨h1, h2, h3⟩ := hpo
  have he : entO (peI f) (peX f) = true := by
    unfold entO prS
    rw [his, hi, hxs, h2, decide_eq_true h1, decide_eq_true hn]; rfl
  refine ⟨he, ?_⟩
  rw [entS_data he, List.drop_succ_cons, List.drop_zero, hi, hx, his, hxs]
  have hz : (peA f).drop (peN f) = List.replicate (23 - peN f) 0 := by
    have := zeros_eq (23 - peN f) ((peA f).drop (peN f)) (by rw [List.length_drop, peA_length h32])
    rw [h3, beq_iff_eq] at this
    exact this
  rw [← hz, ← List.append_assoc, List.take_append_drop]
  unfold peA
  simp only [Nat.sub_self, List.replicate_zero, List.append_nil]
  have e : f.data.toList.drop 24 = (f.data.toList.drop 1).drop 23 := by rw [List.drop_drop]
  rw [e, List.take_append_drop]
end Go.Proofs.YtgejjnbgeiappaaDoor
