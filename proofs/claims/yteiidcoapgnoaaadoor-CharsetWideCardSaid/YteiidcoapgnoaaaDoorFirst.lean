import Derived.Test.YteiidcoapgnoaaaDoorDec
namespace Go.Proofs.YteiidcoapgnoaaaDoor.Ch

/-- The number that k bytes at the head of a list would stand for. -/
def val (l : List UInt8) (k : Nat) : Int :=
  if k = 1 then ((l.getD 0 0).toNat : Int)
  else if k = 2 then (((l.getD 0 0).toNat : Int) - 192) * 64 + ((l.getD 1 0).toNat : Int) - 128
  else (((l.getD 0 0).toNat : Int) - 224) * 4096 + (((l.getD 1 0).toNat : Int) - 128) * 64 + ((l.getD 2 0).toNat : Int) - 128

theorem val_enc {c : Nat} (hc : c ≤ 65535) (r : List UInt8) : val (enc c ++ r) (enc c).length = c := by
  rw [enc_length]
  unfold enc val
  by_cases h0 : c < 128
  · rw [if_pos h0, if_pos h0, if_pos rfl]
    simp only [List.cons_append, List.getD_cons_zero]
    rw [ofNat_toNat (by omega)]
  · rw [if_neg h0, if_neg h0]
    by_cases h1 : c < 2048
    · rw [if_pos h1, if_pos h1, if_neg (by decide), if_pos rfl]
      simp only [List.cons_append, List.getD_cons_zero, List.getD_cons_succ]
      rw [ofNat_toNat (by omega), ofNat_toNat (by omega)]
      omega
    · rw [if_neg h1, if_neg h1, if_neg (by decide), if_neg (by decide)]
      simp only [List.cons_append, List.getD_cons_zero, List.getD_cons_succ]
      rw [ofNat_toNat (by omega), ofNat_toNat (by omega), ofNat_toNat (by omega)]
      omega
/-- A decode, in the reference's words. -/
theorem dec_val {l : List UInt8} {c k : Nat} (h : dec l = some (c, k)) : val l k = c ∧ isCh c = true ∧ enc c = l.take k ∧ k ≤ l.length ∧ 1 ≤ k ∧ k ≤ 3 := by
  obtain ⟨hc, hk, he⟩ := dec_some h
  have hb := isCh_iff.1 hc
  have hlen := congrArg List.length he
  simp only [List.length_append, List.length_drop] at hlen
  have hp := enc_pos c
  have h3 := enc_le c
  refine ⟨?_, hc, ?_, by omega, by omega, by omega⟩
  · rw [he, hk]; exact val_enc (by omega) _
  · have h2 : (enc c ++ l.drop k).take k = enc c := by rw [List.take_append_of_le_length (by omega), List.take_of_length_le (by omega)]
    rw [← he] at h2
    exact h2.symm
/-- What the reference takes for a decode is one. -/
theorem dec_of_hit {l : List UInt8} {c k : Nat} (hc : isCh c = true) (he : enc c = l.take k) (hk : k ≤ l.length) : dec l = some (c, k) := by
  have h1 : l = enc c ++ l.drop k := by rw [he, List.take_append_drop]
  have h2 : (enc c).length = k := by rw [he, List.length_take]; omega
  rw [h1, dec_enc hc, h2]
end Go.Proofs.YteiidcoapgnoaaaDoor.Ch
