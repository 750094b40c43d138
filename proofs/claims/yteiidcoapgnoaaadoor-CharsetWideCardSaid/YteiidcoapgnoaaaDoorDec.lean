import Derived.Test.YteiidcoapgnoaaaDoorChars
import Derived.Lib.DecodeN
namespace Go.Proofs.YteiidcoapgnoaaaDoor.Ch
open Go.Lib

/-- Is what was decoded a character of its own? -/
def okDec (d : Nat × Nat) : Bool := isCh d.1 && !(decide (d.1 = 65533) && decide (d.2 = 1))

theorem okDec_bad : okDec (65533, 1) = false := by decide
theorem okDec_iff {c k : Nat} : okDec (c, k) = true ↔ isCh c = true ∧ ¬ (c = 65533 ∧ k = 1) := by
  unfold okDec; simp; intro _; omega

/-- The decode's result at a list of bytes. -/
def decL (l : List UInt8) : Nat × Nat := decodeN l.length (l.getD 0 0).toNat (l.getD 1 0).toNat (l.getD 2 0).toNat (l.getD 3 0).toNat

def Tells (d : Nat × Nat) (o : Option (Nat × Nat)) : Prop := o = if okDec d = true then some d else none
theorem Tells.bad {o : Option (Nat × Nat)} (h : o = none) : Tells (65533, 1) o := by
  unfold Tells; rw [okDec_bad]; exact h
theorem Tells.no {c k : Nat} (h : isCh c = false) {o : Option (Nat × Nat)} (ho : o = none) : Tells (c, k) o := by
  unfold Tells; rw [if_neg (by rw [okDec_iff, h]; simp)]; exact ho
theorem Tells.yes {c k : Nat} (h : isCh c = true) (hk : k ≠ 1 ∨ c ≠ 65533) {o : Option (Nat × Nat)} (ho : o = some (c, k)) : Tells (c, k) o := by
  unfold Tells; rw [if_pos (by rw [okDec_iff]; exact ⟨h, by omega⟩)]; exact ho
theorem isCh_no {n : Nat} (h : ¬ (32 ≤ n ∧ n ≤ 65533 ∧ (n < 55296 ∨ 57343 < n))) : isCh n = false := by
  cases e : isCh n
  · rfl
  · exact absurd (isCh_iff.1 e) h

set_option maxRecDepth 100000 in
set_option maxHeartbeats 2000000 in
theorem dec_tells {l : List UInt8} (hl : l ≠ []) : Tells (decL l) (dec l) := by
  unfold decL
  match l, hl with
  | b0 :: t, _ =>
  have l0 := b0.toNat_lt
  simp only [List.getD_cons_zero, List.getD_cons_succ, List.length_cons]
  generalize hb : b0.toNat = x0 at *
  by_cases h0 : x0 < 128
  · rw [show decodeN (t.length + 1) x0 _ _ _ = (x0, 1) from if_pos h0]
    simp only [dec, hb]; rw [if_pos h0]
    by_cases h1 : 32 ≤ x0
    · rw [if_pos h1]; exact .yes (isCh_iff.2 (by omega)) (by omega) rfl
    · rw [if_neg h1]; exact .no (isCh_no (by omega)) rfl
  · simp only [dec, hb]; rw [if_neg h0]
    match t with
    | [] =>
      simp only [List.getD_nil, List.length_nil]
      unfold decodeN
      rw [if_neg h0, if_neg (by omega), if_neg (by omega), if_neg (by omega)]
      exact .bad rfl
    | b1 :: t =>
      have l1 := b1.toNat_lt
      simp only [List.getD_cons_zero, List.getD_cons_succ, List.length_cons]
      generalize hb1 : b1.toNat = x1 at *
      by_cases h2 : 194 ≤ x0 ∧ x0 < 224
      · rw [if_pos h2]
        by_cases h3 : 128 ≤ x1 ∧ x1 < 192
        · rw [if_pos h3]
          unfold decodeN
          rw [if_neg h0, if_pos (by omega), if_pos (by omega)]
          refine .yes (isCh_iff.2 (by omega)) (by omega) ?_
          rw [show (x0 - 192) * 64 + (x1 - 128) = x0 % 32 * 64 + x1 % 64 by omega]
        · rw [if_neg h3]
          unfold decodeN
          rw [if_neg h0, if_neg (by omega), if_neg (by omega), if_neg (by omega)]
          exact .bad rfl
      · rw [if_neg h2]
        match t with
        | [] =>
          simp only [List.getD_nil, List.length_nil]
          unfold decodeN
          rw [if_neg h0]
          by_cases h3 : x0 / 32 = 6 ∧ (1 < 0 + 1 + 1 ∧ x1 / 64 = 2)
          · rw [if_pos h3, if_neg (by omega)]; exact .bad rfl
          · rw [if_neg h3, if_neg (by omega), if_neg (by omega)]; exact .bad rfl
        | b2 :: t =>
          have l2 := b2.toNat_lt
          simp only [List.getD_cons_zero, List.getD_cons_succ, List.length_cons]
          generalize hb2 : b2.toNat = x2 at *
          generalize hx3 : (t.getD 0 0).toNat = x3 at *
          have l3 : x3 < 256 := by rw [← hx3]; exact (t.getD 0 0).toNat_lt
          by_cases h3 : 224 ≤ x0 ∧ x0 < 240 ∧ 128 ≤ x1 ∧ x1 < 192 ∧ 128 ≤ x2 ∧ x2 < 192 ∧ 2048 ≤ (x0 - 224) * 4096 + (x1 - 128) * 64 + (x2 - 128) ∧ isCh ((x0 - 224) * 4096 + (x1 - 128) * 64 + (x2 - 128)) = true
          · rw [if_pos h3]
            have hc := isCh_iff.1 h3.2.2.2.2.2.2.2
            have e : (x0 - 224) * 4096 + (x1 - 128) * 64 + (x2 - 128) = x0 % 16 * 4096 + x1 % 64 * 64 + x2 % 64 := by omega
            unfold decodeN
            rw [if_neg h0, if_neg (by omega), if_pos (by omega), if_pos (by omega)]
            refine .yes (by rw [← e]; exact h3.2.2.2.2.2.2.2) (by omega) (by rw [e])
          · rw [if_neg h3]
            unfold decodeN
            rw [if_neg h0]
            by_cases g1 : x0 / 32 = 6 ∧ (1 < t.length + 1 + 1 + 1 ∧ x1 / 64 = 2)
            · rw [if_pos g1, if_neg (by omega)]; exact .bad rfl
            · rw [if_neg g1]
              by_cases g2 : x0 / 16 = 14 ∧ (1 < t.length + 1 + 1 + 1 ∧ x1 / 64 = 2) ∧ (2 < t.length + 1 + 1 + 1 ∧ x2 / 64 = 2)
              · rw [if_pos g2]
                have e : (x0 - 224) * 4096 + (x1 - 128) * 64 + (x2 - 128) = x0 % 16 * 4096 + x1 % 64 * 64 + x2 % 64 := by omega
                split
                · refine .no ?_ rfl
                  cases hc : isCh (x0 % 16 * 4096 + x1 % 64 * 64 + x2 % 64)
                  · rfl
                  · exact absurd ⟨by omega, by omega, by omega, by omega, by omega, by omega, by omega, by rw [e]; exact hc⟩ h3
                · exact .bad rfl
              · rw [if_neg g2]
                split
                · split
                  · refine .no (isCh_no ?_) rfl; omega
                  · exact .bad rfl
                · exact .bad rfl
end Go.Proofs.YteiidcoapgnoaaaDoor.Ch
