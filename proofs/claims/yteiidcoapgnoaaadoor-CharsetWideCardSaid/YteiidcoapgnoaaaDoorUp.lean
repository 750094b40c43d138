import Derived.Test.YteiidcoapgnoaaaDoorUcs
namespace Go.Proofs.YteiidcoapgnoaaaDoor.Ch

/-- A byte in capitals. -/
def upB (b : UInt8) : UInt8 := if 97 ≤ b.toNat ∧ b.toNat ≤ 122 then UInt8.ofNat (b.toNat - 32) else b
theorem upB_toNat (b : UInt8) : (upB b).toNat = if 97 ≤ b.toNat ∧ b.toNat ≤ 122 then b.toNat - 32 else b.toNat := by
  unfold upB
  split
  next h => rw [ofNat_toNat (by omega)]
  · rfl
theorem upB_hi {b : UInt8} (h : 128 ≤ b.toNat) : upB b = b := by
  unfold upB
  rw [if_neg (by omega)]
theorem upB_hi' {b : UInt8} (h : 128 ≤ (upB b).toNat) : upB b = b := by
  rw [upB_toNat] at h
  unfold upB
  split
  · rw [if_pos (by assumption)] at h; omega
  · rfl
theorem upB_twice (b : UInt8) : upB (upB b) = upB b := by
  apply UInt8.toNat_inj.1
  rw [upB_toNat (upB b), upB_toNat b]
  repeat' split
  all_goals omega
theorem upL_twice (l : List UInt8) : (l.map upB).map upB = l.map upB := by
  rw [List.map_map]
  apply List.map_congr_left
  intro b _
  exact upB_twice b
/-- What decodes decodes in capitals, to a character of as many bytes. -/
theorem dec_up (l : List UInt8) : (dec (l.map upB)).map (·.2) = (dec l).map (·.2) := by
  match l with
  | [] => rfl
  | b0 :: t =>
    simp only [List.map_cons]
    by_cases h0 : b0.toNat < 128
    · have h0' : (upB b0).toNat < 128 := by
        rw [upB_toNat]; split <;> omega
      simp only [dec]
      rw [if_pos h0, if_pos h0']
      by_cases h1 : 32 ≤ b0.toNat
      · have h1' : 32 ≤ (upB b0).toNat := by
          rw [upB_toNat]; split <;> omega
        rw [if_pos h1, if_pos h1']
        rfl
      · have h1' : ¬ 32 ≤ (upB b0).toNat := by
          rw [upB_toNat]; split <;> omega
        rw [if_neg h1, if_neg h1']
    · rw [upB_hi (by omega)]
      match t with
      | [] => rfl
      | b1 :: t =>
        simp only [List.map_cons]
        by_cases h1 : 128 ≤ b1.toNat
        · rw [upB_hi h1]
          match t with
          | [] => rfl
          | b2 :: t =>
            simp only [List.map_cons]
            by_cases h2 : 128 ≤ b2.toNat
            · rw [upB_hi h2]; rfl
            · have h2' : ¬ 128 ≤ (upB b2).toNat := by
                intro h; rw [upB_hi' h] at h; exact h2 h
              simp only [dec]
              rw [if_neg h0, if_neg h0]
              split
              · rfl
              · rw [if_neg (by omega), if_neg (by omega)]
        · have h1' : ¬ 128 ≤ (upB b1).toNat := by
            intro h; rw [upB_hi' h] at h; exact h1 h
          simp only [dec]
          rw [if_neg h0, if_neg h0]
          by_cases h3 : 194 ≤ b0.toNat ∧ b0.toNat < 224
          · rw [if_pos h3, if_pos h3, if_neg (by omega), if_neg (by omega)]
          · rw [if_neg h3, if_neg h3]
            match t with
            | [] => rfl
            | b2 :: t =>
              simp only [List.map_cons]
              rw [if_neg (by omega), if_neg (by omega)]
theorem chars_up_n : ∀ (n : Nat) (l : List UInt8), l.length ≤ n → (chars (l.map upB)).isSome = (chars l).isSome
  | n, [], _ => rfl
  | 0, b :: t, h => by simp at h
  | n + 1, b :: t, h => by
    have hd := dec_up (b :: t)
    cases h1 : dec (b :: t) with
    | none =>
      rw [h1] at hd
      have h2 : dec ((b :: t).map upB) = none := by
        cases h3 : dec ((b :: t).map upB) with
        | none => rfl
        | some x => rw [h3] at hd; cases hd
      rw [chars_none (by simp) h1, chars_none (by simp) h2]
    | some x =>
      obtain ⟨c, k⟩ := x
      rw [h1] at hd
      cases h3 : dec ((b :: t).map upB) with
      | none => rw [h3] at hd; cases hd
      | some y =>
        obtain ⟨c', k'⟩ := y
        rw [h3] at hd
        have hk : k' = k := by simpa using hd
        subst hk
        obtain ⟨_, hk1, hk2⟩ := dec_some h1
        have hp := enc_pos c
        simp only [List.length_cons] at h
        rw [chars_some h1, chars_some h3, Option.isSome_map, Option.isSome_map, ← List.map_drop]
        exact chars_up_n n _ (by rw [List.length_drop]; simp only [List.length_cons]; omega)
theorem chars_up (l : List UInt8) : (chars (l.map upB)).isSome = (chars l).isSome := chars_up_n l.length l (Nat.le_refl _)
end Go.Proofs.YteiidcoapgnoaaaDoor.Ch
