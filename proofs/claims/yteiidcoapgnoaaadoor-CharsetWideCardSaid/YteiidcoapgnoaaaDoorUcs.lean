import Derived.Test.YteiidcoapgnoaaaDoorChars
namespace Go.Proofs.YteiidcoapgnoaaaDoor.Ch

/-- UCS-2 of characters. -/
def ucs1 (c : Nat) : List UInt8 := [UInt8.ofNat (c / 256), UInt8.ofNat (c % 256)]
def ucs (cs : List Nat) : List UInt8 := cs.flatMap ucs1
/-- The characters of UCS-2. -/
def pairs : List UInt8 → Option (List Nat)
  | [] => some []
  | [_] => none
  | a :: b :: t => if isCh (a.toNat * 256 + b.toNat) = true then (pairs t).map ((a.toNat * 256 + b.toNat) :: ·) else none

theorem ucs_cons (c : Nat) (cs : List Nat) : ucs (c :: cs) = UInt8.ofNat (c / 256) :: UInt8.ofNat (c % 256) :: ucs cs := by simp [ucs, ucs1]
theorem ucs_nil : ucs [] = [] := rfl
theorem ucs_append (a b : List Nat) : ucs (a ++ b) = ucs a ++ ucs b := by simp [ucs]
theorem ucs_length : ∀ cs : List Nat, (ucs cs).length = 2 * cs.length
  | [] => rfl
  | c :: cs => by rw [ucs_cons]; simp only [List.length_cons, ucs_length cs]; omega

theorem pairs_ucs : ∀ (cs : List Nat), (∀ c ∈ cs, isCh c = true) → pairs (ucs cs) = some cs
  | [], _ => rfl
  | c :: cs, h => by
    have hc := isCh_iff.1 (h c (by simp))
    rw [ucs_cons]
    unfold pairs
    have e : (UInt8.ofNat (c / 256)).toNat * 256 + (UInt8.ofNat (c % 256)).toNat = c := by
      rw [ofNat_toNat (by omega), ofNat_toNat (by omega)]; omega
    rw [e, if_pos (h c (by simp)), pairs_ucs cs fun x hx => h x (List.mem_cons_of_mem _ hx)]
    rfl

theorem pairs_some : ∀ (l : List UInt8) (cs : List Nat), pairs l = some cs → (∀ c ∈ cs, isCh c = true) ∧ l = ucs cs
  | [], cs, h => by
    unfold pairs at h; cases h
    exact ⟨by simp, rfl⟩
  | [_], cs, h => by unfold pairs at h; cases h
  | a :: b :: t, cs, h => by
    unfold pairs at h
    have la := a.toNat_lt; have lb := b.toNat_lt
    split at h
    next hc =>
      obtain ⟨cs', h', rfl⟩ := Option.map_eq_some_iff.1 h
      obtain ⟨i1, i2⟩ := pairs_some t cs' h'
      refine ⟨fun x hx => ?_, ?_⟩
      · rcases List.mem_cons.1 hx with rfl | hx
        · exact hc
        · exact i1 x hx
      · rw [ucs_cons, ← i2, ← eq_ofNat (b := a) (by omega), ← eq_ofNat (b := b) (by omega)]
    · cases h

theorem pairs_iff {l : List UInt8} {cs : List Nat} : pairs l = some cs ↔ (∀ c ∈ cs, isCh c = true) ∧ l = ucs cs :=
  ⟨pairs_some l cs, fun ⟨h, e⟩ => e ▸ pairs_ucs cs h⟩

theorem encs_length_le : ∀ cs : List Nat, (encs cs).length ≤ 3 * cs.length
  | [] => Nat.le_refl _
  | c :: cs => by rw [encs_cons]; have := encs_length_le cs; have := enc_le c; simp only [List.length_append, List.length_cons]; omega
theorem length_le_encs : ∀ cs : List Nat, cs.length ≤ (encs cs).length
  | [] => Nat.le_refl _
  | c :: cs => by rw [encs_cons]; have := length_le_encs cs; have := enc_pos c; simp only [List.length_append, List.length_cons]; omega
theorem chars_length {l : List UInt8} {cs : List Nat} (h : chars l = some cs) : cs.length ≤ l.length := by
  rw [(chars_iff.1 h).2]; exact length_le_encs cs
end Go.Proofs.YteiidcoapgnoaaaDoor.Ch
