import Derived.Lib.DecodeN
namespace Go.Proofs.YteiidcoapgnoaaaDoor.Ch

/-- A character. -/
def isCh (n : Nat) : Bool := decide (32 ≤ n ∧ n ≤ 65533 ∧ (n < 55296 ∨ 57343 < n))
/-- Its bytes. -/
def enc (n : Nat) : List UInt8 :=
  if n < 128 then [UInt8.ofNat n]
  else if n < 2048 then [UInt8.ofNat (192 + n / 64), UInt8.ofNat (128 + n % 64)]
  else [UInt8.ofNat (224 + n / 4096), UInt8.ofNat (128 + n / 64 % 64), UInt8.ofNat (128 + n % 64)]
def encs (cs : List Nat) : List UInt8 := cs.flatMap enc
/-- The character at the head of a list of bytes, and how many bytes it takes. -/
def dec (l : List UInt8) : Option (Nat × Nat) :=
  match l with
  | [] => none
  | b0 :: t =>
    if b0.toNat < 128 then (if 32 ≤ b0.toNat then some (b0.toNat, 1) else none)
    else match t with
    | [] => none
    | b1 :: t =>
      if 194 ≤ b0.toNat ∧ b0.toNat < 224 then (if 128 ≤ b1.toNat ∧ b1.toNat < 192 then some ((b0.toNat - 192) * 64 + (b1.toNat - 128), 2) else none)
      else match t with
      | [] => none
      | b2 :: _ =>
        if 224 ≤ b0.toNat ∧ b0.toNat < 240 ∧ 128 ≤ b1.toNat ∧ b1.toNat < 192 ∧ 128 ≤ b2.toNat ∧ b2.toNat < 192 ∧
            2048 ≤ (b0.toNat - 224) * 4096 + (b1.toNat - 128) * 64 + (b2.toNat - 128) ∧
            isCh ((b0.toNat - 224) * 4096 + (b1.toNat - 128) * 64 + (b2.toNat - 128)) = true
        then some ((b0.toNat - 224) * 4096 + (b1.toNat - 128) * 64 + (b2.toNat - 128), 3) else none

theorem isCh_iff {n : Nat} : isCh n = true ↔ 32 ≤ n ∧ n ≤ 65533 ∧ (n < 55296 ∨ 57343 < n) := by simp [isCh]
theorem ofNat_toNat {n : Nat} (h : n < 256) : (UInt8.ofNat n).toNat = n := by simp [UInt8.toNat_ofNat']; omega
theorem eq_ofNat {b : UInt8} {n : Nat} (h : b.toNat = n) : b = UInt8.ofNat n := by
  apply UInt8.toNat_inj.1; rw [h]; have := b.toNat_lt; rw [ofNat_toNat (by omega)]

theorem enc_length (n : Nat) : (enc n).length = if n < 128 then 1 else if n < 2048 then 2 else 3 := by
  unfold enc; repeat' split
  all_goals rfl
theorem enc_pos (n : Nat) : 1 ≤ (enc n).length := by
  rw [enc_length]
  repeat' split
  all_goals omega
theorem enc_le (n : Nat) : (enc n).length ≤ 3 := by
  rw [enc_length]
  repeat' split
  all_goals omega

/-- What is read is a character and its bytes. -/
theorem dec_some {l : List UInt8} {c k : Nat} (h : dec l = some (c, k)) : isCh c = true ∧ k = (enc c).length ∧ l = enc c ++ l.drop k := by
  unfold dec at h
  split at h
  · cases h
  next b0 t =>
    have l0 := b0.toNat_lt
    split at h
    next h0 =>
      split at h
      next h1 =>
        simp only [Option.some.injEq, Prod.mk.injEq] at h
        obtain ⟨rfl, rfl⟩ := h
        refine ⟨isCh_iff.2 ⟨h1, by omega, by omega⟩, by rw [enc_length, if_pos h0], ?_⟩
        simp [enc, h0]
      · cases h
    next h0 =>
    split at h
    · cases h
    next b1 t =>
      have l1 := b1.toNat_lt
      split at h
      next h1 =>
        split at h
        next h2 =>
          simp only [Option.some.injEq, Prod.mk.injEq] at h
          obtain ⟨rfl, rfl⟩ := h
          have a1 : ¬ (b0.toNat - 192) * 64 + (b1.toNat - 128) < 128 := by omega
          have a2 : (b0.toNat - 192) * 64 + (b1.toNat - 128) < 2048 := by omega
          refine ⟨isCh_iff.2 ⟨by omega, by omega, by omega⟩, by rw [enc_length, if_neg a1, if_pos a2], ?_⟩
          unfold enc
          rw [if_neg a1, if_pos a2]
          rw [← eq_ofNat (b := b0) (by omega), ← eq_ofNat (b := b1) (by omega)]
          simp
        · cases h
      next h1 =>
      split at h
      · cases h
      next b2 t =>
        have l2 := b2.toNat_lt
        split at h
        next h2 =>
          simp only [Option.some.injEq, Prod.mk.injEq] at h
          obtain ⟨rfl, rfl⟩ := h
          obtain ⟨e1, e2, e3, e4, e5, e6, e7, e8⟩ := h2
          have a1 : ¬ (b0.toNat - 224) * 4096 + (b1.toNat - 128) * 64 + (b2.toNat - 128) < 128 := by omega
          have a2 : ¬ (b0.toNat - 224) * 4096 + (b1.toNat - 128) * 64 + (b2.toNat - 128) < 2048 := by omega
          refine ⟨e8, by rw [enc_length, if_neg a1, if_neg a2], ?_⟩
          unfold enc
          rw [if_neg a1, if_neg a2]
          rw [← eq_ofNat (b := b0) (by omega), ← eq_ofNat (b := b1) (by omega), ← eq_ofNat (b := b2) (by omega)]
          simp
        · cases h

theorem dec_enc {c : Nat} (h : isCh c = true) (r : List UInt8) : dec (enc c ++ r) = some (c, (enc c).length) := by
  have hc := isCh_iff.1 h
  rw [enc_length]
  unfold enc
  by_cases h0 : c < 128
  · rw [if_pos h0, if_pos h0]
    simp only [dec, List.cons_append, List.nil_append]
    rw [ofNat_toNat (by omega), if_pos h0, if_pos (by omega)]
  · rw [if_neg h0, if_neg h0]
    by_cases h1 : c < 2048
    · rw [if_pos h1, if_pos h1]
      simp only [dec, List.cons_append, List.nil_append]
      rw [ofNat_toNat (by omega), ofNat_toNat (by omega), if_neg (by omega), if_pos (by omega), if_pos (by omega),
        show (192 + c / 64 - 192) * 64 + (128 + c % 64 - 128) = c from by omega]
    · rw [if_neg h1, if_neg h1]
      simp only [dec, List.cons_append, List.nil_append]
      have e : (224 + c / 4096 - 224) * 4096 + (128 + c / 64 % 64 - 128) * 64 + (128 + c % 64 - 128) = c := by omega
      rw [ofNat_toNat (by omega), ofNat_toNat (by omega), ofNat_toNat (by omega), if_neg (by omega), if_neg (by omega), e,
        if_pos ⟨by omega, by omega, by omega, by omega, by omega, by omega, by omega, h⟩]

/-- The characters of a list of bytes. -/
def charsF : Nat → List UInt8 → Option (List Nat)
  | _, [] => some []
  | 0, _ :: _ => none
  | f + 1, b :: t => match dec (b :: t) with
    | none => none
    | some (c, k) => (charsF f ((b :: t).drop k)).map (c :: ·)
def chars (l : List UInt8) : Option (List Nat) := charsF l.length l

theorem charsF_more : ∀ (f : Nat) (l : List UInt8), l.length ≤ f → charsF f l = charsF l.length l := by
  intro f
  induction f using Nat.strongRecOn with
  | ind f ih =>
    intro l hl
    match f, l, hl with
    | 0, [], _ => rfl
    | f + 1, [], _ => rfl
    | f + 1, b :: t, hl =>
      show charsF (f + 1) (b :: t) = charsF (t.length + 1) (b :: t)
      unfold charsF
      split
      · rfl
      next c k hd =>
        obtain ⟨_, hk, _⟩ := dec_some hd
        have := enc_pos c
        have hlt : ((b :: t).drop k).length ≤ t.length := by simp; omega
        simp only [List.length_cons] at hl
        rw [ih f (by omega) _ (by omega), ih t.length (by omega) _ hlt]

theorem chars_nil : chars [] = some [] := rfl
theorem chars_none {l : List UInt8} (hl : l ≠ []) (h : dec l = none) : chars l = none := by
  match l, hl with
  | b :: t, _ => show charsF (t.length + 1) (b :: t) = none; unfold charsF; rw [h]
theorem chars_some {l : List UInt8} {c k : Nat} (h : dec l = some (c, k)) : chars l = (chars (l.drop k)).map (c :: ·) := by
  match l with
  | [] => cases h
  | b :: t =>
    obtain ⟨_, hk, _⟩ := dec_some h
    have := enc_pos c
    show charsF (t.length + 1) (b :: t) = _
    unfold charsF; rw [h]
    show Option.map _ (charsF t.length _) = _
    rw [charsF_more t.length _ (by simp; omega)]; rfl

theorem encs_cons (c : Nat) (cs : List Nat) : encs (c :: cs) = enc c ++ encs cs := by simp [encs]
theorem encs_append (a b : List Nat) : encs (a ++ b) = encs a ++ encs b := by simp [encs]
theorem encs_nil : encs [] = [] := rfl

theorem chars_sound : ∀ (n : Nat) (l : List UInt8) (cs : List Nat), l.length ≤ n → chars l = some cs → (∀ c ∈ cs, isCh c = true) ∧ l = encs cs := by
  intro n
  induction n with
  | zero =>
    intro l cs hn h
    have : l = [] := List.eq_nil_of_length_eq_zero (by omega)
    subst this; rw [chars_nil] at h; cases h
    exact ⟨by simp, rfl⟩
  | succ n ih =>
    intro l cs hn h
    by_cases hl : l = []
    · subst hl; rw [chars_nil] at h; cases h
      exact ⟨by simp, rfl⟩
    · cases hd : dec l with
      | none => rw [chars_none hl hd] at h; cases h
      | some ck =>
        obtain ⟨c, k⟩ := ck
        obtain ⟨hc, hk, he⟩ := dec_some hd
        rw [chars_some hd] at h
        obtain ⟨cs', h', rfl⟩ := Option.map_eq_some_iff.1 h
        have hpos := enc_pos c
        have h0 : l.length ≠ 0 := fun e => hl (List.eq_nil_of_length_eq_zero e)
        obtain ⟨i1, i2⟩ := ih _ cs' (by simp; omega) h'
        refine ⟨fun x hx => ?_, ?_⟩
        · rcases List.mem_cons.1 hx with rfl | hx
          · exact hc
          · exact i1 x hx
        · rw [encs_cons, ← i2]; exact he

theorem chars_complete : ∀ (cs : List Nat), (∀ c ∈ cs, isCh c = true) → chars (encs cs) = some cs
  | [], _ => rfl
  | c :: cs, h => by
    have hc := h c (by simp)
    rw [encs_cons, chars_some (dec_enc hc _), List.drop_left, chars_complete cs fun x hx => h x (List.mem_cons_of_mem _ hx)]
    rfl

/-- A text has its characters, and no others. -/
theorem chars_iff {l : List UInt8} {cs : List Nat} : chars l = some cs ↔ (∀ c ∈ cs, isCh c = true) ∧ l = encs cs :=
  ⟨chars_sound _ l cs (Nat.le_refl _), fun ⟨h, e⟩ => e ▸ chars_complete cs h⟩

end Go.Proofs.YteiidcoapgnoaaaDoor.Ch
