import Derived.Test.YtgejjnbgeiappaaDoorUcs
namespace Go.Proofs.YtgejjnbgeiappaaDoor.Ch

/-- Compressed Unicode of characters. -/
def isNarrow (cs : List Nat) : Bool := cs.all (fun c => decide (c ≤ 255))
def comp (cs : List Nat) : List UInt8 := if cs = [] then [] else if isNarrow cs = true then 8 :: cs.map UInt8.ofNat else 16 :: ucs cs
/-- The characters of compressed Unicode: the error, or the characters. -/
def expand (d : List UInt8) : List UInt8 × Int :=
  match d with
  | [] => ([], 0)
  | b :: t =>
    if b.toNat = 8 then (if t.all (fun x => isCh x.toNat) = true then (encs (t.map (·.toNat)), 0) else ([], 2))
    else if b.toNat = 16 then (if t.length % 2 = 1 then ([], 3) else match pairs t with | none => ([], 2) | some cs => (encs cs, 0))
    else ([], 3)

theorem isNarrow_iff {cs : List Nat} : isNarrow cs = true ↔ ∀ c ∈ cs, c ≤ 255 := by simp [isNarrow]
theorem comp_nil : comp [] = [] := rfl
theorem comp_length (cs : List Nat) : (comp cs).length = if cs = [] then 0 else if isNarrow cs = true then 1 + cs.length else 1 + 2 * cs.length := by
  unfold comp
  split
  · rfl
  · split
    · simp; omega
    · simp [ucs_length]; omega
theorem map_toNat {cs : List Nat} (h : ∀ c ∈ cs, c ≤ 255) : (cs.map UInt8.ofNat).map (·.toNat) = cs := by
  induction cs with
  | nil => rfl
  | cons c cs ih =>
    have := h c (by simp)
    simp only [List.map_cons]
    rw [ofNat_toNat (by omega), ih fun x hx => h x (List.mem_cons_of_mem _ hx)]

theorem expand_comp {cs : List Nat} (h : ∀ c ∈ cs, isCh c = true) : expand (comp cs) = (encs cs, 0) := by
  unfold comp
  split
  next e => subst e; rfl
  · split
    next hn =>
      have hm := map_toNat (isNarrow_iff.1 hn)
      simp only [expand]
      rw [if_pos (by decide), hm, if_pos]
      rw [List.all_eq_true]
      intro x hx
      have : x.toNat ∈ (cs.map UInt8.ofNat).map (·.toNat) := List.mem_map_of_mem hx
      rw [hm] at this
      exact h _ this
    next hn =>
      simp only [expand]
      rw [if_neg (by decide), if_pos (by decide), if_neg (by rw [ucs_length]; omega), pairs_ucs cs h]

theorem isNarrow_take {cs : List Nat} (n : Nat) (h : isNarrow cs = true) : isNarrow (cs.take n) = true :=
  isNarrow_iff.2 fun c hc => isNarrow_iff.1 h c (List.mem_of_mem_take hc)
theorem isNarrow_take_le {cs : List Nat} {n m : Nat} (hnm : n ≤ m) (h : isNarrow (cs.take m) = true) : isNarrow (cs.take n) = true := by
  have := isNarrow_take n h
  rwa [List.take_take, Nat.min_eq_left hnm] at this
/-- A longer prefix has no shorter compressed Unicode. -/
theorem comp_mono {cs : List Nat} {n m : Nat} (hnm : n ≤ m) : (comp (cs.take n)).length ≤ (comp (cs.take m)).length := by
  rw [comp_length, comp_length]
  have hl : (cs.take n).length ≤ (cs.take m).length := by simp; omega
  by_cases h0 : cs.take n = []
  · rw [if_pos h0]; omega
  · have h1 : cs.take m ≠ [] := fun e => h0 (List.eq_nil_of_length_eq_zero (by rw [e] at hl; simpa using hl))
    rw [if_neg h0, if_neg h1]
    by_cases g : isNarrow (cs.take m) = true
    · rw [if_pos g, if_pos (isNarrow_take_le hnm g)]; omega
    · rw [if_neg g]; split <;> omega

/-- The longest prefix of at most n characters whose compressed Unicode has at most m bytes. -/
def fitN (cs : List Nat) (m : Nat) : Nat → Nat
  | 0 => 0
  | n + 1 => if (comp (cs.take (n + 1))).length ≤ m then n + 1 else fitN cs m n
theorem fitN_le (cs : List Nat) (m : Nat) : ∀ n, fitN cs m n ≤ n
  | 0 => Nat.le_refl _
  | n + 1 => by
    unfold fitN
    split
    · exact Nat.le_refl _
    · exact Nat.le_succ_of_le (fitN_le cs m n)
theorem fitN_fits (cs : List Nat) (m : Nat) : ∀ n, (comp (cs.take (fitN cs m n))).length ≤ m
  | 0 => by unfold fitN; rw [List.take_zero]; exact Nat.zero_le _
  | n + 1 => by
    unfold fitN
    split
    · assumption
    · exact fitN_fits cs m n
theorem fitN_most (cs : List Nat) (m : Nat) : ∀ n k, fitN cs m n < k → k ≤ n → m < (comp (cs.take k)).length
  | 0, k, h1, h2 => by omega
  | n + 1, k, h1, h2 => by
    unfold fitN at h1
    split at h1
    · omega
    next hh =>
      by_cases e : k = n + 1
      · subst e; omega
      · exact fitN_most cs m n k h1 (by omega)
/-- What a field of a size can contain. -/
def fit (cs : List Nat) (size : Nat) : List Nat := cs.take (fitN cs (size - 1) (min cs.length size))
def field (d : List UInt8) (size : Nat) : List UInt8 := d ++ List.replicate (size - 1 - d.length) 0 ++ [UInt8.ofNat d.length]
end Go.Proofs.YtgejjnbgeiappaaDoor.Ch
