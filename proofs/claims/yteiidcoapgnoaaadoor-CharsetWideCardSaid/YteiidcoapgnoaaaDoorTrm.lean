import Derived.Test.YteiidcoapgnoaaaDoorUcs
import Derived.Lib.TrimByte
namespace Go.Proofs.YteiidcoapgnoaaaDoor.Ch
open Go.Lib

theorem trimR_snoc (l : List UInt8) (b c : UInt8) : trimRightB (l ++ [b]) c = if b = c then trimRightB l c else l ++ [b] := by
  unfold trimRightB
  rw [List.reverse_append, List.reverse_singleton, List.singleton_append, List.dropWhile_cons]
  by_cases h : b = c
  · rw [if_pos h, if_pos (by rw [beq_iff_eq]; exact h)]
  · rw [if_neg h, if_neg (by rw [beq_iff_eq]; exact h)]
    simp
theorem trimR_rep (l : List UInt8) (c : UInt8) : ∀ k, trimRightB (l ++ List.replicate k c) c = trimRightB l c
  | 0 => by simp
  | k + 1 => by rw [List.replicate_succ', ← List.append_assoc, trimR_snoc, if_pos rfl, trimR_rep l c k]

/-- Characters without the blanks at their end. -/
def trC (cs : List Nat) : List Nat := (cs.reverse.dropWhile (· == 32)).reverse
theorem trC_snoc (l : List Nat) (b : Nat) : trC (l ++ [b]) = if b = 32 then trC l else l ++ [b] := by
  unfold trC
  rw [List.reverse_append, List.reverse_singleton, List.singleton_append, List.dropWhile_cons]
  by_cases h : b = 32
  · rw [if_pos h, if_pos (by rw [beq_iff_eq]; exact h)]
  · rw [if_neg h, if_neg (by rw [beq_iff_eq]; exact h)]
    simp
theorem revInd {α : Type} {p : List α → Prop} (h0 : p []) (h1 : ∀ l a, p l → p (l ++ [a])) (l : List α) : p l := by
  have : ∀ r : List α, p r.reverse := by
    intro r
    induction r with
    | nil => exact h0
    | cons a r ih => rw [List.reverse_cons]; exact h1 _ _ ih
  have h := this l.reverse
  rwa [List.reverse_reverse] at h
theorem trC_pre (cs : List Nat) : ∃ r, cs = trC cs ++ r := by
  refine revInd (p := fun cs => ∃ r, cs = trC cs ++ r) ⟨[], rfl⟩ ?_ cs
  rintro l a ⟨r, hr⟩
  rw [trC_snoc]
  split
  · exact ⟨r ++ [a], by rw [← List.append_assoc, ← hr]⟩
  · exact ⟨[], by simp⟩
theorem trC_mem {cs : List Nat} {c : Nat} (h : c ∈ trC cs) : c ∈ cs := by
  obtain ⟨r, hr⟩ := trC_pre cs
  rw [hr]
  exact List.mem_append_left _ h
theorem enc_32 : enc 32 = [32] := by decide
theorem encs_one (c : Nat) : encs [c] = enc c := by simp [encs]
theorem enc_last {c : Nat} (h : isCh c = true) (h32 : c ≠ 32) : ∃ a b, enc c = a ++ [b] ∧ b ≠ 32 := by
  have hc := isCh_iff.1 h
  unfold enc
  have hn : ∀ n, n < 256 → n ≠ 32 → UInt8.ofNat n ≠ 32 := by
    intro n hn h e
    have := congrArg UInt8.toNat e
    rw [ofNat_toNat hn] at this
    exact h this
  by_cases h0 : c < 128
  · rw [if_pos h0]; exact ⟨[], _, rfl, hn _ (by omega) h32⟩
  · rw [if_neg h0]
    by_cases h1 : c < 2048
    · rw [if_pos h1]; exact ⟨[_], _, rfl, hn _ (by omega) (by omega)⟩
    · rw [if_neg h1]; exact ⟨[_, _], _, rfl, hn _ (by omega) (by omega)⟩
/-- Trimming a text trims its characters. -/
theorem encs_trim (cs : List Nat) : (∀ c ∈ cs, isCh c = true) → trimRightB (encs cs) 32 = encs (trC cs) := by
  refine revInd (p := fun cs => (∀ c ∈ cs, isCh c = true) → trimRightB (encs cs) 32 = encs (trC cs)) (fun _ => rfl) ?_ cs
  intro l a ih h
  rw [trC_snoc, encs_append, encs_one]
  by_cases h32 : a = 32
  · subst h32
    rw [if_pos rfl, enc_32, trimR_snoc, if_pos rfl]
    exact ih fun c hc => h c (List.mem_append_left _ hc)
  · rw [if_neg h32]
    obtain ⟨x, b, hx, hb⟩ := enc_last (h a (by simp)) h32
    rw [hx, ← List.append_assoc, trimR_snoc, if_neg hb, List.append_assoc, ← hx, encs_append, encs_one]

/-- How many bytes of n are left behind the trimming of blanks in UCS-2. -/
def wtN (l : List UInt8) : Nat → Nat
  | 0 => 0
  | 1 => 1
  | n + 2 => if l.getD n 0 = 0 ∧ l.getD (n + 1) 0 = 32 then wtN l n else n + 2
def wt0 (l : List UInt8) : Nat := if l.length % 2 = 1 ∧ l.getD (l.length - 1) 0 = 0 then l.length - 1 else l.length
def wtM (l : List UInt8) : Nat := if wt0 l % 2 = 0 then wtN l (wt0 l) else wt0 l
/-- What is left of a field in UCS-2 without its blanks. -/
def wtL (l : List UInt8) : List UInt8 := l.take (wtM l)
theorem wtN_le (l : List UInt8) (n : Nat) : wtN l n ≤ n := by
  induction n using Nat.strongRecOn with
  | ind n ih =>
    match n with
    | 0 => exact Nat.le_refl _
    | 1 => exact Nat.le_refl _
    | n + 2 =>
      unfold wtN
      split
      · have := ih n (by omega); omega
      · exact Nat.le_refl _
theorem wt0_le (l : List UInt8) : wt0 l ≤ l.length := by unfold wt0; split <;> omega
theorem wtM_le (l : List UInt8) : wtM l ≤ l.length := by
  unfold wtM
  have := wt0_le l
  have := wtN_le l (wt0 l)
  split <;> omega
theorem ucs_one (c : Nat) : ucs [c] = [UInt8.ofNat (c / 256), UInt8.ofNat (c % 256)] := by simp [ucs, ucs1]
theorem wtN_ucs (cs : List Nat) : ∀ z, (∀ c ∈ cs, c ≤ 65535) → wtN (ucs cs ++ z) (2 * cs.length) = 2 * (trC cs).length := by
  refine revInd (p := fun cs => ∀ z, (∀ c ∈ cs, c ≤ 65535) → wtN (ucs cs ++ z) (2 * cs.length) = 2 * (trC cs).length) (fun _ _ => rfl) ?_ cs
  intro l a ih z h
  have ha := h a (by simp)
  have hl := ucs_length l
  have e : ucs (l ++ [a]) ++ z = ucs l ++ (UInt8.ofNat (a / 256) :: UInt8.ofNat (a % 256) :: z) := by rw [ucs_append, ucs_one, List.append_assoc]; rfl
  rw [e, List.length_append, List.length_singleton, show 2 * (l.length + 1) = 2 * l.length + 2 from by omega]
  unfold wtN
  have g0 : (ucs l ++ (UInt8.ofNat (a / 256) :: UInt8.ofNat (a % 256) :: z)).getD (2 * l.length) 0 = UInt8.ofNat (a / 256) := by
    rw [List.getD_eq_getElem?_getD, ← hl, List.getElem?_append_right (Nat.le_refl _), Nat.sub_self]; rfl
  have g1 : (ucs l ++ (UInt8.ofNat (a / 256) :: UInt8.ofNat (a % 256) :: z)).getD (2 * l.length + 1) 0 = UInt8.ofNat (a % 256) := by
    rw [List.getD_eq_getElem?_getD, ← hl, List.getElem?_append_right (by omega), Nat.add_sub_cancel_left]; rfl
  rw [g0, g1, trC_snoc]
  by_cases h32 : a = 32
  · subst h32
    rw [if_pos (by decide), if_pos rfl]
    exact ih _ fun c hc => h c (List.mem_append_left _ hc)
  · rw [if_neg h32, if_neg, List.length_append, List.length_singleton]
    · omega
    · rintro ⟨e1, e2⟩
      have e1 := congrArg UInt8.toNat e1
      have e2 := congrArg UInt8.toNat e2
      rw [ofNat_toNat (by omega)] at e1 e2
      have : (0 : UInt8).toNat = 0 := rfl
      have : (32 : UInt8).toNat = 32 := rfl
      omega
/-- Trimming of UCS-2 trims the characters. -/
theorem wtL_ucs (cs : List Nat) (h : ∀ c ∈ cs, c ≤ 65535) (r : Nat) (hr : r ≤ 1) : wtL (ucs cs ++ List.replicate r 0) = ucs (trC cs) := by
  have hl := ucs_length cs
  have hlen : (ucs cs ++ List.replicate r (0 : UInt8)).length = 2 * cs.length + r := by rw [List.length_append, hl, List.length_replicate]
  have h0 : wt0 (ucs cs ++ List.replicate r 0) = 2 * cs.length := by
    unfold wt0
    rw [hlen]
    rcases Nat.eq_zero_or_pos r with hr0 | hr0
    · subst hr0
      rw [if_neg (by omega)]
      omega
    · obtain rfl : r = 1 := by omega
      rw [if_pos]
      · omega
      · refine ⟨by omega, ?_⟩
        rw [Nat.add_sub_cancel, List.getD_eq_getElem?_getD, List.getElem?_append_right (by omega), hl, Nat.sub_self]
        rfl
  unfold wtL wtM
  rw [h0, if_pos (by omega), wtN_ucs cs _ h]
  obtain ⟨q, hq⟩ := trC_pre cs
  conv => lhs; arg 2; rw [hq, ucs_append, List.append_assoc]
  rw [← ucs_length, List.take_left]
theorem encs_rep (k : Nat) : encs (List.replicate k 32) = List.replicate k 32 := by
  induction k with
  | zero => rfl
  | succ k ih => rw [List.replicate_succ, encs_cons, ih, enc_32]; rfl
theorem wide_back (cs : List Nat) (k : Nat) (h : ∀ c ∈ cs, isCh c = true) : encs (trC (cs ++ List.replicate k 32)) = trimRightB (encs cs) 32 := by
  rw [← encs_trim, encs_append, encs_rep, trimR_rep]
  intro c hc
  rcases List.mem_append.1 hc with hc | hc
  · exact h c hc
  · rw [(List.mem_replicate.1 hc).2]; rfl
end Go.Proofs.YteiidcoapgnoaaaDoor.Ch
