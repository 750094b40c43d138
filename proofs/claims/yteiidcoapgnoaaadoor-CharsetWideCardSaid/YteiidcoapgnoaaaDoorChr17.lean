/-
  The characters of any string and the error, as both Characters return them.
-/
import Derived.Test.YteiidcoapgnoaaaDoorUcsW
import Derived.Test.YteiidcoapgnoaaaDoorEqs
namespace Go.Proofs.YteiidcoapgnoaaaDoor
open Go.RowKit Go.Proofs.YteiidcoapgnoaaaDoorW.PrintWords

def chrL (s : ByteArray) : List Nat := if 65536 < s.size then [] else (Ch.chars s.data.toList).getD []
def chrE (s : ByteArray) : Int := if 65536 < s.size then 7 else match Ch.chars s.data.toList with | some _ => 0 | none => 3
theorem chr_big {s : ByteArray} (h : 65536 < s.size) : chrL s = [] ∧ chrE s = 7 := by
  unfold chrL chrE; rw [if_pos h, if_pos h]; exact ⟨rfl, rfl⟩
theorem chr_none {s : ByteArray} (h : s.size ≤ 65536) (hc : Ch.chars s.data.toList = none) : chrL s = [] ∧ chrE s = 3 := by
  unfold chrL chrE; rw [if_neg (by omega), if_neg (by omega), hc]; exact ⟨rfl, rfl⟩
theorem chr_some {s : ByteArray} {cs : List Nat} (h : s.size ≤ 65536) (hc : Ch.chars s.data.toList = some cs) : chrL s = cs ∧ chrE s = 0 := by
  unfold chrL chrE; rw [if_neg (by omega), if_neg (by omega), hc]; exact ⟨rfl, rfl⟩
theorem chrL_len (s : ByteArray) : (chrL s).length ≤ 65536 := by
  by_cases h : 65536 < s.size
  · rw [(chr_big h).1]; simp
  · cases hc : Ch.chars s.data.toList with
    | none => rw [(chr_none (by omega) hc).1]; simp
    | some cs =>
      rw [(chr_some (by omega) hc).1]
      have := Ch.chars_length hc
      rw [← Lib.size_eq] at this
      omega
theorem row_zero (w : World) (A : Option Addr) : Row w A (nat2int []) := ⟨⟨rfl, by simp [nat2int], fun h => absurd h (by simp [nat2int])⟩⟩
theorem cs_Chars (s : ByteArray) (w : World) (hT : Tabs w) :
    Calls Tryd.prog 12 #[.string s] w fun e w' => ∃ A c, e = .returned (.tuple #[.slice A (chrL s).length c, .int .i64 (chrE s)]) ∧ Row w' A (nat2int (chrL s)) ∧ (chrL s).length ≤ c ∧ Below w.heap.size w w' := by
  by_cases h : 65536 < s.size
  · rw [(chr_big h).1, (chr_big h).2]
    exact (cs_Characters_big s w h).mono fun e w' hh => ⟨none, 0, hh.1, row_zero _ _, Nat.le_refl _, hh.2⟩
  · cases hc : Ch.chars s.data.toList with
    | none =>
      rw [(chr_none (by omega) hc).1, (chr_none (by omega) hc).2]
      exact (cs_Characters_none s w hT (by omega) hc).mono fun e w' hh => ⟨none, 0, hh.1, row_zero _ _, Nat.le_refl _, hh.2⟩
    | some cs =>
      rw [(chr_some (by omega) hc).1, (chr_some (by omega) hc).2]
      exact (cs_Characters_some s w hT (by omega) hc).mono fun e w' ⟨A, c, he, hr, hl, _, hb⟩ => ⟨A, c, he, hr, hl, hb⟩
theorem ref_Chars (s : ByteArray) (w : World) :
    Calls Tryd.prog 13 #[.string s] w fun e w' => ∃ A c, e = .returned (.tuple #[.slice A (chrL s).length c, .int .i64 (chrE s)]) ∧ Row w' A (nat2int (chrL s)) ∧ (chrL s).length ≤ c ∧ Below w.heap.size w w' := by
  by_cases h : 65536 < s.size
  · rw [(chr_big h).1, (chr_big h).2]
    refine (PCharacters.masterdiscref17_Characters.calls 0 s _ _ w (ref17_Characters_big s h 0)).mono fun e w' hh => ?_
    obtain ⟨v, he, hr, hb⟩ := hh
    obtain ⟨A, c, hv, hlen, hC⟩ := Kd.R_reads hr
    subst hv
    exact ⟨A, c, he, row_zero _ _, Nat.zero_le _, hb⟩
  · cases hc : Ch.chars s.data.toList with
    | none =>
      rw [(chr_none (by omega) hc).1, (chr_none (by omega) hc).2]
      obtain ⟨k, hk⟩ := (ref17_Characters s (by omega)).rounds
      unfold charsO at hk
      rw [hc] at hk
      refine (PCharacters.masterdiscref17_Characters.calls k s _ _ w hk).mono fun e w' hh => ?_
      obtain ⟨v, he, hr, hb⟩ := hh
      obtain ⟨A, c, hv, hlen, hC⟩ := Kd.R_reads hr
      subst hv
      exact ⟨A, c, he, row_zero _ _, Nat.zero_le _, hb⟩
    | some cs =>
      rw [(chr_some (by omega) hc).1, (chr_some (by omega) hc).2]
      exact (ref_Characters_some s w (by omega) hc).mono fun e w' ⟨A, c, he, hr, hl, hb⟩ => ⟨A, c, he, hr, hl, hb⟩
theorem eq_nats (A B : Option Addr) (c d : Nat) (cs : List Nat) (w : World) (hx : Row w A (nat2int cs)) (hy : Row w B (nat2int cs)) (hl : cs.length ≤ 100000) :
    Calls Tryd.prog 16 #[.slice A cs.length c, .slice B cs.length d] w fun e w' => e = .returned (.bool true) ∧ Below w.heap.size w w' := by
  have := eq_rows A B c d (nat2int cs) (nat2int cs) w hx hy (by rw [nat2int_length]; exact hl) (by rw [nat2int_length]; exact hl)
  rw [nat2int_length, beq_self_eq_true] at this
  exact this
end Go.Proofs.YteiidcoapgnoaaaDoor
