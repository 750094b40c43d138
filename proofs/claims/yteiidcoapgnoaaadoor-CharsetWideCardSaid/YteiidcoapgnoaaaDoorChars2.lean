/-
  charset.Characters and the reference's: what they return, in one form.
-/
import Derived.Test.YteiidcoapgnoaaaDoorCs2
import Derived.Test.YteiidcoapgnoaaaDoorRef17
namespace Go.Proofs.YteiidcoapgnoaaaDoor
open Go.RowKit Go.Proofs.YteiidcoapgnoaaaDoorW.PrintWords

theorem ints_nums (cs : List Nat) : ints cs = nums .i64 (nat2int cs) := by simp [ints, nums, nat2int]
/-- What both leave for a text. -/
def CharsOK (cs : List Nat) (w : World) (e : Ending) (w' : World) : Prop :=
  ∃ A c, e = .returned (.tuple #[.slice A cs.length c, .int .i64 0]) ∧ Row w' A (nat2int cs) ∧ cs.length ≤ c ∧ Below w.heap.size w w'
theorem cs_Characters_some (s : ByteArray) (w : World) (hT : Tabs w) (hs : s.size ≤ 65536) {cs : List Nat} (hc : Ch.chars s.data.toList = some cs) :
    Calls Tryd.prog 12 #[.string s] w fun e w' => ∃ A c, e = .returned (.tuple #[.slice A cs.length c, .int .i64 0]) ∧ Row w' A (nat2int cs) ∧ cs.length ≤ c ∧ (0 < cs.length → ∃ g, A = some ⟨g, 0, none⟩) ∧ Below w.heap.size w w' := by
  refine (cs_Characters s w hT hs).mono fun e w' h => ?_
  obtain ⟨hb, h⟩ := h
  rcases h with ⟨h, _⟩ | ⟨cs', v, h, he, ho⟩
  · rw [hc] at h; cases h
  · obtain rfl : cs = cs' := by rw [hc] at h; injection h
    rw [ints_nums] at ho
    obtain ⟨A, c, hv, hr⟩ := own_reads ho
    subst hv
    refine ⟨A, c, he, ⟨by rw [nat2int_length]; exact hr⟩, ?_, fun hp => ?_, hb⟩
    · rcases ho.2 with ⟨h1, h2⟩ | ⟨g, cap, cur, h1, _, _, h3, _⟩
      · injection h1 with _ _ h1; omega
      · injection h1 with _ _ h1; omega
    · obtain ⟨g, cap, h1, _⟩ := ho.form hp
      injection h1 with h1
      exact ⟨g, h1⟩
theorem cs_Characters_none (s : ByteArray) (w : World) (hT : Tabs w) (hs : s.size ≤ 65536) (hc : Ch.chars s.data.toList = none) :
    Calls Tryd.prog 12 #[.string s] w fun e w' => e = .returned (.tuple #[.slice none 0 0, .int .i64 3]) ∧ Below w.heap.size w w' := by
  refine (cs_Characters s w hT hs).mono fun e w' h => ?_
  obtain ⟨hb, h⟩ := h
  rcases h with ⟨_, he⟩ | ⟨cs', v, h, he, ho⟩
  · exact ⟨he, hb⟩
  · rw [hc] at h; cases h
theorem ref_Characters_some (s : ByteArray) (w : World) (hs : s.size ≤ 65536) {cs : List Nat} (hc : Ch.chars s.data.toList = some cs) :
    Calls Tryd.prog 13 #[.string s] w fun e w' => ∃ A c, e = .returned (.tuple #[.slice A cs.length c, .int .i64 0]) ∧ Row w' A (nat2int cs) ∧ cs.length ≤ c ∧ Below w.heap.size w w' := by
  obtain ⟨k, hk⟩ := (ref17_Characters s hs).rounds
  unfold charsO at hk
  rw [hc] at hk
  refine (PCharacters.masterdiscref17_Characters.calls k s _ _ w hk).mono fun e w' h => ?_
  obtain ⟨v, he, hr, hb⟩ := h
  obtain ⟨A, c, hv, hlen, hC⟩ := Kd.R_reads hr
  subst hv
  have hl : (cs.map fun (c : Nat) => (c : Int)).length = cs.length := List.length_map ..
  rw [hl] at he hlen hC
  refine ⟨A, c, he, ⟨?_⟩, hlen, hb⟩
  rw [nat2int_length]
  exact Kd.reads_of_C (enc := Value.int .i64) (d := (0 : Int)) (h1 := fun _ => rfl) hC
theorem ref_Characters_none (s : ByteArray) (w : World) (hs : s.size ≤ 65536) (hc : Ch.chars s.data.toList = none) :
    Calls Tryd.prog 13 #[.string s] w fun e w' => ∃ v, e = .returned (.tuple #[v, .int .i64 3]) ∧ Below w.heap.size w w' := by
  obtain ⟨k, hk⟩ := (ref17_Characters s hs).rounds
  unfold charsO at hk
  rw [hc] at hk
  refine (PCharacters.masterdiscref17_Characters.calls k s _ _ w hk).mono fun e w' h => ?_
  obtain ⟨v, he, _, hb⟩ := h
  exact ⟨v, he, hb⟩
end Go.Proofs.YteiidcoapgnoaaaDoor
