/-
  charset.Field and charset.Trim: what they give at each string.
-/
import Derived.Test.YteiidcoapgnoaaaDoorBytes
namespace Go.Proofs.YteiidcoapgnoaaaDoor
open Go.RowKit

def repS (b : UInt8) (n : Nat) : ByteArray := ⟨(List.replicate n b).toArray⟩
theorem repS_size (b : UInt8) (n : Nat) : (repS b n).size = n := by rw [Lib.size_eq]; simp [repS]
theorem repeatL_one (b : UInt8) : ∀ n, Lib.repeatL [b] n = List.replicate n b
  | 0 => rfl
  | n + 1 => by rw [List.replicate_succ, ← repeatL_one b n]; rfl
theorem rep_any (b : UInt8) (n : Int) (h0 : 0 ≤ n) (h : n ≤ 100000) (w : World) : Calls Tryd.prog 53 #[.string ⟨#[b]⟩, .int .i64 n] w fun e w' => e = .returned (.string (repS b n.toNat)) ∧ Below w.heap.size w w' := by
  obtain ⟨m, rfl⟩ := Int.eq_ofNat_of_zero_le h0
  have hs : (⟨#[b]⟩ : ByteArray).size = 1 := rfl
  refine (Tryd.strings_Repeat ⟨#[b]⟩ m w (by omega) (by rw [hs]; omega)).mono fun e w' hh => ⟨?_, hh.2⟩
  rw [hh.1, Int.toNat_natCast]
  unfold repS
  rw [← repeatL_one]

def fldS (s : ByteArray) (n : Int) : ByteArray := if 65536 < s.size then ⟨#[]⟩ else if n < 0 ∨ 65536 < n then ⟨#[]⟩ else if n < (s.size : Int) then ⟨#[]⟩ else s ++ repS 32 (n - (s.size : Int)).toNat
def fldE (s : ByteArray) (n : Int) : Int := if 65536 < s.size then 7 else if n < 0 ∨ 65536 < n then 2 else if n < (s.size : Int) then 12 else 0

set_option maxHeartbeats 800000 in
set_option maxRecDepth 100000 in
theorem udf_Field (s : ByteArray) (n : Int) (w : World) :
    Calls Tryd.prog 23 #[.string s, .int .i64 n] w fun e w' => e = .returned (.tuple #[.string (fldS s n), .int .i64 (fldE s n)]) ∧ Below w.heap.size w w' := by
  by_cases h1 : s.size ≤ 65536
  · have e1 : ¬ 65536 < s.size := by omega
    by_cases h2 : 0 ≤ n
    · by_cases h3 : n ≤ 65536
      · have e2 : ¬ (n < 0 ∨ 65536 < n) := by omega
        by_cases h4 : (s.size : Int) ≤ n
        · obtain ⟨R, hR⟩ : ∃ R, R = repS 32 (n - (s.size : Int)).toNat := ⟨_, rfl⟩
          have r1 : fldS s n = s ++ R := by unfold fldS; rw [if_neg e1, if_neg e2, if_neg (by omega), hR]
          have r2 : fldE s n = 0 := by unfold fldE; rw [if_neg e1, if_neg e2, if_neg (by omega)]
          rw [r1, r2]
          have kR := fun w => rep_any 32 (n - (s.size : Int)) (by omega) (by omega) w
          rw [← hR] at kR
          have hz : R.size ≤ 65536 := by rw [hR, repS_size]; omega
          have KR := hide kR
          have hw : IntKind.i64.wrap (n - (s.size : Int)) = n - (s.size : Int) := IntWalk.i64_in _ (by omega)
          clear kR r1 r2 hR e1 e2
          go_enter Tryd.func23, Tryd.ntmps23
          go_wp2_with fail
          refine (unhide KR _).mono ?_
          rintro e w1 ⟨rfl, hb1⟩
          go_wp2_with fail
          go_ret2
          exact ⟨rfl, hb1⟩
        · have r1 : fldS s n = ⟨#[]⟩ := by unfold fldS; rw [if_neg e1, if_neg e2, if_pos (by omega)]
          have r2 : fldE s n = 12 := by unfold fldE; rw [if_neg e1, if_neg e2, if_pos (by omega)]
          rw [r1, r2]
          clear r1 r2 e1 e2
          go_enter Tryd.func23, Tryd.ntmps23
          go_wp2
          go_ret2
          exact ⟨rfl, Below.refl _ _⟩
      · have r1 : fldS s n = ⟨#[]⟩ := by unfold fldS; rw [if_neg e1, if_pos (by omega)]
        have r2 : fldE s n = 2 := by unfold fldE; rw [if_neg e1, if_pos (by omega)]
        rw [r1, r2]
        clear r1 r2 e1
        go_enter Tryd.func23, Tryd.ntmps23
        go_wp2
        go_ret2
        exact ⟨rfl, Below.refl _ _⟩
    · have r1 : fldS s n = ⟨#[]⟩ := by unfold fldS; rw [if_neg e1, if_pos (by omega)]
      have r2 : fldE s n = 2 := by unfold fldE; rw [if_neg e1, if_pos (by omega)]
      rw [r1, r2]
      clear r1 r2 e1
      go_enter Tryd.func23, Tryd.ntmps23
      go_wp2
      go_ret2
      exact ⟨rfl, Below.refl _ _⟩
  · have e1 : 65536 < s.size := by omega
    have r1 : fldS s n = ⟨#[]⟩ := by unfold fldS; rw [if_pos e1]
    have r2 : fldE s n = 7 := by unfold fldE; rw [if_pos e1]
    rw [r1, r2]
    clear r1 r2
    go_enter Tryd.func23, Tryd.ntmps23
    go_wp2
    go_ret2
    exact ⟨rfl, Below.refl _ _⟩

def trmS (s : ByteArray) : ByteArray := if 65536 < s.size then ⟨#[]⟩ else ⟨(Lib.trimRightB s.data.toList 32).toArray⟩
set_option maxHeartbeats 800000 in
set_option maxRecDepth 100000 in
theorem udf_Trim (s : ByteArray) (w : World) :
    Calls Tryd.prog 25 #[.string s] w fun e w' => e = .returned (.string (trmS s)) ∧ w' = w := by
  by_cases h1 : s.size ≤ 65536
  · have r1 : trmS s = ⟨(Lib.trimRightB s.data.toList 32).toArray⟩ := by unfold trmS; rw [if_neg (by omega)]
    rw [r1]
    have kT := hide (Tryd.strings_TrimRight_one s 32 (by decide) w (by omega))
    clear r1
    go_enter Tryd.func25, Tryd.ntmps25
    go_wp2_with fail
    refine (unhide kT).mono ?_
    rintro e w1 ⟨rfl, rfl⟩
    go_wp2_with fail
    go_ret
    exact ⟨rfl, rfl⟩
  · have e1 : 65536 < s.size := by omega
    have r1 : trmS s = ⟨#[]⟩ := by unfold trmS; rw [if_pos e1]
    rw [r1]
    clear r1
    go_enter Tryd.func25, Tryd.ntmps25
    go_wp2
    go_ret
    exact ⟨rfl, rfl⟩
end Go.Proofs.YteiidcoapgnoaaaDoor
