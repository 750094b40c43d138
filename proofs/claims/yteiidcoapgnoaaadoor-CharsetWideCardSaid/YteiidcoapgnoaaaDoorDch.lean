/-
  charset.d and the predicate of charset.ACharacters: what they give at each byte.
-/
import Derived.Test.YteiidcoapgnoaaaDoorFld
namespace Go.Proofs.YteiidcoapgnoaaaDoor
open Go.RowKit

def dB (b : UInt8) : Bool := decide ((65 ≤ b.toNat ∧ b.toNat ≤ 90) ∨ (48 ≤ b.toNat ∧ b.toNat ≤ 57) ∨ b.toNat = 95)
def aL : List UInt8 := [32, 33, 34, 37, 38, 39, 40, 41, 42, 43, 44, 45, 46, 47, 58, 59, 60, 61, 62, 63]
def aB (b : UInt8) : Bool := decide (0 ≤ Lib.indexByte aL b)

theorem udf_d (b : UInt8) (w : World) : Calls Tryd.prog 48 #[.int .u8 (b.toNat : Int)] w fun e w' => e = .returned (.bool (dB b)) ∧ w' = w := by
  have hr : dB b = (decide ((65 : Int) ≤ (b.toNat : Int)) && decide ((b.toNat : Int) ≤ 90) || (decide ((48 : Int) ≤ (b.toNat : Int)) && decide ((b.toNat : Int) ≤ 57) || ((b.toNat : Int) == 95))) := by
    unfold dB
    rw [Bool.eq_iff_iff]
    simp only [decide_eq_true_eq, Bool.or_eq_true, Bool.and_eq_true, beq_iff_eq]
    omega
  rw [hr]
  clear hr
  generalize (b.toNat : Int) = n
  by_cases h1 : (65 : Int) ≤ n
  · by_cases h2 : n ≤ 90
    · go_enter Tryd.func48, Tryd.ntmps48
      go_wp2
      go_ret
      exact ⟨ret_bool (by simp [*] <;> omega), rfl⟩
    · by_cases h5 : n = 95
      · subst h5
        go_enter Tryd.func48, Tryd.ntmps48
        go_wp2
        go_ret
        exact ⟨ret_bool (by simp [*] <;> omega), rfl⟩
      · have h6 : (n == 95) = false := by rw [beq_eq_false_iff_ne]; exact h5
        have h3 : (48 : Int) ≤ n := by omega
        have h4 : ¬ n ≤ 57 := by omega
        have h2' : 90 < n := by omega
        go_enter Tryd.func48, Tryd.ntmps48
        go_wp2
        go_ret
        exact ⟨ret_bool (by simp [*] <;> omega), rfl⟩
  · have h1' : n < 65 := by omega
    have h6 : (n == 95) = false := by rw [beq_eq_false_iff_ne]; omega
    by_cases h3 : (48 : Int) ≤ n
    · by_cases h4 : n ≤ 57
      · go_enter Tryd.func48, Tryd.ntmps48
        go_wp2
        go_ret
        exact ⟨ret_bool (by simp [*] <;> omega), rfl⟩
      · go_enter Tryd.func48, Tryd.ntmps48
        go_wp2
        go_ret
        exact ⟨ret_bool (by simp [*] <;> omega), rfl⟩
    · have h3' : n < 48 := by omega
      go_enter Tryd.func48, Tryd.ntmps48
      go_wp2
      go_ret
      exact ⟨ret_bool (by simp [*] <;> omega), rfl⟩

theorem udf_a (b : UInt8) (w : World) : Calls Tryd.prog 50 #[.int .u8 (b.toNat : Int)] w fun e w' => e = .returned (.bool (aB b)) ∧ w' = w := by
  have kI := Tryd.strings_IndexByte ⟨aL.toArray⟩ (b.toNat : Int) w
  have e1 : (b.toNat : Int).toNat.toUInt8 = b := by rw [Int.toNat_natCast]; exact UInt8.ofNat_toNat
  rw [e1, show (⟨aL.toArray⟩ : ByteArray).data.toList = aL from rfl] at kI
  have hr : aB b = decide (0 ≤ Lib.indexByte aL b) := rfl
  rw [hr]
  clear hr e1
  generalize Lib.indexByte aL b = r at *
  have KI := hide kI
  clear kI
  go_enter Tryd.func50, Tryd.ntmps50
  go_wp2_with fail
  refine (unhide KI).mono ?_
  rintro e w1 ⟨rfl, rfl⟩
  go_wp2_with fail
  go_ret
  exact ⟨rfl, rfl⟩
end Go.Proofs.YteiidcoapgnoaaaDoor
