/-
  The reference's Number inside of a string, and its names.
-/
import Derived.Test.YtokcpammdhkecaaGreatDoorGk
namespace Go.Proofs.YtokcpammdhkecaaGreatDoor
open Go.RowKit

def byt (s : ByteArray) (p : Nat) : Nat → Nat := fun i => by0 s (p + i)
theorem rdP_horner (f : Nat → Nat) : ∀ k, rdP f (k + 1) = f 0 + 256 * rdP (fun i => f (i + 1)) k
  | 0 => by simp [rdP]
  | k + 1 => by
    have h := rdP_horner f k
    have e1 : rdP f (k + 1 + 1) = rdP f (k + 1) + f (k + 1) * 256 ^ (k + 1) := rfl
    have e2 : rdP (fun i => f (i + 1)) (k + 1) = rdP (fun i => f (i + 1)) k + f (k + 1) * 256 ^ k := rfl
    have e3 : f (k + 1) * 256 ^ (k + 1) = 256 * (f (k + 1) * 256 ^ k) := by rw [Nat.pow_succ, Nat.mul_comm 256, Nat.mul_assoc]
    rw [e1, e2, h, e3]
    omega
theorem rdP_congr {f g : Nat → Nat} : ∀ k, (∀ i, i < k → f i = g i) → rdP f k = rdP g k
  | 0, _ => rfl
  | k + 1, h => by
    have e1 : rdP f (k + 1) = rdP f k + f k * 256 ^ k := rfl
    have e2 : rdP g (k + 1) = rdP g k + g k * 256 ^ k := rfl
    rw [e1, e2, rdP_congr k (fun i hi => h i (by omega)), h k (by omega)]
/-- The number of the bytes from i on. -/
def rdT (s : ByteArray) (p n i : Nat) : Nat := rdP (fun j => byt s p (i + j)) (n - i)
theorem rdT_all (s : ByteArray) (p n : Nat) : rdT s p n 0 = rdN s p n := rdP_congr n (fun i _ => by rw [Nat.zero_add]; rfl)
theorem rdT_end (s : ByteArray) (p n : Nat) : rdT s p n n = 0 := by unfold rdT; rw [Nat.sub_self]; rfl
theorem rdT_step (s : ByteArray) (p n i : Nat) (h : i < n) : rdT s p n i = rdT s p n (i + 1) * 256 + by0 s (p + i) := by
  unfold rdT
  rw [show n - i = (n - (i + 1)) + 1 from by omega, rdP_horner]
  have e : rdP (fun j => byt s p (i + (j + 1))) (n - (i + 1)) = rdP (fun j => byt s p (i + 1 + j)) (n - (i + 1)) := rdP_congr _ (fun j _ => by rw [show i + (j + 1) = i + 1 + j from by omega])
  rw [e]
  show by0 s (p + (i + 0)) + _ = _
  rw [Nat.add_zero]
  omega
theorem rdT_lt (s : ByteArray) (p n i : Nat) (h : n - i ≤ 4) : rdT s p n i < 4294967296 :=
  Nat.lt_of_lt_of_le (rdP_lt (fun _ => by0_lt _ _) _) (Nat.le_trans (Nat.pow_le_pow_right (by decide) h) (by decide))
theorem rdT_lt3 (s : ByteArray) (p n i : Nat) (h : n - i ≤ 3) : rdT s p n i < 16777216 :=
  Nat.lt_of_lt_of_le (rdP_lt (fun _ => by0_lt _ _) _) (Nat.le_trans (Nat.pow_le_pow_right (by decide) h) (by decide))

set_option maxHeartbeats 1600000 in
set_option maxRecDepth 100000 in
theorem rf_Number (s : ByteArray) (p n : Nat) (hs : s.size ≤ 1000) (hp : p + n ≤ s.size) (hn : n ≤ 4) (w : World) :
    Calls Tryz.prog 67 #[.string s, .int .i64 (p : Int), .int .i64 (n : Int)] w fun e w' => e = .returned (.int .i64 (rdN s p n : Int)) ∧ w' = w := by
  have hw0 : IntKind.i64.wrap ((n : Int) - 1) = (n : Int) - 1 := IntWalk.i64_in _ (by omega)
  have hz := Lib.hid (rdT_end s p n)
  have ha := Lib.hid (rdT_all s p n)
  obtain ⟨R, hR⟩ : ∃ R, R = rdN s p n := ⟨_, rfl⟩
  rw [← hR] at ha ⊢
  clear hR
  go_enter Tryz.func67, Tryz.ntmps67
  go_wp2_with fail
  go_loopw [7, 8] (fun t x wr => ∃ (i tt : Nat) (y : Int), i ≤ n ∧ x = .int .i64 y ∧ Hid (y = (i : Int) - 1) ∧ t = .int .i64 (tt : Int) ∧ Hid (tt = rdT s p n i) ∧ wr = w) (fun _ x _ => (intOf x + 1).toNat)
  case atStart => exact ⟨n, 0, (n : Int) - 1, Nat.le_refl _, rfl, Lib.hid rfl, rfl, Lib.hid hz.out.symm, rfl⟩
  case round =>
    obtain ⟨i, tt, y, hi, rfl, hy, rfl, ht, rfl⟩ := hrel
    by_cases h0 : i = 0
    · have hy0 : y < 0 := by have := hy.out; omega
      have hT : Hid (tt = R) := Lib.hid (by rw [ht.out, h0, ha.out])
      go_wp2
      go_ret
      exact ⟨by rw [hT.out]; rfl, by first | rfl | trivial⟩
    · obtain ⟨k, hk⟩ : ∃ k, i = k + 1 := ⟨i - 1, by omega⟩
      have hyk := hy.out
      have hy0 : 0 ≤ y := by omega
      have hkn : k < n := by omega
      have htl : tt < 16777216 := by rw [ht.out]; exact rdT_lt3 s p n i (by omega)
      have hst := rdT_step s p n k hkn
      have hq := by0_at s (p + k)
      have hbl := by0_lt s (p + k)
      have hN : Hid (tt * 256 + by0 s (p + k) = rdT s p n k) := Lib.hid (by rw [hst, ht.out, hk])
      generalize by0 s (p + k) = b at *
      have hwp : IntKind.i64.wrap ((p : Int) + y) = (p : Int) + y := IntWalk.i64_in _ (by omega)
      have g0 : (0 : Int) ≤ (p : Int) + y := by omega
      have g1 : (p : Int) + y < (s.size : Int) := by omega
      have gt : ((p : Int) + y).toNat = p + k := by omega
      have hw1 : IntKind.i64.wrap ((tt : Int) * 256) = (tt : Int) * 256 := IntWalk.i64_in _ (by omega)
      have hw2 : IntKind.i64.wrap (b : Int) = (b : Int) := IntWalk.i64_in _ (by omega)
      have hw3 : IntKind.i64.wrap ((tt : Int) * 256 + (b : Int)) = (tt : Int) * 256 + (b : Int) := IntWalk.i64_in _ (by omega)
      have hw4 : IntKind.i64.wrap (y - 1) = y - 1 := IntWalk.i64_in _ (by omega)
      have HY := Lib.hid (show y - 1 = (k : Int) - 1 by omega)
      have hkn2 : k ≤ n := by omega
      clear hst hyk hy hk
      go_wp2
      go_roundw
      case rel => exact ⟨k, tt * 256 + b, y - 1, hkn2, rfl, HY, by first | rfl | go_num | (congr 1; omega), hN, by first | rfl | trivial⟩
      case measure => simp [intOf]; omega
/-- The reference's names. -/
theorem rf_names (w : World) : Calls Tryz.prog 62 #[] w fun e w' => e = .returned (.slice (some ⟨w.heap.size, 0, none⟩) 3 3) ∧ w' = w.alloc (.cells #[.string idV, .string idS, .string idM] 9) := by
  go_enter Tryz.func62, Tryz.ntmps62
  go_wp2
  go_ret
  exact ⟨rfl, rfl⟩
end Go.Proofs.YtokcpammdhkecaaGreatDoor
