/-
  Texts of this claim, joined in one file: each begins with its own sentence.
-/
import Derived.Test.YtokcpammdhkecaaGreatDoorGk
import Derived.Test.YtokcpammdhkecaaGreatDoorGl
/-
  The reference's Number inside of a string, and its names.
-/
namespace Go.Proofs.YtokcpammdhkecaaGreatDoor
open Go.RowKit

def byt (s : ByteArray) (p : Nat) : Nat → Nat := fun i => by0 s (p + i)
theorem rdP_horner (f : Nat → Nat) : ∀ k, rdP f (k + 1) = f 0 + 256 * rdP (fun i => f (i + 1)) k
  | 0 => by simp [rdP]
  | k + 1 => by
    have h := rdP_horner f k
    have e1 : rdP f (k + 1 + 1) = rdP f (k + 1) + f (k + 1) * 256 ^ (k + 1) := rfl
    have e2 : rdP (fun i => f (i + 1)) (k + 1) = rdP (fun i => f (i + 1)) k + f (k + 1) * 256 ^ k := rfl
    have e3 : f (k + 1) * 256 ^ (k + 1) = 256 * (f (k + 1) * 256 ^ k) := by rw [Nat.pow_succ, Nat.mul_comm 256, Nat.mul_assoc]
    rw [e1, e2, h, e3]
    omega
theorem rdP_congr {f g : Nat → Nat} : ∀ k, (∀ i, i < k → f i = g i) → rdP f k = rdP g k
  | 0, _ => rfl
  | k + 1, h => by
    have e1 : rdP f (k + 1) = rdP f k + f k * 256 ^ k := rfl
    have e2 : rdP g (k + 1) = rdP g k + g k * 256 ^ k := rfl
    rw [e1, e2, rdP_congr k (fun i hi => h i (by omega)), h k (by omega)]
/-- The number of the bytes from i on. -/
def rdT (s : ByteArray) (p n i : Nat) : Nat := rdP (fun j => byt s p (i + j)) (n - i)
theorem rdT_all (s : ByteArray) (p n : Nat) : rdT s p n 0 = rdN s p n := rdP_congr n (fun i _ => by rw [Nat.zero_add]; rfl)
theorem rdT_end (s : ByteArray) (p n : Nat) : rdT s p n n = 0 := by unfold rdT; rw [Nat.sub_self]; rfl
theorem rdT_step (s : ByteArray) (p n i : Nat) (h : i < n) : rdT s p n i = rdT s p n (i + 1) * 256 + by0 s (p + i) := by
  unfold rdT
  rw [show n - i = (n - (i + 1)) + 1 from by omega, rdP_horner]
  have e : rdP (fun j => byt s p (i + (j + 1))) (n - (i + 1)) = rdP (fun j => byt s p (i + 1 + j)) (n - (i + 1)) := rdP_congr _ (fun j _ => by rw [show i + (j + 1) = i + 1 + j from by omega])
  rw [e]
  show by0 s (p + (i + 0)) + _ = _
  rw [Nat.add_zero]
  omega
theorem rdT_lt (s : ByteArray) (p n i : Nat) (h : n - i ≤ 4) : rdT s p n i < 4294967296 :=
  Nat.lt_of_lt_of_le (rdP_lt (fun _ => by0_lt _ _) _) (Nat.le_trans (Nat.pow_le_pow_right (by decide) h) (by decide))
theorem rdT_lt3 (s : ByteArray) (p n i : Nat) (h : n - i ≤ 3) : rdT s p n i < 16777216 :=
  Nat.lt_of_lt_of_le (rdP_lt (fun _ => by0_lt _ _) _) (Nat.le_trans (Nat.pow_le_pow_right (by decide) h) (by decide))

set_option maxHeartbeats 1600000 in
set_option maxRecDepth 100000 in
theorem rf_Number (s : ByteArray) (p n : Nat) (hs : s.size ≤ 1000) (hp : p + n ≤ s.size) (hn : n ≤ 4) (w : World) :
    Calls Tryz.prog 67 #[.string s, .int .i64 (p : Int), .int .i64 (n : Int)] w fun e w' => e = .returned (.int .i64 (rdN s p n : Int)) ∧ w' = w := by
  have hw0 : IntKind.i64.wrap ((n : Int) - 1) = (n : Int) - 1 := IntWalk.i64_in _ (by omega)
  have hz := Lib.hid (rdT_end s p n)
  have ha := Lib.hid (rdT_all s p n)
  obtain ⟨R, hR⟩ : ∃ R, R = rdN s p n := ⟨_, rfl⟩
  rw [← hR] at ha ⊢
  clear hR
  go_enter Tryz.func67, Tryz.ntmps67
  go_wp2_with fail
  go_loopw [7, 8] (fun t x wr => ∃ (i tt : Nat) (y : Int), i ≤ n ∧ x = .int .i64 y ∧ Hid (y = (i : Int) - 1) ∧ t = .int .i64 (tt : Int) ∧ Hid (tt = rdT s p n i) ∧ wr = w) (fun _ x _ => (intOf x + 1).toNat)
  case atStart => exact ⟨n, 0, (n : Int) - 1, Nat.le_refl _, rfl, Lib.hid rfl, rfl, Lib.hid hz.out.symm, rfl⟩
  case round =>
    obtain ⟨i, tt, y, hi, rfl, hy, rfl, ht, rfl⟩ := hrel
    by_cases h0 : i = 0
    · have hy0 : y < 0 := by have := hy.out; omega
      have hT : Hid (tt = R) := Lib.hid (by rw [ht.out, h0, ha.out])
      go_wp2
      go_ret
      exact ⟨by rw [hT.out]; rfl, by first | rfl | trivial⟩
    · obtain ⟨k, hk⟩ : ∃ k, i = k + 1 := ⟨i - 1, by omega⟩
      have hyk := hy.out
      have hy0 : 0 ≤ y := by omega
      have hkn : k < n := by omega
      have htl : tt < 16777216 := by rw [ht.out]; exact rdT_lt3 s p n i (by omega)
      have hst := rdT_step s p n k hkn
      have hq := by0_at s (p + k)
      have hbl := by0_lt s (p + k)
      have hN : Hid (tt * 256 + by0 s (p + k) = rdT s p n k) := Lib.hid (by rw [hst, ht.out, hk])
      generalize by0 s (p + k) = b at *
      have hwp : IntKind.i64.wrap ((p : Int) + y) = (p : Int) + y := IntWalk.i64_in _ (by omega)
      have g0 : (0 : Int) ≤ (p : Int) + y := by omega
      have g1 : (p : Int) + y < (s.size : Int) := by omega
      have gt : ((p : Int) + y).toNat = p + k := by omega
      have hw1 : IntKind.i64.wrap ((tt : Int) * 256) = (tt : Int) * 256 := IntWalk.i64_in _ (by omega)
      have hw2 : IntKind.i64.wrap (b : Int) = (b : Int) := IntWalk.i64_in _ (by omega)
      have hw3 : IntKind.i64.wrap ((tt : Int) * 256 + (b : Int)) = (tt : Int) * 256 + (b : Int) := IntWalk.i64_in _ (by omega)
      have hw4 : IntKind.i64.wrap (y - 1) = y - 1 := IntWalk.i64_in _ (by omega)
      have HY := Lib.hid (show y - 1 = (k : Int) - 1 by omega)
      have hkn2 : k ≤ n := by omega
      clear hst hyk hy hk
      go_wp2
      go_roundw
      case rel => exact ⟨k, tt * 256 + b, y - 1, hkn2, rfl, HY, by first | rfl | go_num | (congr 1; omega), hN, by first | rfl | trivial⟩
      case measure => simp [intOf]; omega
/-- The reference's names. -/
theorem rf_names (w : World) : Calls Tryz.prog 62 #[] w fun e w' => e = .returned (.slice (some ⟨w.heap.size, 0, none⟩) 3 3) ∧ w' = w.alloc (.cells #[.string idV, .string idS, .string idM] 9) := by
  go_enter Tryz.func62, Tryz.ntmps62
  go_wp2
  go_ret
  exact ⟨rfl, rfl⟩
end Go.Proofs.YtokcpammdhkecaaGreatDoor

/-
  The reference's decode: the short ways.
-/
namespace Go.Proofs.YtokcpammdhkecaaGreatDoor
open Go.RowKit

/-- What the reference's decode gives. -/
def rdrR (x : ByteArray) : DR :=
  if by0 x 0 = 1 then (if x.size = 6 then ⟨0, 6, 0, rdN x 4 2, [], 0, 0, 0⟩ else dNo 10)
  else if by0 x 0 = 2 then (if x.size = 64 then (if peE (x.extract 4 36) = 0 then dcdE x else dNo 10) else dNo 10)
  else dNo 14
def DR.Rs (d : DR) (w w' : World) (e : Ending) : Prop :=
  ∃ A c, e = .returned (.tuple #[.agg #[.int .i64 d.k, .int .i64 d.n, .slice A d.xs.length c, .int .i64 d.f, .int .i64 d.m, .int .i64 d.b], .int .i64 d.E]) ∧ Row w' A d.xs ∧ (∀ ad, A = some ad → w.heap.size ≤ ad.block) ∧ Below w.heap.size w w'
/-- The call's own box. -/
structure Ex (w w' : World) : Prop where
  low : Below w.heap.size w w'
  b : w'.heap[w.heap.size]? = some (.cells #[.int .i64 0, .int .i64 0, .slice none 0 0, .int .i64 0, .int .i64 0, .int .i64 0] 65)
theorem Ex.step {w w' w'' : World} (h : Ex w w') (hb : Below w'.heap.size w' w'') : Ex w w'' :=
  ⟨h.low.trans (hb.mono h.low.size), (hb.block _ (heap_lt h.b)).trans h.b⟩
theorem ex_start (w : World) : Ex w (w.alloc (.cells #[.int .i64 0, .int .i64 0, .slice none 0 0, .int .i64 0, .int .i64 0, .int .i64 0] 65)) := ⟨(Below.refl _ _).alloc (Nat.le_refl _) _, heap_new w _⟩
theorem Ex.grown {w wr w' : World} {r : Nat} (h : Ex w wr) (hg : wr.grownBy w' (some r)) (hr : w.heap.size < r) : Ex w w' :=
  ⟨h.low.grown hg h.low.size (fun k hk => by injection hk with hk; omega), (hg.block _ (heap_lt h.b) (fun q => by injection q; omega)).trans h.b⟩
set_option maxHeartbeats 1600000 in
set_option maxRecDepth 100000 in
theorem rcd_res (tmps : Array Value) (w : World) (g : Nat) (v0 v1 v2 v3 v4 v5 : Value) (ht : tmps.getD 2 undef = .pointer (some ⟨g, 0, none⟩)) (c0 : w.cell? ⟨g, 0, none⟩ = some v0) (c1 : w.cell? ⟨g, 1, none⟩ = some v1)
    (c2 : w.cell? ⟨g, 2, none⟩ = some v2) (c3 : w.cell? ⟨g, 3, none⟩ = some v3) (c4 : w.cell? ⟨g, 4, none⟩ = some v4) (c5 : w.cell? ⟨g, 5, none⟩ = some v5) :
    (results Tryz.f38 tmps).run Tryz.prog w = .ok (.tuple #[.agg #[v0, v1, v2, v3, v4, v5], tmps.getD 3 undef]) w := by
  have h : Tryz.f38.results = #[.cell 2 65, .tmp 3] := rfl
  have ht2 : tmps[2]?.getD undef = .pointer (some ⟨g, 0, none⟩) := by simpa using ht
  simp only [results, h]
  simp [Sem.run_bind, Result.andThen, ht2]
  go_simp
theorem rcd_done (w : World) (w4 : World) (D1 : Ex w w4) (d : DR) (A : Option Addr) (c : Nat) (tmps : Array Value) (ht : tmps.getD 2 undef = .pointer (some ⟨w.heap.size, 0, none⟩)) (h3 : tmps.getD 3 undef = .int .i64 d.E)
    (hr : Row w4 A d.xs) (hA : ∀ ad, A = some ad → w.heap.size ≤ ad.block) (hA2 : ∀ ad, A = some ad → ad.block ≠ w.heap.size) :
    bodyPost Tryz.prog Tryz.f38 (fun e w' => d.Rs w w' e) Exit.ret ⟨tmps, []⟩ (set6 w4 w.heap.size (.int .i64 d.k) (.int .i64 d.n) (.slice A d.xs.length c) (.int .i64 d.f) (.int .i64 d.m) (.int .i64 d.b)) := by
  have r0 := cell_block D1.b 0 _ rfl
  have r1 := cell_block D1.b 1 _ rfl
  have r2 := cell_block D1.b 2 _ rfl
  have r3 := cell_block D1.b 3 _ rfl
  have r4 := cell_block D1.b 4 _ rfl
  have r5 := cell_block D1.b 5 _ rfl
  have hB : Below w.heap.size w (set6 w4 w.heap.size (.int .i64 d.k) (.int .i64 d.n) (.slice A d.xs.length c) (.int .i64 d.f) (.int .i64 d.m) (.int .i64 d.b)) := by
    unfold set6
    have q : w.heap.size ≤ w.heap.size := Nat.le_refl _
    exact (((((D1.low.setCell (p := ⟨_, _, _⟩) q _).setCell (p := ⟨_, _, _⟩) q _).setCell (p := ⟨_, _, _⟩) q _).setCell (p := ⟨_, _, _⟩) q _).setCell (p := ⟨_, _, _⟩) q _).setCell (p := ⟨_, _, _⟩) q _
  have hR : Row (set6 w4 w.heap.size (.int .i64 d.k) (.int .i64 d.n) (.slice A d.xs.length c) (.int .i64 d.f) (.int .i64 d.m) (.int .i64 d.b)) A d.xs := by
    unfold set6
    exact (((((hr.set hA2 _).set hA2 _).set hA2 _).set hA2 _).set hA2 _).set hA2 _
  refine bodyPost_ret (rcd_res tmps _ w.heap.size (.int .i64 d.k) (.int .i64 d.n) (.slice A d.xs.length c) (.int .i64 d.f) (.int .i64 d.m) (.int .i64 d.b) ht ?_ ?_ ?_ ?_ ?_ ?_) rfl ?_
  · unfold set6; go_simp
  · unfold set6; go_simp
  · unfold set6; go_simp
  · unfold set6; go_simp
  · unfold set6; go_simp
  · unfold set6; go_simp
  · rw [h3]
    exact ⟨A, c, rfl, hR, hA, hB⟩
set_option maxHeartbeats 3200000 in
set_option maxRecDepth 100000 in
theorem rcd_kind (s : ByteArray) (w : World) (hl : s.size ≤ 1000) (h0 : 1 ≤ s.size) (hk : by0 s 0 ≠ 1 ∧ by0 s 0 ≠ 2) : Calls Tryz.prog 38 #[.string s] w fun e w' => (dNo 14).Rs w w' e := by
  have q0 := by0_at s 0
  have hb0 := by0_lt s 0
  generalize by0 s 0 = b0 at *
  have g3 : (0 : Int) < (s.size : Int) := by omega
  have g4 : ((b0 : Int) != 1) = true := by rw [bne_iff_ne]; omega
  have g5 : ((b0 : Int) != 2) = true := by rw [bne_iff_ne]; omega
  have g6 : ((b0 : Int) == 1) = false := by rw [beq_eq_false_iff_ne]; omega
  have g7 : ((b0 : Int) == 2) = false := by rw [beq_eq_false_iff_ne]; omega
  clear hk
  go_enter Tryz.func38, Tryz.ntmps38
  go_upto_region 1 with fail
  have E1 := ex_start w
  generalize w.alloc _ = w1 at *
  have r0 := cell_block E1.b 0 _ rfl
  have f0 := frozen_block E1.b 0
  have r1 := cell_block E1.b 1 _ rfl
  have f1 := frozen_block E1.b 1
  have r2 := cell_block E1.b 2 _ rfl
  have f2 := frozen_block E1.b 2
  have r3 := cell_block E1.b 3 _ rfl
  have f3 := frozen_block E1.b 3
  have r4 := cell_block E1.b 4 _ rfl
  have f4 := frozen_block E1.b 4
  have r5 := cell_block E1.b 5 _ rfl
  have f5 := frozen_block E1.b 5
  go_wp2_with fail
  refine rcd_done w _ E1 (dNo 14) none 0 _ ?_ ?_ (row_nil _ _) (fun _ h => by cases h) (fun _ h => by cases h) <;> rfl
set_option maxHeartbeats 3200000 in
set_option maxRecDepth 100000 in
theorem rcd_size1 (s : ByteArray) (w : World) (hl : s.size ≤ 1000) (h0 : 1 ≤ s.size) (hk : by0 s 0 = 1) (hz : s.size ≠ 6) : Calls Tryz.prog 38 #[.string s] w fun e w' => (dNo 10).Rs w w' e := by
  have q0 := by0_at s 0
  have hb0 := by0_lt s 0
  generalize by0 s 0 = b0 at *
  have g3 : (0 : Int) < (s.size : Int) := by omega
  subst hk
  have g4 : ¬ (s.size : Int) = 6 := by omega
  go_enter Tryz.func38, Tryz.ntmps38
  go_upto_region 1 with fail
  have E1 := ex_start w
  generalize w.alloc _ = w1 at *
  have r0 := cell_block E1.b 0 _ rfl
  have f0 := frozen_block E1.b 0
  have r1 := cell_block E1.b 1 _ rfl
  have f1 := frozen_block E1.b 1
  have r2 := cell_block E1.b 2 _ rfl
  have f2 := frozen_block E1.b 2
  have r3 := cell_block E1.b 3 _ rfl
  have f3 := frozen_block E1.b 3
  have r4 := cell_block E1.b 4 _ rfl
  have f4 := frozen_block E1.b 4
  have r5 := cell_block E1.b 5 _ rfl
  have f5 := frozen_block E1.b 5
  go_wp2_with fail
  refine rcd_done w _ E1 (dNo 10) none 0 _ ?_ ?_ (row_nil _ _) (fun _ h => by cases h) (fun _ h => by cases h) <;> rfl
set_option maxHeartbeats 3200000 in
set_option maxRecDepth 100000 in
theorem rcd_phys (s : ByteArray) (w : World) (hl : s.size ≤ 1000) (h0 : 1 ≤ s.size) (hk : by0 s 0 = 1) (hz : s.size = 6) : Calls Tryz.prog 38 #[.string s] w fun e w' => ((⟨0, 6, 0, rdN s 4 2, [], 0, 0, 0⟩ : DR)).Rs w w' e := by
  have k4 : Hid (∀ w', Calls Tryz.prog 67 #[.string s, .int .i64 4, .int .i64 2] w' fun e w'' => e = .returned (.int .i64 (rdN s 4 2 : Int)) ∧ w'' = w') := fun w' => rf_Number s 4 2 hl (by omega) (by decide) w'
  have q0 := by0_at s 0
  have hb0 := by0_lt s 0
  generalize by0 s 0 = b0 at *
  have g3 : (0 : Int) < (s.size : Int) := by omega
  subst hk
  have g4 : (s.size : Int) = 6 := by omega
  have G4 : ((s.size : Int) != 6) = false := by rw [g4]; rfl
  clear hz g4
  go_enter Tryz.func38, Tryz.ntmps38
  go_upto_region 1 with fail
  have E1 := ex_start w
  generalize w.alloc _ = w1 at *
  have r0 := cell_block E1.b 0 _ rfl
  have f0 := frozen_block E1.b 0
  have r1 := cell_block E1.b 1 _ rfl
  have f1 := frozen_block E1.b 1
  have r2 := cell_block E1.b 2 _ rfl
  have f2 := frozen_block E1.b 2
  have r3 := cell_block E1.b 3 _ rfl
  have f3 := frozen_block E1.b 3
  have r4 := cell_block E1.b 4 _ rfl
  have f4 := frozen_block E1.b 4
  have r5 := cell_block E1.b 5 _ rfl
  have f5 := frozen_block E1.b 5
  go_wp2_with (go_at_call_has 67 (#[Value.string s, Value.int .i64 4, Value.int .i64 2]); refine (unhide k4 _).mono ?_; rintro e wn ⟨rfl, hn⟩; have hn := hn.symm; subst hn)
  refine rcd_done w _ E1 (⟨0, 6, 0, rdN s 4 2, [], 0, 0, 0⟩) none 0 _ ?_ ?_ (row_nil _ _) (fun _ h => by cases h) (fun _ h => by cases h) <;> rfl
set_option maxHeartbeats 3200000 in
set_option maxRecDepth 100000 in
theorem rcd_size2 (s : ByteArray) (w : World) (hl : s.size ≤ 1000) (h0 : 1 ≤ s.size) (hk : by0 s 0 = 2) (hz : s.size ≠ 64) : Calls Tryz.prog 38 #[.string s] w fun e w' => (dNo 10).Rs w w' e := by
  have q0 := by0_at s 0
  have hb0 := by0_lt s 0
  generalize by0 s 0 = b0 at *
  have g3 : (0 : Int) < (s.size : Int) := by omega
  subst hk
  have g4 : ¬ (s.size : Int) = 64 := by omega
  go_enter Tryz.func38, Tryz.ntmps38
  go_upto_region 1 with fail
  have E1 := ex_start w
  generalize w.alloc _ = w1 at *
  have r0 := cell_block E1.b 0 _ rfl
  have f0 := frozen_block E1.b 0
  have r1 := cell_block E1.b 1 _ rfl
  have f1 := frozen_block E1.b 1
  have r2 := cell_block E1.b 2 _ rfl
  have f2 := frozen_block E1.b 2
  have r3 := cell_block E1.b 3 _ rfl
  have f3 := frozen_block E1.b 3
  have r4 := cell_block E1.b 4 _ rfl
  have f4 := frozen_block E1.b 4
  have r5 := cell_block E1.b 5 _ rfl
  have f5 := frozen_block E1.b 5
  go_wp2_with fail
  refine rcd_done w _ E1 (dNo 10) none 0 _ ?_ ?_ (row_nil _ _) (fun _ h => by cases h) (fun _ h => by cases h) <;> rfl
end Go.Proofs.YtokcpammdhkecaaGreatDoor

/-
  The reference's decode: 64 bytes.
-/
namespace Go.Proofs.YtokcpammdhkecaaGreatDoor
open Go.RowKit

/-- The map p is in block g, the names in block l. -/
structure Fx (w wr : World) (g l : Nat) (k n : Int) : Prop where
  ex : Ex w wr
  lo : w.heap.size < g
  ne : l ≠ g
  l0 : l ≠ w.heap.size
  bx : wr.heap[g]? = some (.cells #[.int .i64 k, .int .i64 n, .slice none 0 0, .int .i64 0, .int .i64 0, .int .i64 0] 65)
  nb : wr.heap[l]? = some (.cells #[.string idV, .string idS, .string idM] 9)
theorem fx_start {w w2 : World} (h : Ex w w2) (n : Int) : Fx w ((w2.alloc (.cells #[.int .i64 0, .int .i64 n, .slice none 0 0, .int .i64 0, .int .i64 0, .int .i64 0] 65)).alloc (.cells #[.string idV, .string idS, .string idM] 9)) w2.heap.size (w2.heap.size + 1) 0 n := by
  have a1 : Below w2.heap.size w2 (w2.alloc (.cells #[.int .i64 0, .int .i64 n, .slice none 0 0, .int .i64 0, .int .i64 0, .int .i64 0] 65)) := (Below.refl _ _).alloc (Nat.le_refl _) _
  have hlt := heap_lt h.b
  refine ⟨h.step (a1.alloc (by simp) _), hlt, by omega, by omega, ?_, ?_⟩
  · rw [Below.heap_alloc _ _ _ (by simp)]
    exact heap_new w2 _
  · have := heap_new (w2.alloc (.cells #[.int .i64 0, .int .i64 n, .slice none 0 0, .int .i64 0, .int .i64 0, .int .i64 0] 65)) (.cells #[.string idV, .string idS, .string idM] 9)
    simpa using this
theorem Fx.setk {w wr : World} {g l : Nat} {k n : Int} (h : Fx w wr g l k n) (k' : Int) : Fx w (wr.setCell ⟨g, 0, none⟩ (.int .i64 k')) g l k' n :=
  ⟨h.ex.grown (grown_set wr g 0 _) h.lo, h.lo, h.ne, h.l0, by rw [set_block h.bx]; rfl, ((grown_set wr g 0 _).block l (heap_lt h.nb) (fun q => h.ne (by injection q))).trans h.nb⟩
theorem beqL_comm (a b : List UInt8) : (a == b) = (b == a) := by
  rw [Bool.eq_iff_iff, beq_iff_eq, beq_iff_eq]
  exact eq_comm
set_option maxHeartbeats 3200000 in
set_option maxRecDepth 100000 in
theorem rcd_ent (s : ByteArray) (w : World) (hl : s.size ≤ 1000) (h0 : 1 ≤ s.size) (kP : ∀ (f : ByteArray) (w' : World), Calls Tryz.prog 68 #[.string f] w' fun e w'' => e = .returned (.tuple #[.string (peI f), .string (peX f), .int .i64 (peE f)]) ∧ Below w'.heap.size w' w'') (hk : by0 s 0 = 2) (hz : s.size = 64) (he : peE (s.extract 4 36) ≠ 0) : Calls Tryz.prog 38 #[.string s] w fun e w' => (dNo 10).Rs w w' e := by
  have kE : Hid (∀ w', Calls Tryz.prog 68 #[.string (s.extract 4 36)] w' fun e w'' => e = .returned (.tuple #[.string (peI (s.extract 4 36)), .string (peX (s.extract 4 36)), .int .i64 (peE (s.extract 4 36))]) ∧ Below w'.heap.size w' w'') := fun w' => kP _ w'
  clear kP
  have he2 : (peE (s.extract 4 36) == 0) = false := by rw [beq_eq_false_iff_ne]; exact he
  have he3 : (peE (s.extract 4 36) != 0) = true := by rw [bne_iff_ne]; exact he
  clear he
  generalize peI (s.extract 4 36) = nm at *
  generalize peX (s.extract 4 36) = sx at *
  generalize peE (s.extract 4 36) = er at *
  have q0 := by0_at s 0
  have hb0 := by0_lt s 0
  generalize by0 s 0 = b0 at *
  have g3 : (0 : Int) < (s.size : Int) := by omega
  subst hk
  have g36 : (36 : Int) ≤ (s.size : Int) := by omega
  have g42 : (42 : Int) < (s.size : Int) := by omega
  have g4 : (s.size : Int) = 64 := by omega
  have G4 : ((s.size : Int) != 64) = false := by rw [g4]; rfl
  clear hz g4
  go_enter Tryz.func38, Tryz.ntmps38
  go_upto_region 1 with fail
  have E1 := ex_start w
  generalize w.alloc _ = w1 at *
  have r0 := cell_block E1.b 0 _ rfl
  have f0 := frozen_block E1.b 0
  have r1 := cell_block E1.b 1 _ rfl
  have f1 := frozen_block E1.b 1
  have r2 := cell_block E1.b 2 _ rfl
  have f2 := frozen_block E1.b 2
  have r3 := cell_block E1.b 3 _ rfl
  have f3 := frozen_block E1.b 3
  have r4 := cell_block E1.b 4 _ rfl
  have f4 := frozen_block E1.b 4
  have r5 := cell_block E1.b 5 _ rfl
  have f5 := frozen_block E1.b 5
  go_wp2_with (go_at_call 68; refine (unhide kE _).mono ?_; rintro e w2 ⟨rfl, hb2⟩; have E2 := E1.step hb2; clear r0 f0 r1 f1 r2 f2 r3 f3 r4 f4 r5 f5; have r0 := cell_block E2.b 0 _ rfl; have f0 := frozen_block E2.b 0; have r1 := cell_block E2.b 1 _ rfl; have f1 := frozen_block E2.b 1; have r2 := cell_block E2.b 2 _ rfl; have f2 := frozen_block E2.b 2; have r3 := cell_block E2.b 3 _ rfl; have f3 := frozen_block E2.b 3; have r4 := cell_block E2.b 4 _ rfl; have f4 := frozen_block E2.b 4; have r5 := cell_block E2.b 5 _ rfl; have f5 := frozen_block E2.b 5)
  refine rcd_done w _ E2 (dNo 10) none 0 _ ?_ ?_ (row_nil _ _) (fun _ h => by cases h) (fun _ h => by cases h) <;> rfl
set_option maxHeartbeats 3200000 in
set_option maxRecDepth 100000 in
theorem rcd_none (s : ByteArray) (w : World) (hl : s.size ≤ 1000) (h0 : 1 ≤ s.size) (kP : ∀ (f : ByteArray) (w' : World), Calls Tryz.prog 68 #[.string f] w' fun e w'' => e = .returned (.tuple #[.string (peI f), .string (peX f), .int .i64 (peE f)]) ∧ Below w'.heap.size w' w'') (hk : by0 s 0 = 2) (hz : s.size = 64) (he : peE (s.extract 4 36) = 0) (m1 : (idV.toList == (peI (s.extract 4 36)).toList) = false) (m2 : (idS.toList == (peI (s.extract 4 36)).toList) = false) (m3 : (idM.toList == (peI (s.extract 4 36)).toList) = false) : Calls Tryz.prog 38 #[.string s] w fun e w' => (dNo 14).Rs w w' e := by
  have kE : Hid (∀ w', Calls Tryz.prog 68 #[.string (s.extract 4 36)] w' fun e w'' => e = .returned (.tuple #[.string (peI (s.extract 4 36)), .string (peX (s.extract 4 36)), .int .i64 (peE (s.extract 4 36))]) ∧ Below w'.heap.size w' w'') := fun w' => kP _ w'
  clear kP
  have k38 : Hid (∀ w', Calls Tryz.prog 67 #[.string s, .int .i64 38, .int .i64 2] w' fun e w'' => e = .returned (.int .i64 (rdN s 38 2 : Int)) ∧ w'' = w') := fun w' => rf_Number s 38 2 hl (by omega) (by decide) w'
  rw [he] at kE
  clear he
  generalize peI (s.extract 4 36) = nm at *
  generalize peX (s.extract 4 36) = sx at *
  have M1 : (nm.toList == idV.toList) = false := (beqL_comm _ _).trans m1
  clear m1
  have M2 : (nm.toList == idS.toList) = false := (beqL_comm _ _).trans m2
  clear m2
  have M3 : (nm.toList == idM.toList) = false := (beqL_comm _ _).trans m3
  clear m3
  have q0 := by0_at s 0
  have hb0 := by0_lt s 0
  generalize by0 s 0 = b0 at *
  have g3 : (0 : Int) < (s.size : Int) := by omega
  subst hk
  have g36 : (36 : Int) ≤ (s.size : Int) := by omega
  have g42 : (42 : Int) < (s.size : Int) := by omega
  have g4 : (s.size : Int) = 64 := by omega
  have G4 : ((s.size : Int) != 64) = false := by rw [g4]; rfl
  clear hz g4
  generalize rdN s 38 2 = n38 at *
  go_enter Tryz.func38, Tryz.ntmps38
  go_upto_region 1 with fail
  have E1 := ex_start w
  generalize w.alloc _ = w1 at *
  have r0 := cell_block E1.b 0 _ rfl
  have f0 := frozen_block E1.b 0
  have r1 := cell_block E1.b 1 _ rfl
  have f1 := frozen_block E1.b 1
  have r2 := cell_block E1.b 2 _ rfl
  have f2 := frozen_block E1.b 2
  have r3 := cell_block E1.b 3 _ rfl
  have f3 := frozen_block E1.b 3
  have r4 := cell_block E1.b 4 _ rfl
  have f4 := frozen_block E1.b 4
  have r5 := cell_block E1.b 5 _ rfl
  have f5 := frozen_block E1.b 5
  go_wp2_with (first
    | (go_at_call 68; refine (unhide kE _).mono ?_; rintro e w2 ⟨rfl, hb2⟩; have E2 := E1.step hb2; clear r0 f0 r1 f1 r2 f2 r3 f3 r4 f4 r5 f5; have r0 := cell_block E2.b 0 _ rfl; have f0 := frozen_block E2.b 0; have r1 := cell_block E2.b 1 _ rfl; have f1 := frozen_block E2.b 1; have r2 := cell_block E2.b 2 _ rfl; have f2 := frozen_block E2.b 2; have r3 := cell_block E2.b 3 _ rfl; have f3 := frozen_block E2.b 3; have r4 := cell_block E2.b 4 _ rfl; have f4 := frozen_block E2.b 4; have r5 := cell_block E2.b 5 _ rfl; have f5 := frozen_block E2.b 5)
    | (go_at_call_has 67 (#[Value.string s, Value.int .i64 38, Value.int .i64 2]); refine (unhide k38 _).mono ?_; rintro e wn ⟨rfl, hn⟩; have hn := hn.symm; subst hn)
    | (go_at_call 62; refine (rf_names _).mono ?_; rintro e w4 ⟨rfl, hw4⟩; have F4 := fx_start E2 (n38 : Int); rw [← hw4] at F4; clear hw4))
  have hg4 : w.heap.size < w2.heap.size := F4.lo
  clear E2 hb2 r0 f0 r1 f1 r2 f2 r3 f3 r4 f4 r5 f5
  generalize w2.heap.size = gx at *
  have E4 := F4.ex
  have r0 := cell_block E4.b 0 _ rfl
  have f0 := frozen_block E4.b 0
  have r1 := cell_block E4.b 1 _ rfl
  have f1 := frozen_block E4.b 1
  have r2 := cell_block E4.b 2 _ rfl
  have f2 := frozen_block E4.b 2
  have r3 := cell_block E4.b 3 _ rfl
  have f3 := frozen_block E4.b 3
  have r4 := cell_block E4.b 4 _ rfl
  have f4 := frozen_block E4.b 4
  have r5 := cell_block E4.b 5 _ rfl
  have f5 := frozen_block E4.b 5
  have n0 := cell_block F4.nb 0 _ rfl
  have n1 := cell_block F4.nb 1 _ rfl
  have n2 := cell_block F4.nb 2 _ rfl
  have x0 := cell_block F4.bx 0 _ rfl
  have xf0 := frozen_block F4.bx 0
  have x1 := cell_block F4.bx 1 _ rfl
  have xf1 := frozen_block F4.bx 1
  have x2 := cell_block F4.bx 2 _ rfl
  have xf2 := frozen_block F4.bx 2
  have x3 := cell_block F4.bx 3 _ rfl
  have xf3 := frozen_block F4.bx 3
  have x4 := cell_block F4.bx 4 _ rfl
  have xf4 := frozen_block F4.bx 4
  have x5 := cell_block F4.bx 5 _ rfl
  have xf5 := frozen_block F4.bx 5
  have y0 : ¬ gx = w.heap.size := by omega
  have y1 : ¬ w.heap.size = gx := by omega
  have y2 : ¬ gx + 1 = gx := by omega
  have y3 : ¬ gx = gx + 1 := by omega
  have y4 : ¬ gx + 1 = w.heap.size := by omega
  have y5 : ¬ w.heap.size = gx + 1 := by omega
  refine wp_loop_rounds 4 ?_
  rw [rounds_succ]
  go_wp2_with fail
  rw [rounds_succ]
  go_wp2_with fail
  rw [rounds_succ]
  go_wp2_with fail
  rw [rounds_succ]
  go_wp2_with fail
  refine rcd_done w _ F4.ex (dNo 14) none 0 _ ?_ ?_ (row_nil _ _) (fun _ h => by cases h) (fun _ h => by cases h) <;> rfl
set_option maxHeartbeats 3200000 in
set_option maxRecDepth 100000 in
theorem rcd_virt (s : ByteArray) (w : World) (hl : s.size ≤ 1000) (h0 : 1 ≤ s.size) (kP : ∀ (f : ByteArray) (w' : World), Calls Tryz.prog 68 #[.string f] w' fun e w'' => e = .returned (.tuple #[.string (peI f), .string (peX f), .int .i64 (peE f)]) ∧ Below w'.heap.size w' w'') (hk : by0 s 0 = 2) (hz : s.size = 64) (he : peE (s.extract 4 36) = 0) (m1 : (idV.toList == (peI (s.extract 4 36)).toList) = true) (m2 : (idS.toList == (peI (s.extract 4 36)).toList) = false) (m3 : (idM.toList == (peI (s.extract 4 36)).toList) = false) : Calls Tryz.prog 38 #[.string s] w fun e w' => ((⟨0, 64, 1, rdN s 38 2, [], 0, 0, 0⟩ : DR)).Rs w w' e := by
  have kE : Hid (∀ w', Calls Tryz.prog 68 #[.string (s.extract 4 36)] w' fun e w'' => e = .returned (.tuple #[.string (peI (s.extract 4 36)), .string (peX (s.extract 4 36)), .int .i64 (peE (s.extract 4 36))]) ∧ Below w'.heap.size w' w'') := fun w' => kP _ w'
  clear kP
  have k38 : Hid (∀ w', Calls Tryz.prog 67 #[.string s, .int .i64 38, .int .i64 2] w' fun e w'' => e = .returned (.int .i64 (rdN s 38 2 : Int)) ∧ w'' = w') := fun w' => rf_Number s 38 2 hl (by omega) (by decide) w'
  rw [he] at kE
  clear he
  generalize peI (s.extract 4 36) = nm at *
  generalize peX (s.extract 4 36) = sx at *
  have M1 : (nm.toList == idV.toList) = true := (beqL_comm _ _).trans m1
  clear m1
  have M2 : (nm.toList == idS.toList) = false := (beqL_comm _ _).trans m2
  clear m2
  have M3 : (nm.toList == idM.toList) = false := (beqL_comm _ _).trans m3
  clear m3
  have q0 := by0_at s 0
  have hb0 := by0_lt s 0
  generalize by0 s 0 = b0 at *
  have g3 : (0 : Int) < (s.size : Int) := by omega
  subst hk
  have g36 : (36 : Int) ≤ (s.size : Int) := by omega
  have g42 : (42 : Int) < (s.size : Int) := by omega
  have g4 : (s.size : Int) = 64 := by omega
  have G4 : ((s.size : Int) != 64) = false := by rw [g4]; rfl
  clear hz g4
  generalize rdN s 38 2 = n38 at *
  go_enter Tryz.func38, Tryz.ntmps38
  go_upto_region 1 with fail
  have E1 := ex_start w
  generalize w.alloc _ = w1 at *
  have r0 := cell_block E1.b 0 _ rfl
  have f0 := frozen_block E1.b 0
  have r1 := cell_block E1.b 1 _ rfl
  have f1 := frozen_block E1.b 1
  have r2 := cell_block E1.b 2 _ rfl
  have f2 := frozen_block E1.b 2
  have r3 := cell_block E1.b 3 _ rfl
  have f3 := frozen_block E1.b 3
  have r4 := cell_block E1.b 4 _ rfl
  have f4 := frozen_block E1.b 4
  have r5 := cell_block E1.b 5 _ rfl
  have f5 := frozen_block E1.b 5
  go_wp2_with (first
    | (go_at_call 68; refine (unhide kE _).mono ?_; rintro e w2 ⟨rfl, hb2⟩; have E2 := E1.step hb2; clear r0 f0 r1 f1 r2 f2 r3 f3 r4 f4 r5 f5; have r0 := cell_block E2.b 0 _ rfl; have f0 := frozen_block E2.b 0; have r1 := cell_block E2.b 1 _ rfl; have f1 := frozen_block E2.b 1; have r2 := cell_block E2.b 2 _ rfl; have f2 := frozen_block E2.b 2; have r3 := cell_block E2.b 3 _ rfl; have f3 := frozen_block E2.b 3; have r4 := cell_block E2.b 4 _ rfl; have f4 := frozen_block E2.b 4; have r5 := cell_block E2.b 5 _ rfl; have f5 := frozen_block E2.b 5)
    | (go_at_call_has 67 (#[Value.string s, Value.int .i64 38, Value.int .i64 2]); refine (unhide k38 _).mono ?_; rintro e wn ⟨rfl, hn⟩; have hn := hn.symm; subst hn)
    | (go_at_call 62; refine (rf_names _).mono ?_; rintro e w4 ⟨rfl, hw4⟩; have F4 := fx_start E2 (n38 : Int); rw [← hw4] at F4; clear hw4))
  have hg4 : w.heap.size < w2.heap.size := F4.lo
  clear E2 hb2 r0 f0 r1 f1 r2 f2 r3 f3 r4 f4 r5 f5
  generalize w2.heap.size = gx at *
  have E4 := F4.ex
  have r0 := cell_block E4.b 0 _ rfl
  have f0 := frozen_block E4.b 0
  have r1 := cell_block E4.b 1 _ rfl
  have f1 := frozen_block E4.b 1
  have r2 := cell_block E4.b 2 _ rfl
  have f2 := frozen_block E4.b 2
  have r3 := cell_block E4.b 3 _ rfl
  have f3 := frozen_block E4.b 3
  have r4 := cell_block E4.b 4 _ rfl
  have f4 := frozen_block E4.b 4
  have r5 := cell_block E4.b 5 _ rfl
  have f5 := frozen_block E4.b 5
  have n0 := cell_block F4.nb 0 _ rfl
  have n1 := cell_block F4.nb 1 _ rfl
  have n2 := cell_block F4.nb 2 _ rfl
  have x0 := cell_block F4.bx 0 _ rfl
  have xf0 := frozen_block F4.bx 0
  have x1 := cell_block F4.bx 1 _ rfl
  have xf1 := frozen_block F4.bx 1
  have x2 := cell_block F4.bx 2 _ rfl
  have xf2 := frozen_block F4.bx 2
  have x3 := cell_block F4.bx 3 _ rfl
  have xf3 := frozen_block F4.bx 3
  have x4 := cell_block F4.bx 4 _ rfl
  have xf4 := frozen_block F4.bx 4
  have x5 := cell_block F4.bx 5 _ rfl
  have xf5 := frozen_block F4.bx 5
  have y0 : ¬ gx = w.heap.size := by omega
  have y1 : ¬ w.heap.size = gx := by omega
  have y2 : ¬ gx + 1 = gx := by omega
  have y3 : ¬ gx = gx + 1 := by omega
  have y4 : ¬ gx + 1 = w.heap.size := by omega
  have y5 : ¬ w.heap.size = gx + 1 := by omega
  refine wp_loop_rounds 4 ?_
  rw [rounds_succ]
  go_wp2_with fail
  rw [rounds_succ]
  go_wp2_with fail
  rw [rounds_succ]
  go_wp2_with fail
  rw [rounds_succ]
  go_wp2_with fail
  refine rcd_done w _ (F4.setk 1).ex (⟨0, 64, 1, n38, [], 0, 0, 0⟩) none 0 _ ?_ ?_ (row_nil _ _) (fun _ h => by cases h) (fun _ h => by cases h) <;> rfl
end Go.Proofs.YtokcpammdhkecaaGreatDoor
