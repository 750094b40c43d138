/-
  udfstring.Entity: what it gives at each pair of strings.
-/
import Derived.Test.YtgejjnbgeiappaaDoorEnt1
namespace Go.Proofs.YtgejjnbgeiappaaDoor
open Go.RowKit Go.Proofs.YtgejjnbgeiappaaDoorW.PrintWords

def entO (i s : ByteArray) : Bool := prS i && decide (s.size ≤ 8)
def entS (i s : ByteArray) : ByteArray := if entO i s = true then ⟨#[0]⟩ ++ i ++ zS (23 - i.size) ++ s ++ zS (8 - s.size) else ⟨#[]⟩
def entE (i s : ByteArray) : Int := if entO i s = true then 0 else 1

theorem prS_size {i : ByteArray} (h : prS i = true) : 1 ≤ i.size ∧ i.size ≤ 23 ∧ prL i.data.toList = true := by
  unfold prS at h
  simp only [Bool.and_eq_true, decide_eq_true_eq] at h
  exact ⟨h.1, h.2.1, h.2.2⟩

theorem ent_zeros (n : Int) (h0 : 0 ≤ n) (h : n ≤ 1000) (w : World) : Calls Tryd.prog 48 #[.int .i64 n] w fun e w' => e = .returned (.string (zS n.toNat)) ∧ Below w.heap.size w w' := by
  have kZ := hide (zeros_any n h0 h w)
  go_enter Tryd.func48, Tryd.ntmps48
  go_wp2_with fail
  refine (unhide kZ).mono ?_
  rintro e w1 ⟨rfl, hb1⟩
  go_wp2_with fail
  go_ret
  exact ⟨rfl, hb1⟩

set_option maxHeartbeats 1600000 in
set_option maxRecDepth 100000 in
theorem udf_Entity (i s : ByteArray) (w : World) (hi : i.size ≤ 60) (hs : s.size ≤ 60) :
    Calls Tryd.prog 24 #[.string i, .string s] w fun e w' => e = .returned (.tuple #[.string (entS i s), .int .i64 (entE i s)]) ∧ Below w.heap.size w w' := by
  have kP := udf_printable i w (by omega)
  cases hp : prS i with
  | false =>
    have ho : entO i s = false := by unfold entO; rw [hp]; rfl
    have r1 : entS i s = ⟨#[]⟩ := by unfold entS; rw [ho]; rfl
    have r2 : entE i s = 1 := by unfold entE; rw [ho]; rfl
    rw [r1, r2]
    rw [hp] at kP
    have KP := hide kP
    clear r1 r2 ho hp kP
    go_enter Tryd.func24, Tryd.ntmps24
    go_wp2_with fail
    refine (unhide KP).mono ?_
    rintro e w1 ⟨rfl, hb1⟩
    go_wp2_with fail
    go_ret2
    exact ⟨rfl, hb1⟩
  | true =>
    rw [hp] at kP
    have KP := hide kP
    clear kP
    by_cases h8 : s.size ≤ 8
    · have ho : entO i s = true := by unfold entO; rw [hp, decide_eq_true h8]; rfl
      obtain ⟨hi1, hi2, _⟩ := prS_size hp
      obtain ⟨Z1, hZ1⟩ : ∃ Z, Z = zS (23 - i.size) := ⟨_, rfl⟩
      obtain ⟨Z2, hZ2⟩ : ∃ Z, Z = zS (8 - s.size) := ⟨_, rfl⟩
      have r1 : entS i s = ⟨#[0]⟩ ++ i ++ Z1 ++ s ++ Z2 := by unfold entS; rw [ho, hZ1, hZ2]; rfl
      have r2 : entE i s = 0 := by unfold entE; rw [ho]; rfl
      rw [r1, r2]
      have z1 : Z1.size ≤ 23 := by rw [hZ1, zS_size]; omega
      have z2 : Z2.size ≤ 8 := by rw [hZ2, zS_size]; omega
      have kZ1 := fun w => ent_zeros (23 - (i.size : Int)) (by omega) (by omega) w
      have kZ2 := fun w => ent_zeros (8 - (s.size : Int)) (by omega) (by omega) w
      rw [show (23 - (i.size : Int)).toNat = 23 - i.size by omega, ← hZ1] at kZ1
      rw [show (8 - (s.size : Int)).toNat = 8 - s.size by omega, ← hZ2] at kZ2
      have KZ1 := hide kZ1
      have KZ2 := hide kZ2
      clear kZ1 kZ2 r1 r2 ho hp hZ1 hZ2
      have hz0 : (⟨#[0]⟩ : ByteArray).size = 1 := rfl
      go_enter Tryd.func24, Tryd.ntmps24
      go_wp2_with fail
      refine (unhide KP).mono ?_
      rintro e w1 ⟨rfl, hb1⟩
      have hw1 : IntKind.i64.wrap (23 - (i.size : Int)) = 23 - (i.size : Int) := IntWalk.i64_in _ (by omega)
      have hw2 : IntKind.i64.wrap (8 - (s.size : Int)) = 8 - (s.size : Int) := IntWalk.i64_in _ (by omega)
      go_wp2_with fail
      refine (unhide KZ1 _).mono ?_
      rintro e w2 ⟨rfl, hb2⟩
      go_wp2_with fail
      refine (unhide KZ2 _).mono ?_
      rintro e w3 ⟨rfl, hb3⟩
      go_wp2_with fail
      go_ret2
      exact ⟨rfl, hb1.trans ((hb2.trans (hb3.mono hb2.size)).mono hb1.size)⟩
    · have ho : entO i s = false := by unfold entO; rw [hp, decide_eq_false h8]; rfl
      have r1 : entS i s = ⟨#[]⟩ := by unfold entS; rw [ho]; rfl
      have r2 : entE i s = 1 := by unfold entE; rw [ho]; rfl
      rw [r1, r2]
      have h8' : 8 < s.size := by omega
      clear r1 r2 ho hp
      go_enter Tryd.func24, Tryd.ntmps24
      go_wp2_with fail
      refine (unhide KP).mono ?_
      rintro e w1 ⟨rfl, hb1⟩
      go_wp2_with fail
      go_ret2
      exact ⟨rfl, hb1⟩
end Go.Proofs.YtgejjnbgeiappaaDoor
