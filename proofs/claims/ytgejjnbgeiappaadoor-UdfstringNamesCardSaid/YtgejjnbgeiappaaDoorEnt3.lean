/-
  The reference's printable and Entity: what they give at each string.
-/
import Derived.Test.YtgejjnbgeiappaaDoorEnt2
namespace Go.Proofs.YtgejjnbgeiappaaDoor
open Go.RowKit Go.Proofs.YtgejjnbgeiappaaDoorW.PrintWords

set_option maxHeartbeats 1600000 in
set_option maxRecDepth 100000 in
theorem ref_printable (s : ByteArray) (w : World) (hs : s.size ≤ 1000) :
    Calls Tryd.prog 49 #[.string s] w fun e w' => e = .returned (.bool (prL s.data.toList)) ∧ w' = w := by
  go_enter Tryd.func49, Tryd.ntmps49
  go_wp2
  go_loopw [3] (fun x wr => ∃ j : Nat, j ≤ s.size ∧ x = .int .i64 (j : Int) ∧ wr = w ∧ Hid (prL (s.data.toList.take j) = true)) (fun x _ => s.size - (intOf x).toNat)
  case atStart => exact ⟨0, Nat.zero_le _, rfl, rfl, Lib.hid rfl⟩
  case round =>
    obtain ⟨j, hj, rfl, rfl, hp⟩ := hrel
    by_cases hjn : j < s.size
    · have hjl : j < s.data.toList.length := by rw [← Lib.size_eq]; exact hjn
      have htk : prL (s.data.toList.take (j + 1)) = prB s.data.toList[j] := by
        rw [← List.take_append_getElem hjl]
        have := hp.out
        unfold prL at this ⊢
        rw [List.all_append, this]
        simp
      have v : ((s[j]'hjn).toNat : Int) = (s.data.toList[j].toNat : Int) := rfl
      generalize hb : s.data.toList[j] = b at v htk
      by_cases h1 : 32 ≤ b.toNat
      · by_cases h2 : b.toNat ≤ 126
        · have hpb : prB b = true := by unfold prB; rw [decide_eq_true_eq]; exact ⟨h1, h2⟩
          rw [hpb] at htk
          have Ht := Lib.hid htk
          have g1 : ¬ (b.toNat : Int) < 32 := by omega
          have g2 : ¬ (126 : Int) < (b.toNat : Int) := by omega
          clear htk hb hpb hjl hp h1 h2
          go_wp2
          go_roundw
          case rel => exact ⟨j + 1, by omega, by first | rfl | (congr 1; done) | (congr 1; omega), by first | rfl | trivial, Ht⟩
          case measure => simp [intOf]; omega
        · have hpb : prB b = false := by unfold prB; rw [decide_eq_false_iff_not]; intro h; exact h2 h.2
          have hall : prL s.data.toList = false := by
            cases e : prL s.data.toList
            · rfl
            · exfalso
              have := List.all_eq_true.1 e s.data.toList[j] (List.getElem_mem hjl)
              rw [hb, hpb] at this
              cases this
          have Ht := Lib.hid hall
          have g1 : ¬ (b.toNat : Int) < 32 := by omega
          have g2 : (126 : Int) < (b.toNat : Int) := by omega
          clear htk hb hpb hjl hp h1 h2 hall
          go_wp2
          go_ret
          exact ⟨ret_bool Ht.out.symm, by first | rfl | trivial⟩
      · have hpb : prB b = false := by unfold prB; rw [decide_eq_false_iff_not]; intro h; exact h1 h.1
        have hall : prL s.data.toList = false := by
          cases e : prL s.data.toList
          · rfl
          · exfalso
            have := List.all_eq_true.1 e s.data.toList[j] (List.getElem_mem hjl)
            rw [hb, hpb] at this
            cases this
        have Ht := Lib.hid hall
        have g1 : (b.toNat : Int) < 32 := by omega
        clear htk hb hpb hjl hp h1 hall
        go_wp2
        go_ret
        exact ⟨ret_bool Ht.out.symm, by first | rfl | trivial⟩
    · have hge : s.size ≤ j := by omega
      have Hl := Lib.hid (show prL s.data.toList = true by
        have := hp.out
        rwa [List.take_of_length_le (by rw [← Lib.size_eq]; exact hge)] at this)
      clear hp
      go_wp2
      go_ret
      exact ⟨ret_bool Hl.out.symm, by first | rfl | trivial⟩

set_option maxHeartbeats 1600000 in
set_option maxRecDepth 100000 in
theorem ref_Entity (i s : ByteArray) (w : World) (hi : i.size ≤ 60) (hs : s.size ≤ 60) :
    Calls Tryd.prog 25 #[.string i, .string s] w fun e w' => e = .returned (.tuple #[.string (entS i s), .int .i64 (entE i s)]) ∧ Below w.heap.size w w' := by
  have kP := ref_printable i w (by omega)
  cases hp : prS i with
  | false =>
    have ho : entO i s = false := by unfold entO; rw [hp]; rfl
    have r1 : entS i s = ⟨#[]⟩ := by unfold entS; rw [ho]; rfl
    have r2 : entE i s = 1 := by unfold entE; rw [ho]; rfl
    rw [r1, r2]
    by_cases h1 : 1 ≤ i.size
    · by_cases h2 : i.size ≤ 23
      · have hl : prL i.data.toList = false := by
          unfold prS at hp
          rw [decide_eq_true h1, decide_eq_true h2] at hp
          exact hp
        rw [hl] at kP
        have KP := hide kP
        clear r1 r2 ho hp kP hl
        go_enter Tryd.func25, Tryd.ntmps25
        go_wp2_with (go_at_call 49; refine (unhide KP).mono ?_; rintro e w1 ⟨rfl, rfl⟩)
        go_ret2
        exact ⟨rfl, Below.refl _ _⟩
      · have h2' : 23 < i.size := by omega
        clear r1 r2 ho hp kP
        go_enter Tryd.func25, Tryd.ntmps25
        go_wp2
        go_ret2
        exact ⟨rfl, Below.refl _ _⟩
    · have h1' : i.size < 1 := by omega
      clear r1 r2 ho hp kP
      go_enter Tryd.func25, Tryd.ntmps25
      go_wp2
      go_ret2
      exact ⟨rfl, Below.refl _ _⟩
  | true =>
    obtain ⟨hi1, hi2, hpl⟩ := prS_size hp
    rw [hpl] at kP
    have KP := hide kP
    clear kP hpl
    by_cases h8 : s.size ≤ 8
    · have ho : entO i s = true := by unfold entO; rw [hp, decide_eq_true h8]; rfl
      obtain ⟨Z1, hZ1⟩ : ∃ Z, Z = zS (23 - i.size) := ⟨_, rfl⟩
      obtain ⟨Z2, hZ2⟩ : ∃ Z, Z = zS (8 - s.size) := ⟨_, rfl⟩
      have r1 : entS i s = ⟨#[0]⟩ ++ i ++ Z1 ++ s ++ Z2 := by unfold entS; rw [ho, hZ1, hZ2]; rfl
      have r2 : entE i s = 0 := by unfold entE; rw [ho]; rfl
      rw [r1, r2]
      have z1 : Z1.size ≤ 23 := by rw [hZ1, zS_size]; omega
      have z2 : Z2.size ≤ 8 := by rw [hZ2, zS_size]; omega
      have kZ1 := fun w => ref_zeros (23 - (i.size : Int)) (by omega) (by omega) w
      have kZ2 := fun w => ref_zeros (8 - (s.size : Int)) (by omega) (by omega) w
      rw [show (23 - (i.size : Int)).toNat = 23 - i.size by omega, ← hZ1] at kZ1
      rw [show (8 - (s.size : Int)).toNat = 8 - s.size by omega, ← hZ2] at kZ2
      have KZ1 := hide kZ1
      have KZ2 := hide kZ2
      clear kZ1 kZ2 r1 r2 ho hp hZ1 hZ2
      have hz0 : (⟨#[0]⟩ : ByteArray).size = 1 := rfl
      go_enter Tryd.func25, Tryd.ntmps25
      go_wp2_with fail
      refine (unhide KP).mono ?_
      rintro e w1 ⟨rfl, rfl⟩
      have hw1 : IntKind.i64.wrap (23 - (i.size : Int)) = 23 - (i.size : Int) := IntWalk.i64_in _ (by omega)
      have hw2 : IntKind.i64.wrap (8 - (s.size : Int)) = 8 - (s.size : Int) := IntWalk.i64_in _ (by omega)
      go_wp2_with fail
      refine (unhide KZ1 _).mono ?_
      rintro e w2 ⟨rfl, hb2⟩
      go_wp2_with fail
      refine (unhide KZ2 _).mono ?_
      rintro e w3 ⟨rfl, hb3⟩
      go_wp2_with fail
      go_ret2
      exact ⟨rfl, hb2.trans (hb3.mono hb2.size)⟩
    · have ho : entO i s = false := by unfold entO; rw [hp, decide_eq_false h8]; rfl
      have r1 : entS i s = ⟨#[]⟩ := by unfold entS; rw [ho]; rfl
      have r2 : entE i s = 1 := by unfold entE; rw [ho]; rfl
      rw [r1, r2]
      have h8' : 8 < s.size := by omega
      clear r1 r2 ho hp
      go_enter Tryd.func25, Tryd.ntmps25
      go_wp2_with fail
      refine (unhide KP).mono ?_
      rintro e w1 ⟨rfl, rfl⟩
      go_wp2_with fail
      go_ret2
      exact ⟨rfl, Below.refl _ _⟩
end Go.Proofs.YtgejjnbgeiappaaDoor
