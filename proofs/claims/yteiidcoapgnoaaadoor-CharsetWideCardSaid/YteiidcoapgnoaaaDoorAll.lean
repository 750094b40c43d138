/-
  charset.all at one and at two predicates.
-/
import Derived.Test.YteiidcoapgnoaaaDoorDch
namespace Go.Proofs.YteiidcoapgnoaaaDoor
open Go.RowKit

def allB (p : UInt8 → Bool) (s : ByteArray) : Bool := decide (s.size ≤ 65536) && s.data.toList.all p

set_option maxHeartbeats 1600000 in
set_option maxRecDepth 100000 in
theorem all_one (s : ByteArray) (g cap : Nat) (w : World) (hc0 : w.cell? ⟨g, 0, none⟩ = some (.func (.func 48) #[] #[])) :
    Calls Tryd.prog 47 #[.string s, .slice (some ⟨g, 0, none⟩) 1 cap] w fun e w' => e = .returned (.bool (allB dB s)) ∧ w' = w := by
  by_cases h1 : s.size ≤ 65536
  · have r1 : allB dB s = s.data.toList.all dB := by unfold allB; rw [decide_eq_true h1, Bool.true_and]
    rw [r1]
    clear r1
    go_enter Tryd.func47, Tryd.ntmps47
    go_wp2
    go_loopw [14] (fun x wr => ∃ j : Nat, j ≤ s.size ∧ x = .int .i64 (j : Int) ∧ wr = w ∧ Hid ((s.data.toList.take j).all dB = true)) (fun x _ => s.size - (intOf x).toNat)
    case atStart => exact ⟨0, Nat.zero_le _, rfl, rfl, Lib.hid rfl⟩
    case round =>
      obtain ⟨j, hj, rfl, rfl, hp⟩ := hrel
      by_cases hjn : j < s.size
      · have hjl : j < s.data.toList.length := by rw [← Lib.size_eq]; exact hjn
        have htk : (s.data.toList.take (j + 1)).all dB = dB s.data.toList[j] := by
          rw [← List.take_append_getElem hjl, List.all_append, hp.out]
          simp
        have v : ((s[j]'hjn).toNat : Int) = (s.data.toList[j].toNat : Int) := rfl
        have hno : dB s.data.toList[j] = false → s.data.toList.all dB = false := fun hb => by
          cases e : s.data.toList.all dB
          · rfl
          · have := List.all_eq_true.1 e s.data.toList[j] (List.getElem_mem hjl)
            exact Bool.noConfusion (Eq.trans (Eq.symm this) hb)
        generalize hb : s.data.toList[j] = b at v htk hno
        clear hb hjl
        have kd := fun w => udf_d b w
        cases hd : dB b with
        | true =>
          rw [hd] at htk kd
          have Ht := Lib.hid htk
          clear htk hno hp
          have kd := hide kd
          go_wp2
          refine wp_loop_rounds 2 ?_
          rw [rounds_succ]
          go_wp2_with (go_at_call 48; refine (unhide kd _).mono ?_; rintro e w1 ⟨rfl, rfl⟩)
          rw [rounds_succ]
          go_wp2_with (go_at_call 48; refine (unhide kd _).mono ?_; rintro e w1 ⟨rfl, rfl⟩)
          go_roundw
          case rel => exact ⟨j + 1, by omega, by first | rfl | (congr 1; done) | (congr 1; omega), by first | rfl | trivial, Ht⟩
          case measure => simp [intOf]; omega
        | false =>
          rw [hd] at hno kd
          have Ht := Lib.hid (hno rfl)
          clear htk hno hp
          have kd := hide kd
          go_wp2
          refine wp_loop_rounds 2 ?_
          rw [rounds_succ]
          go_wp2_with (go_at_call 48; refine (unhide kd _).mono ?_; rintro e w1 ⟨rfl, rfl⟩)
          rw [rounds_succ]
          go_wp2_with (go_at_call 48; refine (unhide kd _).mono ?_; rintro e w1 ⟨rfl, rfl⟩)
          go_ret
          exact ⟨ret_bool Ht.out.symm, by first | rfl | trivial⟩
      · have hge : s.size ≤ j := by omega
        have Hl := Lib.hid (show s.data.toList.all dB = true by
          have := hp.out
          rwa [List.take_of_length_le (by rw [← Lib.size_eq]; exact hge)] at this)
        clear hp
        go_wp2
        go_ret
        exact ⟨ret_bool Hl.out.symm, by first | rfl | trivial⟩
  · have e1 : 65536 < s.size := by omega
    have r1 : allB dB s = false := by unfold allB; rw [decide_eq_false h1, Bool.false_and]
    rw [r1]
    clear r1 hc0
    go_enter Tryd.func47, Tryd.ntmps47
    go_wp2
    go_ret
    exact ⟨rfl, rfl⟩

set_option maxHeartbeats 1600000 in
set_option maxRecDepth 100000 in
theorem all_two (s : ByteArray) (g cap : Nat) (w : World) (hc0 : w.cell? ⟨g, 0, none⟩ = some (.func (.func 48) #[] #[])) (hc1 : w.cell? ⟨g, 1, none⟩ = some (.func (.func 50) #[] #[])) :
    Calls Tryd.prog 47 #[.string s, .slice (some ⟨g, 0, none⟩) 2 cap] w fun e w' => e = .returned (.bool (allB (fun b => dB b || aB b) s)) ∧ w' = w := by
  by_cases h1 : s.size ≤ 65536
  · have r1 : allB (fun b => dB b || aB b) s = s.data.toList.all (fun b => dB b || aB b) := by unfold allB; rw [decide_eq_true h1, Bool.true_and]
    rw [r1]
    clear r1
    go_enter Tryd.func47, Tryd.ntmps47
    go_wp2
    go_loopw [14] (fun x wr => ∃ j : Nat, j ≤ s.size ∧ x = .int .i64 (j : Int) ∧ wr = w ∧ Hid ((s.data.toList.take j).all (fun b => dB b || aB b) = true)) (fun x _ => s.size - (intOf x).toNat)
    case atStart => exact ⟨0, Nat.zero_le _, rfl, rfl, Lib.hid rfl⟩
    case round =>
      obtain ⟨j, hj, rfl, rfl, hp⟩ := hrel
      by_cases hjn : j < s.size
      · have hjl : j < s.data.toList.length := by rw [← Lib.size_eq]; exact hjn
        have htk : (s.data.toList.take (j + 1)).all (fun b => dB b || aB b) = (fun b => dB b || aB b) s.data.toList[j] := by
          rw [← List.take_append_getElem hjl, List.all_append, hp.out]
          simp
        have v : ((s[j]'hjn).toNat : Int) = (s.data.toList[j].toNat : Int) := rfl
        have hno : (fun b => dB b || aB b) s.data.toList[j] = false → s.data.toList.all (fun b => dB b || aB b) = false := fun hb => by
          cases e : s.data.toList.all (fun b => dB b || aB b)
          · rfl
          · have := List.all_eq_true.1 e s.data.toList[j] (List.getElem_mem hjl)
            exact Bool.noConfusion (Eq.trans (Eq.symm this) hb)
        generalize hb : s.data.toList[j] = b at v htk hno
        clear hb hjl
        have kd := fun w => udf_d b w
        have ka := fun w => udf_a b w
        dsimp only at htk hno
        cases hd : dB b with
        | true =>
          rw [hd] at htk kd
          rw [Bool.true_or] at htk
          have Ht := Lib.hid htk
          clear htk hno hp
          have kd := hide kd
          have ka := hide ka
          go_wp2
          refine wp_loop_rounds 3 ?_
          rw [rounds_succ]
          go_wp2_with (first | (go_at_call 48; refine (unhide kd _).mono ?_; rintro e w1 ⟨rfl, rfl⟩) | (go_at_call 50; refine (unhide ka _).mono ?_; rintro e w1 ⟨rfl, rfl⟩))
          rw [rounds_succ]
          go_wp2_with (first | (go_at_call 48; refine (unhide kd _).mono ?_; rintro e w1 ⟨rfl, rfl⟩) | (go_at_call 50; refine (unhide ka _).mono ?_; rintro e w1 ⟨rfl, rfl⟩))
          rw [rounds_succ]
          go_wp2_with (first | (go_at_call 48; refine (unhide kd _).mono ?_; rintro e w1 ⟨rfl, rfl⟩) | (go_at_call 50; refine (unhide ka _).mono ?_; rintro e w1 ⟨rfl, rfl⟩))
          go_roundw
          case rel => exact ⟨j + 1, by omega, by first | rfl | (congr 1; done) | (congr 1; omega), by first | rfl | trivial, Ht⟩
          case measure => simp [intOf]; omega
        | false =>
          cases ha : aB b with
          | true =>
            rw [hd, ha] at htk
            rw [hd] at kd
            rw [ha] at ka
            rw [Bool.false_or] at htk
            have Ht := Lib.hid htk
            clear htk hno hp
            have kd := hide kd
            have ka := hide ka
            go_wp2
            refine wp_loop_rounds 3 ?_
            rw [rounds_succ]
            go_wp2_with (first | (go_at_call 48; refine (unhide kd _).mono ?_; rintro e w1 ⟨rfl, rfl⟩) | (go_at_call 50; refine (unhide ka _).mono ?_; rintro e w1 ⟨rfl, rfl⟩))
            rw [rounds_succ]
            go_wp2_with (first | (go_at_call 48; refine (unhide kd _).mono ?_; rintro e w1 ⟨rfl, rfl⟩) | (go_at_call 50; refine (unhide ka _).mono ?_; rintro e w1 ⟨rfl, rfl⟩))
            rw [rounds_succ]
            go_wp2_with (first | (go_at_call 48; refine (unhide kd _).mono ?_; rintro e w1 ⟨rfl, rfl⟩) | (go_at_call 50; refine (unhide ka _).mono ?_; rintro e w1 ⟨rfl, rfl⟩))
            go_roundw
            case rel => exact ⟨j + 1, by omega, by first | rfl | (congr 1; done) | (congr 1; omega), by first | rfl | trivial, Ht⟩
            case measure => simp [intOf]; omega
          | false =>
            rw [hd, ha] at hno
            rw [hd] at kd
            rw [ha] at ka
            have Ht := Lib.hid (hno rfl)
            clear htk hno hp
            have kd := hide kd
            have ka := hide ka
            go_wp2
            refine wp_loop_rounds 3 ?_
            rw [rounds_succ]
            go_wp2_with (first | (go_at_call 48; refine (unhide kd _).mono ?_; rintro e w1 ⟨rfl, rfl⟩) | (go_at_call 50; refine (unhide ka _).mono ?_; rintro e w1 ⟨rfl, rfl⟩))
            rw [rounds_succ]
            go_wp2_with (first | (go_at_call 48; refine (unhide kd _).mono ?_; rintro e w1 ⟨rfl, rfl⟩) | (go_at_call 50; refine (unhide ka _).mono ?_; rintro e w1 ⟨rfl, rfl⟩))
            rw [rounds_succ]
            go_wp2_with (first | (go_at_call 48; refine (unhide kd _).mono ?_; rintro e w1 ⟨rfl, rfl⟩) | (go_at_call 50; refine (unhide ka _).mono ?_; rintro e w1 ⟨rfl, rfl⟩))
            go_ret
            exact ⟨ret_bool Ht.out.symm, by first | rfl | trivial⟩
      · have hge : s.size ≤ j := by omega
        have Hl := Lib.hid (show s.data.toList.all (fun b => dB b || aB b) = true by
          have := hp.out
          rwa [List.take_of_length_le (by rw [← Lib.size_eq]; exact hge)] at this)
        clear hp
        go_wp2
        go_ret
        exact ⟨ret_bool Hl.out.symm, by first | rfl | trivial⟩
  · have e1 : 65536 < s.size := by omega
    have r1 : allB (fun b => dB b || aB b) s = false := by unfold allB; rw [decide_eq_false h1, Bool.false_and]
    rw [r1]
    clear r1 hc0 hc1
    go_enter Tryd.func47, Tryd.ntmps47
    go_wp2
    go_ret
    exact ⟨rfl, rfl⟩

end Go.Proofs.YteiidcoapgnoaaaDoor
