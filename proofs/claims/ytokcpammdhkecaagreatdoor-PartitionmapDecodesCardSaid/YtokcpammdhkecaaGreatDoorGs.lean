/-
  The reference's decode: 64 bytes: a metadata map, wrong packets.
-/
import Derived.Test.YtokcpammdhkecaaGreatDoorGr
namespace Go.Proofs.YtokcpammdhkecaaGreatDoor
open Go.RowKit

set_option maxHeartbeats 3200000 in
set_option maxRecDepth 100000 in
theorem rcd_meta (s : ByteArray) (w : World) (hl : s.size ≤ 1000) (h0 : 1 ≤ s.size) (kP : ∀ (f : ByteArray) (w' : World), Calls Tryz.prog 68 #[.string f] w' fun e w'' => e = .returned (.tuple #[.string (peI f), .string (peX f), .int .i64 (peE f)]) ∧ Below w'.heap.size w' w'') (hk : by0 s 0 = 2) (hz : s.size = 64) (he : peE (s.extract 4 36) = 0) (m1 : (idV.toList == (peI (s.extract 4 36)).toList) = false) (m2 : (idS.toList == (peI (s.extract 4 36)).toList) = false) (m3 : (idM.toList == (peI (s.extract 4 36)).toList) = true) : Calls Tryz.prog 38 #[.string s] w fun e w' => ((⟨0, 64, 3, rdN s 38 2, [], rdN s 40 4, rdN s 44 4, rdN s 48 4⟩ : DR)).Rs w w' e := by
  have kE : Hid (∀ w', Calls Tryz.prog 68 #[.string (s.extract 4 36)] w' fun e w'' => e = .returned (.tuple #[.string (peI (s.extract 4 36)), .string (peX (s.extract 4 36)), .int .i64 (peE (s.extract 4 36))]) ∧ Below w'.heap.size w' w'') := fun w' => kP _ w'
  clear kP
  have k38 : Hid (∀ w', Calls Tryz.prog 67 #[.string s, .int .i64 38, .int .i64 2] w' fun e w'' => e = .returned (.int .i64 (rdN s 38 2 : Int)) ∧ w'' = w') := fun w' => rf_Number s 38 2 hl (by omega) (by decide) w'
  have k40 : Hid (∀ w', Calls Tryz.prog 67 #[.string s, .int .i64 40, .int .i64 4] w' fun e w'' => e = .returned (.int .i64 (rdN s 40 4 : Int)) ∧ w'' = w') := fun w' => rf_Number s 40 4 hl (by omega) (by decide) w'
  have k44 : Hid (∀ w', Calls Tryz.prog 67 #[.string s, .int .i64 44, .int .i64 4] w' fun e w'' => e = .returned (.int .i64 (rdN s 44 4 : Int)) ∧ w'' = w') := fun w' => rf_Number s 44 4 hl (by omega) (by decide) w'
  have k48 : Hid (∀ w', Calls Tryz.prog 67 #[.string s, .int .i64 48, .int .i64 4] w' fun e w'' => e = .returned (.int .i64 (rdN s 48 4 : Int)) ∧ w'' = w') := fun w' => rf_Number s 48 4 hl (by omega) (by decide) w'
  generalize rdN s 40 4 = n40 at *
  generalize rdN s 44 4 = n44 at *
  generalize rdN s 48 4 = n48 at *
  rw [he] at kE
  clear he
  generalize peI (s.extract 4 36) = nm at *
  generalize peX (s.extract 4 36) = sx at *
  have M1 : (nm.toList == idV.toList) = false := (beqL_comm _ _).trans m1
  clear m1
  have M2 : (nm.toList == idS.toList) = false := (beqL_comm _ _).trans m2
  clear m2
  have M3 : (nm.toList == idM.toList) = true := (beqL_comm _ _).trans m3
  clear m3
  have q0 := by0_at s 0
  have hb0 := by0_lt s 0
  generalize by0 s 0 = b0 at *
  have g3 : (0 : Int) < (s.size : Int) := by omega
  subst hk
  have g36 : (36 : Int) ≤ (s.size : Int) := by omega
  have g42 : (42 : Int) < (s.size : Int) := by omega
  have g4 : (s.size : Int) = 64 := by omega
  have G4 : ((s.size : Int) != 64) = false := by rw [g4]; rfl
  clear hz g4
  generalize rdN s 38 2 = n38 at *
  go_enter Tryz.func38, Tryz.ntmps38
  go_upto_region 1 with fail
  have E1 := ex_start w
  generalize w.alloc _ = w1 at *
  have r0 := cell_block E1.b 0 _ rfl
  have f0 := frozen_block E1.b 0
  have r1 := cell_block E1.b 1 _ rfl
  have f1 := frozen_block E1.b 1
  have r2 := cell_block E1.b 2 _ rfl
  have f2 := frozen_block E1.b 2
  have r3 := cell_block E1.b 3 _ rfl
  have f3 := frozen_block E1.b 3
  have r4 := cell_block E1.b 4 _ rfl
  have f4 := frozen_block E1.b 4
  have r5 := cell_block E1.b 5 _ rfl
  have f5 := frozen_block E1.b 5
  go_wp2_with (first
    | (go_at_call 68; refine (unhide kE _).mono ?_; rintro e w2 ⟨rfl, hb2⟩; have E2 := E1.step hb2; clear r0 f0 r1 f1 r2 f2 r3 f3 r4 f4 r5 f5; have r0 := cell_block E2.b 0 _ rfl; have f0 := frozen_block E2.b 0; have r1 := cell_block E2.b 1 _ rfl; have f1 := frozen_block E2.b 1; have r2 := cell_block E2.b 2 _ rfl; have f2 := frozen_block E2.b 2; have r3 := cell_block E2.b 3 _ rfl; have f3 := frozen_block E2.b 3; have r4 := cell_block E2.b 4 _ rfl; have f4 := frozen_block E2.b 4; have r5 := cell_block E2.b 5 _ rfl; have f5 := frozen_block E2.b 5)
    | (go_at_call_has 67 (#[Value.string s, Value.int .i64 38, Value.int .i64 2]); refine (unhide k38 _).mono ?_; rintro e wn ⟨rfl, hn⟩; have hn := hn.symm; subst hn)
    | (go_at_call 62; refine (rf_names _).mono ?_; rintro e w4 ⟨rfl, hw4⟩; have F4 := fx_start E2 (n38 : Int); rw [← hw4] at F4; clear hw4))
  have hg4 : w.heap.size < w2.heap.size := F4.lo
  clear E2 hb2 r0 f0 r1 f1 r2 f2 r3 f3 r4 f4 r5 f5
  generalize w2.heap.size = gx at *
  have E4 := F4.ex
  have r0 := cell_block E4.b 0 _ rfl
  have f0 := frozen_block E4.b 0
  have r1 := cell_block E4.b 1 _ rfl
  have f1 := frozen_block E4.b 1
  have r2 := cell_block E4.b 2 _ rfl
  have f2 := frozen_block E4.b 2
  have r3 := cell_block E4.b 3 _ rfl
  have f3 := frozen_block E4.b 3
  have r4 := cell_block E4.b 4 _ rfl
  have f4 := frozen_block E4.b 4
  have r5 := cell_block E4.b 5 _ rfl
  have f5 := frozen_block E4.b 5
  have n0 := cell_block F4.nb 0 _ rfl
  have n1 := cell_block F4.nb 1 _ rfl
  have n2 := cell_block F4.nb 2 _ rfl
  have x0 := cell_block F4.bx 0 _ rfl
  have xf0 := frozen_block F4.bx 0
  have x1 := cell_block F4.bx 1 _ rfl
  have xf1 := frozen_block F4.bx 1
  have x2 := cell_block F4.bx 2 _ rfl
  have xf2 := frozen_block F4.bx 2
  have x3 := cell_block F4.bx 3 _ rfl
  have xf3 := frozen_block F4.bx 3
  have x4 := cell_block F4.bx 4 _ rfl
  have xf4 := frozen_block F4.bx 4
  have x5 := cell_block F4.bx 5 _ rfl
  have xf5 := frozen_block F4.bx 5
  have y0 : ¬ gx = w.heap.size := by omega
  have y1 : ¬ w.heap.size = gx := by omega
  have y2 : ¬ gx + 1 = gx := by omega
  have y3 : ¬ gx = gx + 1 := by omega
  have y4 : ¬ gx + 1 = w.heap.size := by omega
  have y5 : ¬ w.heap.size = gx + 1 := by omega
  refine wp_loop_rounds 4 ?_
  rw [rounds_succ]
  go_wp2_with fail
  rw [rounds_succ]
  go_wp2_with fail
  rw [rounds_succ]
  go_wp2_with fail
  rw [rounds_succ]
  go_wp2_with (first
    | (go_at_call_has 67 (#[Value.string s, Value.int .i64 40, Value.int .i64 4]); refine (unhide k40 _).mono ?_; rintro e wn ⟨rfl, hn⟩; have hn := hn.symm; subst hn)
    | (go_at_call_has 67 (#[Value.string s, Value.int .i64 44, Value.int .i64 4]); refine (unhide k44 _).mono ?_; rintro e wn ⟨rfl, hn⟩; have hn := hn.symm; subst hn)
    | (go_at_call_has 67 (#[Value.string s, Value.int .i64 48, Value.int .i64 4]); refine (unhide k48 _).mono ?_; rintro e wn ⟨rfl, hn⟩; have hn := hn.symm; subst hn))
  refine rcd_done w _ ((((F4.setk 3).ex.grown (grown_set _ gx 3 _) hg4).grown (grown_set _ gx 4 _) hg4).grown (grown_set _ gx 5 _) hg4) (⟨0, 64, 3, n38, [], n40, n44, n48⟩) none 0 _ ?_ ?_ (row_nil _ _) (fun _ h => by cases h) (fun _ h => by cases h) <;> rfl
set_option maxHeartbeats 3200000 in
set_option maxRecDepth 100000 in
theorem rcd_packet (s : ByteArray) (w : World) (hl : s.size ≤ 1000) (h0 : 1 ≤ s.size) (kP : ∀ (f : ByteArray) (w' : World), Calls Tryz.prog 68 #[.string f] w' fun e w'' => e = .returned (.tuple #[.string (peI f), .string (peX f), .int .i64 (peE f)]) ∧ Below w'.heap.size w' w'') (hk : by0 s 0 = 2) (hz : s.size = 64) (he : peE (s.extract 4 36) = 0) (m1 : (idV.toList == (peI (s.extract 4 36)).toList) = false) (m2 : (idS.toList == (peI (s.extract 4 36)).toList) = true) (m3 : (idM.toList == (peI (s.extract 4 36)).toList) = false) (hp : rdN s 40 2 ≠ 8) : Calls Tryz.prog 38 #[.string s] w fun e w' => (dNo 14).Rs w w' e := by
  have kE : Hid (∀ w', Calls Tryz.prog 68 #[.string (s.extract 4 36)] w' fun e w'' => e = .returned (.tuple #[.string (peI (s.extract 4 36)), .string (peX (s.extract 4 36)), .int .i64 (peE (s.extract 4 36))]) ∧ Below w'.heap.size w' w'') := fun w' => kP _ w'
  clear kP
  have k38 : Hid (∀ w', Calls Tryz.prog 67 #[.string s, .int .i64 38, .int .i64 2] w' fun e w'' => e = .returned (.int .i64 (rdN s 38 2 : Int)) ∧ w'' = w') := fun w' => rf_Number s 38 2 hl (by omega) (by decide) w'
  have k40 : Hid (∀ w', Calls Tryz.prog 67 #[.string s, .int .i64 40, .int .i64 2] w' fun e w'' => e = .returned (.int .i64 (rdN s 40 2 : Int)) ∧ w'' = w') := fun w' => rf_Number s 40 2 hl (by omega) (by decide) w'
  have hp2 : ¬ (rdN s 40 2 : Int) = 8 := by omega
  clear hp
  generalize rdN s 40 2 = n40 at *
  rw [he] at kE
  clear he
  generalize peI (s.extract 4 36) = nm at *
  generalize peX (s.extract 4 36) = sx at *
  have M1 : (nm.toList == idV.toList) = false := (beqL_comm _ _).trans m1
  clear m1
  have M2 : (nm.toList == idS.toList) = true := (beqL_comm _ _).trans m2
  clear m2
  have M3 : (nm.toList == idM.toList) = false := (beqL_comm _ _).trans m3
  clear m3
  have q0 := by0_at s 0
  have hb0 := by0_lt s 0
  generalize by0 s 0 = b0 at *
  have g3 : (0 : Int) < (s.size : Int) := by omega
  subst hk
  have g36 : (36 : Int) ≤ (s.size : Int) := by omega
  have g42 : (42 : Int) < (s.size : Int) := by omega
  have g4 : (s.size : Int) = 64 := by omega
  have G4 : ((s.size : Int) != 64) = false := by rw [g4]; rfl
  clear hz g4
  generalize rdN s 38 2 = n38 at *
  go_enter Tryz.func38, Tryz.ntmps38
  go_upto_region 1 with fail
  have E1 := ex_start w
  generalize w.alloc _ = w1 at *
  have r0 := cell_block E1.b 0 _ rfl
  have f0 := frozen_block E1.b 0
  have r1 := cell_block E1.b 1 _ rfl
  have f1 := frozen_block E1.b 1
  have r2 := cell_block E1.b 2 _ rfl
  have f2 := frozen_block E1.b 2
  have r3 := cell_block E1.b 3 _ rfl
  have f3 := frozen_block E1.b 3
  have r4 := cell_block E1.b 4 _ rfl
  have f4 := frozen_block E1.b 4
  have r5 := cell_block E1.b 5 _ rfl
  have f5 := frozen_block E1.b 5
  go_wp2_with (first
    | (go_at_call 68; refine (unhide kE _).mono ?_; rintro e w2 ⟨rfl, hb2⟩; have E2 := E1.step hb2; clear r0 f0 r1 f1 r2 f2 r3 f3 r4 f4 r5 f5; have r0 := cell_block E2.b 0 _ rfl; have f0 := frozen_block E2.b 0; have r1 := cell_block E2.b 1 _ rfl; have f1 := frozen_block E2.b 1; have r2 := cell_block E2.b 2 _ rfl; have f2 := frozen_block E2.b 2; have r3 := cell_block E2.b 3 _ rfl; have f3 := frozen_block E2.b 3; have r4 := cell_block E2.b 4 _ rfl; have f4 := frozen_block E2.b 4; have r5 := cell_block E2.b 5 _ rfl; have f5 := frozen_block E2.b 5)
    | (go_at_call_has 67 (#[Value.string s, Value.int .i64 38, Value.int .i64 2]); refine (unhide k38 _).mono ?_; rintro e wn ⟨rfl, hn⟩; have hn := hn.symm; subst hn)
    | (go_at_call 62; refine (rf_names _).mono ?_; rintro e w4 ⟨rfl, hw4⟩; have F4 := fx_start E2 (n38 : Int); rw [← hw4] at F4; clear hw4))
  have hg4 : w.heap.size < w2.heap.size := F4.lo
  clear E2 hb2 r0 f0 r1 f1 r2 f2 r3 f3 r4 f4 r5 f5
  generalize w2.heap.size = gx at *
  have E4 := F4.ex
  have r0 := cell_block E4.b 0 _ rfl
  have f0 := frozen_block E4.b 0
  have r1 := cell_block E4.b 1 _ rfl
  have f1 := frozen_block E4.b 1
  have r2 := cell_block E4.b 2 _ rfl
  have f2 := frozen_block E4.b 2
  have r3 := cell_block E4.b 3 _ rfl
  have f3 := frozen_block E4.b 3
  have r4 := cell_block E4.b 4 _ rfl
  have f4 := frozen_block E4.b 4
  have r5 := cell_block E4.b 5 _ rfl
  have f5 := frozen_block E4.b 5
  have n0 := cell_block F4.nb 0 _ rfl
  have n1 := cell_block F4.nb 1 _ rfl
  have n2 := cell_block F4.nb 2 _ rfl
  have x0 := cell_block F4.bx 0 _ rfl
  have xf0 := frozen_block F4.bx 0
  have x1 := cell_block F4.bx 1 _ rfl
  have xf1 := frozen_block F4.bx 1
  have x2 := cell_block F4.bx 2 _ rfl
  have xf2 := frozen_block F4.bx 2
  have x3 := cell_block F4.bx 3 _ rfl
  have xf3 := frozen_block F4.bx 3
  have x4 := cell_block F4.bx 4 _ rfl
  have xf4 := frozen_block F4.bx 4
  have x5 := cell_block F4.bx 5 _ rfl
  have xf5 := frozen_block F4.bx 5
  have y0 : ¬ gx = w.heap.size := by omega
  have y1 : ¬ w.heap.size = gx := by omega
  have y2 : ¬ gx + 1 = gx := by omega
  have y3 : ¬ gx = gx + 1 := by omega
  have y4 : ¬ gx + 1 = w.heap.size := by omega
  have y5 : ¬ w.heap.size = gx + 1 := by omega
  refine wp_loop_rounds 4 ?_
  rw [rounds_succ]
  go_wp2_with fail
  rw [rounds_succ]
  go_wp2_with fail
  rw [rounds_succ]
  go_wp2_with fail
  rw [rounds_succ]
  go_wp2_with (first
    | (go_at_call_has 67 (#[Value.string s, Value.int .i64 40, Value.int .i64 2]); refine (unhide k40 _).mono ?_; rintro e wn ⟨rfl, hn⟩; have hn := hn.symm; subst hn))
  refine rcd_done w _ (F4.setk 2).ex (dNo 14) none 0 _ ?_ ?_ (row_nil _ _) (fun _ h => by cases h) (fun _ h => by cases h) <;> rfl
set_option maxHeartbeats 3200000 in
set_option maxRecDepth 100000 in
theorem rcd_count0 (s : ByteArray) (w : World) (hl : s.size ≤ 1000) (h0 : 1 ≤ s.size) (kP : ∀ (f : ByteArray) (w' : World), Calls Tryz.prog 68 #[.string f] w' fun e w'' => e = .returned (.tuple #[.string (peI f), .string (peX f), .int .i64 (peE f)]) ∧ Below w'.heap.size w' w'') (hk : by0 s 0 = 2) (hz : s.size = 64) (he : peE (s.extract 4 36) = 0) (m1 : (idV.toList == (peI (s.extract 4 36)).toList) = false) (m2 : (idS.toList == (peI (s.extract 4 36)).toList) = true) (m3 : (idM.toList == (peI (s.extract 4 36)).toList) = false) (hp : rdN s 40 2 = 8) (hc : by0 s 42 < 1) : Calls Tryz.prog 38 #[.string s] w fun e w' => (dNo 10).Rs w w' e := by
  have kE : Hid (∀ w', Calls Tryz.prog 68 #[.string (s.extract 4 36)] w' fun e w'' => e = .returned (.tuple #[.string (peI (s.extract 4 36)), .string (peX (s.extract 4 36)), .int .i64 (peE (s.extract 4 36))]) ∧ Below w'.heap.size w' w'') := fun w' => kP _ w'
  clear kP
  have k38 : Hid (∀ w', Calls Tryz.prog 67 #[.string s, .int .i64 38, .int .i64 2] w' fun e w'' => e = .returned (.int .i64 (rdN s 38 2 : Int)) ∧ w'' = w') := fun w' => rf_Number s 38 2 hl (by omega) (by decide) w'
  have k40 : Hid (∀ w', Calls Tryz.prog 67 #[.string s, .int .i64 40, .int .i64 2] w' fun e w'' => e = .returned (.int .i64 (rdN s 40 2 : Int)) ∧ w'' = w') := fun w' => rf_Number s 40 2 hl (by omega) (by decide) w'
  rw [hp] at k40
  clear hp
  have q42 := by0_at s 42
  have hb42 := by0_lt s 42
  generalize by0 s 42 = b42 at *
  have hc2 : (b42 : Int) < 1 := by omega
  rw [he] at kE
  clear he
  generalize peI (s.extract 4 36) = nm at *
  generalize peX (s.extract 4 36) = sx at *
  have M1 : (nm.toList == idV.toList) = false := (beqL_comm _ _).trans m1
  clear m1
  have M2 : (nm.toList == idS.toList) = true := (beqL_comm _ _).trans m2
  clear m2
  have M3 : (nm.toList == idM.toList) = false := (beqL_comm _ _).trans m3
  clear m3
  have q0 := by0_at s 0
  have hb0 := by0_lt s 0
  generalize by0 s 0 = b0 at *
  have g3 : (0 : Int) < (s.size : Int) := by omega
  subst hk
  have g36 : (36 : Int) ≤ (s.size : Int) := by omega
  have g42 : (42 : Int) < (s.size : Int) := by omega
  have g4 : (s.size : Int) = 64 := by omega
  have G4 : ((s.size : Int) != 64) = false := by rw [g4]; rfl
  clear hz g4
  generalize rdN s 38 2 = n38 at *
  go_enter Tryz.func38, Tryz.ntmps38
  go_upto_region 1 with fail
  have E1 := ex_start w
  generalize w.alloc _ = w1 at *
  have r0 := cell_block E1.b 0 _ rfl
  have f0 := frozen_block E1.b 0
  have r1 := cell_block E1.b 1 _ rfl
  have f1 := frozen_block E1.b 1
  have r2 := cell_block E1.b 2 _ rfl
  have f2 := frozen_block E1.b 2
  have r3 := cell_block E1.b 3 _ rfl
  have f3 := frozen_block E1.b 3
  have r4 := cell_block E1.b 4 _ rfl
  have f4 := frozen_block E1.b 4
  have r5 := cell_block E1.b 5 _ rfl
  have f5 := frozen_block E1.b 5
  go_wp2_with (first
    | (go_at_call 68; refine (unhide kE _).mono ?_; rintro e w2 ⟨rfl, hb2⟩; have E2 := E1.step hb2; clear r0 f0 r1 f1 r2 f2 r3 f3 r4 f4 r5 f5; have r0 := cell_block E2.b 0 _ rfl; have f0 := frozen_block E2.b 0; have r1 := cell_block E2.b 1 _ rfl; have f1 := frozen_block E2.b 1; have r2 := cell_block E2.b 2 _ rfl; have f2 := frozen_block E2.b 2; have r3 := cell_block E2.b 3 _ rfl; have f3 := frozen_block E2.b 3; have r4 := cell_block E2.b 4 _ rfl; have f4 := frozen_block E2.b 4; have r5 := cell_block E2.b 5 _ rfl; have f5 := frozen_block E2.b 5)
    | (go_at_call_has 67 (#[Value.string s, Value.int .i64 38, Value.int .i64 2]); refine (unhide k38 _).mono ?_; rintro e wn ⟨rfl, hn⟩; have hn := hn.symm; subst hn)
    | (go_at_call 62; refine (rf_names _).mono ?_; rintro e w4 ⟨rfl, hw4⟩; have F4 := fx_start E2 (n38 : Int); rw [← hw4] at F4; clear hw4))
  have hg4 : w.heap.size < w2.heap.size := F4.lo
  clear E2 hb2 r0 f0 r1 f1 r2 f2 r3 f3 r4 f4 r5 f5
  generalize w2.heap.size = gx at *
  have E4 := F4.ex
  have r0 := cell_block E4.b 0 _ rfl
  have f0 := frozen_block E4.b 0
  have r1 := cell_block E4.b 1 _ rfl
  have f1 := frozen_block E4.b 1
  have r2 := cell_block E4.b 2 _ rfl
  have f2 := frozen_block E4.b 2
  have r3 := cell_block E4.b 3 _ rfl
  have f3 := frozen_block E4.b 3
  have r4 := cell_block E4.b 4 _ rfl
  have f4 := frozen_block E4.b 4
  have r5 := cell_block E4.b 5 _ rfl
  have f5 := frozen_block E4.b 5
  have n0 := cell_block F4.nb 0 _ rfl
  have n1 := cell_block F4.nb 1 _ rfl
  have n2 := cell_block F4.nb 2 _ rfl
  have x0 := cell_block F4.bx 0 _ rfl
  have xf0 := frozen_block F4.bx 0
  have x1 := cell_block F4.bx 1 _ rfl
  have xf1 := frozen_block F4.bx 1
  have x2 := cell_block F4.bx 2 _ rfl
  have xf2 := frozen_block F4.bx 2
  have x3 := cell_block F4.bx 3 _ rfl
  have xf3 := frozen_block F4.bx 3
  have x4 := cell_block F4.bx 4 _ rfl
  have xf4 := frozen_block F4.bx 4
  have x5 := cell_block F4.bx 5 _ rfl
  have xf5 := frozen_block F4.bx 5
  have y0 : ¬ gx = w.heap.size := by omega
  have y1 : ¬ w.heap.size = gx := by omega
  have y2 : ¬ gx + 1 = gx := by omega
  have y3 : ¬ gx = gx + 1 := by omega
  have y4 : ¬ gx + 1 = w.heap.size := by omega
  have y5 : ¬ w.heap.size = gx + 1 := by omega
  refine wp_loop_rounds 4 ?_
  rw [rounds_succ]
  go_wp2_with fail
  rw [rounds_succ]
  go_wp2_with fail
  rw [rounds_succ]
  go_wp2_with fail
  rw [rounds_succ]
  go_wp2_with (first
    | (go_at_call_has 67 (#[Value.string s, Value.int .i64 40, Value.int .i64 2]); refine (unhide k40 _).mono ?_; rintro e wn ⟨rfl, hn⟩; have hn := hn.symm; subst hn))
  refine rcd_done w _ (F4.setk 2).ex (dNo 10) none 0 _ ?_ ?_ (row_nil _ _) (fun _ h => by cases h) (fun _ h => by cases h) <;> rfl
set_option maxHeartbeats 3200000 in
set_option maxRecDepth 100000 in
theorem rcd_count5 (s : ByteArray) (w : World) (hl : s.size ≤ 1000) (h0 : 1 ≤ s.size) (kP : ∀ (f : ByteArray) (w' : World), Calls Tryz.prog 68 #[.string f] w' fun e w'' => e = .returned (.tuple #[.string (peI f), .string (peX f), .int .i64 (peE f)]) ∧ Below w'.heap.size w' w'') (hk : by0 s 0 = 2) (hz : s.size = 64) (he : peE (s.extract 4 36) = 0) (m1 : (idV.toList == (peI (s.extract 4 36)).toList) = false) (m2 : (idS.toList == (peI (s.extract 4 36)).toList) = true) (m3 : (idM.toList == (peI (s.extract 4 36)).toList) = false) (hp : rdN s 40 2 = 8) (hc : 4 < by0 s 42) : Calls Tryz.prog 38 #[.string s] w fun e w' => (dNo 10).Rs w w' e := by
  have kE : Hid (∀ w', Calls Tryz.prog 68 #[.string (s.extract 4 36)] w' fun e w'' => e = .returned (.tuple #[.string (peI (s.extract 4 36)), .string (peX (s.extract 4 36)), .int .i64 (peE (s.extract 4 36))]) ∧ Below w'.heap.size w' w'') := fun w' => kP _ w'
  clear kP
  have k38 : Hid (∀ w', Calls Tryz.prog 67 #[.string s, .int .i64 38, .int .i64 2] w' fun e w'' => e = .returned (.int .i64 (rdN s 38 2 : Int)) ∧ w'' = w') := fun w' => rf_Number s 38 2 hl (by omega) (by decide) w'
  have k40 : Hid (∀ w', Calls Tryz.prog 67 #[.string s, .int .i64 40, .int .i64 2] w' fun e w'' => e = .returned (.int .i64 (rdN s 40 2 : Int)) ∧ w'' = w') := fun w' => rf_Number s 40 2 hl (by omega) (by decide) w'
  rw [hp] at k40
  clear hp
  have q42 := by0_at s 42
  have hb42 := by0_lt s 42
  generalize by0 s 42 = b42 at *
  have hc2 : ¬ (b42 : Int) < 1 := by omega
  have hc3 : (4 : Int) < (b42 : Int) := by omega
  rw [he] at kE
  clear he
  generalize peI (s.extract 4 36) = nm at *
  generalize peX (s.extract 4 36) = sx at *
  have M1 : (nm.toList == idV.toList) = false := (beqL_comm _ _).trans m1
  clear m1
  have M2 : (nm.toList == idS.toList) = true := (beqL_comm _ _).trans m2
  clear m2
  have M3 : (nm.toList == idM.toList) = false := (beqL_comm _ _).trans m3
  clear m3
  have q0 := by0_at s 0
  have hb0 := by0_lt s 0
  generalize by0 s 0 = b0 at *
  have g3 : (0 : Int) < (s.size : Int) := by omega
  subst hk
  have g36 : (36 : Int) ≤ (s.size : Int) := by omega
  have g42 : (42 : Int) < (s.size : Int) := by omega
  have g4 : (s.size : Int) = 64 := by omega
  have G4 : ((s.size : Int) != 64) = false := by rw [g4]; rfl
  clear hz g4
  generalize rdN s 38 2 = n38 at *
  go_enter Tryz.func38, Tryz.ntmps38
  go_upto_region 1 with fail
  have E1 := ex_start w
  generalize w.alloc _ = w1 at *
  have r0 := cell_block E1.b 0 _ rfl
  have f0 := frozen_block E1.b 0
  have r1 := cell_block E1.b 1 _ rfl
  have f1 := frozen_block E1.b 1
  have r2 := cell_block E1.b 2 _ rfl
  have f2 := frozen_block E1.b 2
  have r3 := cell_block E1.b 3 _ rfl
  have f3 := frozen_block E1.b 3
  have r4 := cell_block E1.b 4 _ rfl
  have f4 := frozen_block E1.b 4
  have r5 := cell_block E1.b 5 _ rfl
  have f5 := frozen_block E1.b 5
  go_wp2_with (first
    | (go_at_call 68; refine (unhide kE _).mono ?_; rintro e w2 ⟨rfl, hb2⟩; have E2 := E1.step hb2; clear r0 f0 r1 f1 r2 f2 r3 f3 r4 f4 r5 f5; have r0 := cell_block E2.b 0 _ rfl; have f0 := frozen_block E2.b 0; have r1 := cell_block E2.b 1 _ rfl; have f1 := frozen_block E2.b 1; have r2 := cell_block E2.b 2 _ rfl; have f2 := frozen_block E2.b 2; have r3 := cell_block E2.b 3 _ rfl; have f3 := frozen_block E2.b 3; have r4 := cell_block E2.b 4 _ rfl; have f4 := frozen_block E2.b 4; have r5 := cell_block E2.b 5 _ rfl; have f5 := frozen_block E2.b 5)
    | (go_at_call_has 67 (#[Value.string s, Value.int .i64 38, Value.int .i64 2]); refine (unhide k38 _).mono ?_; rintro e wn ⟨rfl, hn⟩; have hn := hn.symm; subst hn)
    | (go_at_call 62; refine (rf_names _).mono ?_; rintro e w4 ⟨rfl, hw4⟩; have F4 := fx_start E2 (n38 : Int); rw [← hw4] at F4; clear hw4))
  have hg4 : w.heap.size < w2.heap.size := F4.lo
  clear E2 hb2 r0 f0 r1 f1 r2 f2 r3 f3 r4 f4 r5 f5
  generalize w2.heap.size = gx at *
  have E4 := F4.ex
  have r0 := cell_block E4.b 0 _ rfl
  have f0 := frozen_block E4.b 0
  have r1 := cell_block E4.b 1 _ rfl
  have f1 := frozen_block E4.b 1
  have r2 := cell_block E4.b 2 _ rfl
  have f2 := frozen_block E4.b 2
  have r3 := cell_block E4.b 3 _ rfl
  have f3 := frozen_block E4.b 3
  have r4 := cell_block E4.b 4 _ rfl
  have f4 := frozen_block E4.b 4
  have r5 := cell_block E4.b 5 _ rfl
  have f5 := frozen_block E4.b 5
  have n0 := cell_block F4.nb 0 _ rfl
  have n1 := cell_block F4.nb 1 _ rfl
  have n2 := cell_block F4.nb 2 _ rfl
  have x0 := cell_block F4.bx 0 _ rfl
  have xf0 := frozen_block F4.bx 0
  have x1 := cell_block F4.bx 1 _ rfl
  have xf1 := frozen_block F4.bx 1
  have x2 := cell_block F4.bx 2 _ rfl
  have xf2 := frozen_block F4.bx 2
  have x3 := cell_block F4.bx 3 _ rfl
  have xf3 := frozen_block F4.bx 3
  have x4 := cell_block F4.bx 4 _ rfl
  have xf4 := frozen_block F4.bx 4
  have x5 := cell_block F4.bx 5 _ rfl
  have xf5 := frozen_block F4.bx 5
  have y0 : ¬ gx = w.heap.size := by omega
  have y1 : ¬ w.heap.size = gx := by omega
  have y2 : ¬ gx + 1 = gx := by omega
  have y3 : ¬ gx = gx + 1 := by omega
  have y4 : ¬ gx + 1 = w.heap.size := by omega
  have y5 : ¬ w.heap.size = gx + 1 := by omega
  refine wp_loop_rounds 4 ?_
  rw [rounds_succ]
  go_wp2_with fail
  rw [rounds_succ]
  go_wp2_with fail
  rw [rounds_succ]
  go_wp2_with fail
  rw [rounds_succ]
  go_wp2_with (first
    | (go_at_call_has 67 (#[Value.string s, Value.int .i64 40, Value.int .i64 2]); refine (unhide k40 _).mono ?_; rintro e wn ⟨rfl, hn⟩; have hn := hn.symm; subst hn))
  refine rcd_done w _ (F4.setk 2).ex (dNo 10) none 0 _ ?_ ?_ (row_nil _ _) (fun _ h => by cases h) (fun _ h => by cases h) <;> rfl
end Go.Proofs.YtokcpammdhkecaaGreatDoor
