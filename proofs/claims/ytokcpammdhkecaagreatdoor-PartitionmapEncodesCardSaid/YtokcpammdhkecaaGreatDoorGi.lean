/-
  partitionmap.decode: a sparable map with a wrong packet length or number of tables.
-/
import Derived.Test.YtokcpammdhkecaaGreatDoorGh
namespace Go.Proofs.YtokcpammdhkecaaGreatDoor
open Go.RowKit

set_option maxHeartbeats 1600000 in
set_option maxRecDepth 100000 in
theorem dcd_packet (s : ByteArray) (mx : Int) (w : World) (h : 64 ≤ s.size) (hl : s.size ≤ 1000) (hk : by0 s 0 = 2) (hz : by0 s 1 = 64) (hm : w.cell? ⟨0, 0, none⟩ = some (.int .i64 mx)) (he : peE (s.extract 4 36) = 0) (m1 : (idV.toList == (peI (s.extract 4 36)).toList) = false) (m2 : (idS.toList == (peI (s.extract 4 36)).toList) = true) (m3 : (idM.toList == (peI (s.extract 4 36)).toList) = false) (hp : rdN s 40 2 ≠ 8) : Calls Tryz.prog 37 #[.string s] w fun e w' => (dNo 14).Is w w' e := by
  have hfs : (s.extract 4 36).size = 32 := by rw [ByteArray.size_extract]; omega
  have kE : Hid (∀ w', Below w.heap.size w w' → Calls Tryz.prog 66 #[.string (s.extract 4 36)] w' fun e w'' => e = .returned (.tuple #[.string (peI (s.extract 4 36)), .string (peX (s.extract 4 36)), .int .i64 (peE (s.extract 4 36))]) ∧ Below w'.heap.size w' w'') := fun w' hb =>
    udf_ParseEntity (s.extract 4 36) mx w' (by omega) ((hb.cell (p := ⟨_, _, _⟩) (cell_lt hm)).trans hm)
  clear hfs hm
  have k38 : Hid (∀ w' g, w'.cell? ⟨g, 0, none⟩ = some (.string s) → Calls Tryz.prog 64 #[.int .i64 38, .int .i64 2, .pointer (some ⟨g, 0, none⟩)] w' fun e w'' => e = .returned (.int .i64 (rdN s 38 2 : Int)) ∧ w'' = w') := fun w' g hc => pm_number s 38 2 g hl (by decide) (by decide) (by omega) w' hc
  have k40 : Hid (∀ w' g, w'.cell? ⟨g, 0, none⟩ = some (.string s) → Calls Tryz.prog 64 #[.int .i64 40, .int .i64 2, .pointer (some ⟨g, 0, none⟩)] w' fun e w'' => e = .returned (.int .i64 (rdN s 40 2 : Int)) ∧ w'' = w') := fun w' g hc => pm_number s 40 2 g hl (by decide) (by decide) (by omega) w' hc
  have hp2 : ¬ (rdN s 40 2 : Int) = 8 := by omega
  rw [he] at kE
  clear he
  generalize peI (s.extract 4 36) = nm at *
  generalize peX (s.extract 4 36) = sx at *
  have hmm := @run_makeMap Tryz.prog
  have hk' := hk
  have hz' := hz
  clear hk hz
  have q0 := by0_at s 0
  have q1 := by0_at s 1
  have hb0 := by0_lt s 0
  have hb1 := by0_lt s 1
  generalize by0 s 0 = b0 at *
  generalize by0 s 1 = b1 at *
  have hw1 := IntWalk.wrap64_in (b1 : Int) (by omega)
  have g1 : ¬ (s.size : Int) < (b1 : Int) := by omega
  subst hk'
  subst hz'
  have g36 : (36 : Int) ≤ (s.size : Int) := by omega
  have hg : decide ((s.size : Int) < 2) = false := by simp; omega
  have g2 : (1 : Int) < (s.size : Int) := by omega
  have g3 : (0 : Int) < (s.size : Int) := by omega
  go_enter Tryz.func37, Tryz.ntmps37
  go_wp2_with fail
  have D0 := dx_start w s
  generalize ((w.alloc _).alloc _).alloc _ = w3 at *
  have c0 := cell_block D0.b0 0 _ rfl
  go_quiet (fail)
  have D1 := D0.step (below_drewN (Below.refl _ _) nq)
  generalize w3.drewN nq = w4 at *
  clear D0 c0
  go_wp2_with (first
    | (refine wpList_insert_u8 _ rfl 94 (.tmp 30) (.const (.int .u8 1)) (.const (.int .i64 6)) rfl 5 3 Tryz.underlying94 Tryz.underlying5 w4.heap.size rfl #[] 0 (mapAt_new w4 #[] 0) 1 rfl (.int .i64 6) rfl rfl ?_; intro w5 hm5 hg5 hs5)
    | (refine wpList_insert_u8 _ rfl 94 (.tmp 30) (.const (.int .u8 2)) (.const (.int .i64 64)) rfl 5 3 Tryz.underlying94 Tryz.underlying5 w4.heap.size rfl _ _ hm5 2 rfl (.int .i64 64) rfl rfl ?_; intro w6 hm6 hg6 hs6; have hB6 := below_other (below_other ((Below.refl w4.heap.size w4).alloc (Nat.le_refl _) (.map #[] 0)) hg5 (Nat.le_refl _) (by simp)) hg6 (Nat.le_refl _) (by rw [hs5]; simp); have D2 := D1.step hB6; have c0 := cell_block D2.b0 0 _ rfl; have n0 := cell_block D2.b2 0 _ rfl; have n1 := cell_block D2.b2 1 _ rfl; have n2 := cell_block D2.b2 2 _ rfl; have n3 := cell_block D2.b2 3 _ rfl; have n4 := cell_block D2.b2 4 _ rfl; have n5 := cell_block D2.b2 5 _ rfl; have r0 := cell_block D2.b1 0 _ rfl; have r1 := cell_block D2.b1 1 _ rfl; have r2 := cell_block D2.b1 2 _ rfl; have r3 := cell_block D2.b1 3 _ rfl; have r4 := cell_block D2.b1 4 _ rfl; have r5 := cell_block D2.b1 5 _ rfl; have f0 := frozen_block D2.b1 0; have f1 := frozen_block D2.b1 1; have f2 := frozen_block D2.b1 2; have f3 := frozen_block D2.b1 3; have f4 := frozen_block D2.b1 4; have f5 := frozen_block D2.b1 5; have hlk := run_lookup_u8 (P := Tryz.prog) Tryz.underlying94 Tryz.underlying5 hm6 2 1 (.int .i64 64) rfl rfl)
    | (go_at_call 66; refine (unhide kE _ D2.low).mono ?_; rintro e w7 ⟨rfl, hb7⟩; have D3 := D2.step hb7; clear n0 r0 f0 n1 r1 f1 n2 r2 f2 n3 r3 f3 n4 r4 f4 n5 r5 f5; have n0 := cell_block D3.b2 0 _ rfl; have n1 := cell_block D3.b2 1 _ rfl; have n2 := cell_block D3.b2 2 _ rfl; have n3 := cell_block D3.b2 3 _ rfl; have n4 := cell_block D3.b2 4 _ rfl; have n5 := cell_block D3.b2 5 _ rfl; have r0 := cell_block D3.b1 0 _ rfl; have r1 := cell_block D3.b1 1 _ rfl; have r2 := cell_block D3.b1 2 _ rfl; have r3 := cell_block D3.b1 3 _ rfl; have r4 := cell_block D3.b1 4 _ rfl; have r5 := cell_block D3.b1 5 _ rfl; have f0 := frozen_block D3.b1 0; have f1 := frozen_block D3.b1 1; have f2 := frozen_block D3.b1 2; have f3 := frozen_block D3.b1 3; have f4 := frozen_block D3.b1 4; have f5 := frozen_block D3.b1 5)
    | (go_at_call_has 64 (#[Value.int .i64 38, Value.int .i64 2, Value.pointer (some ⟨w.heap.size, 0, none⟩)]); refine (unhide k38 _ _ (cell_block D3.b0 0 _ rfl)).mono ?_; rintro e wn ⟨rfl, hn⟩; have hn := hn.symm; subst hn)
    | (go_at_call 57; refine (pm_identifiers _).mono ?_; rintro e w9 ⟨B, rfl, hmB, hb9⟩; have L9 := lx_start D3 hb9)
    | (at_range; refine wpList_range_it _ rfl 87 (.tmp 66) rfl 3 9 Tryz.underlying87 B rfl idnE 3 hmB ?_; intro w10 hIt0 hb10 hlt10; have L10 := L9.step hb10))
  have hr1 : w.heap.size + 3 ≤ w9.heap.size := L9.dx.sz
  have hr2 : w7.heap.size ≠ w9.heap.size := Nat.ne_of_lt L9.lt
  have hBg : B ≠ w7.heap.size := map_not_cells hmB L9.bx
  have hg3 : w.heap.size + 3 ≤ w7.heap.size := L9.lo
  clear n0 n1 n2 n3 n4 n5 r0 r1 r2 r3 r4 r5 f0 f1 f2 f3 f4 f5 hb9 hmB L9 hb10 hlt10 hb7 hm5 hg5 hs5 hm6 hg6 hs6 hB6 D1 D2 D3
  generalize w9.heap.size = r at *
  generalize w7.heap.size = gx at *
  go_frame
  go_loopw [68] (fun _ wr => ∃ seen, It wr B r idnE 3 seen ∧ Lx w wr s gx (if seen.contains 1 = true then 2 else 0) (rdN s 38 2 : Int)) (fun _ wr => wr.rangeLeft B r)
  case atStart => exact ⟨#[], hIt0, by simpa using L10⟩
  case round =>
    obtain ⟨seen, hIt, hL⟩ := hrel
    clear hIt0 L10
    go_wp2_with (first
      | (at_next; refine wpList_next_it _ rfl (.tmp 67) rfl B r rfl idnE 3 seen hIt idn_old idn_nodup ?_ ?_; (all_goals first | (intro e w2 he hs hIt2 hlt2 hg2 hsz2 hen; have L2 := hL.grown hg2 hr1 hr2; have k0 := cell_block L2.bx 0 _ rfl; have kf := frozen_block L2.bx 0; rcases idn_mem he with rfl | rfl | rfl) | (intro hall; have D4 := hL.dx; have hk := hall { key := .int .i64 2, val := .string idS, born := 1 } (by simp [idnE]); rw [if_pos hk] at hL; have n0 := cell_block D4.b2 0 _ rfl; have n1 := cell_block D4.b2 1 _ rfl; have n2 := cell_block D4.b2 2 _ rfl; have n3 := cell_block D4.b2 3 _ rfl; have n4 := cell_block D4.b2 4 _ rfl; have n5 := cell_block D4.b2 5 _ rfl; have r0 := cell_block D4.b1 0 _ rfl; have r1 := cell_block D4.b1 1 _ rfl; have r2 := cell_block D4.b1 2 _ rfl; have r3 := cell_block D4.b1 3 _ rfl; have r4 := cell_block D4.b1 4 _ rfl; have r5 := cell_block D4.b1 5 _ rfl; have f0 := frozen_block D4.b1 0; have f1 := frozen_block D4.b1 1; have f2 := frozen_block D4.b1 2; have f3 := frozen_block D4.b1 3; have f4 := frozen_block D4.b1 4; have f5 := frozen_block D4.b1 5; have c0 := cell_block D4.b0 0 _ rfl; have x0 := cell_block hL.bx 0 _ rfl; have xf0 := frozen_block hL.bx 0; have x1 := cell_block hL.bx 1 _ rfl; have xf1 := frozen_block hL.bx 1; have x2 := cell_block hL.bx 2 _ rfl; have xf2 := frozen_block hL.bx 2; have x3 := cell_block hL.bx 3 _ rfl; have xf3 := frozen_block hL.bx 3; have x4 := cell_block hL.bx 4 _ rfl; have xf4 := frozen_block hL.bx 4; have x5 := cell_block hL.bx 5 _ rfl; have xf5 := frozen_block hL.bx 5; have y0 : ¬ gx = w.heap.size := (by omega); have y1 : ¬ gx = w.heap.size + 1 := (by omega); have y2 : ¬ gx = w.heap.size + 1 + 1 := (by omega); have y3 : ¬ w.heap.size = gx := (by omega); have y4 : ¬ w.heap.size + 1 = gx := (by omega); have y5 : ¬ w.heap.size + 1 + 1 = gx := (by omega))))
      | (go_at_call_has 64 (#[Value.int .i64 40, Value.int .i64 2, Value.pointer (some ⟨w.heap.size, 0, none⟩)]); refine (unhide k40 _ _ c0).mono ?_; rintro e wn ⟨rfl, hn⟩; have hn := hn.symm; subst hn))
    · refine dcd_done w s _ D4 (dNo 14) none 0 _ ?_ ?_ ?_ (row_nil _ _) (fun _ h => by cases h) (fun _ h => by cases h) <;> rfl
    · exact ⟨⟨_, hIt2, by rw [push_ne seen (show 0 ≠ 1 by decide)]; exact L2⟩, hlt2⟩
    · refine ⟨⟨_, hIt2.set _ _ (Ne.symm hBg) hr2, by rw [if_pos (push_self seen 1)]; exact L2.setk 2⟩, ?_⟩
      rw [(hIt2.set ⟨gx, 0, none⟩ _ (Ne.symm hBg) hr2).left_eq, ← hIt2.left_eq]
      exact hlt2
    · exact ⟨⟨_, hIt2, by rw [push_ne seen (show 2 ≠ 1 by decide)]; exact L2⟩, hlt2⟩
set_option maxHeartbeats 1600000 in
set_option maxRecDepth 100000 in
theorem dcd_count0 (s : ByteArray) (mx : Int) (w : World) (h : 64 ≤ s.size) (hl : s.size ≤ 1000) (hk : by0 s 0 = 2) (hz : by0 s 1 = 64) (hm : w.cell? ⟨0, 0, none⟩ = some (.int .i64 mx)) (he : peE (s.extract 4 36) = 0) (m1 : (idV.toList == (peI (s.extract 4 36)).toList) = false) (m2 : (idS.toList == (peI (s.extract 4 36)).toList) = true) (m3 : (idM.toList == (peI (s.extract 4 36)).toList) = false) (hp : rdN s 40 2 = 8) (hc : rdN s 42 1 < 1) : Calls Tryz.prog 37 #[.string s] w fun e w' => (dNo 10).Is w w' e := by
  have hfs : (s.extract 4 36).size = 32 := by rw [ByteArray.size_extract]; omega
  have kE : Hid (∀ w', Below w.heap.size w w' → Calls Tryz.prog 66 #[.string (s.extract 4 36)] w' fun e w'' => e = .returned (.tuple #[.string (peI (s.extract 4 36)), .string (peX (s.extract 4 36)), .int .i64 (peE (s.extract 4 36))]) ∧ Below w'.heap.size w' w'') := fun w' hb =>
    udf_ParseEntity (s.extract 4 36) mx w' (by omega) ((hb.cell (p := ⟨_, _, _⟩) (cell_lt hm)).trans hm)
  clear hfs hm
  have k38 : Hid (∀ w' g, w'.cell? ⟨g, 0, none⟩ = some (.string s) → Calls Tryz.prog 64 #[.int .i64 38, .int .i64 2, .pointer (some ⟨g, 0, none⟩)] w' fun e w'' => e = .returned (.int .i64 (rdN s 38 2 : Int)) ∧ w'' = w') := fun w' g hc => pm_number s 38 2 g hl (by decide) (by decide) (by omega) w' hc
  have k40 : Hid (∀ w' g, w'.cell? ⟨g, 0, none⟩ = some (.string s) → Calls Tryz.prog 64 #[.int .i64 40, .int .i64 2, .pointer (some ⟨g, 0, none⟩)] w' fun e w'' => e = .returned (.int .i64 (rdN s 40 2 : Int)) ∧ w'' = w') := fun w' g hc => pm_number s 40 2 g hl (by decide) (by decide) (by omega) w' hc
  have k42 : Hid (∀ w' g, w'.cell? ⟨g, 0, none⟩ = some (.string s) → Calls Tryz.prog 64 #[.int .i64 42, .int .i64 1, .pointer (some ⟨g, 0, none⟩)] w' fun e w'' => e = .returned (.int .i64 (rdN s 42 1 : Int)) ∧ w'' = w') := fun w' g hc => pm_number s 42 1 g hl (by decide) (by decide) (by omega) w' hc
  rw [hp] at k40
  obtain ⟨nn, hnn⟩ : ∃ nn, nn = rdN s 42 1 := ⟨_, rfl⟩
  rw [← hnn] at k42 hc
  clear hnn hp
  have hc2 : (nn : Int) < 1 := by omega
  rw [he] at kE
  clear he
  generalize peI (s.extract 4 36) = nm at *
  generalize peX (s.extract 4 36) = sx at *
  have hmm := @run_makeMap Tryz.prog
  have hk' := hk
  have hz' := hz
  clear hk hz
  have q0 := by0_at s 0
  have q1 := by0_at s 1
  have hb0 := by0_lt s 0
  have hb1 := by0_lt s 1
  generalize by0 s 0 = b0 at *
  generalize by0 s 1 = b1 at *
  have hw1 := IntWalk.wrap64_in (b1 : Int) (by omega)
  have g1 : ¬ (s.size : Int) < (b1 : Int) := by omega
  subst hk'
  subst hz'
  have g36 : (36 : Int) ≤ (s.size : Int) := by omega
  have hg : decide ((s.size : Int) < 2) = false := by simp; omega
  have g2 : (1 : Int) < (s.size : Int) := by omega
  have g3 : (0 : Int) < (s.size : Int) := by omega
  go_enter Tryz.func37, Tryz.ntmps37
  go_wp2_with fail
  have D0 := dx_start w s
  generalize ((w.alloc _).alloc _).alloc _ = w3 at *
  have c0 := cell_block D0.b0 0 _ rfl
  go_quiet (fail)
  have D1 := D0.step (below_drewN (Below.refl _ _) nq)
  generalize w3.drewN nq = w4 at *
  clear D0 c0
  go_wp2_with (first
    | (refine wpList_insert_u8 _ rfl 94 (.tmp 30) (.const (.int .u8 1)) (.const (.int .i64 6)) rfl 5 3 Tryz.underlying94 Tryz.underlying5 w4.heap.size rfl #[] 0 (mapAt_new w4 #[] 0) 1 rfl (.int .i64 6) rfl rfl ?_; intro w5 hm5 hg5 hs5)
    | (refine wpList_insert_u8 _ rfl 94 (.tmp 30) (.const (.int .u8 2)) (.const (.int .i64 64)) rfl 5 3 Tryz.underlying94 Tryz.underlying5 w4.heap.size rfl _ _ hm5 2 rfl (.int .i64 64) rfl rfl ?_; intro w6 hm6 hg6 hs6; have hB6 := below_other (below_other ((Below.refl w4.heap.size w4).alloc (Nat.le_refl _) (.map #[] 0)) hg5 (Nat.le_refl _) (by simp)) hg6 (Nat.le_refl _) (by rw [hs5]; simp); have D2 := D1.step hB6; have c0 := cell_block D2.b0 0 _ rfl; have n0 := cell_block D2.b2 0 _ rfl; have n1 := cell_block D2.b2 1 _ rfl; have n2 := cell_block D2.b2 2 _ rfl; have n3 := cell_block D2.b2 3 _ rfl; have n4 := cell_block D2.b2 4 _ rfl; have n5 := cell_block D2.b2 5 _ rfl; have r0 := cell_block D2.b1 0 _ rfl; have r1 := cell_block D2.b1 1 _ rfl; have r2 := cell_block D2.b1 2 _ rfl; have r3 := cell_block D2.b1 3 _ rfl; have r4 := cell_block D2.b1 4 _ rfl; have r5 := cell_block D2.b1 5 _ rfl; have f0 := frozen_block D2.b1 0; have f1 := frozen_block D2.b1 1; have f2 := frozen_block D2.b1 2; have f3 := frozen_block D2.b1 3; have f4 := frozen_block D2.b1 4; have f5 := frozen_block D2.b1 5; have hlk := run_lookup_u8 (P := Tryz.prog) Tryz.underlying94 Tryz.underlying5 hm6 2 1 (.int .i64 64) rfl rfl)
    | (go_at_call 66; refine (unhide kE _ D2.low).mono ?_; rintro e w7 ⟨rfl, hb7⟩; have D3 := D2.step hb7; clear n0 r0 f0 n1 r1 f1 n2 r2 f2 n3 r3 f3 n4 r4 f4 n5 r5 f5; have n0 := cell_block D3.b2 0 _ rfl; have n1 := cell_block D3.b2 1 _ rfl; have n2 := cell_block D3.b2 2 _ rfl; have n3 := cell_block D3.b2 3 _ rfl; have n4 := cell_block D3.b2 4 _ rfl; have n5 := cell_block D3.b2 5 _ rfl; have r0 := cell_block D3.b1 0 _ rfl; have r1 := cell_block D3.b1 1 _ rfl; have r2 := cell_block D3.b1 2 _ rfl; have r3 := cell_block D3.b1 3 _ rfl; have r4 := cell_block D3.b1 4 _ rfl; have r5 := cell_block D3.b1 5 _ rfl; have f0 := frozen_block D3.b1 0; have f1 := frozen_block D3.b1 1; have f2 := frozen_block D3.b1 2; have f3 := frozen_block D3.b1 3; have f4 := frozen_block D3.b1 4; have f5 := frozen_block D3.b1 5)
    | (go_at_call_has 64 (#[Value.int .i64 38, Value.int .i64 2, Value.pointer (some ⟨w.heap.size, 0, none⟩)]); refine (unhide k38 _ _ (cell_block D3.b0 0 _ rfl)).mono ?_; rintro e wn ⟨rfl, hn⟩; have hn := hn.symm; subst hn)
    | (go_at_call 57; refine (pm_identifiers _).mono ?_; rintro e w9 ⟨B, rfl, hmB, hb9⟩; have L9 := lx_start D3 hb9)
    | (at_range; refine wpList_range_it _ rfl 87 (.tmp 66) rfl 3 9 Tryz.underlying87 B rfl idnE 3 hmB ?_; intro w10 hIt0 hb10 hlt10; have L10 := L9.step hb10))
  have hr1 : w.heap.size + 3 ≤ w9.heap.size := L9.dx.sz
  have hr2 : w7.heap.size ≠ w9.heap.size := Nat.ne_of_lt L9.lt
  have hBg : B ≠ w7.heap.size := map_not_cells hmB L9.bx
  have hg3 : w.heap.size + 3 ≤ w7.heap.size := L9.lo
  clear n0 n1 n2 n3 n4 n5 r0 r1 r2 r3 r4 r5 f0 f1 f2 f3 f4 f5 hb9 hmB L9 hb10 hlt10 hb7 hm5 hg5 hs5 hm6 hg6 hs6 hB6 D1 D2 D3
  generalize w9.heap.size = r at *
  generalize w7.heap.size = gx at *
  go_frame
  go_loopw [68] (fun _ wr => ∃ seen, It wr B r idnE 3 seen ∧ Lx w wr s gx (if seen.contains 1 = true then 2 else 0) (rdN s 38 2 : Int)) (fun _ wr => wr.rangeLeft B r)
  case atStart => exact ⟨#[], hIt0, by simpa using L10⟩
  case round =>
    obtain ⟨seen, hIt, hL⟩ := hrel
    clear hIt0 L10
    go_wp2_with (first
      | (at_next; refine wpList_next_it _ rfl (.tmp 67) rfl B r rfl idnE 3 seen hIt idn_old idn_nodup ?_ ?_; (all_goals first | (intro e w2 he hs hIt2 hlt2 hg2 hsz2 hen; have L2 := hL.grown hg2 hr1 hr2; have k0 := cell_block L2.bx 0 _ rfl; have kf := frozen_block L2.bx 0; rcases idn_mem he with rfl | rfl | rfl) | (intro hall; have D4 := hL.dx; have hk := hall { key := .int .i64 2, val := .string idS, born := 1 } (by simp [idnE]); rw [if_pos hk] at hL; have n0 := cell_block D4.b2 0 _ rfl; have n1 := cell_block D4.b2 1 _ rfl; have n2 := cell_block D4.b2 2 _ rfl; have n3 := cell_block D4.b2 3 _ rfl; have n4 := cell_block D4.b2 4 _ rfl; have n5 := cell_block D4.b2 5 _ rfl; have r0 := cell_block D4.b1 0 _ rfl; have r1 := cell_block D4.b1 1 _ rfl; have r2 := cell_block D4.b1 2 _ rfl; have r3 := cell_block D4.b1 3 _ rfl; have r4 := cell_block D4.b1 4 _ rfl; have r5 := cell_block D4.b1 5 _ rfl; have f0 := frozen_block D4.b1 0; have f1 := frozen_block D4.b1 1; have f2 := frozen_block D4.b1 2; have f3 := frozen_block D4.b1 3; have f4 := frozen_block D4.b1 4; have f5 := frozen_block D4.b1 5; have c0 := cell_block D4.b0 0 _ rfl; have x0 := cell_block hL.bx 0 _ rfl; have xf0 := frozen_block hL.bx 0; have x1 := cell_block hL.bx 1 _ rfl; have xf1 := frozen_block hL.bx 1; have x2 := cell_block hL.bx 2 _ rfl; have xf2 := frozen_block hL.bx 2; have x3 := cell_block hL.bx 3 _ rfl; have xf3 := frozen_block hL.bx 3; have x4 := cell_block hL.bx 4 _ rfl; have xf4 := frozen_block hL.bx 4; have x5 := cell_block hL.bx 5 _ rfl; have xf5 := frozen_block hL.bx 5; have y0 : ¬ gx = w.heap.size := (by omega); have y1 : ¬ gx = w.heap.size + 1 := (by omega); have y2 : ¬ gx = w.heap.size + 1 + 1 := (by omega); have y3 : ¬ w.heap.size = gx := (by omega); have y4 : ¬ w.heap.size + 1 = gx := (by omega); have y5 : ¬ w.heap.size + 1 + 1 = gx := (by omega))))
      | (go_at_call_has 64 (#[Value.int .i64 40, Value.int .i64 2, Value.pointer (some ⟨w.heap.size, 0, none⟩)]); refine (unhide k40 _ _ c0).mono ?_; rintro e wn ⟨rfl, hn⟩; have hn := hn.symm; subst hn)
      | (go_at_call_has 64 (#[Value.int .i64 42, Value.int .i64 1, Value.pointer (some ⟨w.heap.size, 0, none⟩)]); refine (unhide k42 _ _ c0).mono ?_; rintro e wn ⟨rfl, hn⟩; have hn := hn.symm; subst hn))
    · refine dcd_done w s _ D4 (dNo 10) none 0 _ ?_ ?_ ?_ (row_nil _ _) (fun _ h => by cases h) (fun _ h => by cases h) <;> rfl
    · exact ⟨⟨_, hIt2, by rw [push_ne seen (show 0 ≠ 1 by decide)]; exact L2⟩, hlt2⟩
    · refine ⟨⟨_, hIt2.set _ _ (Ne.symm hBg) hr2, by rw [if_pos (push_self seen 1)]; exact L2.setk 2⟩, ?_⟩
      rw [(hIt2.set ⟨gx, 0, none⟩ _ (Ne.symm hBg) hr2).left_eq, ← hIt2.left_eq]
      exact hlt2
    · exact ⟨⟨_, hIt2, by rw [push_ne seen (show 2 ≠ 1 by decide)]; exact L2⟩, hlt2⟩
set_option maxHeartbeats 1600000 in
set_option maxRecDepth 100000 in
theorem dcd_count5 (s : ByteArray) (mx : Int) (w : World) (h : 64 ≤ s.size) (hl : s.size ≤ 1000) (hk : by0 s 0 = 2) (hz : by0 s 1 = 64) (hm : w.cell? ⟨0, 0, none⟩ = some (.int .i64 mx)) (he : peE (s.extract 4 36) = 0) (m1 : (idV.toList == (peI (s.extract 4 36)).toList) = false) (m2 : (idS.toList == (peI (s.extract 4 36)).toList) = true) (m3 : (idM.toList == (peI (s.extract 4 36)).toList) = false) (hp : rdN s 40 2 = 8) (hc : 4 < rdN s 42 1) : Calls Tryz.prog 37 #[.string s] w fun e w' => (dNo 10).Is w w' e := by
  have hfs : (s.extract 4 36).size = 32 := by rw [ByteArray.size_extract]; omega
  have kE : Hid (∀ w', Below w.heap.size w w' → Calls Tryz.prog 66 #[.string (s.extract 4 36)] w' fun e w'' => e = .returned (.tuple #[.string (peI (s.extract 4 36)), .string (peX (s.extract 4 36)), .int .i64 (peE (s.extract 4 36))]) ∧ Below w'.heap.size w' w'') := fun w' hb =>
    udf_ParseEntity (s.extract 4 36) mx w' (by omega) ((hb.cell (p := ⟨_, _, _⟩) (cell_lt hm)).trans hm)
  clear hfs hm
  have k38 : Hid (∀ w' g, w'.cell? ⟨g, 0, none⟩ = some (.string s) → Calls Tryz.prog 64 #[.int .i64 38, .int .i64 2, .pointer (some ⟨g, 0, none⟩)] w' fun e w'' => e = .returned (.int .i64 (rdN s 38 2 : Int)) ∧ w'' = w') := fun w' g hc => pm_number s 38 2 g hl (by decide) (by decide) (by omega) w' hc
  have k40 : Hid (∀ w' g, w'.cell? ⟨g, 0, none⟩ = some (.string s) → Calls Tryz.prog 64 #[.int .i64 40, .int .i64 2, .pointer (some ⟨g, 0, none⟩)] w' fun e w'' => e = .returned (.int .i64 (rdN s 40 2 : Int)) ∧ w'' = w') := fun w' g hc => pm_number s 40 2 g hl (by decide) (by decide) (by omega) w' hc
  have k42 : Hid (∀ w' g, w'.cell? ⟨g, 0, none⟩ = some (.string s) → Calls Tryz.prog 64 #[.int .i64 42, .int .i64 1, .pointer (some ⟨g, 0, none⟩)] w' fun e w'' => e = .returned (.int .i64 (rdN s 42 1 : Int)) ∧ w'' = w') := fun w' g hc => pm_number s 42 1 g hl (by decide) (by decide) (by omega) w' hc
  rw [hp] at k40
  obtain ⟨nn, hnn⟩ : ∃ nn, nn = rdN s 42 1 := ⟨_, rfl⟩
  rw [← hnn] at k42 hc
  clear hnn hp
  have hc2 : ¬ (nn : Int) < 1 := by omega
  have hc3 : (4 : Int) < (nn : Int) := by omega
  rw [he] at kE
  clear he
  generalize peI (s.extract 4 36) = nm at *
  generalize peX (s.extract 4 36) = sx at *
  have hmm := @run_makeMap Tryz.prog
  have hk' := hk
  have hz' := hz
  clear hk hz
  have q0 := by0_at s 0
  have q1 := by0_at s 1
  have hb0 := by0_lt s 0
  have hb1 := by0_lt s 1
  generalize by0 s 0 = b0 at *
  generalize by0 s 1 = b1 at *
  have hw1 := IntWalk.wrap64_in (b1 : Int) (by omega)
  have g1 : ¬ (s.size : Int) < (b1 : Int) := by omega
  subst hk'
  subst hz'
  have g36 : (36 : Int) ≤ (s.size : Int) := by omega
  have hg : decide ((s.size : Int) < 2) = false := by simp; omega
  have g2 : (1 : Int) < (s.size : Int) := by omega
  have g3 : (0 : Int) < (s.size : Int) := by omega
  go_enter Tryz.func37, Tryz.ntmps37
  go_wp2_with fail
  have D0 := dx_start w s
  generalize ((w.alloc _).alloc _).alloc _ = w3 at *
  have c0 := cell_block D0.b0 0 _ rfl
  go_quiet (fail)
  have D1 := D0.step (below_drewN (Below.refl _ _) nq)
  generalize w3.drewN nq = w4 at *
  clear D0 c0
  go_wp2_with (first
    | (refine wpList_insert_u8 _ rfl 94 (.tmp 30) (.const (.int .u8 1)) (.const (.int .i64 6)) rfl 5 3 Tryz.underlying94 Tryz.underlying5 w4.heap.size rfl #[] 0 (mapAt_new w4 #[] 0) 1 rfl (.int .i64 6) rfl rfl ?_; intro w5 hm5 hg5 hs5)
    | (refine wpList_insert_u8 _ rfl 94 (.tmp 30) (.const (.int .u8 2)) (.const (.int .i64 64)) rfl 5 3 Tryz.underlying94 Tryz.underlying5 w4.heap.size rfl _ _ hm5 2 rfl (.int .i64 64) rfl rfl ?_; intro w6 hm6 hg6 hs6; have hB6 := below_other (below_other ((Below.refl w4.heap.size w4).alloc (Nat.le_refl _) (.map #[] 0)) hg5 (Nat.le_refl _) (by simp)) hg6 (Nat.le_refl _) (by rw [hs5]; simp); have D2 := D1.step hB6; have c0 := cell_block D2.b0 0 _ rfl; have n0 := cell_block D2.b2 0 _ rfl; have n1 := cell_block D2.b2 1 _ rfl; have n2 := cell_block D2.b2 2 _ rfl; have n3 := cell_block D2.b2 3 _ rfl; have n4 := cell_block D2.b2 4 _ rfl; have n5 := cell_block D2.b2 5 _ rfl; have r0 := cell_block D2.b1 0 _ rfl; have r1 := cell_block D2.b1 1 _ rfl; have r2 := cell_block D2.b1 2 _ rfl; have r3 := cell_block D2.b1 3 _ rfl; have r4 := cell_block D2.b1 4 _ rfl; have r5 := cell_block D2.b1 5 _ rfl; have f0 := frozen_block D2.b1 0; have f1 := frozen_block D2.b1 1; have f2 := frozen_block D2.b1 2; have f3 := frozen_block D2.b1 3; have f4 := frozen_block D2.b1 4; have f5 := frozen_block D2.b1 5; have hlk := run_lookup_u8 (P := Tryz.prog) Tryz.underlying94 Tryz.underlying5 hm6 2 1 (.int .i64 64) rfl rfl)
    | (go_at_call 66; refine (unhide kE _ D2.low).mono ?_; rintro e w7 ⟨rfl, hb7⟩; have D3 := D2.step hb7; clear n0 r0 f0 n1 r1 f1 n2 r2 f2 n3 r3 f3 n4 r4 f4 n5 r5 f5; have n0 := cell_block D3.b2 0 _ rfl; have n1 := cell_block D3.b2 1 _ rfl; have n2 := cell_block D3.b2 2 _ rfl; have n3 := cell_block D3.b2 3 _ rfl; have n4 := cell_block D3.b2 4 _ rfl; have n5 := cell_block D3.b2 5 _ rfl; have r0 := cell_block D3.b1 0 _ rfl; have r1 := cell_block D3.b1 1 _ rfl; have r2 := cell_block D3.b1 2 _ rfl; have r3 := cell_block D3.b1 3 _ rfl; have r4 := cell_block D3.b1 4 _ rfl; have r5 := cell_block D3.b1 5 _ rfl; have f0 := frozen_block D3.b1 0; have f1 := frozen_block D3.b1 1; have f2 := frozen_block D3.b1 2; have f3 := frozen_block D3.b1 3; have f4 := frozen_block D3.b1 4; have f5 := frozen_block D3.b1 5)
    | (go_at_call_has 64 (#[Value.int .i64 38, Value.int .i64 2, Value.pointer (some ⟨w.heap.size, 0, none⟩)]); refine (unhide k38 _ _ (cell_block D3.b0 0 _ rfl)).mono ?_; rintro e wn ⟨rfl, hn⟩; have hn := hn.symm; subst hn)
    | (go_at_call 57; refine (pm_identifiers _).mono ?_; rintro e w9 ⟨B, rfl, hmB, hb9⟩; have L9 := lx_start D3 hb9)
    | (at_range; refine wpList_range_it _ rfl 87 (.tmp 66) rfl 3 9 Tryz.underlying87 B rfl idnE 3 hmB ?_; intro w10 hIt0 hb10 hlt10; have L10 := L9.step hb10))
  have hr1 : w.heap.size + 3 ≤ w9.heap.size := L9.dx.sz
  have hr2 : w7.heap.size ≠ w9.heap.size := Nat.ne_of_lt L9.lt
  have hBg : B ≠ w7.heap.size := map_not_cells hmB L9.bx
  have hg3 : w.heap.size + 3 ≤ w7.heap.size := L9.lo
  clear n0 n1 n2 n3 n4 n5 r0 r1 r2 r3 r4 r5 f0 f1 f2 f3 f4 f5 hb9 hmB L9 hb10 hlt10 hb7 hm5 hg5 hs5 hm6 hg6 hs6 hB6 D1 D2 D3
  generalize w9.heap.size = r at *
  generalize w7.heap.size = gx at *
  go_frame
  go_loopw [68] (fun _ wr => ∃ seen, It wr B r idnE 3 seen ∧ Lx w wr s gx (if seen.contains 1 = true then 2 else 0) (rdN s 38 2 : Int)) (fun _ wr => wr.rangeLeft B r)
  case atStart => exact ⟨#[], hIt0, by simpa using L10⟩
  case round =>
    obtain ⟨seen, hIt, hL⟩ := hrel
    clear hIt0 L10
    go_wp2_with (first
      | (at_next; refine wpList_next_it _ rfl (.tmp 67) rfl B r rfl idnE 3 seen hIt idn_old idn_nodup ?_ ?_; (all_goals first | (intro e w2 he hs hIt2 hlt2 hg2 hsz2 hen; have L2 := hL.grown hg2 hr1 hr2; have k0 := cell_block L2.bx 0 _ rfl; have kf := frozen_block L2.bx 0; rcases idn_mem he with rfl | rfl | rfl) | (intro hall; have D4 := hL.dx; have hk := hall { key := .int .i64 2, val := .string idS, born := 1 } (by simp [idnE]); rw [if_pos hk] at hL; have n0 := cell_block D4.b2 0 _ rfl; have n1 := cell_block D4.b2 1 _ rfl; have n2 := cell_block D4.b2 2 _ rfl; have n3 := cell_block D4.b2 3 _ rfl; have n4 := cell_block D4.b2 4 _ rfl; have n5 := cell_block D4.b2 5 _ rfl; have r0 := cell_block D4.b1 0 _ rfl; have r1 := cell_block D4.b1 1 _ rfl; have r2 := cell_block D4.b1 2 _ rfl; have r3 := cell_block D4.b1 3 _ rfl; have r4 := cell_block D4.b1 4 _ rfl; have r5 := cell_block D4.b1 5 _ rfl; have f0 := frozen_block D4.b1 0; have f1 := frozen_block D4.b1 1; have f2 := frozen_block D4.b1 2; have f3 := frozen_block D4.b1 3; have f4 := frozen_block D4.b1 4; have f5 := frozen_block D4.b1 5; have c0 := cell_block D4.b0 0 _ rfl; have x0 := cell_block hL.bx 0 _ rfl; have xf0 := frozen_block hL.bx 0; have x1 := cell_block hL.bx 1 _ rfl; have xf1 := frozen_block hL.bx 1; have x2 := cell_block hL.bx 2 _ rfl; have xf2 := frozen_block hL.bx 2; have x3 := cell_block hL.bx 3 _ rfl; have xf3 := frozen_block hL.bx 3; have x4 := cell_block hL.bx 4 _ rfl; have xf4 := frozen_block hL.bx 4; have x5 := cell_block hL.bx 5 _ rfl; have xf5 := frozen_block hL.bx 5; have y0 : ¬ gx = w.heap.size := (by omega); have y1 : ¬ gx = w.heap.size + 1 := (by omega); have y2 : ¬ gx = w.heap.size + 1 + 1 := (by omega); have y3 : ¬ w.heap.size = gx := (by omega); have y4 : ¬ w.heap.size + 1 = gx := (by omega); have y5 : ¬ w.heap.size + 1 + 1 = gx := (by omega))))
      | (go_at_call_has 64 (#[Value.int .i64 40, Value.int .i64 2, Value.pointer (some ⟨w.heap.size, 0, none⟩)]); refine (unhide k40 _ _ c0).mono ?_; rintro e wn ⟨rfl, hn⟩; have hn := hn.symm; subst hn)
      | (go_at_call_has 64 (#[Value.int .i64 42, Value.int .i64 1, Value.pointer (some ⟨w.heap.size, 0, none⟩)]); refine (unhide k42 _ _ c0).mono ?_; rintro e wn ⟨rfl, hn⟩; have hn := hn.symm; subst hn))
    · refine dcd_done w s _ D4 (dNo 10) none 0 _ ?_ ?_ ?_ (row_nil _ _) (fun _ h => by cases h) (fun _ h => by cases h) <;> rfl
    · exact ⟨⟨_, hIt2, by rw [push_ne seen (show 0 ≠ 1 by decide)]; exact L2⟩, hlt2⟩
    · refine ⟨⟨_, hIt2.set _ _ (Ne.symm hBg) hr2, by rw [if_pos (push_self seen 1)]; exact L2.setk 2⟩, ?_⟩
      rw [(hIt2.set ⟨gx, 0, none⟩ _ (Ne.symm hBg) hr2).left_eq, ← hIt2.left_eq]
      exact hlt2
    · exact ⟨⟨_, hIt2, by rw [push_ne seen (show 2 ≠ 1 by decide)]; exact L2⟩, hlt2⟩
end Go.Proofs.YtokcpammdhkecaaGreatDoor
