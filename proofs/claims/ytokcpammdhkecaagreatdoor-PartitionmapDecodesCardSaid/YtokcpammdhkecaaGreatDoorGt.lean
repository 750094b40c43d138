/-
  The reference's decode: 64 bytes: a sparable map.
-/
import Derived.Test.YtokcpammdhkecaaGreatDoorGr
namespace Go.Proofs.YtokcpammdhkecaaGreatDoor
open Go.RowKit

/-- The world in the loop over the tables. -/
structure Sy (w wr : World) (s : ByteArray) (g j : Nat) (n : Int) : Prop where
  ex : Ex w wr
  lo : w.heap.size < g
  bx : ∃ A c, wr.heap[g]? = some (.cells #[.int .i64 2, .int .i64 n, .slice A j c, .int .i64 0, .int .i64 0, .int .i64 0] 65) ∧ wr.ownsRow (g + 1) 3 1 (.slice A j c) j (intsV (spX s j))
theorem sy_start {w wr : World} {s : ByteArray} {g l : Nat} {n : Int} (h : Fx w wr g l 2 n) : Sy w wr s g 0 n := ⟨h.ex, h.lo, none, 0, h.bx, rfl, .inl ⟨rfl, rfl⟩⟩
theorem ex_mono {w wr w' : World} (h : Ex w wr) (hs : wr.heap.size ≤ w'.heap.size) (hb : ∀ i, i ≤ w.heap.size → w'.heap[i]? = wr.heap[i]?) (ho : w'.os = wr.os) (ht : w'.tape = wr.tape) (hp : w'.output = wr.output) : Ex w w' :=
  ⟨⟨ho.trans h.low.os, ht.trans h.low.tape, hp.trans h.low.output, Nat.le_trans h.low.size hs, fun i hi => (hb i (by omega)).trans (h.low.block i hi)⟩, (hb _ (Nat.le_refl _)).trans h.b⟩
theorem sy_next {w wr w1 w2 : World} {s : ByteArray} {g j c c2 : Nat} {A A2 : Option Addr} {n : Int} (h : Ex w wr) (lo : w.heap.size < g) (hbx : wr.heap[g]? = some (.cells #[.int .i64 2, .int .i64 n, .slice A j c, .int .i64 0, .int .i64 0, .int .i64 0] 65))
    (hown : wr.ownsRow (g + 1) 3 1 (.slice A j c) j (intsV (spX s j))) (hb1 : Below wr.heap.size wr w1) (hg2 : w1.grownBy w2 (Value.ownBlock (.slice A j c)))
    (hown2 : w2.ownsRow (g + 1) 3 1 (.slice A2 (j + 1) c2) (j + 1) (intsV (spX s j) ++ [.int .i64 (rdN s (48 + 4 * j) 4 : Int)])) :
    Sy w (w2.setCell ⟨g, 2, none⟩ (.slice A2 (j + 1) c2)) s g (j + 1) n := by
  have hlt : g < wr.heap.size := heap_lt hbx
  have hlow : ∀ i, i ≤ g → w2.heap[i]? = wr.heap[i]? := fun i hi => (hg2.block i (Nat.lt_of_lt_of_le (by omega) hb1.size) (fun q => by have := (hown.lt i q.symm).1; omega)).trans (hb1.block i (by omega))
  have hbx2 := (hlow g (Nat.le_refl _)).trans hbx
  have h2 : Ex w w2 := ex_mono h (Nat.le_trans hb1.size hg2.size) (fun i hi => hlow i (by omega)) (hg2.os.trans hb1.os) (hg2.tape.trans hb1.tape) (hg2.output.trans hb1.output)
  refine ⟨h2.grown (grown_set w2 g 2 _) lo, lo, A2, c2, ?_, ?_⟩
  · rw [set_block hbx2]; rfl
  · rw [spX_succ]
    refine hown2.kept (grown_set w2 g 2 _) (.inr ?_)
    intro q
    have := (hown2.lt g q).1
    omega
set_option maxHeartbeats 16000000 in
set_option maxRecDepth 100000 in
theorem rcd_spar (s : ByteArray) (w : World) (hl : s.size ≤ 1000) (h0 : 1 ≤ s.size) (kP : ∀ (f : ByteArray) (w' : World), Calls Tryz.prog 68 #[.string f] w' fun e w'' => e = .returned (.tuple #[.string (peI f), .string (peX f), .int .i64 (peE f)]) ∧ Below w'.heap.size w' w'') (hk : by0 s 0 = 2) (hz : s.size = 64) (he : peE (s.extract 4 36) = 0) (m1 : (idV.toList == (peI (s.extract 4 36)).toList) = false) (m2 : (idS.toList == (peI (s.extract 4 36)).toList) = true) (m3 : (idM.toList == (peI (s.extract 4 36)).toList) = false) (hp : rdN s 40 2 = 8) (hc : 1 ≤ by0 s 42 ∧ by0 s 42 ≤ 4) : Calls Tryz.prog 38 #[.string s] w fun e w' => ((⟨0, 64, 2, rdN s 38 2, spX s (by0 s 42), 0, 0, 0⟩ : DR)).Rs w w' e := by
  have kE : Hid (∀ w', Calls Tryz.prog 68 #[.string (s.extract 4 36)] w' fun e w'' => e = .returned (.tuple #[.string (peI (s.extract 4 36)), .string (peX (s.extract 4 36)), .int .i64 (peE (s.extract 4 36))]) ∧ Below w'.heap.size w' w'') := fun w' => kP _ w'
  clear kP
  have k38 : Hid (∀ w', Calls Tryz.prog 67 #[.string s, .int .i64 38, .int .i64 2] w' fun e w'' => e = .returned (.int .i64 (rdN s 38 2 : Int)) ∧ w'' = w') := fun w' => rf_Number s 38 2 hl (by omega) (by decide) w'
  have k40 : Hid (∀ w', Calls Tryz.prog 67 #[.string s, .int .i64 40, .int .i64 2] w' fun e w'' => e = .returned (.int .i64 (rdN s 40 2 : Int)) ∧ w'' = w') := fun w' => rf_Number s 40 2 hl (by omega) (by decide) w'
  have k48 : Hid (∀ j : Nat, j < 4 → ∀ w', Calls Tryz.prog 67 #[.string s, .int .i64 (48 + 4 * (j : Int)), .int .i64 4] w' fun e w'' => e = .returned (.int .i64 (rdN s (48 + 4 * j) 4 : Int)) ∧ w'' = w') := fun j hj w' => rf_Number s (48 + 4 * j) 4 hl (by omega) (by decide) w'
  rw [hp] at k40
  clear hp
  have q42 := by0_at s 42
  obtain ⟨nn, hnn⟩ : ∃ nn, nn = by0 s 42 := ⟨_, rfl⟩
  rw [← hnn] at q42 hc ⊢
  have hc1 := hc.1
  have hc4 := hc.2
  have hw42 : IntKind.i64.wrap (nn : Int) = (nn : Int) := IntWalk.i64_in _ (by omega)
  have hc5 : ¬ (nn : Int) < 1 := by omega
  have hc6 : ¬ (4 : Int) < (nn : Int) := by omega
  clear hnn hc
  rw [he] at kE
  clear he
  generalize peI (s.extract 4 36) = nm at *
  generalize peX (s.extract 4 36) = sx at *
  have M1 : (nm.toList == idV.toList) = false := (beqL_comm _ _).trans m1
  clear m1
  have M2 : (nm.toList == idS.toList) = true := (beqL_comm _ _).trans m2
  clear m2
  have M3 : (nm.toList == idM.toList) = false := (beqL_comm _ _).trans m3
  clear m3
  have q0 := by0_at s 0
  have hb0 := by0_lt s 0
  generalize by0 s 0 = b0 at *
  have g3 : (0 : Int) < (s.size : Int) := by omega
  subst hk
  have g36 : (36 : Int) ≤ (s.size : Int) := by omega
  have g42 : (42 : Int) < (s.size : Int) := by omega
  have g4 : (s.size : Int) = 64 := by omega
  have G4 : ((s.size : Int) != 64) = false := by rw [g4]; rfl
  clear hz g4
  obtain ⟨n38, hn38⟩ : ∃ n38, n38 = rdN s 38 2 := ⟨_, rfl⟩
  rw [← hn38] at k38 ⊢
  clear hn38
  go_enter Tryz.func38, Tryz.ntmps38
  go_upto_region 1 with fail
  have E1 := ex_start w
  generalize w.alloc _ = w1 at *
  have r0 := cell_block E1.b 0 _ rfl
  have f0 := frozen_block E1.b 0
  have r1 := cell_block E1.b 1 _ rfl
  have f1 := frozen_block E1.b 1
  have r2 := cell_block E1.b 2 _ rfl
  have f2 := frozen_block E1.b 2
  have r3 := cell_block E1.b 3 _ rfl
  have f3 := frozen_block E1.b 3
  have r4 := cell_block E1.b 4 _ rfl
  have f4 := frozen_block E1.b 4
  have r5 := cell_block E1.b 5 _ rfl
  have f5 := frozen_block E1.b 5
  go_wp2_with (first
    | (go_at_call 68; refine (unhide kE _).mono ?_; rintro e w2 ⟨rfl, hb2⟩; have E2 := E1.step hb2; clear r0 f0 r1 f1 r2 f2 r3 f3 r4 f4 r5 f5; have r0 := cell_block E2.b 0 _ rfl; have f0 := frozen_block E2.b 0; have r1 := cell_block E2.b 1 _ rfl; have f1 := frozen_block E2.b 1; have r2 := cell_block E2.b 2 _ rfl; have f2 := frozen_block E2.b 2; have r3 := cell_block E2.b 3 _ rfl; have f3 := frozen_block E2.b 3; have r4 := cell_block E2.b 4 _ rfl; have f4 := frozen_block E2.b 4; have r5 := cell_block E2.b 5 _ rfl; have f5 := frozen_block E2.b 5)
    | (go_at_call_has 67 (#[Value.string s, Value.int .i64 38, Value.int .i64 2]); refine (unhide k38 _).mono ?_; rintro e wn ⟨rfl, hn⟩; have hn := hn.symm; subst hn)
    | (go_at_call 62; refine (rf_names _).mono ?_; rintro e w4 ⟨rfl, hw4⟩; have F4 := fx_start E2 (n38 : Int); rw [← hw4] at F4; clear hw4))
  have hg4 : w.heap.size < w2.heap.size := F4.lo
  clear E2 hb2 r0 f0 r1 f1 r2 f2 r3 f3 r4 f4 r5 f5
  generalize w2.heap.size = gx at *
  have E4 := F4.ex
  have r0 := cell_block E4.b 0 _ rfl
  have f0 := frozen_block E4.b 0
  have r1 := cell_block E4.b 1 _ rfl
  have f1 := frozen_block E4.b 1
  have r2 := cell_block E4.b 2 _ rfl
  have f2 := frozen_block E4.b 2
  have r3 := cell_block E4.b 3 _ rfl
  have f3 := frozen_block E4.b 3
  have r4 := cell_block E4.b 4 _ rfl
  have f4 := frozen_block E4.b 4
  have r5 := cell_block E4.b 5 _ rfl
  have f5 := frozen_block E4.b 5
  have n0 := cell_block F4.nb 0 _ rfl
  have n1 := cell_block F4.nb 1 _ rfl
  have n2 := cell_block F4.nb 2 _ rfl
  have x0 := cell_block F4.bx 0 _ rfl
  have xf0 := frozen_block F4.bx 0
  have x1 := cell_block F4.bx 1 _ rfl
  have xf1 := frozen_block F4.bx 1
  have x2 := cell_block F4.bx 2 _ rfl
  have xf2 := frozen_block F4.bx 2
  have x3 := cell_block F4.bx 3 _ rfl
  have xf3 := frozen_block F4.bx 3
  have x4 := cell_block F4.bx 4 _ rfl
  have xf4 := frozen_block F4.bx 4
  have x5 := cell_block F4.bx 5 _ rfl
  have xf5 := frozen_block F4.bx 5
  have y0 : ¬ gx = w.heap.size := by omega
  have y1 : ¬ w.heap.size = gx := by omega
  have y2 : ¬ gx + 1 = gx := by omega
  have y3 : ¬ gx = gx + 1 := by omega
  have y4 : ¬ gx + 1 = w.heap.size := by omega
  have y5 : ¬ w.heap.size = gx + 1 := by omega
  refine wp_loop_rounds 4 ?_
  rw [rounds_succ]
  go_wp2_with fail
  rw [rounds_succ]
  go_wp2_with fail
  rw [rounds_succ]
  go_wp2_with fail
  rw [rounds_succ]
  go_wp2_with (first
    | (go_at_call_has 67 (#[Value.string s, Value.int .i64 40, Value.int .i64 2]); refine (unhide k40 _).mono ?_; rintro e wn ⟨rfl, hn⟩; have hn := hn.symm; subst hn))
  have hS : Sy w (w4.setCell ⟨gx, 0, none⟩ (.int .i64 2)) s gx 0 (n38 : Int) := sy_start (F4.setk 2)
  clear F4 E4 n0 n1 n2 r0 f0 x0 xf0 r1 f1 x1 xf1 r2 f2 x2 xf2 r3 f3 x3 xf3 r4 f4 x4 xf4 r5 f5 x5 xf5 k38 k40 kE y2 y3 y4 y5 M1 M2 M3
  go_loopw [10] (fun x wr => ∃ j : Nat, j ≤ nn ∧ x = .int .i64 (j : Int) ∧ Sy w wr s gx j (n38 : Int)) (fun x _ => nn - (intOf x).toNat)
  case atStart => exact ⟨0, Nat.zero_le _, rfl, hS⟩
  case round =>
    obtain ⟨j, hj, rfl, hSr⟩ := hrel
    clear hS
    obtain ⟨D5, -, A, c, hbx, hown⟩ := hSr
    by_cases hlt : j < nn
    · have hw4 : IntKind.i64.wrap (4 * (j : Int)) = 4 * (j : Int) := IntWalk.i64_in _ (by omega)
      have hw48 : IntKind.i64.wrap (48 + 4 * (j : Int)) = 48 + 4 * (j : Int) := IntWalk.i64_in _ (by omega)
      have kj := hide (fun w' => unhide k48 j (by omega) w')
      have z2 := cell_block hbx 2 _ rfl
      have zf2 := frozen_block hbx 2
      have hlg : gx + 1 ≤ wr.heap.size := heap_lt hbx
      have hj4 : j ≤ 4 := by omega
      have hU := hide (fun (w1 w2 : World) (A2 : Option Addr) (c2 : Nat) (hb1 : Below wr.heap.size wr w1) (hg2 : w1.grownBy w2 (Value.ownBlock (.slice A j c))) (hown2 : w2.ownsRow (gx + 1) 3 1 (.slice A2 (j + 1) c2) (j + 1) (intsV (spX s j) ++ [.int .i64 (rdN s (48 + 4 * j) 4 : Int)])) => sy_next D5 hg4 hbx hown hb1 hg2 hown2)
      have hC := hide (fun (w1 w2 : World) (hb1 : Below wr.heap.size wr w1) (hg2 : w1.grownBy w2 (Value.ownBlock (.slice A j c))) => (sx_keep hown hlg hb1 hg2).trans hbx)
      have Hb1 := hide (fun (o : Obj) => ((Below.refl wr.heap.size wr).drew).alloc (Nat.le_refl _) o)
      clear hbx
      generalize rdN s (48 + 4 * j) 4 = vv at *
      obtain ⟨i0, hi, hz0, hz1, hz2⟩ := info_parts intInfo
      have z2a : (wr.alloc (.cells #[Value.int .i64 (vv : Int)] 3)).cell? ⟨gx, 2, none⟩ = some (.slice A j c) := (World.cell?_alloc_lt _ _ _ (show gx < wr.heap.size by omega)).trans z2
      have hgne : ¬ gx = wr.heap.size := by omega
      have hglt : gx < wr.heap.size := by omega
      have hjn : (j : Int) < (nn : Int) := by omega
      go_wp2_with fail
      go_region_law (first
        | (refine step_append_any _ rfl (.tmp 91) (.tmp 97) 25 rfl (gx + 1) 3 i0 (.int .i64 0) 1 8 Tryz.underlying25 hi hz0 hz1 hz2 rfl (by decide) _ _ _ rfl ((own_drew hown).alloc _) (wr.drew.heap.size + 1) (some ⟨wr.drew.heap.size, 0, none⟩) 1 1 [.int .i64 vv] rfl (reads_one _ _ _ _ rfl) (list_map_int _ _) (by unfold maxLen; omega) (by omega) (by simp; omega) ?_; intro v2 w2 hown2 hgrow2 hob2; obtain ⟨A2, c2, rfl⟩ := own_slice hown2; have hx2 := unhide hC _ w2 (unhide Hb1 _) hgrow2; have z2 := cell_block hx2 2 _ rfl; have zf2 := frozen_block hx2 2)
        | (go_simp; go_at_call 67; refine (unhide kj _).mono ?_; rintro e wn ⟨rfl, hn⟩; have hn := hn.symm; subst hn))
      all_goals
        go_wp2_with fail
        go_roundw
        case rel => exact ⟨j + 1, by omega, by go_num, unhide hU _ w2 A2 c2 (unhide Hb1 _) hgrow2 hown2⟩
        case measure => simp [intOf]; omega
    · obtain rfl : j = nn := by omega
      obtain ⟨A1, c1, hv, hrow, -, -⟩ := own_row hown
      have hbase := own_base hown
      injection hv with e1 e2 e3
      rw [← e1] at hrow
      have hX := hide (spX_length s j)
      clear e1 e2 e3 hown
      rw [← unhide hX] at hbx
      have x0 := cell_block hbx 0 _ rfl
      have x1 := cell_block hbx 1 _ rfl
      have x2 := cell_block hbx 2 _ rfl
      have x3 := cell_block hbx 3 _ rfl
      have x4 := cell_block hbx 4 _ rfl
      have x5 := cell_block hbx 5 _ rfl
      clear hbx
      have r0 := cell_block D5.b 0 _ rfl
      have f0 := frozen_block D5.b 0
      have r1 := cell_block D5.b 1 _ rfl
      have f1 := frozen_block D5.b 1
      have r2 := cell_block D5.b 2 _ rfl
      have f2 := frozen_block D5.b 2
      have r3 := cell_block D5.b 3 _ rfl
      have f3 := frozen_block D5.b 3
      have r4 := cell_block D5.b 4 _ rfl
      have f4 := frozen_block D5.b 4
      have r5 := cell_block D5.b 5 _ rfl
      have f5 := frozen_block D5.b 5
      generalize hxs : spX s j = xs at *
      have Hxs := Lib.hid hxs
      clear hxs
      go_wp2_with fail
      obtain rfl := Hxs.out
      refine rcd_done w _ D5 (⟨0, 64, 2, n38, spX s j, 0, 0, 0⟩) A c _ ?_ ?_ hrow (fun ad h => by have := hbase ad h; omega) (fun ad h => by have := hbase ad h; omega) <;> rfl
end Go.Proofs.YtokcpammdhkecaaGreatDoor
