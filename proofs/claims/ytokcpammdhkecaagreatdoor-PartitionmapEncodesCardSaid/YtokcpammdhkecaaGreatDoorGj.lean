/-
  Texts of this claim, joined in one file: each begins with its own sentence.
-/
import Derived.Test.YtokcpammdhkecaaGreatDoorGh
import Derived.Test.YtokcpammdhkecaaGreatDoorGi
/-
  partitionmap.decode: a sparable map.
-/
namespace Go.Proofs.YtokcpammdhkecaaGreatDoor
open Go.RowKit

/-- The numbers of a sparable map's tables. -/
def spX (s : ByteArray) (k : Nat) : List Int := (List.range k).map fun i => (rdN s (48 + 4 * i) 4 : Int)
theorem spX_length (s : ByteArray) (k : Nat) : (spX s k).length = k := by simp [spX]
theorem spX_succ (s : ByteArray) (k : Nat) : intsV (spX s (k + 1)) = intsV (spX s k) ++ [.int .i64 (rdN s (48 + 4 * k) 4 : Int)] := by
  simp [spX, intsV, List.range_succ]
/-- The world in decode's loop over the tables: the map in block g has the first j tables. -/
structure Sx (w wr : World) (s : ByteArray) (g j : Nat) (n : Int) : Prop where
  dx : Dx w wr s
  lo : w.heap.size + 3 ≤ g
  bx : ∃ A c, wr.heap[g]? = some (.cells #[.int .i64 2, .int .i64 n, .slice A j c, .int .i64 0, .int .i64 0, .int .i64 0] 65) ∧ wr.ownsRow (g + 1) 3 1 (.slice A j c) j (intsV (spX s j))
theorem sx_start {w wr : World} {s : ByteArray} {g : Nat} {n : Int} (h : Lx w wr s g 2 n) : Sx w wr s g 0 n := ⟨h.dx, h.lo, none, 0, h.bx, rfl, .inl ⟨rfl, rfl⟩⟩
theorem dx_mono {w wr w' : World} {s : ByteArray} (h : Dx w wr s) (hs : wr.heap.size ≤ w'.heap.size) (hb : ∀ i, i < w.heap.size + 3 → w'.heap[i]? = wr.heap[i]?) (ho : w'.os = wr.os) (ht : w'.tape = wr.tape) (hp : w'.output = wr.output) : Dx w w' s :=
  ⟨⟨ho.trans h.low.os, ht.trans h.low.tape, hp.trans h.low.output, Nat.le_trans h.low.size hs, fun i hi => (hb i (by omega)).trans (h.low.block i hi)⟩, Nat.le_trans h.sz hs, (hb _ (by omega)).trans h.b0, (hb _ (by omega)).trans h.b1, (hb _ (by omega)).trans h.b2⟩
/-- One round: the new row's block, the append, the store. -/
theorem sx_next {w wr w1 w2 : World} {s : ByteArray} {g j c c2 : Nat} {A A2 : Option Addr} {n : Int} (h : Dx w wr s) (lo : w.heap.size + 3 ≤ g) (hbx : wr.heap[g]? = some (.cells #[.int .i64 2, .int .i64 n, .slice A j c, .int .i64 0, .int .i64 0, .int .i64 0] 65))
    (hown : wr.ownsRow (g + 1) 3 1 (.slice A j c) j (intsV (spX s j))) (hb1 : Below wr.heap.size wr w1) (hg2 : w1.grownBy w2 (Value.ownBlock (.slice A j c)))
    (hown2 : w2.ownsRow (g + 1) 3 1 (.slice A2 (j + 1) c2) (j + 1) (intsV (spX s j) ++ [.int .i64 (rdN s (48 + 4 * j) 4 : Int)])) :
    Sx w (w2.setCell ⟨g, 2, none⟩ (.slice A2 (j + 1) c2)) s g (j + 1) n := by
  have hlt : g < wr.heap.size := by
    rcases Nat.lt_or_ge g wr.heap.size with hl | hg
    · exact hl
    · rw [Array.getElem?_eq_none hg] at hbx; cases hbx
  have hlow : ∀ i, i ≤ g → w2.heap[i]? = wr.heap[i]? := fun i hi => (hg2.block i (Nat.lt_of_lt_of_le (by omega) hb1.size) (fun q => by have := (hown.lt i q.symm).1; omega)).trans (hb1.block i (by omega))
  have hbx2 := (hlow g (Nat.le_refl _)).trans hbx
  have h2 : Dx w w2 s := dx_mono h (Nat.le_trans hb1.size hg2.size) (fun i hi => hlow i (by omega)) (hg2.os.trans hb1.os) (hg2.tape.trans hb1.tape) (hg2.output.trans hb1.output)
  refine ⟨h2.grown (grown_set w2 g 2 _) lo, lo, A2, c2, ?_, ?_⟩
  · rw [set_block hbx2]; rfl
  · rw [spX_succ]
    refine hown2.kept (grown_set w2 g 2 _) (.inr ?_)
    intro q
    have := (hown2.lt g q).1
    omega
theorem sx_keep {wr w1 w2 : World} {s : ByteArray} {g j c : Nat} {A : Option Addr} (hown : wr.ownsRow (g + 1) 3 1 (.slice A j c) j (intsV (spX s j))) (hlt : g + 1 ≤ wr.heap.size) (hb1 : Below wr.heap.size wr w1) (hg2 : w1.grownBy w2 (Value.ownBlock (.slice A j c))) : w2.heap[g]? = wr.heap[g]? :=
  (hg2.block g (Nat.lt_of_lt_of_le (by omega) hb1.size) (fun q => by have := (hown.lt g q.symm).1; omega)).trans (hb1.block g (by omega))
theorem own_slice {w : World} {base n size : Nat} {e : TypeId} {v : Value} {xs : List Value} (h : w.ownsRow base e size v n xs) : ∃ A c, v = .slice A n c := by
  rcases h.2 with ⟨rfl, h0⟩ | ⟨g, cap, cur, rfl, _⟩
  · exact ⟨none, 0, by rw [h0]⟩
  · exact ⟨_, _, rfl⟩
theorem own_drew {w : World} {base : Nat} {e : TypeId} {size : Nat} {v : Value} {n : Nat} {xs : List Value} (h : w.ownsRow base e size v n xs) : w.drew.ownsRow base e size v n xs := h
theorem reads_one (w : World) (v : Value) (t : TypeId) (g : Nat) (hg : g = w.heap.size) : Reads (w.alloc (.cells #[v] t)) (w.heap.size + 1) 1 (some ⟨g, 0, none⟩) 1 [v] := by
  subst hg
  refine ⟨rfl, fun _ => ⟨_, rfl, Nat.lt_succ_self _, fun j u hj => ?_⟩⟩
  match j, hj with
  | 0, hj => simpa [Addr.add] using hj
theorem list_map_int (k : IntKind) (v : Int) : ∀ u ∈ [Value.int k v], u.oneCell' = true := fun u hu => by rw [List.mem_singleton] at hu; subst hu; rfl
set_option maxHeartbeats 16000000 in
set_option maxRecDepth 100000 in
theorem dcd_spar (s : ByteArray) (mx : Int) (w : World) (h : 64 ≤ s.size) (hl : s.size ≤ 1000) (hk : by0 s 0 = 2) (hz : by0 s 1 = 64) (hm : w.cell? ⟨0, 0, none⟩ = some (.int .i64 mx)) (he : peE (s.extract 4 36) = 0) (m1 : (idV.toList == (peI (s.extract 4 36)).toList) = false) (m2 : (idS.toList == (peI (s.extract 4 36)).toList) = true) (m3 : (idM.toList == (peI (s.extract 4 36)).toList) = false) (hp : rdN s 40 2 = 8) (hc : 1 ≤ rdN s 42 1 ∧ rdN s 42 1 ≤ 4) : Calls Tryz.prog 37 #[.string s] w fun e w' => ((⟨0, 64, 2, rdN s 38 2, spX s (rdN s 42 1), 0, 0, 0⟩ : DR)).Is w w' e := by
  have hfs : (s.extract 4 36).size = 32 := by rw [ByteArray.size_extract]; omega
  have kE : Hid (∀ w', Below w.heap.size w w' → Calls Tryz.prog 66 #[.string (s.extract 4 36)] w' fun e w'' => e = .returned (.tuple #[.string (peI (s.extract 4 36)), .string (peX (s.extract 4 36)), .int .i64 (peE (s.extract 4 36))]) ∧ Below w'.heap.size w' w'') := fun w' hb =>
    udf_ParseEntity (s.extract 4 36) mx w' (by omega) ((hb.cell (p := ⟨_, _, _⟩) (cell_lt hm)).trans hm)
  clear hfs hm
  have k38 : Hid (∀ w' g, w'.cell? ⟨g, 0, none⟩ = some (.string s) → Calls Tryz.prog 64 #[.int .i64 38, .int .i64 2, .pointer (some ⟨g, 0, none⟩)] w' fun e w'' => e = .returned (.int .i64 (rdN s 38 2 : Int)) ∧ w'' = w') := fun w' g hc => pm_number s 38 2 g hl (by decide) (by decide) (by omega) w' hc
  have k40 : Hid (∀ w' g, w'.cell? ⟨g, 0, none⟩ = some (.string s) → Calls Tryz.prog 64 #[.int .i64 40, .int .i64 2, .pointer (some ⟨g, 0, none⟩)] w' fun e w'' => e = .returned (.int .i64 (rdN s 40 2 : Int)) ∧ w'' = w') := fun w' g hc => pm_number s 40 2 g hl (by decide) (by decide) (by omega) w' hc
  have k42 : Hid (∀ w' g, w'.cell? ⟨g, 0, none⟩ = some (.string s) → Calls Tryz.prog 64 #[.int .i64 42, .int .i64 1, .pointer (some ⟨g, 0, none⟩)] w' fun e w'' => e = .returned (.int .i64 (rdN s 42 1 : Int)) ∧ w'' = w') := fun w' g hc => pm_number s 42 1 g hl (by decide) (by decide) (by omega) w' hc
  have k48 : Hid (∀ j : Nat, j < 4 → ∀ w' g, w'.cell? ⟨g, 0, none⟩ = some (.string s) → Calls Tryz.prog 64 #[.int .i64 (48 + 4 * (j : Int)), .int .i64 4, .pointer (some ⟨g, 0, none⟩)] w' fun e w'' => e = .returned (.int .i64 (rdN s (48 + 4 * j) 4 : Int)) ∧ w'' = w') := fun j hj w' g hc => pm_number s (48 + 4 * j) 4 g hl (by decide) (by decide) (by omega) w' hc
  rw [hp] at k40
  have hc1 := hc.1
  have hc4 := hc.2
  clear hc
  obtain ⟨nn, hnn⟩ : ∃ nn, nn = rdN s 42 1 := ⟨_, rfl⟩
  rw [← hnn] at k42 hc1 hc4 ⊢
  have hc2 : (decide ((nn : Int) < 1) || decide ((4 : Int) < (nn : Int))) = false := by simp; omega
  clear hnn hp
  rw [he] at kE
  clear he
  generalize peI (s.extract 4 36) = nm at *
  generalize peX (s.extract 4 36) = sx at *
  have hmm := @run_makeMap Tryz.prog
  have hk' := hk
  have hz' := hz
  clear hk hz
  have q0 := by0_at s 0
  have q1 := by0_at s 1
  have hb0 := by0_lt s 0
  have hb1 := by0_lt s 1
  generalize by0 s 0 = b0 at *
  generalize by0 s 1 = b1 at *
  have hw1 := IntWalk.wrap64_in (b1 : Int) (by omega)
  have g1 : ¬ (s.size : Int) < (b1 : Int) := by omega
  subst hk'
  subst hz'
  have g36 : (36 : Int) ≤ (s.size : Int) := by omega
  have hg : decide ((s.size : Int) < 2) = false := by simp; omega
  have g2 : (1 : Int) < (s.size : Int) := by omega
  have g3 : (0 : Int) < (s.size : Int) := by omega
  go_enter Tryz.func37, Tryz.ntmps37
  go_wp2_with fail
  have D0 := dx_start w s
  generalize ((w.alloc _).alloc _).alloc _ = w3 at *
  have c0 := cell_block D0.b0 0 _ rfl
  go_quiet (fail)
  have D1 := D0.step (below_drewN (Below.refl _ _) nq)
  generalize w3.drewN nq = w4 at *
  clear D0 c0
  go_wp2_with (first
    | (refine wpList_insert_u8 _ rfl 94 (.tmp 30) (.const (.int .u8 1)) (.const (.int .i64 6)) rfl 5 3 Tryz.underlying94 Tryz.underlying5 w4.heap.size rfl #[] 0 (mapAt_new w4 #[] 0) 1 rfl (.int .i64 6) rfl rfl ?_; intro w5 hm5 hg5 hs5)
    | (refine wpList_insert_u8 _ rfl 94 (.tmp 30) (.const (.int .u8 2)) (.const (.int .i64 64)) rfl 5 3 Tryz.underlying94 Tryz.underlying5 w4.heap.size rfl _ _ hm5 2 rfl (.int .i64 64) rfl rfl ?_; intro w6 hm6 hg6 hs6; have hB6 := below_other (below_other ((Below.refl w4.heap.size w4).alloc (Nat.le_refl _) (.map #[] 0)) hg5 (Nat.le_refl _) (by simp)) hg6 (Nat.le_refl _) (by rw [hs5]; simp); have D2 := D1.step hB6; have c0 := cell_block D2.b0 0 _ rfl; have n0 := cell_block D2.b2 0 _ rfl; have n1 := cell_block D2.b2 1 _ rfl; have n2 := cell_block D2.b2 2 _ rfl; have n3 := cell_block D2.b2 3 _ rfl; have n4 := cell_block D2.b2 4 _ rfl; have n5 := cell_block D2.b2 5 _ rfl; have r0 := cell_block D2.b1 0 _ rfl; have r1 := cell_block D2.b1 1 _ rfl; have r2 := cell_block D2.b1 2 _ rfl; have r3 := cell_block D2.b1 3 _ rfl; have r4 := cell_block D2.b1 4 _ rfl; have r5 := cell_block D2.b1 5 _ rfl; have f0 := frozen_block D2.b1 0; have f1 := frozen_block D2.b1 1; have f2 := frozen_block D2.b1 2; have f3 := frozen_block D2.b1 3; have f4 := frozen_block D2.b1 4; have f5 := frozen_block D2.b1 5; have hlk := run_lookup_u8 (P := Tryz.prog) Tryz.underlying94 Tryz.underlying5 hm6 2 1 (.int .i64 64) rfl rfl)
    | (go_at_call 66; refine (unhide kE _ D2.low).mono ?_; rintro e w7 ⟨rfl, hb7⟩; have D3 := D2.step hb7; clear n0 r0 f0 n1 r1 f1 n2 r2 f2 n3 r3 f3 n4 r4 f4 n5 r5 f5; have n0 := cell_block D3.b2 0 _ rfl; have n1 := cell_block D3.b2 1 _ rfl; have n2 := cell_block D3.b2 2 _ rfl; have n3 := cell_block D3.b2 3 _ rfl; have n4 := cell_block D3.b2 4 _ rfl; have n5 := cell_block D3.b2 5 _ rfl; have r0 := cell_block D3.b1 0 _ rfl; have r1 := cell_block D3.b1 1 _ rfl; have r2 := cell_block D3.b1 2 _ rfl; have r3 := cell_block D3.b1 3 _ rfl; have r4 := cell_block D3.b1 4 _ rfl; have r5 := cell_block D3.b1 5 _ rfl; have f0 := frozen_block D3.b1 0; have f1 := frozen_block D3.b1 1; have f2 := frozen_block D3.b1 2; have f3 := frozen_block D3.b1 3; have f4 := frozen_block D3.b1 4; have f5 := frozen_block D3.b1 5)
    | (go_at_call_has 64 (#[Value.int .i64 38, Value.int .i64 2, Value.pointer (some ⟨w.heap.size, 0, none⟩)]); refine (unhide k38 _ _ (cell_block D3.b0 0 _ rfl)).mono ?_; rintro e wn ⟨rfl, hn⟩; have hn := hn.symm; subst hn)
    | (go_at_call 57; refine (pm_identifiers _).mono ?_; rintro e w9 ⟨B, rfl, hmB, hb9⟩; have L9 := lx_start D3 hb9)
    | (at_range; refine wpList_range_it _ rfl 87 (.tmp 66) rfl 3 9 Tryz.underlying87 B rfl idnE 3 hmB ?_; intro w10 hIt0 hb10 hlt10; have L10 := L9.step hb10))
  have hr1 : w.heap.size + 3 ≤ w9.heap.size := L9.dx.sz
  have hr2 : w7.heap.size ≠ w9.heap.size := Nat.ne_of_lt L9.lt
  have hBg : B ≠ w7.heap.size := map_not_cells hmB L9.bx
  have hg3 : w.heap.size + 3 ≤ w7.heap.size := L9.lo
  clear n0 n1 n2 n3 n4 n5 r0 r1 r2 r3 r4 r5 f0 f1 f2 f3 f4 f5 hb9 hmB L9 hb10 hlt10 hb7 hm5 hg5 hs5 hm6 hg6 hs6 hB6 D1 D2 D3
  generalize w9.heap.size = r at *
  generalize w7.heap.size = gx at *
  go_frame
  go_loopw [68] (fun _ wr => ∃ seen, It wr B r idnE 3 seen ∧ Lx w wr s gx (if seen.contains 1 = true then 2 else 0) (rdN s 38 2 : Int)) (fun _ wr => wr.rangeLeft B r)
  case atStart => exact ⟨#[], hIt0, by simpa using L10⟩
  case round =>
    obtain ⟨seen, hIt, hL⟩ := hrel
    clear hIt0 L10
    go_wp2_with (first
      | (at_next; refine wpList_next_it _ rfl (.tmp 67) rfl B r rfl idnE 3 seen hIt idn_old idn_nodup ?_ ?_; (all_goals first | (intro e w2 he hs hIt2 hlt2 hg2 hsz2 hen; have L2 := hL.grown hg2 hr1 hr2; have k0 := cell_block L2.bx 0 _ rfl; have kf := frozen_block L2.bx 0; rcases idn_mem he with rfl | rfl | rfl) | (intro hall; have D4 := hL.dx; have hk := hall { key := .int .i64 2, val := .string idS, born := 1 } (by simp [idnE]); rw [if_pos hk] at hL; have n0 := cell_block D4.b2 0 _ rfl; have n1 := cell_block D4.b2 1 _ rfl; have n2 := cell_block D4.b2 2 _ rfl; have n3 := cell_block D4.b2 3 _ rfl; have n4 := cell_block D4.b2 4 _ rfl; have n5 := cell_block D4.b2 5 _ rfl; have r0 := cell_block D4.b1 0 _ rfl; have r1 := cell_block D4.b1 1 _ rfl; have r2 := cell_block D4.b1 2 _ rfl; have r3 := cell_block D4.b1 3 _ rfl; have r4 := cell_block D4.b1 4 _ rfl; have r5 := cell_block D4.b1 5 _ rfl; have f0 := frozen_block D4.b1 0; have f1 := frozen_block D4.b1 1; have f2 := frozen_block D4.b1 2; have f3 := frozen_block D4.b1 3; have f4 := frozen_block D4.b1 4; have f5 := frozen_block D4.b1 5; have c0 := cell_block D4.b0 0 _ rfl; have x0 := cell_block hL.bx 0 _ rfl; have xf0 := frozen_block hL.bx 0; have x1 := cell_block hL.bx 1 _ rfl; have xf1 := frozen_block hL.bx 1; have x2 := cell_block hL.bx 2 _ rfl; have xf2 := frozen_block hL.bx 2; have x3 := cell_block hL.bx 3 _ rfl; have xf3 := frozen_block hL.bx 3; have x4 := cell_block hL.bx 4 _ rfl; have xf4 := frozen_block hL.bx 4; have x5 := cell_block hL.bx 5 _ rfl; have xf5 := frozen_block hL.bx 5; have y0 : ¬ gx = w.heap.size := (by omega); have y1 : ¬ gx = w.heap.size + 1 := (by omega); have y2 : ¬ gx = w.heap.size + 1 + 1 := (by omega); have y3 : ¬ w.heap.size = gx := (by omega); have y4 : ¬ w.heap.size + 1 = gx := (by omega); have y5 : ¬ w.heap.size + 1 + 1 = gx := (by omega))))
      | (go_at_call_has 64 (#[Value.int .i64 40, Value.int .i64 2, Value.pointer (some ⟨w.heap.size, 0, none⟩)]); refine (unhide k40 _ _ c0).mono ?_; rintro e wn ⟨rfl, hn⟩; have hn := hn.symm; subst hn)
      | (go_at_call_has 64 (#[Value.int .i64 42, Value.int .i64 1, Value.pointer (some ⟨w.heap.size, 0, none⟩)]); refine (unhide k42 _ _ c0).mono ?_; rintro e wn ⟨rfl, hn⟩; have hn := hn.symm; subst hn))
    · have hS := sx_start hL
      clear D4 hL n0 n1 n2 n3 n4 n5 r0 r1 r2 r3 r4 r5 f0 f1 f2 f3 f4 f5 c0 x0 x1 x2 x3 x4 x5 xf0 xf1 xf2 xf3 xf4 xf5 k38 k40 k42 hIt
      go_loopw [99, 15] (fun x _ wr => ∃ j : Nat, j ≤ nn ∧ x = .int .i64 (j : Int) ∧ Sx w wr s gx j (rdN s 38 2 : Int)) (fun x _ _ => nn - (intOf x).toNat)
      case atStart => exact ⟨0, Nat.zero_le _, rfl, hS⟩
      case round =>
        obtain ⟨j, hj, rfl, hSr⟩ := hrel
        clear hS
        obtain ⟨D5, -, A, c, hbx, hown⟩ := hSr
        by_cases hlt : j < nn
        · have hw4 : IntKind.i64.wrap (4 * (j : Int)) = 4 * (j : Int) := IntWalk.i64_in _ (by omega)
          have hw48 : IntKind.i64.wrap (48 + 4 * (j : Int)) = 48 + 4 * (j : Int) := IntWalk.i64_in _ (by omega)
          have kj := hide (fun w' g hc => unhide k48 j (by omega) w' g hc)
          have z2 := cell_block hbx 2 _ rfl
          have zf2 := frozen_block hbx 2
          have c0 := cell_block D5.b0 0 _ rfl
          have hlg : gx + 1 ≤ wr.heap.size := by
            rcases Nat.lt_or_ge gx wr.heap.size with hl | hg
            · exact hl
            · rw [Array.getElem?_eq_none hg] at hbx; cases hbx
          have hj4 : j ≤ 4 := by omega
          have hU := hide (fun (w1 w2 : World) (A2 : Option Addr) (c2 : Nat) (hb1 : Below wr.heap.size wr w1) (hg2 : w1.grownBy w2 (Value.ownBlock (.slice A j c))) (hown2 : w2.ownsRow (gx + 1) 3 1 (.slice A2 (j + 1) c2) (j + 1) (intsV (spX s j) ++ [.int .i64 (rdN s (48 + 4 * j) 4 : Int)])) => sx_next D5 hg3 hbx hown hb1 hg2 hown2)
          have hC := hide (fun (w1 w2 : World) (hb1 : Below wr.heap.size wr w1) (hg2 : w1.grownBy w2 (Value.ownBlock (.slice A j c))) => (sx_keep hown hlg hb1 hg2).trans hbx)
          have Hb1 := hide (fun (o : Obj) => ((Below.refl wr.heap.size wr).drew).alloc (Nat.le_refl _) o)
          clear hbx
          generalize rdN s (48 + 4 * j) 4 = vv at *
          have c0d : wr.drew.cell? ⟨w.heap.size, 0, none⟩ = some (.string s) := c0
          obtain ⟨i0, hi, hz0, hz1, hz2⟩ := info_parts intInfo
          have z2a : (wr.alloc (.cells #[Value.int .i64 (vv : Int)] 3)).cell? ⟨gx, 2, none⟩ = some (.slice A j c) := (World.cell?_alloc_lt _ _ _ (show gx < wr.heap.size by omega)).trans z2
          have hgne : ¬ gx = wr.heap.size := by omega
          have hglt : gx < wr.heap.size := by omega
          go_wp2_with fail
          go_region_law (first
            | (refine step_append_any _ rfl (.tmp 103) (.tmp 109) 25 rfl (gx + 1) 3 i0 (.int .i64 0) 1 8 Tryz.underlying25 hi hz0 hz1 hz2 rfl (by decide) _ _ _ rfl ((own_drew hown).alloc _) (wr.drew.heap.size + 1) (some ⟨wr.drew.heap.size, 0, none⟩) 1 1 [.int .i64 vv] rfl (reads_one _ _ _ _ rfl) (list_map_int _ _) (by unfold maxLen; omega) (by omega) (by simp; omega) ?_; intro v2 w2 hown2 hgrow2 hob2; obtain ⟨A2, c2, rfl⟩ := own_slice hown2; have hx2 := unhide hC _ w2 (unhide Hb1 _) hgrow2; have z2 := cell_block hx2 2 _ rfl; have zf2 := frozen_block hx2 2)
            | (go_simp; go_at_call 64; refine (unhide kj _ _ c0d).mono ?_; rintro e wn ⟨rfl, hn⟩; have hn := hn.symm; subst hn))
          all_goals
            go_wp2_with fail
            go_roundw
            case rel => exact ⟨j + 1, by omega, by go_num, unhide hU _ w2 A2 c2 (unhide Hb1 _) hgrow2 hown2⟩
            case measure => simp [intOf]; omega
        · obtain rfl : j = nn := by omega
          obtain ⟨A1, c1, hv, hrow, -, -⟩ := own_row hown
          have hbase := own_base hown
          injection hv with e1 e2 e3
          rw [← e1] at hrow
          have hX := hide (spX_length s j)
          clear e1 e2 e3 hown
          rw [← unhide hX] at hbx
          have Hbx := hide hbx
          have x0 := cell_block hbx 0 _ rfl
          have x1 := cell_block hbx 1 _ rfl
          have x2 := cell_block hbx 2 _ rfl
          have x3 := cell_block hbx 3 _ rfl
          have x4 := cell_block hbx 4 _ rfl
          have x5 := cell_block hbx 5 _ rfl
          clear hbx
          have r0 := cell_block D5.b1 0 _ rfl
          have r1 := cell_block D5.b1 1 _ rfl
          have r2 := cell_block D5.b1 2 _ rfl
          have r3 := cell_block D5.b1 3 _ rfl
          have r4 := cell_block D5.b1 4 _ rfl
          have r5 := cell_block D5.b1 5 _ rfl
          have f0 := frozen_block D5.b1 0
          have f1 := frozen_block D5.b1 1
          have f2 := frozen_block D5.b1 2
          have f3 := frozen_block D5.b1 3
          have f4 := frozen_block D5.b1 4
          have f5 := frozen_block D5.b1 5
          have y0 : ¬ gx = w.heap.size := (by omega)
          have y1 : ¬ gx = w.heap.size + 1 := (by omega)
          have y2 : ¬ gx = w.heap.size + 1 + 1 := (by omega)
          have y3 : ¬ w.heap.size = gx := (by omega)
          have y4 : ¬ w.heap.size + 1 = gx := (by omega)
          have y5 : ¬ w.heap.size + 1 + 1 = gx := (by omega)
          generalize hxs : spX s j = xs at *
          have Hxs := Lib.hid hxs
          clear hxs
          go_wp2_with fail
          obtain rfl := Hxs.out
          refine dcd_done w s _ D5 (⟨0, 64, 2, rdN s 38 2, spX s j, 0, 0, 0⟩) A c _ ?_ ?_ ?_ hrow (fun ad h => by have := hbase ad h; omega) (fun ad h => by have := hbase ad h; omega) <;> rfl
    · exact ⟨⟨_, hIt2, by rw [push_ne seen (show 0 ≠ 1 by decide)]; exact L2⟩, hlt2⟩
    · refine ⟨⟨_, hIt2.set _ _ (Ne.symm hBg) hr2, by rw [if_pos (push_self seen 1)]; exact L2.setk 2⟩, ?_⟩
      rw [(hIt2.set ⟨gx, 0, none⟩ _ (Ne.symm hBg) hr2).left_eq, ← hIt2.left_eq]
      exact hlt2
    · exact ⟨⟨_, hIt2, by rw [push_ne seen (show 2 ≠ 1 by decide)]; exact L2⟩, hlt2⟩
end Go.Proofs.YtokcpammdhkecaaGreatDoor

/-
  partitionmap.decode, whole.
-/
namespace Go.Proofs.YtokcpammdhkecaaGreatDoor
open Go.RowKit

/-- What 64 bytes with an entity identifier give. -/
def dcdE (s : ByteArray) : DR :=
  if (idV.toList == (peI (s.extract 4 36)).toList) = true then ⟨0, 64, 1, rdN s 38 2, [], 0, 0, 0⟩
  else if (idS.toList == (peI (s.extract 4 36)).toList) = true then
    (if rdN s 40 2 = 8 then (if 1 ≤ rdN s 42 1 ∧ rdN s 42 1 ≤ 4 then ⟨0, 64, 2, rdN s 38 2, spX s (rdN s 42 1), 0, 0, 0⟩ else dNo 10) else dNo 14)
  else if (idM.toList == (peI (s.extract 4 36)).toList) = true then ⟨0, 64, 3, rdN s 38 2, [], rdN s 40 4, rdN s 44 4, rdN s 48 4⟩
  else dNo 14
/-- What decode gives. -/
def dcdR (s : ByteArray) : DR :=
  if s.size < 2 then dNo 10 else if s.size < by0 s 1 then dNo 10
  else if by0 s 0 = 1 then (if by0 s 1 = 6 then ⟨0, 6, 0, rdN s 4 2, [], 0, 0, 0⟩ else dNo 10)
  else if by0 s 0 = 2 then (if by0 s 1 = 64 then (if peE (s.extract 4 36) = 0 then dcdE s else dNo 10) else dNo 10)
  else dNo 14
theorem id_ne {a b nm : List UInt8} (h : (a == nm) = true) (hab : (b == a) = false) : (b == nm) = false := by
  rw [← eq_of_beq h]; exact hab
theorem id_SV : (idS.toList == idV.toList) = false := by kernel_rfl
theorem id_MV : (idM.toList == idV.toList) = false := by kernel_rfl
theorem id_MS : (idM.toList == idS.toList) = false := by kernel_rfl
theorem pm_decode (s : ByteArray) (mx : Int) (w : World) (hl : s.size ≤ 1000) (hm : w.cell? ⟨0, 0, none⟩ = some (.int .i64 mx)) :
    Calls Tryz.prog 37 #[.string s] w fun e w' => (dcdR s).Is w w' e := by
  unfold dcdR
  split
  · exact dcd_short s w ‹_›
  · have h2 : 2 ≤ s.size := by omega
    split
    · exact dcd_cut s w h2 hl ‹_›
    · have h3 : by0 s 1 ≤ s.size := by omega
      split
      · rename_i hk
        split
        · exact dcd_phys s w h2 hl h3 hk ‹_›
        · exact dcd_size1 s w h2 hl h3 hk ‹_›
      · rename_i hk1
        split
        · rename_i hk
          split
          · rename_i hz
            have h64 : 64 ≤ s.size := by omega
            split
            · rename_i he
              unfold dcdE
              split
              · rename_i m1
                exact dcd_virt s mx w h64 hl hk hz hm he m1 (id_ne m1 id_SV) (id_ne m1 id_MV)
              · rename_i m1
                have m1 := Bool.eq_false_iff.2 m1
                split
                · rename_i m2
                  have m3 := id_ne m2 id_MS
                  split
                  · rename_i hp
                    split
                    · rename_i hc
                      exact dcd_spar s mx w h64 hl hk hz hm he m1 m2 m3 hp hc
                    · rename_i hc
                      by_cases h0 : rdN s 42 1 < 1
                      · exact dcd_count0 s mx w h64 hl hk hz hm he m1 m2 m3 hp h0
                      · exact dcd_count5 s mx w h64 hl hk hz hm he m1 m2 m3 hp (by omega)
                  · exact dcd_packet s mx w h64 hl hk hz hm he m1 m2 m3 ‹_›
                · rename_i m2
                  have m2 := Bool.eq_false_iff.2 m2
                  split
                  · exact dcd_meta s mx w h64 hl hk hz hm he m1 m2 ‹_›
                  · rename_i m3
                    exact dcd_none s mx w h64 hl hk hz hm he m1 m2 (Bool.eq_false_iff.2 m3)
            · exact dcd_ent s mx w h64 hl hk hz hm ‹_›
          · exact dcd_size2 s w h2 hl h3 hk ‹_›
        · exact dcd_kind s w h2 hl h3 ⟨hk1, ‹_›⟩
end Go.Proofs.YtokcpammdhkecaaGreatDoor
