/-
  Texts of this claim, joined in one file: each begins with its own sentence.
-/
import Derived.Test.YtokcpammdhkecaaGreatDoorGm
import Derived.Test.YtokcpammdhkecaaGreatDoorGr
import Derived.Test.YtokcpammdhkecaaGreatDoorGn
import Derived.Test.YtokcpammdhkecaaGreatDoorGf
/-
  The reference's bytes of a map: what the program's are.
-/
namespace Go.Proofs.YtokcpammdhkecaaGreatDoor
open Go.RowKit

theorem lit_12 : leS 1 2 = ⟨#[1, 0]⟩ := by kernel_rfl
theorem lit_82 : leS 8 2 = ⟨#[8, 0]⟩ := by kernel_rfl
theorem lit_01 : leS 0 1 = ⟨#[0]⟩ := by kernel_rfl
theorem lit_11 : leS 1 1 = ⟨#[1]⟩ := by kernel_rfl
theorem lit_84 : leS 8 4 = ⟨#[8, 0, 0, 0]⟩ := by kernel_rfl
theorem rf_BytesI (n : Int) (k : Nat) (h0 : 0 ≤ n) (h : n ≤ 4611686018427387904) (hk : k ≤ 8) (w : World) : Calls Tryz.prog 60 #[.int .i64 n, .int .i64 (k : Int)] w fun e w' => e = .returned (.string (leS n.toNat k)) ∧ Below w.heap.size w w' := by
  obtain ⟨m, rfl⟩ := Int.eq_ofNat_of_zero_le h0
  rw [Int.toNat_natCast]
  exact rf_Bytes m k (by omega) hk w
theorem rf_names2 (w : World) : Calls Tryz.prog 62 #[] w fun e w' => ∃ g, e = .returned (.slice (some ⟨g, 0, none⟩) 3 3) ∧ (w'.cell? ⟨g, 0, none⟩ = some (.string idV) ∧ w'.cell? ⟨g, 1, none⟩ = some (.string idS) ∧ w'.cell? ⟨g, 2, none⟩ = some (.string idM)) ∧ Below w.heap.size w w' := by
  refine (rf_names w).mono fun e w' ⟨he, hw⟩ => ?_
  subst hw
  have hn := heap_new w (.cells #[.string idV, .string idS, .string idM] 9)
  exact ⟨_, he, ⟨cell_block hn 0 _ rfl, cell_block hn 1 _ rfl, cell_block hn 2 _ rfl⟩, (Below.refl _ _).alloc (Nat.le_refl _) _⟩
set_option maxHeartbeats 6400000 in
set_option maxRecDepth 100000 in
theorem rb_0 (n : Int) (A : Option Addr) (c : Nat) (xs : List Int) (f m b : Int) (w : World) (h0 : 0 ≤ n) (h1 : n ≤ 65535) :
    Calls Tryz.prog 36 #[.agg #[.int .i64 0, .int .i64 n, .slice A xs.length c, .int .i64 f, .int .i64 m, .int .i64 b]] w fun e w' => e = .returned (.string (phyB n)) ∧ Below w.heap.size w w' := by
  have k2 : Hid (∀ w, Calls Tryz.prog 60 #[.int .i64 n, .int .i64 2] w fun e w' => e = .returned (.string (leS n.toNat 2)) ∧ Below w.heap.size w w') := fun w => rf_BytesI n 2 h0 (by omega) (by decide) w
  have hE : Hid (phyB n = ⟨#[1, 6, 1, 0]⟩ ++ leS n.toNat 2) := Lib.hid (by
    unfold phyB
    rw [lit_12]
    rfl)
  have z1 : (leS n.toNat 2).size = 2 := leS_size _ _
  generalize leS n.toNat 2 = s1 at *
  have y1 : s1.size ≤ 2 := by omega
  have l4 : (⟨#[1, 6, 1, 0]⟩ : ByteArray).size = 4 := rfl
  obtain ⟨R, hR⟩ : ∃ R, R = phyB n := ⟨_, rfl⟩
  rw [← hR] at hE ⊢
  clear z1 hR
  have ba := hide (fun o : Obj => (Below.refl w.heap.size w).alloc (Nat.le_refl _) o)
  go_enter Tryz.func36, Tryz.ntmps36
  go_wp2_with (go_at_call 60; refine (unhide k2 _).mono ?_; rintro e w5 ⟨rfl, hb5⟩)
  go_ret
  exact ⟨by rw [hE.out]; rfl, (unhide ba _).trans (hb5.mono (unhide ba _).size)⟩
set_option maxHeartbeats 6400000 in
set_option maxRecDepth 100000 in
theorem rb_1 (n : Int) (A : Option Addr) (c : Nat) (xs : List Int) (f m b : Int) (w : World) (h0 : 0 ≤ n) (h1 : n ≤ 65535) :
    Calls Tryz.prog 36 #[.agg #[.int .i64 1, .int .i64 n, .slice A xs.length c, .int .i64 f, .int .i64 m, .int .i64 b]] w fun e w' => e = .returned (.string (virB n)) ∧ Below w.heap.size w w' := by
  have k2 : Hid (∀ w, Calls Tryz.prog 60 #[.int .i64 n, .int .i64 2] w fun e w' => e = .returned (.string (leS n.toNat 2)) ∧ Below w.heap.size w w') := fun w => rf_BytesI n 2 h0 (by omega) (by decide) w
  have kE : Hid (∀ w, Calls Tryz.prog 61 #[.string idV, .string ⟨#[1, 2]⟩] w fun e w' => e = .returned (.tuple #[.string (entS idV ⟨#[1, 2]⟩), .int .i64 (entE idV ⟨#[1, 2]⟩)]) ∧ Below w.heap.size w w') := fun w => ref_Entity idV ⟨#[1, 2]⟩ w (by decide) (by decide)
  have ze : (entS idV ⟨#[1, 2]⟩).size = 32 := entS_size (by decide)
  have z1 : (leS n.toNat 2).size = 2 := leS_size _ _
  have l4 : (⟨#[2, 64, 0, 0]⟩ : ByteArray).size = 4 := rfl
  have l2 : (⟨#[1, 0]⟩ : ByteArray).size = 2 := rfl
  obtain ⟨R, hR⟩ : ∃ R, R = virB n := ⟨_, rfl⟩
  rw [← hR]
  have HR := Lib.hid hR
  clear hR
  obtain ⟨nm, hnm⟩ : ∃ nm, nm = entS idV ⟨#[1, 2]⟩ := ⟨_, rfl⟩
  obtain ⟨s1, hs1⟩ : ∃ s1, s1 = leS n.toNat 2 := ⟨_, rfl⟩
  rw [← hnm] at kE ze
  rw [← hs1] at k2 z1
  have Hnm := Lib.hid hnm
  have Hs1 := Lib.hid hs1
  clear hnm hs1
  generalize entE idV ⟨#[1, 2]⟩ = er at *
  have ye : nm.size ≤ 32 := by omega
  have y1 : s1.size ≤ 2 := by omega
  have Hsz : Hid (((⟨#[2, 64, 0, 0]⟩ : ByteArray) ++ nm ++ ⟨#[1, 0]⟩ ++ s1).size = 40) := Lib.hid (by
    simp only [ByteArray.size_append, ze, z1, l4, l2])
  clear ze z1
  have hw0 : IntKind.i64.wrap ((1 : Int) - 1) = 0 := by decide
  go_enter Tryz.func36, Tryz.ntmps36
  go_wp2_with fail
  have B0 : Bx w (w.alloc (.cells #[.int .i64 1, .int .i64 n, (.slice A xs.length c), .int .i64 f, .int .i64 m, .int .i64 b] 65)) w.heap.size 1 n (.slice A xs.length c) f m b :=
    ⟨(Below.refl _ _).alloc (Nat.le_refl _) _, Nat.le_refl _, by simp, by simp, by simp, by simp, by simp, by simp, by simp⟩
  generalize w.alloc _ = w1 at *
  have b00 := B0.c0
  go_region_with (first
    | (go_at_call 62; refine (rf_names2 _).mono ?_; rintro e w2 ⟨g, rfl, ⟨n0, n1, n2⟩, hb2⟩; have B2 := B0.step ((Below.refl w1.heap.size w1).drew.trans hb2); have b02 := B2.c0)
    | (go_at_call 61; refine (unhide kE _).mono ?_; rintro e w3 ⟨rfl, hb3⟩; have B3 := B2.step hb3))
  all_goals
    clear hb2 hb3 n0 n1 n2 b00 b02 B0 B2
    have q0 := B3.c0
    have q1 := B3.c1
    have q2 := B3.c2
    have q3 := B3.c3
    have q4 := B3.c4
    have q5 := B3.c5
    have kP := rf_Pad ((⟨#[2, 64, 0, 0]⟩ : ByteArray) ++ nm ++ ⟨#[1, 0]⟩ ++ s1) 64 (by rw [Hsz.out]; decide) (by decide)
    rw [Hsz.out] at kP
    have kP := hide kP
    go_wp2_with (first
      | (go_at_call 60; refine (unhide k2 _).mono ?_; rintro e w4 ⟨rfl, hb4⟩; have B4 := B3.step hb4; clear q0 q1 q2 q3 q4 q5; have q0 := B4.c0)
      | (go_at_call 63; refine (unhide kP _).mono ?_; rintro e w5 ⟨rfl, hb5⟩))
    go_ret
    exact ⟨by rw [HR.out, Hnm.out, Hs1.out]; unfold virB hdB; rw [lit_12]; rfl, (B4.step hb5).low⟩
set_option maxHeartbeats 6400000 in
set_option maxRecDepth 100000 in
theorem rb_3 (n : Int) (A : Option Addr) (c : Nat) (xs : List Int) (f m b : Int) (w : World) (h0 : 0 ≤ n) (h1 : n ≤ 65535) (hf : wordB f = true) (hm : wordB m = true) (hb : wordB b = true) :
    Calls Tryz.prog 36 #[.agg #[.int .i64 3, .int .i64 n, .slice A xs.length c, .int .i64 f, .int .i64 m, .int .i64 b]] w fun e w' => e = .returned (.string (metB n f m b)) ∧ Below w.heap.size w w' := by
  have k2 : Hid (∀ w, Calls Tryz.prog 60 #[.int .i64 n, .int .i64 2] w fun e w' => e = .returned (.string (leS n.toNat 2)) ∧ Below w.heap.size w w') := fun w => rf_BytesI n 2 h0 (by omega) (by decide) w
  have kE : Hid (∀ w, Calls Tryz.prog 61 #[.string idM, .string ⟨#[1, 2]⟩] w fun e w' => e = .returned (.tuple #[.string (entS idM ⟨#[1, 2]⟩), .int .i64 (entE idM ⟨#[1, 2]⟩)]) ∧ Below w.heap.size w w') := fun w => ref_Entity idM ⟨#[1, 2]⟩ w (by decide) (by decide)
  have ze : (entS idM ⟨#[1, 2]⟩).size = 32 := entS_size (by decide)
  have z1 : (leS n.toNat 2).size = 2 := leS_size _ _
  have l4 : (⟨#[2, 64, 0, 0]⟩ : ByteArray).size = 4 := rfl
  have l2 : (⟨#[1, 0]⟩ : ByteArray).size = 2 := rfl
  obtain ⟨R, hR⟩ : ∃ R, R = metB n f m b := ⟨_, rfl⟩
  rw [← hR]
  have HR := Lib.hid hR
  clear hR
  have kf : Hid (∀ w, Calls Tryz.prog 60 #[.int .i64 f, .int .i64 4] w fun e w' => e = .returned (.string (leS f.toNat 4)) ∧ Below w.heap.size w w') := fun w => rf_BytesI f 4 (by unfold wordB at hf; have := of_decide_eq_true hf; omega) (by unfold wordB at hf; have := of_decide_eq_true hf; omega) (by decide) w
  have zf : (leS f.toNat 4).size = 4 := leS_size _ _
  obtain ⟨sf, hsf⟩ : ∃ sf, sf = leS f.toNat 4 := ⟨_, rfl⟩
  rw [← hsf] at kf zf
  have Hsf := Lib.hid hsf
  have Hzf := Lib.hid zf
  have ysf : sf.size ≤ 4 := by omega
  clear hsf zf
  have km : Hid (∀ w, Calls Tryz.prog 60 #[.int .i64 m, .int .i64 4] w fun e w' => e = .returned (.string (leS m.toNat 4)) ∧ Below w.heap.size w w') := fun w => rf_BytesI m 4 (by unfold wordB at hm; have := of_decide_eq_true hm; omega) (by unfold wordB at hm; have := of_decide_eq_true hm; omega) (by decide) w
  have zm : (leS m.toNat 4).size = 4 := leS_size _ _
  obtain ⟨sm, hsm⟩ : ∃ sm, sm = leS m.toNat 4 := ⟨_, rfl⟩
  rw [← hsm] at km zm
  have Hsm := Lib.hid hsm
  have Hzm := Lib.hid zm
  have ysm : sm.size ≤ 4 := by omega
  clear hsm zm
  have kb : Hid (∀ w, Calls Tryz.prog 60 #[.int .i64 b, .int .i64 4] w fun e w' => e = .returned (.string (leS b.toNat 4)) ∧ Below w.heap.size w w') := fun w => rf_BytesI b 4 (by unfold wordB at hb; have := of_decide_eq_true hb; omega) (by unfold wordB at hb; have := of_decide_eq_true hb; omega) (by decide) w
  have zb : (leS b.toNat 4).size = 4 := leS_size _ _
  obtain ⟨sb, hsb⟩ : ∃ sb, sb = leS b.toNat 4 := ⟨_, rfl⟩
  rw [← hsb] at kb zb
  have Hsb := Lib.hid hsb
  have Hzb := Lib.hid zb
  have ysb : sb.size ≤ 4 := by omega
  clear hsb zb
  have l7 : (⟨#[8, 0, 0, 0, 8, 0, 1]⟩ : ByteArray).size = 7 := rfl
  obtain ⟨nm, hnm⟩ : ∃ nm, nm = entS idM ⟨#[1, 2]⟩ := ⟨_, rfl⟩
  obtain ⟨s1, hs1⟩ : ∃ s1, s1 = leS n.toNat 2 := ⟨_, rfl⟩
  rw [← hnm] at kE ze
  rw [← hs1] at k2 z1
  have Hnm := Lib.hid hnm
  have Hs1 := Lib.hid hs1
  clear hnm hs1
  generalize entE idM ⟨#[1, 2]⟩ = er at *
  have ye : nm.size ≤ 32 := by omega
  have y1 : s1.size ≤ 2 := by omega
  have Hsz : Hid (((⟨#[2, 64, 0, 0]⟩ : ByteArray) ++ nm ++ ⟨#[1, 0]⟩ ++ s1).size = 40) := Lib.hid (by
    simp only [ByteArray.size_append, ze, z1, l4, l2])
  clear ze z1
  have hw0 : IntKind.i64.wrap ((3 : Int) - 1) = 2 := by decide
  go_enter Tryz.func36, Tryz.ntmps36
  go_wp2_with fail
  have B0 : Bx w (w.alloc (.cells #[.int .i64 3, .int .i64 n, (.slice A xs.length c), .int .i64 f, .int .i64 m, .int .i64 b] 65)) w.heap.size 3 n (.slice A xs.length c) f m b :=
    ⟨(Below.refl _ _).alloc (Nat.le_refl _) _, Nat.le_refl _, by simp, by simp, by simp, by simp, by simp, by simp, by simp⟩
  generalize w.alloc _ = w1 at *
  have b00 := B0.c0
  go_region_with (first
    | (go_at_call 62; refine (rf_names2 _).mono ?_; rintro e w2 ⟨g, rfl, ⟨n0, n1, n2⟩, hb2⟩; have B2 := B0.step ((Below.refl w1.heap.size w1).drew.trans hb2); have b02 := B2.c0)
    | (go_at_call 61; refine (unhide kE _).mono ?_; rintro e w3 ⟨rfl, hb3⟩; have B3 := B2.step hb3))
  all_goals
    clear hb2 hb3 n0 n1 n2 b00 b02 B0 B2
    have q0 := B3.c0
    have q1 := B3.c1
    have q2 := B3.c2
    have q3 := B3.c3
    have q4 := B3.c4
    have q5 := B3.c5
    go_wp2_with (go_at_call 60; refine (unhide k2 _).mono ?_; rintro e w4 ⟨rfl, hb4⟩; have B4 := B3.step hb4; clear q0 q1 q2 q3 q4 q5; have q0 := B4.c0)
    have Hsz1 := Hsz.out
    generalize ho1 : (⟨#[2, 64, 0, 0]⟩ : ByteArray) ++ nm ++ ⟨#[1, 0]⟩ ++ s1 = o1 at *
    have Ho1 := Lib.hid ho1
    have hs40 : o1.size ≤ 40 := by omega
    have Hsz2 := Lib.hid Hsz1
    clear ho1 Hsz1
    refine wp_region_quietC (C := fun w' => Bx w w' w.heap.size 3 n (.slice A xs.length c) f m b) (by kernel_rfl) (by kernel_rfl) B4.drew ?_
    repeat
      refine wpQuiet_step (fun K hK => ?_)
      rw [if_pos (by rfl)]
      apply Exists.intro
      refine ⟨fun w' hw' => ?_, hK _ ?_⟩
      · have p3 := hw'.c3
        have p4 := hw'.c4
        have p5 := hw'.c5
        unfold Oper.quietAt
        go_simp
        first
          | done
          | exact rfl
          | (rw [if_neg (by first | omega | (simp only [ByteArray.size_append]; omega))]; first | exact ⟨rfl, rfl⟩ | (go_simp; first | done | exact rfl))
          | (go_at_call_has 60 (#[Value.int .i64 f, Value.int .i64 4]); exact (unhide kf w').mono (fun e w2 h => ⟨h.1, hw'.step h.2⟩))
          | (go_at_call_has 60 (#[Value.int .i64 m, Value.int .i64 4]); exact (unhide km w').mono (fun e w2 h => ⟨h.1, hw'.step h.2⟩))
          | (go_at_call_has 60 (#[Value.int .i64 b, Value.int .i64 4]); exact (unhide kb w').mono (fun e w2 h => ⟨h.1, hw'.step h.2⟩))
      clear hK K
      simp only [Act.put, List.setIfInBounds_toArray, List.set_cons_zero, List.set_cons_succ]
    refine wpQuiet_nil ?_
    intro w6 hw6
    have Hz3 : (o1 ++ sf ++ sm ++ sb ++ (⟨#[8, 0, 0, 0, 8, 0, 1]⟩ : ByteArray)).size = 59 := by
      have e := Hsz2.out
      simp only [ByteArray.size_append, e, Hzf.out, Hzm.out, Hzb.out]
      rfl
    have kP := rf_Pad (o1 ++ sf ++ sm ++ sb ++ (⟨#[8, 0, 0, 0, 8, 0, 1]⟩ : ByteArray)) 64 (by rw [Hz3]; decide) (by decide)
    rw [Hz3] at kP
    have kP := hide kP
    clear Hz3
    go_wp2_with (go_at_call 63; refine (unhide kP _).mono ?_; rintro e w5 ⟨rfl, hb5⟩)
    go_ret
    refine ⟨?_, (hw6.step hb5).low⟩
    have e7 : (⟨#[8, 0, 0, 0]⟩ : ByteArray) ++ (⟨#[8, 0]⟩ ++ ⟨#[1]⟩) = ⟨#[8, 0, 0, 0, 8, 0, 1]⟩ := by kernel_rfl
    rw [HR.out]
    unfold metB hdB
    rw [lit_12, lit_82, lit_84, lit_11, ← Hnm.out, ← Hs1.out, ← Hsf.out, ← Hsm.out, ← Hsb.out, Ho1.out]
    simp only [ByteArray.append_assoc, e7]
    rfl
end Go.Proofs.YtokcpammdhkecaaGreatDoor

/-
  The reference's bytes of a sparable map.
-/
namespace Go.Proofs.YtokcpammdhkecaaGreatDoor
open Go.RowKit

set_option maxHeartbeats 6400000 in
set_option maxRecDepth 100000 in
theorem rb_2 (n : Int) (A : Option Addr) (c : Nat) (xs : List Int) (f m b : Int) (w : World) (h0 : 0 ≤ n) (h1 : n ≤ 65535) (hr : Row w A xs) (hl : xs.length ≤ 4) (hw : xs.all wordB = true) :
    Calls Tryz.prog 36 #[.agg #[.int .i64 2, .int .i64 n, .slice A xs.length c, .int .i64 f, .int .i64 m, .int .i64 b]] w fun e w' => e = .returned (.string (spaB n xs)) ∧ Below w.heap.size w w' := by
  have k2 : Hid (∀ w, Calls Tryz.prog 60 #[.int .i64 n, .int .i64 2] w fun e w' => e = .returned (.string (leS n.toNat 2)) ∧ Below w.heap.size w w') := fun w => rf_BytesI n 2 h0 (by omega) (by decide) w
  have kE : Hid (∀ w, Calls Tryz.prog 61 #[.string idS, .string ⟨#[1, 2]⟩] w fun e w' => e = .returned (.tuple #[.string (entS idS ⟨#[1, 2]⟩), .int .i64 (entE idS ⟨#[1, 2]⟩)]) ∧ Below w.heap.size w w') := fun w => ref_Entity idS ⟨#[1, 2]⟩ w (by decide) (by decide)
  have ze : (entS idS ⟨#[1, 2]⟩).size = 32 := entS_size (by decide)
  have z1 : (leS n.toNat 2).size = 2 := leS_size _ _
  have l4 : (⟨#[2, 64, 0, 0]⟩ : ByteArray).size = 4 := rfl
  have l2 : (⟨#[1, 0]⟩ : ByteArray).size = 2 := rfl
  obtain ⟨R, hR⟩ : ∃ R, R = spaB n xs := ⟨_, rfl⟩
  rw [← hR]
  have HR := Lib.hid hR
  clear hR
  have kL : Hid (∀ w, Calls Tryz.prog 60 #[.int .i64 (xs.length : Int), .int .i64 1] w fun e w' => e = .returned (.string (leS xs.length 1)) ∧ Below w.heap.size w w') := fun w => rf_Bytes xs.length 1 (by omega) (by decide) w
  have k6 : Hid (∀ w, Calls Tryz.prog 60 #[.int .i64 120, .int .i64 4] w fun e w' => e = .returned (.string (leS 120 4)) ∧ Below w.heap.size w w') := fun w => rf_Bytes 120 4 (by decide) (by decide) w
  have kT : Hid (∀ j, j < xs.length → ∀ w, Calls Tryz.prog 60 #[.int .i64 (xs.getD j 0), .int .i64 4] w fun e w' => e = .returned (.string (leS (xs.getD j 0).toNat 4)) ∧ Below w.heap.size w w') := fun j hj w => by
    have h := List.all_eq_true.1 hw _ (List.getElem_mem hj)
    rw [← getD_int hj] at h
    unfold wordB at h
    have h := of_decide_eq_true h
    exact rf_BytesI _ 4 (by omega) (by omega) (by decide) w
  clear hw
  have zl : (leS xs.length 1).size = 1 := leS_size _ _
  have z6 : (leS 120 4).size = 4 := leS_size _ _
  obtain ⟨sl, hsl⟩ : ∃ sl, sl = leS xs.length 1 := ⟨_, rfl⟩
  obtain ⟨s6, hs6⟩ : ∃ s6, s6 = leS 120 4 := ⟨_, rfl⟩
  rw [← hsl] at kL zl
  rw [← hs6] at k6 z6
  have Hsl := Lib.hid hsl
  have Hs6 := Lib.hid hs6
  have Hzl := Lib.hid zl
  have Hz6 := Lib.hid z6
  have ysl : sl.size ≤ 1 := by omega
  have ys6 : s6.size ≤ 4 := by omega
  clear hsl hs6 zl z6
  have l82 : (⟨#[8, 0]⟩ : ByteArray).size = 2 := rfl
  have l01 : (⟨#[0]⟩ : ByteArray).size = 1 := rfl
  obtain ⟨nm, hnm⟩ : ∃ nm, nm = entS idS ⟨#[1, 2]⟩ := ⟨_, rfl⟩
  obtain ⟨s1, hs1⟩ : ∃ s1, s1 = leS n.toNat 2 := ⟨_, rfl⟩
  rw [← hnm] at kE ze
  rw [← hs1] at k2 z1
  have Hnm := Lib.hid hnm
  have Hs1 := Lib.hid hs1
  clear hnm hs1
  generalize entE idS ⟨#[1, 2]⟩ = er at *
  have ye : nm.size ≤ 32 := by omega
  have y1 : s1.size ≤ 2 := by omega
  have Hsz : Hid (((⟨#[2, 64, 0, 0]⟩ : ByteArray) ++ nm ++ ⟨#[1, 0]⟩ ++ s1).size = 40) := Lib.hid (by
    simp only [ByteArray.size_append, ze, z1, l4, l2])
  clear ze z1
  have hw0 : IntKind.i64.wrap ((2 : Int) - 1) = 1 := by decide
  go_enter Tryz.func36, Tryz.ntmps36
  go_wp2_with fail
  have B0 : Bx w (w.alloc (.cells #[.int .i64 2, .int .i64 n, (.slice A xs.length c), .int .i64 f, .int .i64 m, .int .i64 b] 65)) w.heap.size 2 n (.slice A xs.length c) f m b :=
    ⟨(Below.refl _ _).alloc (Nat.le_refl _) _, Nat.le_refl _, by simp, by simp, by simp, by simp, by simp, by simp, by simp⟩
  generalize w.alloc _ = w1 at *
  have b00 := B0.c0
  go_region_with (first
    | (go_at_call 62; refine (rf_names2 _).mono ?_; rintro e w2 ⟨g, rfl, ⟨n0, n1, n2⟩, hb2⟩; have B2 := B0.step ((Below.refl w1.heap.size w1).drew.trans hb2); have b02 := B2.c0)
    | (go_at_call 61; refine (unhide kE _).mono ?_; rintro e w3 ⟨rfl, hb3⟩; have B3 := B2.step hb3))
  all_goals
    clear hb2 hb3 n0 n1 n2 b00 b02 B0 B2
    have q0 := B3.c0
    have q1 := B3.c1
    have q2 := B3.c2
    have q3 := B3.c3
    have q4 := B3.c4
    have q5 := B3.c5
    clear q1
    have q1 := B3.c1
    go_wp2_with (first
      | (go_at_call_has 60 (#[Value.int .i64 n, Value.int .i64 2]); refine (unhide k2 _).mono ?_; rintro e w4 ⟨rfl, hb4⟩; have B4 := B3.step hb4; clear q0 q1 q2 q3 q4 q5; have q0 := B4.c0; have q2 := B4.c2)
      | (go_at_call_has 60 (#[Value.int .i64 (xs.length : Int), Value.int .i64 1]); refine (unhide kL _).mono ?_; rintro e w6 ⟨rfl, hb6⟩; have B6 := B4.step hb6; clear q0 q2)
      | (go_at_call_has 60 (#[Value.int .i64 120, Value.int .i64 4]); refine (unhide k6 _).mono ?_; rintro e w7 ⟨rfl, hb7⟩; have B7 := B6.step hb7))
    clear hb4 hb6 hb7 B3 B4 B6
    have Hz2 : Hid (((⟨#[2, 64, 0, 0]⟩ : ByteArray) ++ nm ++ ⟨#[1, 0]⟩ ++ s1 ++ ⟨#[8, 0]⟩ ++ sl ++ ⟨#[0]⟩ ++ s6).size = 48) := Lib.hid (by
      have e := Hsz.out
      rw [ByteArray.size_append, ByteArray.size_append, ByteArray.size_append, ByteArray.size_append, e, Hzl.out, Hz6.out, l82, l01])
    clear Hsz
    generalize ho2 : (⟨#[2, 64, 0, 0]⟩ : ByteArray) ++ nm ++ ⟨#[1, 0]⟩ ++ s1 ++ ⟨#[8, 0]⟩ ++ sl ++ ⟨#[0]⟩ ++ s6 = o2 at *
    have Ho2 := Lib.hid ho2
    clear ho2
    have Hst := Lib.hid (show o2 = tabB o2 (xs.take 0) from rfl)
    go_loopw [5, 6] (fun o x wr => ∃ k : Nat, ∃ ob : ByteArray, k ≤ xs.length ∧ x = .int .i64 (k : Int) ∧ o = .string ob ∧ Hid (ob = tabB o2 (xs.take k)) ∧ Bx w wr w.heap.size 2 n (.slice A xs.length c) f m b) (fun _ x _ => xs.length - (intOf x).toNat)
    case atStart => exact ⟨0, o2, Nat.zero_le _, rfl, rfl, Hst, B7⟩
    case round =>
      obtain ⟨k, ob, hk, rfl, rfl, ho, hB⟩ := hrel
      clear Hst B7
      have q2 := hB.c2
      by_cases hlt : k < xs.length
      · obtain ⟨a1, rfl, hc1⟩ := (hr.below hB.low).at_ hlt
        have hob : ob.size ≤ 64 := by
          rw [ho.out, tabB_size, Hz2.out, List.length_take]; omega
        have kt := hide (fun w => unhide kT k hlt w)
        have hyt := leS_size (xs.getD k 0).toNat 4
        have Hn := Lib.hid (show ob ++ leS (xs.getD k 0).toNat 4 = tabB o2 (xs.take (k + 1)) by rw [tabB_take hlt, ho.out])
        generalize leS (xs.getD k 0).toNat 4 = st at *
        have hy : st.size ≤ 4 := by omega
        clear hyt ho kT kL k6 k2 kE
        generalize xs.getD k 0 = x at *
        go_wp2_with (go_at_call 60; refine (unhide kt _).mono ?_; rintro e w8 ⟨rfl, hb8⟩)
        go_roundw
        case rel => exact ⟨k + 1, ob ++ st, by omega, by go_num, rfl, Hn, hB.step hb8⟩
        case measure => simp [intOf]; omega
      · obtain rfl : k = xs.length := by omega
        have hob : ob.size = 48 + 4 * xs.length := by
          rw [ho.out, tabB_size, Hz2.out, List.length_take]; omega
        rw [List.take_length] at ho
        have q0 := hB.c0
        have kP := rf_Pad ob 64 (by omega) (by decide)
        have hl' : 64 - ob.size = 16 - 4 * xs.length := by omega
        rw [hl'] at kP
        have kP := hide kP
        clear hob hl' kT kL k6 k2 kE
        go_wp2_with (go_at_call 63; refine (unhide kP _).mono ?_; rintro e w5 ⟨rfl, hb5⟩)
        go_ret
        refine ⟨?_, (hB.step hb5).low⟩
        rw [HR.out, ho.out]
        unfold spaB hdB
        rw [lit_12, lit_82, lit_01, ← Hnm.out, ← Hs1.out, ← Hsl.out, ← Hs6.out, ← Ho2.out]
        simp only [ByteArray.append_assoc]
        rfl
end Go.Proofs.YtokcpammdhkecaaGreatDoor

/-
  The reference's Encode.
-/
namespace Go.Proofs.YtokcpammdhkecaaGreatDoor
open Go.RowKit

theorem rf_bytes (p : PM) (w : World) (hv : pmV p = true) (hw : p.Wf w) : Calls Tryz.prog 36 #[p.val] w fun e w' => e = .returned (.string (pmB p)) ∧ Below w.heap.size w w' := by
  obtain ⟨k, n, A, c, xs, f, m, b⟩ := p
  obtain ⟨h1, h3, h4, h5, h6, h7, h8, h9, h10, h11⟩ := pmV_parts hv
  simp only at h1 h3 h4 h5 h6 h7 h8 h9 h10 h11
  rcases h1 with rfl | rfl | rfl | rfl
  · exact rb_0 n A c xs f m b w h3 h4
  · exact rb_1 n A c xs f m b w h3 h4
  · exact rb_2 n A c xs f m b w h3 h4 hw.row (h5 rfl).2 h8
  · exact rb_3 n A c xs f m b w h3 h4 h9 h10 h11
set_option maxHeartbeats 1600000 in
set_option maxRecDepth 100000 in
theorem rf_Encode (A : Option Addr) (c : Nat) (ps : List PM) (w : World) (hr : PRow w A ps) (hl : ps.length ≤ 9223372036854775807) :
    Calls Tryz.prog 18 #[.slice A ps.length c] w fun e w' => e = .returned (.tuple #[.string (encS ps), .int .i64 (encE ps)]) ∧ Below w.heap.size w w' := by
  have kA := rf_Valid A c ps w hr hl
  cases ha : pmA ps with
  | false =>
    rw [ha] at kA
    have kA := hide kA
    have e1 : encS ps = ⟨#[]⟩ := by unfold encS; rw [ha]; rfl
    have e2 : encE ps = 1 := by unfold encE; rw [ha]; rfl
    rw [e1, e2]
    clear e1 e2 ha hr
    go_enter Tryz.func18, Tryz.ntmps18
    go_wp2_with (go_at_call 35; refine (unhide kA).mono ?_; rintro e w2 ⟨rfl, hb2⟩)
    go_ret2
    exact ⟨rfl, hb2⟩
  | true =>
    rw [ha] at kA
    have kA := hide kA
    have e1 : encS ps = encB ps := by unfold encS; rw [if_pos ha]
    have e2 : encE ps = 0 := by unfold encE; rw [if_pos ha]
    rw [e1, e2]
    unfold pmA at ha
    rw [Bool.and_eq_true, decide_eq_true_eq] at ha
    obtain ⟨h4, hall⟩ := ha
    clear e1 e2
    have hs := hide (encB_size hall)
    have Hall := Lib.hid hall
    clear hall
    go_enter Tryz.func18, Tryz.ntmps18
    go_wp2_with (go_at_call 35; refine (unhide kA).mono ?_; rintro e w2 ⟨rfl, hb2⟩)
    go_loopw [4, 5] (fun o x wr => ∃ k : Nat, ∃ ob : ByteArray, k ≤ ps.length ∧ x = .int .i64 (k : Int) ∧ o = .string ob ∧ Hid (ob = encB (ps.take k)) ∧ Below w.heap.size w wr) (fun _ x _ => ps.length - (intOf x).toNat)
    case atStart => exact ⟨0, _, Nat.zero_le _, rfl, rfl, Lib.hid rfl, hb2⟩
    case round =>
      obtain ⟨k, ob, hk, rfl, rfl, ho, hb⟩ := hrel
      by_cases hlt : k < ps.length
      · have hr1 := hr.below hb
        obtain ⟨a1, rfl, c0, c1, c2, c3, c4, c5⟩ := hr1.at_ hlt
        have hob : ob.size ≤ 256 := by rw [ho.out]; have := unhide hs k; omega
        have hpv := List.all_eq_true.1 Hall.out _ (List.getElem_mem hlt)
        have hyt : (pmB ps[k]).size ≤ 64 := by rw [pmB_size hpv]; split <;> omega
        have Hn := Lib.hid (show ob ++ pmB ps[k] = encB (ps.take (k + 1)) by rw [encB_take hlt, ho.out])
        have kN := fun (w2 : World) (hb : Below wr.heap.size wr w2) => rf_bytes ps[k] w2 hpv ((hr1.wf ps[k] (List.getElem_mem hlt)).below hb)
        simp only [PM.val, PM.cells] at kN
        have kN := hide kN
        generalize pmB ps[k] = st at *
        clear hpv hr1
        generalize ps[k] = p at *
        clear ho
        go_wp2_with (go_at_call 36; refine (unhide kN _ (Below.refl _ _)).mono ?_; rintro e w7 ⟨rfl, hb7⟩)
        go_roundw
        case rel => exact ⟨k + 1, ob ++ st, by omega, by go_num, rfl, Hn, hb.trans (hb7.mono hb.size)⟩
        case measure => simp [intOf]; omega
      · obtain rfl : k = ps.length := by omega
        rw [List.take_length] at ho
        go_wp2
        go_ret2
        exact ⟨by rw [ho.out]; rfl, hb⟩
end Go.Proofs.YtokcpammdhkecaaGreatDoor
