/-
  Texts of this claim, joined in one file: each begins with its own sentence.
-/
import Derived.Test.YtokcpammdhkecaaGreatDoorGe
/-
  partitionmap.bytes: the bytes of a sparable map.
-/
namespace Go.Proofs.YtokcpammdhkecaaGreatDoor
open Go.RowKit

/-- The tables behind what stands ahead. -/
def tabB (o : ByteArray) (xs : List Int) : ByteArray := xs.foldl (fun s t => s ++ leS t.toNat 4) o
theorem tabB_take {o : ByteArray} {xs : List Int} {k : Nat} (hk : k < xs.length) : tabB o (xs.take (k + 1)) = tabB o (xs.take k) ++ leS (xs.getD k 0).toNat 4 := by
  unfold tabB
  rw [List.take_succ_eq_append_getElem hk, List.foldl_append, getD_int hk]
  rfl
theorem tabB_size (xs : List Int) : ∀ o : ByteArray, (tabB o xs).size = o.size + 4 * xs.length := by
  induction xs with
  | nil => intro o; rfl
  | cons x xs ih =>
    intro o
    show (tabB (o ++ leS x.toNat 4) xs).size = _
    rw [ih, ByteArray.size_append, leS_size, List.length_cons]
    omega
def spaB (n : Int) (xs : List Int) : ByteArray := tabB (hdB idS n ++ (leS 8 2 ++ leS xs.length 1 ++ leS 0 1 ++ leS 120 4)) xs ++ zS (16 - 4 * xs.length)
set_option maxHeartbeats 1600000 in
set_option maxRecDepth 100000 in
theorem pm_bytes_2 (n : Int) (A : Option Addr) (c : Nat) (xs : List Int) (f m b : Int) (w : World) (h0 : 0 ≤ n) (h1 : n ≤ 65535) (hr : Row w A xs) (hl : xs.length ≤ 4) (hw : xs.all wordB = true) :
    Calls Tryz.prog 34 #[.agg #[.int .i64 2, .int .i64 n, .slice A xs.length c, .int .i64 f, .int .i64 m, .int .i64 b]] w fun e w' => e = .returned (.string (spaB n xs)) ∧ Below w.heap.size w w' := by
  have k1 : Hid (∀ w, Calls Tryz.prog 55 #[.int .i64 1, .int .i64 2] w fun e w' => e = .returned (.string (leS 1 2)) ∧ Below w.heap.size w w') := fun w => pm_little 1 2 (fits2 (by omega) (by omega)) w
  have k2 : Hid (∀ w, Calls Tryz.prog 55 #[.int .i64 n, .int .i64 2] w fun e w' => e = .returned (.string (leS n.toNat 2)) ∧ Below w.heap.size w w') := fun w => pm_little n 2 (fits2 h0 h1) w
  have kE : Hid (∀ w, Calls Tryz.prog 56 #[.string idS, .string ⟨#[1, 2]⟩] w fun e w' => e = .returned (.tuple #[.string (entS idS ⟨#[1, 2]⟩), .int .i64 (entE idS ⟨#[1, 2]⟩)]) ∧ Below w.heap.size w w') := fun w => udf_Entity idS ⟨#[1, 2]⟩ w (by decide) (by decide)
  have k3 : Hid (∀ w, Calls Tryz.prog 55 #[.int .i64 8, .int .i64 2] w fun e w' => e = .returned (.string (leS 8 2)) ∧ Below w.heap.size w w') := fun w => pm_little 8 2 (fits2 (by decide) (by decide)) w
  have k4 : Hid (∀ w, Calls Tryz.prog 55 #[.int .i64 (xs.length : Int), .int .i64 1] w fun e w' => e = .returned (.string (leS xs.length 1)) ∧ Below w.heap.size w w') := fun w => pm_little (xs.length : Int) 1 (fitsOne (by omega) (by omega)) w
  have k5 : Hid (∀ w, Calls Tryz.prog 55 #[.int .i64 0, .int .i64 1] w fun e w' => e = .returned (.string (leS 0 1)) ∧ Below w.heap.size w w') := fun w => pm_little 0 1 (fitsOne (by decide) (by decide)) w
  have k6 : Hid (∀ w, Calls Tryz.prog 55 #[.int .i64 120, .int .i64 4] w fun e w' => e = .returned (.string (leS 120 4)) ∧ Below w.heap.size w w') := fun w => pm_little 120 4 (fits4 (by decide)) w
  have kZ : Hid (∀ w, Calls Tryz.prog 58 #[.string ⟨#[0]⟩, .int .i64 (16 - 4 * (xs.length : Int))] w fun e w' => e = .returned (.string (zS (16 - 4 * xs.length))) ∧ Below w.heap.size w w') := fun w => by
    have := zeros_any (16 - 4 * (xs.length : Int)) (by omega) (by omega) w
    rwa [show (16 - 4 * (xs.length : Int)).toNat = 16 - 4 * xs.length from by omega] at this
  have kT : Hid (∀ j, j < xs.length → ∀ w, Calls Tryz.prog 55 #[.int .i64 (xs.getD j 0), .int .i64 4] w fun e w' => e = .returned (.string (leS (xs.getD j 0).toNat 4)) ∧ Below w.heap.size w w') := fun j hj w =>
    pm_little _ 4 (fits4 (by rw [getD_int hj]; exact List.all_eq_true.1 hw _ (List.getElem_mem hj))) w
  have ze : (entS idS ⟨#[1, 2]⟩).size = 32 := entS_size (by decide)
  have z0 : (leS 1 2).size = 2 := leS_size _ _
  have z1 : (leS n.toNat 2).size = 2 := leS_size _ _
  have z2 : (leS 8 2).size = 2 := leS_size _ _
  have z3 : (leS xs.length 1).size = 1 := leS_size _ _
  have z4 : (leS 0 1).size = 1 := leS_size _ _
  have z5 : (leS 120 4).size = 4 := leS_size _ _
  have z9 : (zS (16 - 4 * xs.length)).size = 16 - 4 * xs.length := zS_size _
  clear hw
  unfold spaB hdB
  generalize entS idS ⟨#[1, 2]⟩ = nm at *
  generalize entE idS ⟨#[1, 2]⟩ = er at *
  generalize zS (16 - 4 * xs.length) = zz at *
  generalize leS 1 2 = s0 at *
  generalize leS n.toNat 2 = s1 at *
  generalize leS 8 2 = s2 at *
  generalize leS xs.length 1 = s3 at *
  generalize leS 0 1 = s4 at *
  generalize leS 120 4 = s5 at *
  have ye : nm.size ≤ 32 := by omega
  have y0 : s0.size ≤ 2 := by omega
  have y1 : s1.size ≤ 2 := by omega
  have y2 : s2.size ≤ 2 := by omega
  have y3 : s3.size ≤ 1 := by omega
  have y4 : s4.size ≤ 1 := by omega
  have y5 : s5.size ≤ 4 := by omega
  have y9 : zz.size ≤ 16 := by omega
  have hsz : ((⟨#[2, 64, 0, 0]⟩ : ByteArray) ++ nm ++ s0 ++ s1).size = 40 := by
    simp only [ByteArray.size_append, ze, z0, z1]
    rfl
  have hsz2 : (s2 ++ s3 ++ s4 ++ s5).size = 8 := by
    simp only [ByteArray.size_append, z2, z3, z4, z5]
  have Hsz := Lib.hid hsz
  have Hsz2 := Lib.hid hsz2
  clear hsz hsz2 ze z0 z1 z2 z3 z4 z5 z9
  go_enter Tryz.func34, Tryz.ntmps34
  go_wp2_with fail
  have B0 : Bx w (w.alloc (.cells #[.int .i64 2, .int .i64 n, (.slice A xs.length c), .int .i64 f, .int .i64 m, .int .i64 b] 65)) w.heap.size 2 n (.slice A xs.length c) f m b :=
    ⟨(Below.refl _ _).alloc (Nat.le_refl _) _, Nat.le_refl _, by simp, by simp, by simp, by simp, by simp, by simp, by simp⟩
  have hB0 := Lib.hid B0.drew
  clear B0
  go_region_held3 (fun w' => w'.cell? ⟨w.heap.size, 0, none⟩ = some (.int .i64 2) ∧ Bx w w' w.heap.size 2 n (.slice A xs.length c) f m b) (first | assumption | exact ⟨hB0.out.c0, hB0.out⟩ | exact ⟨(Bx.step (‹_ ∧ Bx _ _ _ _ _ _ _ _ _›.2) hb2).c0, Bx.step (‹_ ∧ Bx _ _ _ _ _ _ _ _ _›.2) hb2⟩ | exact ⟨(Bx.step (‹_ ∧ Bx _ _ _ _ _ _ _ _ _›.2) hb3).c0, Bx.step (‹_ ∧ Bx _ _ _ _ _ _ _ _ _›.2) hb3⟩) (first
    | (go_at_call 57; refine (pm_identifiers _).mono ?_; rintro e w2 ⟨B, rfl, hm2, hb2⟩; have hl2 := run_lookup_int (P := Tryz.prog) Tryz.underlying87 Tryz.underlying3 hm2 2 1 (.string idS) rfl rfl)
    | (go_at_call 56; refine (unhide kE _).mono ?_; rintro e w3 ⟨rfl, hb3⟩))
  obtain ⟨_, hx⟩ := ‹_ ∧ Bx _ _ _ _ _ _ _ _ _›
  try clear hl2
  try clear hm2
  try clear hb2
  try clear hb3
  clear hB0
  go_wp2_with fail
  refine wp_region_quietC (C := fun w' => Bx w w' w.heap.size 2 n (.slice A xs.length c) f m b) (by kernel_rfl) (by kernel_rfl) hx.drew ?_
  repeat
    refine wpQuiet_step (fun K hK => ?_)
    rw [if_pos (by rfl)]
    apply Exists.intro
    refine ⟨fun w' hw' => ?_, hK _ ?_⟩
    · have q1 := hw'.c1
      unfold Oper.quietAt
      go_simp
      first
        | done
        | exact rfl
        | (rw [if_neg (by first | omega | (simp only [ByteArray.size_append]; omega))]; first | exact ⟨rfl, rfl⟩ | (go_simp; first | done | exact rfl))
        | (go_at_call_has 55 (#[Value.int .i64 1, Value.int .i64 2]); exact (unhide k1 w').mono (fun e w2 h => ⟨h.1, hw'.step h.2⟩))
        | (go_at_call_has 55 (#[Value.int .i64 n, Value.int .i64 2]); exact (unhide k2 w').mono (fun e w2 h => ⟨h.1, hw'.step h.2⟩))
    clear hK K
    simp only [Act.put, List.setIfInBounds_toArray, List.set_cons_zero, List.set_cons_succ]
  refine wpQuiet_nil ?_
  intro w4 hw4
  clear hx
  have q0 := hw4.c0
  generalize ho1 : (⟨#[2, 64, 0, 0]⟩ : ByteArray) ++ nm ++ s0 ++ s1 = o1 at *
  have Ho1 := Lib.hid ho1
  clear ho1
  have yo : o1.size ≤ 40 := by have := Hsz.out; omega
  go_wp2_with fail
  refine wp_region_quietC (C := fun w' => Bx w w' w.heap.size 2 n (.slice A xs.length c) f m b) (by kernel_rfl) (by kernel_rfl) hw4.drew ?_
  repeat
    refine wpQuiet_step (fun K hK => ?_)
    rw [if_pos (by rfl)]
    apply Exists.intro
    refine ⟨fun w' hw' => ?_, hK _ ?_⟩
    · have q2 := hw'.c2
      unfold Oper.quietAt
      go_simp
      first
        | done
        | exact rfl
        | (rw [if_neg (by first | omega | (simp only [ByteArray.size_append]; omega))]; first | exact ⟨rfl, rfl⟩ | (go_simp; first | done | exact rfl))
        | (go_at_call_has 55 (#[Value.int .i64 8, Value.int .i64 2]); exact (unhide k3 w').mono (fun e w2 h => ⟨h.1, hw'.step h.2⟩))
        | (go_at_call_has 55 (#[Value.int .i64 (xs.length : Int), Value.int .i64 1]); exact (unhide k4 w').mono (fun e w2 h => ⟨h.1, hw'.step h.2⟩))
        | (go_at_call_has 55 (#[Value.int .i64 0, Value.int .i64 1]); exact (unhide k5 w').mono (fun e w2 h => ⟨h.1, hw'.step h.2⟩))
        | (go_at_call_has 55 (#[Value.int .i64 120, Value.int .i64 4]); exact (unhide k6 w').mono (fun e w2 h => ⟨h.1, hw'.step h.2⟩))
    clear hK K
    simp only [Act.put, List.setIfInBounds_toArray, List.set_cons_zero, List.set_cons_succ]
  refine wpQuiet_nil ?_
  intro w6 hw6
  clear hw4 q0
  have hsz3 : (o1 ++ (s2 ++ s3 ++ s4 ++ s5)).size = 48 := by
    rw [ByteArray.size_append, Hsz.out, Hsz2.out]
  generalize ho2 : o1 ++ (s2 ++ s3 ++ s4 ++ s5) = o2 at *
  have Ho2 := Lib.hid ho2
  have Hsz3 := Lib.hid hsz3
  clear ho2 hsz3
  have q2 := hw6.c2
  have hr6 : Row w6 A xs := hr.below hw6.low
  have hb6 := hw6.low
  clear hw6
  go_wp2_with fail
  have Hst := Lib.hid (show o2 = tabB o2 (xs.take 0) from rfl)
  go_loopw [5, 52] (fun o x wr => ∃ k : Nat, ∃ ob : ByteArray, k ≤ xs.length ∧ x = .int .i64 (k : Int) ∧ o = .string ob ∧ Hid (ob = tabB o2 (xs.take k)) ∧ Below w.heap.size w wr ∧ Below w6.heap.size w6 wr) (fun _ x _ => xs.length - (intOf x).toNat)
  case atStart => exact ⟨0, o2, Nat.zero_le _, rfl, rfl, Hst, hb6, Below.refl _ _⟩
  case round =>
    obtain ⟨k, ob, hk, rfl, rfl, ho, hbr, hb6r⟩ := hrel
    clear Hst hb6 q2
    by_cases hlt : k < xs.length
    · obtain ⟨a1, rfl, hc1⟩ := (hr6.below hb6r).at_ hlt
      have hob : ob.size ≤ 64 := by
        rw [ho.out, tabB_size, Hsz3.out, List.length_take]; omega
      have kt := hide (fun w => unhide kT k hlt w)
      have hyt := leS_size (xs.getD k 0).toNat 4
      have Hn := Lib.hid (show ob ++ leS (xs.getD k 0).toNat 4 = tabB o2 (xs.take (k + 1)) by rw [tabB_take hlt, ho.out])
      generalize leS (xs.getD k 0).toNat 4 = st at *
      have hy : st.size ≤ 4 := by omega
      clear hyt ho
      generalize xs.getD k 0 = x at *
      go_wp2_with (go_at_call 55; refine (unhide kt _).mono ?_; rintro e w7 ⟨rfl, hb7⟩)
      go_roundw
      case rel => exact ⟨k + 1, ob ++ st, by omega, by go_num, rfl, Hn, hbr.trans (hb7.mono hbr.size), hb6r.trans (hb7.mono hb6r.size)⟩
      case measure => simp [intOf]; omega
    · obtain rfl : k = xs.length := by omega
      have hob : ob.size = 48 + 4 * xs.length := by
        rw [ho.out, tabB_size, Hsz3.out, List.length_take]; omega
      rw [List.take_length] at ho
      have hI : (64 : Int) - (ob.size : Int) = 16 - 4 * (xs.length : Int) := by omega
      have hob2 : ob.size ≤ 64 := by omega
      clear hob
      have hwr : IntKind.i64.wrap (16 - 4 * (xs.length : Int)) = 16 - 4 * (xs.length : Int) := IntWalk.i64_in _ (by omega)
      go_wp2_with (go_at_call 58; refine (unhide kZ _).mono ?_; rintro e w5 ⟨rfl, hb5⟩)
      go_ret
      exact ⟨by rw [ho.out, Ho1.out, Ho2.out]; rfl, hbr.trans (hb5.mono hbr.size)⟩
end Go.Proofs.YtokcpammdhkecaaGreatDoor

/-
  partitionmap.bytes: the bytes of a metadata map.
-/
namespace Go.Proofs.YtokcpammdhkecaaGreatDoor
open Go.RowKit

def metB (n f m b : Int) : ByteArray := hdB idM n ++ (leS f.toNat 4 ++ leS m.toNat 4 ++ leS b.toNat 4 ++ leS 8 4 ++ leS 8 2 ++ leS 1 1) ++ zS 5
set_option maxHeartbeats 1600000 in
set_option maxRecDepth 100000 in
theorem pm_bytes_3 (n : Int) (A : Option Addr) (c : Nat) (xs : List Int) (f m b : Int) (w : World) (h0 : 0 ≤ n) (h1 : n ≤ 65535) (hf : wordB f = true) (hm : wordB m = true) (hb : wordB b = true) :
    Calls Tryz.prog 34 #[.agg #[.int .i64 3, .int .i64 n, .slice A xs.length c, .int .i64 f, .int .i64 m, .int .i64 b]] w fun e w' => e = .returned (.string (metB n f m b)) ∧ Below w.heap.size w w' := by
  have k1 : Hid (∀ w, Calls Tryz.prog 55 #[.int .i64 1, .int .i64 2] w fun e w' => e = .returned (.string (leS 1 2)) ∧ Below w.heap.size w w') := fun w => pm_little 1 2 (fits2 (by omega) (by omega)) w
  have k2 : Hid (∀ w, Calls Tryz.prog 55 #[.int .i64 n, .int .i64 2] w fun e w' => e = .returned (.string (leS n.toNat 2)) ∧ Below w.heap.size w w') := fun w => pm_little n 2 (fits2 h0 h1) w
  have kE : Hid (∀ w, Calls Tryz.prog 56 #[.string idM, .string ⟨#[1, 2]⟩] w fun e w' => e = .returned (.tuple #[.string (entS idM ⟨#[1, 2]⟩), .int .i64 (entE idM ⟨#[1, 2]⟩)]) ∧ Below w.heap.size w w') := fun w => udf_Entity idM ⟨#[1, 2]⟩ w (by decide) (by decide)
  have k3 : Hid (∀ w, Calls Tryz.prog 55 #[.int .i64 f, .int .i64 4] w fun e w' => e = .returned (.string (leS f.toNat 4)) ∧ Below w.heap.size w w') := fun w => pm_little f 4 (fits4 hf) w
  have k4 : Hid (∀ w, Calls Tryz.prog 55 #[.int .i64 m, .int .i64 4] w fun e w' => e = .returned (.string (leS m.toNat 4)) ∧ Below w.heap.size w w') := fun w => pm_little m 4 (fits4 hm) w
  have k5 : Hid (∀ w, Calls Tryz.prog 55 #[.int .i64 b, .int .i64 4] w fun e w' => e = .returned (.string (leS b.toNat 4)) ∧ Below w.heap.size w w') := fun w => pm_little b 4 (fits4 hb) w
  have k6 : Hid (∀ w, Calls Tryz.prog 55 #[.int .i64 8, .int .i64 4] w fun e w' => e = .returned (.string (leS 8 4)) ∧ Below w.heap.size w w') := fun w => pm_little 8 4 (fits4 (by decide)) w
  have k7 : Hid (∀ w, Calls Tryz.prog 55 #[.int .i64 8, .int .i64 2] w fun e w' => e = .returned (.string (leS 8 2)) ∧ Below w.heap.size w w') := fun w => pm_little 8 2 (fits2 (by decide) (by decide)) w
  have k8 : Hid (∀ w, Calls Tryz.prog 55 #[.int .i64 1, .int .i64 1] w fun e w' => e = .returned (.string (leS 1 1)) ∧ Below w.heap.size w w') := fun w => pm_little 1 1 (fitsOne (by decide) (by decide)) w
  have kZ : Hid (∀ w, Calls Tryz.prog 58 #[.string ⟨#[0]⟩, .int .i64 5] w fun e w' => e = .returned (.string (zS 5)) ∧ Below w.heap.size w w') := fun w => zeros_any 5 (by decide) (by decide) w
  have ze : (entS idM ⟨#[1, 2]⟩).size = 32 := entS_size (by decide)
  have z0 : (leS 1 2).size = 2 := leS_size _ _
  have z1 : (leS n.toNat 2).size = 2 := leS_size _ _
  have z2 : (leS f.toNat 4).size = 4 := leS_size _ _
  have z3 : (leS m.toNat 4).size = 4 := leS_size _ _
  have z4 : (leS b.toNat 4).size = 4 := leS_size _ _
  have z5 : (leS 8 4).size = 4 := leS_size _ _
  have z6 : (leS 8 2).size = 2 := leS_size _ _
  have z7 : (leS 1 1).size = 1 := leS_size _ _
  have z9 : (zS 5).size = 5 := zS_size 5
  clear hf hm hb
  unfold metB hdB
  generalize entS idM ⟨#[1, 2]⟩ = nm at *
  generalize entE idM ⟨#[1, 2]⟩ = er at *
  generalize zS 5 = zz at *
  generalize leS 1 2 = s0 at *
  generalize leS n.toNat 2 = s1 at *
  generalize leS f.toNat 4 = s2 at *
  generalize leS m.toNat 4 = s3 at *
  generalize leS b.toNat 4 = s4 at *
  generalize leS 8 4 = s5 at *
  generalize leS 8 2 = s6 at *
  generalize leS 1 1 = s7 at *
  have ye : nm.size ≤ 32 := by omega
  have y0 : s0.size ≤ 2 := by omega
  have y1 : s1.size ≤ 2 := by omega
  have y2 : s2.size ≤ 4 := by omega
  have y3 : s3.size ≤ 4 := by omega
  have y4 : s4.size ≤ 4 := by omega
  have y5 : s5.size ≤ 4 := by omega
  have y6 : s6.size ≤ 2 := by omega
  have y7 : s7.size ≤ 1 := by omega
  have y9 : zz.size ≤ 5 := by omega
  have hsz : ((⟨#[2, 64, 0, 0]⟩ : ByteArray) ++ nm ++ s0 ++ s1).size = 40 := by
    simp only [ByteArray.size_append, ze, z0, z1]
    rfl
  have hsz2 : (s2 ++ s3 ++ s4 ++ s5 ++ s6 ++ s7).size = 19 := by
    simp only [ByteArray.size_append, z2, z3, z4, z5, z6, z7]
  have Hsz := Lib.hid hsz
  have Hsz2 := Lib.hid hsz2
  clear hsz hsz2 ze z0 z1 z2 z3 z4 z5 z6 z7 z9
  go_enter Tryz.func34, Tryz.ntmps34
  go_wp2_with fail
  have B0 : Bx w (w.alloc (.cells #[.int .i64 3, .int .i64 n, (.slice A xs.length c), .int .i64 f, .int .i64 m, .int .i64 b] 65)) w.heap.size 3 n (.slice A xs.length c) f m b :=
    ⟨(Below.refl _ _).alloc (Nat.le_refl _) _, Nat.le_refl _, by simp, by simp, by simp, by simp, by simp, by simp, by simp⟩
  have hB0 := Lib.hid B0.drew
  clear B0
  go_region_held3 (fun w' => w'.cell? ⟨w.heap.size, 0, none⟩ = some (.int .i64 3) ∧ Bx w w' w.heap.size 3 n (.slice A xs.length c) f m b) (first | assumption | exact ⟨hB0.out.c0, hB0.out⟩ | exact ⟨(Bx.step (‹_ ∧ Bx _ _ _ _ _ _ _ _ _›.2) hb2).c0, Bx.step (‹_ ∧ Bx _ _ _ _ _ _ _ _ _›.2) hb2⟩ | exact ⟨(Bx.step (‹_ ∧ Bx _ _ _ _ _ _ _ _ _›.2) hb3).c0, Bx.step (‹_ ∧ Bx _ _ _ _ _ _ _ _ _›.2) hb3⟩) (first
    | (go_at_call 57; refine (pm_identifiers _).mono ?_; rintro e w2 ⟨B, rfl, hm2, hb2⟩; have hl2 := run_lookup_int (P := Tryz.prog) Tryz.underlying87 Tryz.underlying3 hm2 3 2 (.string idM) rfl rfl)
    | (go_at_call 56; refine (unhide kE _).mono ?_; rintro e w3 ⟨rfl, hb3⟩))
  obtain ⟨_, hx⟩ := ‹_ ∧ Bx _ _ _ _ _ _ _ _ _›
  try clear hl2
  try clear hm2
  try clear hb2
  try clear hb3
  clear hB0
  go_wp2_with fail
  refine wp_region_quietC (C := fun w' => Bx w w' w.heap.size 3 n (.slice A xs.length c) f m b) (by kernel_rfl) (by kernel_rfl) hx.drew ?_
  repeat
    refine wpQuiet_step (fun K hK => ?_)
    rw [if_pos (by rfl)]
    apply Exists.intro
    refine ⟨fun w' hw' => ?_, hK _ ?_⟩
    · have q1 := hw'.c1
      unfold Oper.quietAt
      go_simp
      first
        | done
        | exact rfl
        | (rw [if_neg (by first | omega | (simp only [ByteArray.size_append]; omega))]; first | exact ⟨rfl, rfl⟩ | (go_simp; first | done | exact rfl))
        | (go_at_call_has 55 (#[Value.int .i64 1, Value.int .i64 2]); exact (unhide k1 w').mono (fun e w2 h => ⟨h.1, hw'.step h.2⟩))
        | (go_at_call_has 55 (#[Value.int .i64 n, Value.int .i64 2]); exact (unhide k2 w').mono (fun e w2 h => ⟨h.1, hw'.step h.2⟩))
    clear hK K
    simp only [Act.put, List.setIfInBounds_toArray, List.set_cons_zero, List.set_cons_succ]
  refine wpQuiet_nil ?_
  intro w4 hw4
  clear hx
  have q0 := hw4.c0
  generalize ho1 : (⟨#[2, 64, 0, 0]⟩ : ByteArray) ++ nm ++ s0 ++ s1 = o1 at *
  have Ho1 := Lib.hid ho1
  clear ho1
  have yo : o1.size ≤ 40 := by have := Hsz.out; omega
  go_wp2_with fail
  refine wp_region_quietC (C := fun w' => Bx w w' w.heap.size 3 n (.slice A xs.length c) f m b) (by kernel_rfl) (by kernel_rfl) hw4.drew ?_
  repeat
    refine wpQuiet_step (fun K hK => ?_)
    rw [if_pos (by rfl)]
    apply Exists.intro
    refine ⟨fun w' hw' => ?_, hK _ ?_⟩
    · have q3 := hw'.c3
      have q4 := hw'.c4
      have q5 := hw'.c5
      unfold Oper.quietAt
      go_simp
      first
        | done
        | exact rfl
        | (rw [if_neg (by first | omega | (simp only [ByteArray.size_append]; omega))]; first | exact ⟨rfl, rfl⟩ | (go_simp; first | done | exact rfl))
        | (go_at_call_has 55 (#[Value.int .i64 f, Value.int .i64 4]); exact (unhide k3 w').mono (fun e w2 h => ⟨h.1, hw'.step h.2⟩))
        | (go_at_call_has 55 (#[Value.int .i64 m, Value.int .i64 4]); exact (unhide k4 w').mono (fun e w2 h => ⟨h.1, hw'.step h.2⟩))
        | (go_at_call_has 55 (#[Value.int .i64 b, Value.int .i64 4]); exact (unhide k5 w').mono (fun e w2 h => ⟨h.1, hw'.step h.2⟩))
        | (go_at_call_has 55 (#[Value.int .i64 8, Value.int .i64 4]); exact (unhide k6 w').mono (fun e w2 h => ⟨h.1, hw'.step h.2⟩))
        | (go_at_call_has 55 (#[Value.int .i64 8, Value.int .i64 2]); exact (unhide k7 w').mono (fun e w2 h => ⟨h.1, hw'.step h.2⟩))
        | (go_at_call_has 55 (#[Value.int .i64 1, Value.int .i64 1]); exact (unhide k8 w').mono (fun e w2 h => ⟨h.1, hw'.step h.2⟩))
    clear hK K
    simp only [Act.put, List.setIfInBounds_toArray, List.set_cons_zero, List.set_cons_succ]
  refine wpQuiet_nil ?_
  intro w6 hw6
  clear hw4 q0
  have hsz3 : (o1 ++ (s2 ++ s3 ++ s4 ++ s5 ++ s6 ++ s7)).size = 59 := by
    rw [ByteArray.size_append, Hsz.out, Hsz2.out]
  have hI : ((o1 ++ (s2 ++ s3 ++ s4 ++ s5 ++ s6 ++ s7)).size : Int) = 59 := by omega
  generalize ho2 : o1 ++ (s2 ++ s3 ++ s4 ++ s5 ++ s6 ++ s7) = o2 at *
  have Ho2 := Lib.hid ho2
  clear ho2
  go_wp2_with (go_at_call 58; refine (unhide kZ _).mono ?_; rintro e w5 ⟨rfl, hb5⟩)
  go_ret
  exact ⟨by rw [Ho1.out, Ho2.out]; rfl, (hw6.step hb5).low⟩
end Go.Proofs.YtokcpammdhkecaaGreatDoor

/-
  partitionmap.Encode.
-/
namespace Go.Proofs.YtokcpammdhkecaaGreatDoor
open Go.RowKit

/-- The bytes of a valid map. -/
def pmB (p : PM) : ByteArray :=
  if p.k = 0 then phyB p.n else if p.k = 1 then virB p.n else if p.k = 2 then spaB p.n p.xs else metB p.n p.f p.m p.b
theorem pmV_parts {p : PM} (h : pmV p = true) : (p.k = 0 ∨ p.k = 1 ∨ p.k = 2 ∨ p.k = 3) ∧ 0 ≤ p.n ∧ p.n ≤ 65535 ∧ (p.k = 2 → 1 ≤ p.xs.length ∧ p.xs.length ≤ 4) ∧ (p.k ≠ 2 → p.xs = []) ∧ (p.k ≠ 3 → p.f = 0 ∧ p.m = 0 ∧ p.b = 0) ∧
    p.xs.all wordB = true ∧ wordB p.f = true ∧ wordB p.m = true ∧ wordB p.b = true := by
  unfold pmV at h
  simp only [Bool.and_eq_true, List.all_append, List.all_cons, List.all_nil, Bool.and_true, decide_eq_true_eq, Bool.or_eq_true] at h
  obtain ⟨⟨⟨⟨h1, h2, h3, h4⟩, h5⟩, h6⟩, h7, h8, h9, h10⟩ := h
  refine ⟨by omega, h3, h4, fun e => ?_, fun e => ?_, fun e => ?_, h7, h8, h9, h10⟩
  · rw [if_pos e] at h5
    exact of_decide_eq_true h5
  · rw [if_neg e] at h5
    exact List.eq_nil_of_length_eq_zero (of_decide_eq_true h5)
  · rcases h6 with h6 | h6
    · exact absurd h6 e
    · exact h6
theorem pm_bytes (p : PM) (w : World) (hv : pmV p = true) (hw : p.Wf w) : Calls Tryz.prog 34 #[p.val] w fun e w' => e = .returned (.string (pmB p)) ∧ Below w.heap.size w w' := by
  obtain ⟨k, n, A, c, xs, f, m, b⟩ := p
  obtain ⟨h1, h3, h4, h5, h6, h7, h8, h9, h10, h11⟩ := pmV_parts hv
  simp only at h1 h3 h4 h5 h6 h7 h8 h9 h10 h11
  rcases h1 with rfl | rfl | rfl | rfl
  · exact pm_bytes_0 n A c xs f m b w h3 h4
  · exact pm_bytes_1 n A c xs f m b w h3 h4
  · exact pm_bytes_2 n A c xs f m b w h3 h4 hw.row (h5 rfl).2 h8
  · exact pm_bytes_3 n A c xs f m b w h3 h4 h9 h10 h11
theorem phyB_size (n : Int) : (phyB n).size = 6 := by
  unfold phyB
  simp only [ByteArray.size_append, leS_size]
  rfl
theorem hdB_size {i : ByteArray} (n : Int) (h : entO i ⟨#[1, 2]⟩ = true) : (hdB i n).size = 40 := by
  unfold hdB
  simp only [ByteArray.size_append, leS_size, entS_size h]
  rfl
theorem pmB_size {p : PM} (h : pmV p = true) : (pmB p).size = if p.k = 0 then 6 else 64 := by
  obtain ⟨h1, h3, h4, h5, _⟩ := pmV_parts h
  unfold pmB
  rcases h1 with e | e | e | e
  · rw [if_pos e, if_pos e, phyB_size]
  · rw [if_neg (by omega), if_pos e, if_neg (by omega)]
    unfold virB
    rw [ByteArray.size_append, hdB_size _ (by decide), zS_size]
  · rw [if_neg (by omega), if_neg (by omega), if_pos e, if_neg (by omega)]
    unfold spaB
    have := h5 e
    rw [ByteArray.size_append, tabB_size, zS_size]
    simp only [ByteArray.size_append, leS_size]
    rw [hdB_size _ (by decide)]
    omega
  · rw [if_neg (by omega), if_neg (by omega), if_neg (by omega), if_neg (by omega)]
    unfold metB
    simp only [ByteArray.size_append, leS_size, zS_size]
    rw [hdB_size _ (by decide)]
/-- The bytes of maps. -/
def encB (ps : List PM) : ByteArray := ps.foldl (fun s p => s ++ pmB p) ⟨#[]⟩
theorem encB_take {ps : List PM} {k : Nat} (hk : k < ps.length) : encB (ps.take (k + 1)) = encB (ps.take k) ++ pmB ps[k] := by
  unfold encB
  rw [List.take_succ_eq_append_getElem hk, List.foldl_append]
  rfl
theorem encB_size {ps : List PM} (h : ps.all pmV = true) : ∀ k, (encB (ps.take k)).size ≤ 64 * k
  | 0 => Nat.le_refl _
  | k + 1 => by
    by_cases hk : k < ps.length
    · rw [encB_take hk, ByteArray.size_append, pmB_size (List.all_eq_true.1 h _ (List.getElem_mem hk))]
      have := encB_size h k
      split <;> omega
    · rw [List.take_of_length_le (by omega)]
      have := encB_size h k
      rw [List.take_of_length_le (by omega)] at this
      omega
def encS (ps : List PM) : ByteArray := if pmA ps = true then encB ps else ⟨#[]⟩
def encE (ps : List PM) : Int := if pmA ps = true then 0 else 1
set_option maxHeartbeats 1600000 in
set_option maxRecDepth 100000 in
theorem pm_Encode (A : Option Addr) (c : Nat) (ps : List PM) (w : World) (hr : PRow w A ps) (hl : ps.length ≤ 9223372036854775807) :
    Calls Tryz.prog 17 #[.slice A ps.length c] w fun e w' => e = .returned (.tuple #[.string (encS ps), .int .i64 (encE ps)]) ∧ Below w.heap.size w w' := by
  have kA := pm_all A c ps w hr hl
  cases ha : pmA ps with
  | false =>
    rw [ha] at kA
    have kA := hide kA
    have e1 : encS ps = ⟨#[]⟩ := by unfold encS; rw [ha]; rfl
    have e2 : encE ps = 1 := by unfold encE; rw [ha]; rfl
    rw [e1, e2]
    clear e1 e2 ha hr
    go_enter Tryz.func17, Tryz.ntmps17
    go_wp2_with (go_at_call 33; refine (unhide kA).mono ?_; rintro e w2 ⟨rfl, hb2⟩)
    go_ret2
    exact ⟨rfl, hb2⟩
  | true =>
    rw [ha] at kA
    have kA := hide kA
    have e1 : encS ps = encB ps := by unfold encS; rw [if_pos ha]
    have e2 : encE ps = 0 := by unfold encE; rw [if_pos ha]
    rw [e1, e2]
    unfold pmA at ha
    rw [Bool.and_eq_true, decide_eq_true_eq] at ha
    obtain ⟨h4, hall⟩ := ha
    clear e1 e2
    have hs := hide (encB_size hall)
    have Hall := Lib.hid hall
    clear hall
    go_enter Tryz.func17, Tryz.ntmps17
    go_wp2_with (go_at_call 33; refine (unhide kA).mono ?_; rintro e w2 ⟨rfl, hb2⟩)
    go_loopw [4, 12] (fun o x wr => ∃ k : Nat, ∃ ob : ByteArray, k ≤ ps.length ∧ x = .int .i64 (k : Int) ∧ o = .string ob ∧ Hid (ob = encB (ps.take k)) ∧ Below w.heap.size w wr) (fun _ x _ => ps.length - (intOf x).toNat)
    case atStart => exact ⟨0, _, Nat.zero_le _, rfl, rfl, Lib.hid rfl, hb2⟩
    case round =>
      obtain ⟨k, ob, hk, rfl, rfl, ho, hb⟩ := hrel
      by_cases hlt : k < ps.length
      · have hr1 := hr.below hb
        obtain ⟨a1, rfl, c0, c1, c2, c3, c4, c5⟩ := hr1.at_ hlt
        have hob : ob.size ≤ 256 := by rw [ho.out]; have := unhide hs k; omega
        have hpv := List.all_eq_true.1 Hall.out _ (List.getElem_mem hlt)
        have hyt : (pmB ps[k]).size ≤ 64 := by rw [pmB_size hpv]; split <;> omega
        have Hn := Lib.hid (show ob ++ pmB ps[k] = encB (ps.take (k + 1)) by rw [encB_take hlt, ho.out])
        have kN := fun (w2 : World) (hb : Below wr.heap.size wr w2) => pm_bytes ps[k] w2 hpv ((hr1.wf ps[k] (List.getElem_mem hlt)).below hb)
        simp only [PM.val, PM.cells] at kN
        have kN := hide kN
        have B1 := hide (fun o : Obj => (Below.refl wr.heap.size wr).alloc (Nat.le_refl _) o)
        generalize pmB ps[k] = st at *
        clear hpv hr1
        generalize ps[k] = p at *
        clear ho
        go_wp2_with (go_at_call 34; refine (unhide kN _ (unhide B1 _)).mono ?_; rintro e w7 ⟨rfl, hb7⟩)
        go_roundw
        case rel => exact ⟨k + 1, ob ++ st, by omega, by go_num, rfl, Hn, hb.trans ((unhide B1 _).trans (hb7.mono (unhide B1 _).size) |>.mono hb.size)⟩
        case measure => simp [intOf]; omega
      · obtain rfl : k = ps.length := by omega
        rw [List.take_length] at ho
        go_wp2
        go_ret2
        exact ⟨by rw [ho.out]; rfl, hb⟩
end Go.Proofs.YtokcpammdhkecaaGreatDoor
