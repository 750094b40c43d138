/-
  charset.WideField and the reference's: a field in UCS-2.
-/
import Derived.Test.YteiidcoapgnoaaaDoorUcsW
import Derived.Test.YteiidcoapgnoaaaDoorRefWide
import Derived.Test.YteiidcoapgnoaaaDoorRefFld
namespace Go.Proofs.YteiidcoapgnoaaaDoor
open Go.RowKit Go.Proofs.YteiidcoapgnoaaaDoorW.PrintWords

def bS (k : Nat) : ByteArray := ⟨(blkL k).toArray⟩
theorem blkL_len (k : Nat) : (blkL k).length = 2 * k := by unfold blkL; rw [Ch.ucs_length, List.length_replicate]
theorem bS_size (k : Nat) : (bS k).size = 2 * k := by rw [Lib.size_eq]; exact blkL_len k
theorem blkL_succ (k : Nat) : blkL (k + 1) = [0, 32] ++ blkL k := by
  unfold blkL
  rw [List.replicate_succ, Ch.ucs_cons]
  rfl
theorem repeatL_blk : ∀ k, Lib.repeatL [0, 32] k = blkL k
  | 0 => rfl
  | k + 1 => by rw [blkL_succ, ← repeatL_blk k]; rfl
theorem repN_blk : ∀ k, repN [0, 32] k = blkL k
  | 0 => rfl
  | k + 1 => by rw [blkL_succ, ← repN_blk k]; rfl
theorem repN_zero (k : Nat) : (⟨(repN [0] k).toArray⟩ : ByteArray) = repS 0 k := by unfold repS; rw [repN_one]
theorem rep_blk (k : Nat) (h : k ≤ 100000) (w : World) : Calls Tryd.prog 53 #[.string ⟨#[0, 32]⟩, .int .i64 (k : Int)] w fun e w' => e = .returned (.string (bS k)) ∧ Below w.heap.size w w' := by
  have hs : (⟨#[0, 32]⟩ : ByteArray).size = 2 := rfl
  refine (Tryd.strings_Repeat ⟨#[0, 32]⟩ k w (by omega) (by rw [hs]; omega)).mono fun e w' hh => ⟨?_, hh.2⟩
  rw [hh.1]
  show Ending.returned (.string ⟨(Lib.repeatL [0, 32] k).toArray⟩) = _
  rw [repeatL_blk]
  rfl
theorem refrep_blk (k : Nat) (h : k ≤ 100000) (w : World) : Calls Tryd.prog 54 #[.string ⟨#[0, 32]⟩, .int .i64 (k : Int)] w fun e w' => e = .returned (.string (bS k)) ∧ Below w.heap.size w w' := by
  refine (ref_Repeat ⟨#[0, 32]⟩ (by decide) (k : Int) (by omega) (by omega) w).mono fun e w' hh => ⟨?_, hh.2⟩
  rw [hh.1, Int.toNat_natCast]
  show Ending.returned (.string ⟨(repN [0, 32] k).toArray⟩) = _
  rw [repN_blk]
  rfl
theorem rep_zero (k : Nat) (h : k ≤ 100000) (w : World) : Calls Tryd.prog 53 #[.string ⟨#[0]⟩, .int .i64 (k : Int)] w fun e w' => e = .returned (.string (repS 0 k)) ∧ Below w.heap.size w w' := by
  have := rep_any 0 (k : Int) (by omega) (by omega) w
  rwa [Int.toNat_natCast] at this
theorem refrep_zero (k : Nat) (h : k ≤ 100000) (w : World) : Calls Tryd.prog 54 #[.string ⟨#[0]⟩, .int .i64 (k : Int)] w fun e w' => e = .returned (.string (repS 0 k)) ∧ Below w.heap.size w w' := by
  refine (ref_Repeat ⟨#[0]⟩ (by decide) (k : Int) (by omega) (by omega) w).mono fun e w' hh => ⟨?_, hh.2⟩
  rw [hh.1, Int.toNat_natCast]
  show Ending.returned (.string ⟨(repN [0] k).toArray⟩) = _
  rw [repN_zero]

theorem wfd_err {s : ByteArray} {n : Int} (h : ucsE s ≠ 0) : wfdS s n = ⟨#[]⟩ ∧ wfdE s n = ucsE s := by
  unfold wfdS wfdE; rw [if_pos h, if_pos h]; exact ⟨rfl, rfl⟩
theorem wfd_range {s : ByteArray} {n : Int} (h : ucsE s = 0) (hn : n < 0 ∨ 65536 < n) : wfdS s n = ⟨#[]⟩ ∧ wfdE s n = 2 := by
  unfold wfdS wfdE; rw [if_neg (show ¬ (ucsE s ≠ 0) from fun e => e h), if_neg (show ¬ (ucsE s ≠ 0) from fun e => e h), if_pos hn, if_pos hn]; exact ⟨rfl, rfl⟩
theorem wfd_full {s : ByteArray} {n : Int} (h : ucsE s = 0) (hn : ¬ (n < 0 ∨ 65536 < n)) (hf : n < ((ucsS s).size : Int)) : wfdS s n = ⟨#[]⟩ ∧ wfdE s n = 12 := by
  unfold wfdS wfdE; rw [if_neg (show ¬ (ucsE s ≠ 0) from fun e => e h), if_neg (show ¬ (ucsE s ≠ 0) from fun e => e h), if_neg hn, if_neg hn, if_pos hf, if_pos hf]; exact ⟨rfl, rfl⟩
theorem wfd_ok {s : ByteArray} {m : Nat} (h : ucsE s = 0) (hn : (ucsS s).size + m ≤ 65536) : wfdS s (((ucsS s).size + m : Nat) : Int) = ucsS s ++ bS (m / 2) ++ repS 0 (m % 2) ∧ wfdE s (((ucsS s).size + m : Nat) : Int) = 0 := by
  unfold wfdS wfdE
  rw [if_neg (show ¬ (ucsE s ≠ 0) from fun e => e h), if_neg (show ¬ (ucsE s ≠ 0) from fun e => e h), if_neg (by omega), if_neg (by omega), if_neg (by omega), if_neg (by omega), Int.toNat_natCast, Nat.add_sub_cancel_left]
  exact ⟨rfl, rfl⟩

set_option maxHeartbeats 1600000 in
set_option maxRecDepth 100000 in
theorem udf_WideField (s : ByteArray) (n : Int) (w : World) (hT : Tabs w) :
    Calls Tryd.prog 31 #[.string s, .int .i64 n] w fun e w' => e = .returned (.tuple #[.string (wfdS s n), .int .i64 (wfdE s n)]) ∧ Below w.heap.size w w' := by
  have kU := hide (udf_Ucs2 s w hT)
  by_cases h0 : ucsE s = 0
  · by_cases h2 : n < 0 ∨ 65536 < n
    · obtain ⟨r1, r2⟩ := wfd_range h0 h2
      rw [r1, r2]
      clear r1 r2
      have q : (ucsE s != 0) = false := by rw [bne_eq_false_iff_eq]; exact h0
      generalize ucsE s = E at *
      generalize ucsS s = U at *
      clear h0
      rcases h2 with h2 | h2
      · go_enter Tryd.func31, Tryd.ntmps31
        go_wp2_with fail
        refine (unhide kU).mono ?_
        rintro e w1 ⟨rfl, hb1⟩
        go_wp2_with fail
        go_ret2
        exact ⟨rfl, hb1⟩
      · have h3 : ¬ n < 0 := by omega
        go_enter Tryd.func31, Tryd.ntmps31
        go_wp2_with fail
        refine (unhide kU).mono ?_
        rintro e w1 ⟨rfl, hb1⟩
        go_wp2_with fail
        go_ret2
        exact ⟨rfl, hb1⟩
    · have h3 : 0 ≤ n := by omega
      have h4 : n ≤ 65536 := by omega
      have q : (ucsE s != 0) = false := by rw [bne_eq_false_iff_eq]; exact h0
      by_cases h5 : n < ((ucsS s).size : Int)
      · obtain ⟨r1, r2⟩ := wfd_full h0 h2 h5
        rw [r1, r2]
        clear r1 r2 h2
        generalize ucsE s = E at *
        generalize ucsS s = U at *
        clear h0
        go_enter Tryd.func31, Tryd.ntmps31
        go_wp2_with fail
        refine (unhide kU).mono ?_
        rintro e w1 ⟨rfl, hb1⟩
        go_wp2_with fail
        go_ret2
        exact ⟨rfl, hb1⟩
      · obtain ⟨m, rfl⟩ : ∃ m : Nat, n = (((ucsS s).size + m : Nat) : Int) := ⟨(n - ((ucsS s).size : Int)).toNat, by omega⟩
        obtain ⟨r1, r2⟩ := wfd_ok (m := m) h0 (by omega)
        rw [r1, r2]
        clear r1 r2 h2 h5
        generalize ucsE s = E at *
        generalize ucsS s = U at *
        have hm : U.size + m ≤ 65536 := by omega
        clear h0 h3 h4
        have hz : (bS (m / 2)).size = 2 * (m / 2) := bS_size _
        have hz2 : (repS 0 (m % 2)).size = m % 2 := repS_size _ _
        have kB : Hid (∀ w, Calls Tryd.prog 53 #[.string ⟨#[0, 32]⟩, .int .i64 (((U.size : Int) + (m : Int) - (U.size : Int)) / 2)] w fun e w' => e = .returned (.string (bS (m / 2))) ∧ Below w.heap.size w w') := by
          intro w
          rw [show ((U.size : Int) + (m : Int) - (U.size : Int)) / 2 = ((m / 2 : Nat) : Int) from by omega]
          exact rep_blk (m / 2) (by omega) w
        have kZ : Hid (∀ w, Calls Tryd.prog 53 #[.string ⟨#[0]⟩, .int .i64 ((U.size : Int) + (m : Int) - ((U.size : Int) + ((bS (m / 2)).size : Int)))] w fun e w' => e = .returned (.string (repS 0 (m % 2))) ∧ Below w.heap.size w w') := by
          intro w
          rw [show (U.size : Int) + (m : Int) - ((U.size : Int) + ((bS (m / 2)).size : Int)) = ((m % 2 : Nat) : Int) from by omega]
          exact rep_zero (m % 2) (by omega) w
        have hz1 : (bS (m / 2)).size ≤ 65536 := by omega
        have hz3 : (repS 0 (m % 2)).size ≤ 1 := by omega
        clear hz hz2
        generalize bS (m / 2) = B at *
        generalize repS 0 (m % 2) = Z at *
        go_enter Tryd.func31, Tryd.ntmps31
        go_wp2_with fail
        refine (unhide kU).mono ?_
        rintro e w1 ⟨rfl, hb1⟩
        go_wp2_with fail
        refine (unhide kB _).mono ?_
        rintro e w2 ⟨rfl, hb2⟩
        go_wp2_with fail
        refine (unhide kZ _).mono ?_
        rintro e w3 ⟨rfl, hb3⟩
        go_wp2_with fail
        go_ret2
        exact ⟨rfl, hb1.trans ((hb2.trans (hb3.mono hb2.size)).mono hb1.size)⟩
  · obtain ⟨r1, r2⟩ := wfd_err (n := n) h0
    rw [r1, r2]
    clear r1 r2
    have q : (ucsE s != 0) = true := by rw [bne_iff_ne]; exact h0
    generalize ucsE s = E at *
    generalize ucsS s = U at *
    clear h0
    go_enter Tryd.func31, Tryd.ntmps31
    go_wp2_with fail
    refine (unhide kU).mono ?_
    rintro e w1 ⟨rfl, hb1⟩
    go_wp2_with fail
    go_ret2
    exact ⟨rfl, hb1⟩

set_option maxHeartbeats 1600000 in
set_option maxRecDepth 100000 in
theorem ref_WideField (s : ByteArray) (n : Int) (w : World) :
    Calls Tryd.prog 32 #[.string s, .int .i64 n] w fun e w' => e = .returned (.tuple #[.string (wfdS s n), .int .i64 (wfdE s n)]) ∧ Below w.heap.size w w' := by
  have kU := hide (ref_Ucs2 s w)
  by_cases h0 : ucsE s = 0
  · by_cases h2 : n < 0 ∨ 65536 < n
    · obtain ⟨r1, r2⟩ := wfd_range h0 h2
      rw [r1, r2]
      clear r1 r2
      have q : (ucsE s != 0) = false := by rw [bne_eq_false_iff_eq]; exact h0
      generalize ucsE s = E at *
      generalize ucsS s = U at *
      clear h0
      rcases h2 with h2 | h2
      · go_enter Tryd.func32, Tryd.ntmps32
        go_wp2_with fail
        refine (unhide kU).mono ?_
        rintro e w1 ⟨rfl, hb1⟩
        go_wp2_with fail
        go_ret2
        exact ⟨rfl, hb1⟩
      · have h3 : ¬ n < 0 := by omega
        go_enter Tryd.func32, Tryd.ntmps32
        go_wp2_with fail
        refine (unhide kU).mono ?_
        rintro e w1 ⟨rfl, hb1⟩
        go_wp2_with fail
        go_ret2
        exact ⟨rfl, hb1⟩
    · have h3 : 0 ≤ n := by omega
      have h4 : n ≤ 65536 := by omega
      have q : (ucsE s != 0) = false := by rw [bne_eq_false_iff_eq]; exact h0
      by_cases h5 : n < ((ucsS s).size : Int)
      · obtain ⟨r1, r2⟩ := wfd_full h0 h2 h5
        rw [r1, r2]
        clear r1 r2 h2
        generalize ucsE s = E at *
        generalize ucsS s = U at *
        clear h0
        go_enter Tryd.func32, Tryd.ntmps32
        go_wp2_with fail
        refine (unhide kU).mono ?_
        rintro e w1 ⟨rfl, hb1⟩
        go_wp2_with fail
        go_ret2
        exact ⟨rfl, hb1⟩
      · obtain ⟨m, rfl⟩ : ∃ m : Nat, n = (((ucsS s).size + m : Nat) : Int) := ⟨(n - ((ucsS s).size : Int)).toNat, by omega⟩
        obtain ⟨r1, r2⟩ := wfd_ok (m := m) h0 (by omega)
        rw [r1, r2]
        clear r1 r2 h2 h5
        generalize ucsE s = E at *
        generalize ucsS s = U at *
        have hm : U.size + m ≤ 65536 := by omega
        clear h0 h3 h4
        have hz : (bS (m / 2)).size = 2 * (m / 2) := bS_size _
        have hz2 : (repS 0 (m % 2)).size = m % 2 := repS_size _ _
        have kB : Hid (∀ w, Calls Tryd.prog 54 #[.string ⟨#[0, 32]⟩, .int .i64 (((U.size : Int) + (m : Int) - (U.size : Int)) / 2)] w fun e w' => e = .returned (.string (bS (m / 2))) ∧ Below w.heap.size w w') := by
          intro w
          rw [show ((U.size : Int) + (m : Int) - (U.size : Int)) / 2 = ((m / 2 : Nat) : Int) from by omega]
          exact refrep_blk (m / 2) (by omega) w
        have kZ : Hid (∀ w, Calls Tryd.prog 54 #[.string ⟨#[0]⟩, .int .i64 ((U.size : Int) + (m : Int) - ((U.size : Int) + ((bS (m / 2)).size : Int)))] w fun e w' => e = .returned (.string (repS 0 (m % 2))) ∧ Below w.heap.size w w') := by
          intro w
          rw [show (U.size : Int) + (m : Int) - ((U.size : Int) + ((bS (m / 2)).size : Int)) = ((m % 2 : Nat) : Int) from by omega]
          exact refrep_zero (m % 2) (by omega) w
        have hz1 : (bS (m / 2)).size ≤ 65536 := by omega
        have hz3 : (repS 0 (m % 2)).size ≤ 1 := by omega
        clear hz hz2
        generalize bS (m / 2) = B at *
        generalize repS 0 (m % 2) = Z at *
        go_enter Tryd.func32, Tryd.ntmps32
        go_wp2_with fail
        refine (unhide kU).mono ?_
        rintro e w1 ⟨rfl, hb1⟩
        go_wp2_with fail
        refine (unhide kB _).mono ?_
        rintro e w2 ⟨rfl, hb2⟩
        go_wp2_with fail
        refine (unhide kZ _).mono ?_
        rintro e w3 ⟨rfl, hb3⟩
        go_wp2_with fail
        go_ret2
        exact ⟨rfl, hb1.trans ((hb2.trans (hb3.mono hb2.size)).mono hb1.size)⟩
  · obtain ⟨r1, r2⟩ := wfd_err (n := n) h0
    rw [r1, r2]
    clear r1 r2
    have q : (ucsE s != 0) = true := by rw [bne_iff_ne]; exact h0
    generalize ucsE s = E at *
    generalize ucsS s = U at *
    clear h0
    go_enter Tryd.func32, Tryd.ntmps32
    go_wp2_with fail
    refine (unhide kU).mono ?_
    rintro e w1 ⟨rfl, hb1⟩
    go_wp2_with fail
    go_ret2
    exact ⟨rfl, hb1⟩
end Go.Proofs.YteiidcoapgnoaaaDoor
