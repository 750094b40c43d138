/-
  The reference's Dstring; both at every size.
-/
import Derived.Test.YtgejjnbgeiappaaDoorUdf3
namespace Go.Proofs.YtgejjnbgeiappaaDoor
open Go.RowKit Go.Proofs.YtgejjnbgeiappaaDoorW.PrintWords

set_option maxHeartbeats 1600000 in
set_option maxRecDepth 100000 in
theorem ref_Dstring_ok (s : ByteArray) (size : Int) (w : World) (hs : s.size ≤ 65536) (h2 : 2 ≤ size) (h255 : size ≤ 255) {cs : List Nat} (hc : Ch.chars s.data.toList = some cs) (hl : ((Ch.comp cs).length : Int) ≤ size - 1) :
    Calls Tryd.prog 16 #[.string s, .int .i64 size] w fun e w' => e = .returned (.tuple #[.string (dstS s size), .int .i64 (dstE s size)]) ∧ Below w.heap.size w w' := by
  have kC := ref_Compress s w hs
  obtain ⟨t1, t2⟩ := compS_some hc
  rw [t1, t2] at kC
  obtain ⟨c, hcc⟩ : ∃ c : ByteArray, c = ⟨(Ch.comp cs).toArray⟩ := ⟨_, rfl⟩
  have hcs : (c.size : Int) ≤ size - 1 := by rw [hcc, Lib.size_eq]; exact hl
  rw [← hcc] at kC
  have KC := hide kC
  have HCC := Lib.hid hcc
  have HC := Lib.hid hc
  have HL := Lib.hid hl
  clear kC t1 t2 hcc hc hl
  go_enter Tryd.func16, Tryd.ntmps16
  go_wp2_with (first | (go_at_call 12; refine (unhide KC).mono ?_; rintro e w2 ⟨rfl, hb2⟩) | go_in)
  have hw1 : IntKind.i64.wrap (size - 1) = size - 1 := IntWalk.i64_in _ (by omega)
  have hw2 : IntKind.i64.wrap (size - 1 - (c.size : Int)) = size - 1 - (c.size : Int) := IntWalk.i64_in _ (by omega)
  have hw3 : IntKind.u8.wrap (c.size : Int) = (c.size : Int) := by rw [IntKind.wrap_u8]; omega
  have hn0 : 0 ≤ size - 1 - (c.size : Int) := by omega
  have hn1 : size - 1 - (c.size : Int) ≤ 1000 := by omega
  have hcz : c.size ≤ 1000 := by omega
  have kZ := ref_zeros _ hn0 hn1
  obtain ⟨Z, hZ⟩ : ∃ Z, Z = zS (size - 1 - (c.size : Int)).toNat := ⟨_, rfl⟩
  have hzz : Z.size ≤ 1000 := by rw [hZ, zS_size]; omega
  rw [← hZ] at kZ
  have KZ := hide kZ
  have HZ := Lib.hid hZ
  clear hZ kZ
  have hadd : c.size + Z.size ≤ 9223372036854775807 := by omega
  have hcv := conv_one c.size
  obtain ⟨CB, hCB⟩ : ∃ CB : ByteArray, CB = ⟨#[UInt8.ofNat c.size]⟩ := ⟨_, rfl⟩
  have hcb : CB.size = 1 := by rw [hCB]; rfl
  rw [← hCB] at hcv
  have HCB := Lib.hid hCB
  have HF := Lib.hid (dst_ok (s := s) (size := size) HC.out HL.out h2 h255 HCC.out HZ.out hCB)
  clear hCB
  have hadd2 : c.size + Z.size + CB.size ≤ 9223372036854775807 := by omega
  have Hcb := Lib.hid hcb
  clear hcb
  go_region_with (go_at_call 43; refine (unhide KZ _).mono ?_; rintro e w3 ⟨rfl, hb3⟩; have hb4 := bcell hb3)
  all_goals (try go_wp2)
  all_goals go_ret2
  all_goals refine ⟨by rw [HF.out.1, HF.out.2]; rfl, ?_⟩
  all_goals first
    | exact (hb2.drew.trans (hb3.mono hb2.size)).alloc (Nat.le_trans hb2.size hb3.size) _
    | exact ((hb2.alloc hb2.size _).drew).trans (hb3.mono (by have := hb2.size; simp; omega))

theorem dst_arg {s : ByteArray} {size : Int} (h : size < 2 ∨ 255 < size) : dstS s size = ⟨#[]⟩ ∧ dstE s size = 1 := by
  unfold dstS dstE; rw [if_pos h, if_pos h]; exact ⟨rfl, rfl⟩
theorem dst_syntax {s : ByteArray} {size : Int} (h2 : 2 ≤ size) (h255 : size ≤ 255) (hc : Ch.chars s.data.toList = none) : dstS s size = ⟨#[]⟩ ∧ dstE s size = 3 := by
  unfold dstS dstE; rw [if_neg (by omega), if_neg (by omega), hc]; exact ⟨rfl, rfl⟩
theorem dst_full {s : ByteArray} {size : Int} (h2 : 2 ≤ size) (h255 : size ≤ 255) {cs : List Nat} (hc : Ch.chars s.data.toList = some cs) (hl : size - 1 < ((Ch.comp cs).length : Int)) : dstS s size = ⟨#[]⟩ ∧ dstE s size = 12 := by
  unfold dstS dstE; rw [if_neg (by omega), if_neg (by omega), hc]; simp only; rw [if_pos hl, if_pos hl]; exact ⟨rfl, rfl⟩

set_option maxHeartbeats 1600000 in
set_option maxRecDepth 100000 in
theorem udf_Dstring (s : ByteArray) (size : Int) (w : World) (hT : Tabs w) (hs : s.size ≤ 65536) :
    Calls Tryd.prog 15 #[.string s, .int .i64 size] w fun e w' => e = .returned (.tuple #[.string (dstS s size), .int .i64 (dstE s size)]) ∧ Below w.heap.size w w' := by
  by_cases h2 : 2 ≤ size
  · by_cases h255 : size ≤ 255
    · cases hc : Ch.chars s.data.toList with
      | none =>
        obtain ⟨t1, t2⟩ := compS_none hc
        obtain ⟨r1, r2⟩ := dst_syntax h2 h255 hc
        have kC := udf_Compress s w hT hs
        rw [t1, t2] at kC
        rw [r1, r2]
        have KC := hide kC
        clear kC t1 t2 r1 r2 hc
        go_enter Tryd.func15, Tryd.ntmps15
        go_wp2_with (first | (go_at_call 11; refine (unhide KC).mono ?_; rintro e w2 ⟨rfl, hb2⟩) | go_in)
        go_ret2
        exact ⟨rfl, hb2⟩
      | some cs =>
        by_cases hl : ((Ch.comp cs).length : Int) ≤ size - 1
        · exact udf_Dstring_ok s size w hT hs h2 h255 hc hl
        · obtain ⟨t1, t2⟩ := compS_some hc
          obtain ⟨r1, r2⟩ := dst_full h2 h255 hc (by omega)
          have kC := udf_Compress s w hT hs
          rw [t1, t2] at kC
          rw [r1, r2]
          obtain ⟨c, hcc⟩ : ∃ c : ByteArray, c = ⟨(Ch.comp cs).toArray⟩ := ⟨_, rfl⟩
          have hcs : size - 1 < (c.size : Int) := by
            rw [hcc, Lib.size_eq]
            show size - 1 < ((Ch.comp cs).length : Int)
            omega
          rw [← hcc] at kC
          have KC := hide kC
          have HC := Lib.hid hc
          have HL := Lib.hid hl
          clear kC t1 t2 r1 r2 hcc hc hl
          go_enter Tryd.func15, Tryd.ntmps15
          go_wp2_with (first | (go_at_call 11; refine (unhide KC).mono ?_; rintro e w2 ⟨rfl, hb2⟩) | go_in)
          go_ret2
          exact ⟨rfl, hb2⟩
    · obtain ⟨r1, r2⟩ := dst_arg (s := s) (size := size) (by omega)
      rw [r1, r2]
      clear r1 r2
      have h3 : 255 < size := by omega
      go_enter Tryd.func15, Tryd.ntmps15
      go_wp2_with go_in
      go_ret2
      exact ⟨rfl, Below.refl _ _⟩
  · obtain ⟨r1, r2⟩ := dst_arg (s := s) (size := size) (by omega)
    rw [r1, r2]
    clear r1 r2
    have h3 : size < 2 := by omega
    go_enter Tryd.func15, Tryd.ntmps15
    go_wp2_with go_in
    go_ret2
    exact ⟨rfl, Below.refl _ _⟩

set_option maxHeartbeats 1600000 in
set_option maxRecDepth 100000 in
theorem ref_Dstring (s : ByteArray) (size : Int) (w : World) (hs : s.size ≤ 65536) :
    Calls Tryd.prog 16 #[.string s, .int .i64 size] w fun e w' => e = .returned (.tuple #[.string (dstS s size), .int .i64 (dstE s size)]) ∧ Below w.heap.size w w' := by
  by_cases h2 : 2 ≤ size
  · by_cases h255 : size ≤ 255
    · cases hc : Ch.chars s.data.toList with
      | none =>
        obtain ⟨t1, t2⟩ := compS_none hc
        obtain ⟨r1, r2⟩ := dst_syntax h2 h255 hc
        have kC := ref_Compress s w hs
        rw [t1, t2] at kC
        rw [r1, r2]
        have KC := hide kC
        clear kC t1 t2 r1 r2 hc
        go_enter Tryd.func16, Tryd.ntmps16
        go_wp2_with (first | (go_at_call 12; refine (unhide KC).mono ?_; rintro e w2 ⟨rfl, hb2⟩) | go_in)
        go_ret2
        exact ⟨rfl, hb2⟩
      | some cs =>
        by_cases hl : ((Ch.comp cs).length : Int) ≤ size - 1
        · exact ref_Dstring_ok s size w hs h2 h255 hc hl
        · obtain ⟨t1, t2⟩ := compS_some hc
          obtain ⟨r1, r2⟩ := dst_full h2 h255 hc (by omega)
          have kC := ref_Compress s w hs
          rw [t1, t2] at kC
          rw [r1, r2]
          obtain ⟨c, hcc⟩ : ∃ c : ByteArray, c = ⟨(Ch.comp cs).toArray⟩ := ⟨_, rfl⟩
          have hcs : size - 1 < (c.size : Int) := by
            rw [hcc, Lib.size_eq]
            show size - 1 < ((Ch.comp cs).length : Int)
            omega
          rw [← hcc] at kC
          have KC := hide kC
          have HC := Lib.hid hc
          have HL := Lib.hid hl
          clear kC t1 t2 r1 r2 hcc hc hl
          go_enter Tryd.func16, Tryd.ntmps16
          go_wp2_with (first | (go_at_call 12; refine (unhide KC).mono ?_; rintro e w2 ⟨rfl, hb2⟩) | go_in)
          go_ret2
          exact ⟨rfl, hb2⟩
    · obtain ⟨r1, r2⟩ := dst_arg (s := s) (size := size) (by omega)
      rw [r1, r2]
      clear r1 r2
      have h3 : 255 < size := by omega
      go_enter Tryd.func16, Tryd.ntmps16
      go_wp2_with go_in
      go_ret2
      exact ⟨rfl, Below.refl _ _⟩
  · obtain ⟨r1, r2⟩ := dst_arg (s := s) (size := size) (by omega)
    rw [r1, r2]
    clear r1 r2
    have h3 : size < 2 := by omega
    go_enter Tryd.func16, Tryd.ntmps16
    go_wp2_with go_in
    go_ret2
    exact ⟨rfl, Below.refl _ _⟩
end Go.Proofs.YtgejjnbgeiappaaDoor
