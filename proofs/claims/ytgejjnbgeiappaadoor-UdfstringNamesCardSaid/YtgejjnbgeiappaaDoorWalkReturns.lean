/-
  The walk of UdfstringReturns: it returns true.
-/
import Derived.Test.YtgejjnbgeiappaaDoorAwake32
namespace Go.Proofs.YtgejjnbgeiappaaDoor
open Go.RowKit Go.Proofs.YtgejjnbgeiappaaDoorW.PrintWords

theorem chars_back {s : ByteArray} {cs : List Nat} (hc : Ch.chars s.data.toList = some cs) : s = ⟨(Ch.encs cs).toArray⟩ := by
  have h := (Ch.chars_iff.1 hc).2
  apply ByteArray.ext
  rw [← h]
theorem exp_comp {s : ByteArray} {cs : List Nat} (hc : Ch.chars s.data.toList = some cs) : expS ⟨(Ch.comp cs).toArray⟩ = s ∧ expE ⟨(Ch.comp cs).toArray⟩ = 0 := by
  have h := Ch.expand_comp (Ch.chars_iff.1 hc).1
  unfold expS expE
  have e : (⟨(Ch.comp cs).toArray⟩ : ByteArray).data.toList = Ch.comp cs := rfl
  rw [e, h]
  exact ⟨(chars_back hc).symm, rfl⟩
theorem comp_size {s : ByteArray} {cs : List Nat} (hc : Ch.chars s.data.toList = some cs) : (Ch.comp cs).length ≤ 1 + 2 * s.size := by
  have h := (chars_small hc).2
  rw [Ch.comp_length]
  repeat' split
  all_goals omega
theorem field_length (d : List UInt8) (n : Nat) (h : d.length + 1 ≤ n) : (Ch.field d n).length = n := by
  unfold Ch.field
  simp only [List.length_append, List.length_replicate, List.length_cons, List.length_nil]
  omega
/-- What ParseDstring gives at a field of Dstring. -/
theorem pds_field {s : ByteArray} {size : Int} {cs : List Nat} (hc : Ch.chars s.data.toList = some cs) (h2 : 2 ≤ size) (h255 : size ≤ 255) (hl : ((Ch.comp cs).length : Int) ≤ size - 1) :
    pdsS ⟨(Ch.field (Ch.comp cs) size.toNat).toArray⟩ = s ∧ pdsE ⟨(Ch.field (Ch.comp cs) size.toNat).toArray⟩ = 0 ∧ (⟨(Ch.field (Ch.comp cs) size.toNat).toArray⟩ : ByteArray).size = size.toNat := by
  have hz : (⟨(Ch.field (Ch.comp cs) size.toNat).toArray⟩ : ByteArray).size = size.toNat := by
    rw [Lib.size_eq]; exact field_length _ _ (by omega)
  have hn : lastN ⟨(Ch.field (Ch.comp cs) size.toNat).toArray⟩ = (Ch.comp cs).length := by
    unfold lastN
    rw [hz]
    show ((Ch.field (Ch.comp cs) size.toNat).getD (size.toNat - 1) 0).toNat = _
    unfold Ch.field
    rw [List.getD_eq_getElem?_getD, List.getElem?_append_right (by simp only [List.length_append, List.length_replicate]; omega)]
    simp only [List.length_append, List.length_replicate]
    rw [show size.toNat - 1 - ((Ch.comp cs).length + (size.toNat - 1 - (Ch.comp cs).length)) = 0 by omega]
    simp only [List.getElem?_cons_zero, Option.getD_some]
    exact Ch.ofNat_toNat (by omega)
  have hx : (⟨(Ch.field (Ch.comp cs) size.toNat).toArray⟩ : ByteArray).extract 0 (Ch.comp cs).length = ⟨(Ch.comp cs).toArray⟩ := by
    apply ByteArray.ext
    apply Array.ext'
    rw [Lib.extract_data]
    show (List.drop 0 (Ch.field (Ch.comp cs) size.toNat)).take _ = Ch.comp cs
    unfold Ch.field
    rw [List.drop_zero, Nat.sub_zero, List.append_assoc, List.take_left']
    rfl
  obtain ⟨e1, e2⟩ := exp_comp hc
  refine ⟨?_, ?_, hz⟩
  · unfold pdsS; rw [hz, if_neg (by omega), hn, if_pos (by omega), hx, e1]
  · unfold pdsE; rw [hz, if_neg (by omega), hn, if_pos (by omega), hx, e2]
theorem dst_field {s : ByteArray} {size : Int} {cs : List Nat} (hc : Ch.chars s.data.toList = some cs) (h2 : 2 ≤ size) (h255 : size ≤ 255) (hl : ((Ch.comp cs).length : Int) ≤ size - 1) :
    dstS s size = ⟨(Ch.field (Ch.comp cs) size.toNat).toArray⟩ ∧ dstE s size = 0 := by
  unfold dstS dstE
  rw [if_neg (by omega), if_neg (by omega), hc]
  simp only
  rw [if_neg (by omega), if_neg (by omega)]
  exact ⟨rfl, rfl⟩

set_option maxHeartbeats 3200000 in
set_option maxRecDepth 100000 in
theorem walk_UdfstringReturns (s : ByteArray) (size : Int) (w : World) (hT : Tabs w) (h1 : s.size ≤ maxLen) :
    Calls Tryd.prog 5 #[.string s, .int .i64 size] w fun e w' => e = .returned (.bool true) ∧ Below w.heap.size w w' := by
  have kA := hide (awake32 w hT)
  unfold maxLen at h1
  by_cases hs : s.size ≤ 300
  · cases hc : Ch.chars s.data.toList with
    | none =>
      have kC : ∀ w, Tabs w → Calls Tryd.prog 11 #[.string s] w fun e w' => e = .returned (.tuple #[.string ⟨#[]⟩, .int .i64 3]) ∧ Below w.heap.size w w' := by
        intro w hT
        have h := udf_Compress s w hT (by omega)
        rwa [(compS_none hc).1, (compS_none hc).2] at h
      have kC := hide kC
      clear hc
      go_enter Tryd.func5, Tryd.ntmps5
      go_wp2_with fail
      refine (unhide kA).mono ?_
      rintro e w0 ⟨rfl, hb0⟩
      have hT0 := tabs_below hT (Nat.le_refl _) hb0
      go_wp2_with fail
      refine (unhide kC _ hT0).mono ?_
      rintro e w1 ⟨rfl, hb1⟩
      have hT1 := tabs_below hT0 (Nat.le_refl _) hb1
      go_wp2_with fail
      go_ret
      exact ⟨rfl, hb0.trans (hb1.mono hb0.size)⟩
    | some cs =>
      have kC : ∀ w, Tabs w → Calls Tryd.prog 11 #[.string s] w fun e w' => e = .returned (.tuple #[.string ⟨(Ch.comp cs).toArray⟩, .int .i64 0]) ∧ Below w.heap.size w w' := by
        intro w hT
        have h := udf_Compress s w hT (by omega)
        rwa [(compS_some hc).1, (compS_some hc).2] at h
      have kC := hide kC
      have hlen : (⟨(Ch.comp cs).toArray⟩ : ByteArray).size = (Ch.comp cs).length := Lib.size_eq _
      have hcl := comp_size hc
      have kE : ∀ w, Calls Tryd.prog 13 #[.string ⟨(Ch.comp cs).toArray⟩] w fun e w' => e = .returned (.tuple #[.string s, .int .i64 0]) ∧ Below w.heap.size w w' := by
        intro w
        have h := udf_Expand ⟨(Ch.comp cs).toArray⟩ w (by rw [hlen]; omega)
        rwa [(exp_comp hc).1, (exp_comp hc).2] at h
      have kE := hide kE
      by_cases g2 : 2 ≤ size
      · by_cases g255 : size ≤ 255
        · by_cases hl : ((Ch.comp cs).length : Int) ≤ size - 1
          · obtain ⟨r1, r2⟩ := dst_field hc g2 g255 hl
            obtain ⟨p1, p2, p3⟩ := pds_field hc g2 g255 hl
            have p3' : ((⟨(Ch.field (Ch.comp cs) size.toNat).toArray⟩ : ByteArray).size : Int) = size := by rw [p3]; omega
            have kP : ∀ w, Calls Tryd.prog 17 #[.string ⟨(Ch.field (Ch.comp cs) size.toNat).toArray⟩] w fun e w' => e = .returned (.tuple #[.string s, .int .i64 0]) ∧ Below w.heap.size w w' := by
              intro w
              have h := udf_ParseDstring ⟨(Ch.field (Ch.comp cs) size.toNat).toArray⟩ w (by rw [p3]; omega)
              rwa [p1, p2] at h
            have kP := hide kP
            clear p1 p2 p3
            have kD : ∀ w, Tabs w → Calls Tryd.prog 15 #[.string s, .int .i64 size] w fun e w' => e = .returned (.tuple #[.string ⟨(Ch.field (Ch.comp cs) size.toNat).toArray⟩, .int .i64 0]) ∧ Below w.heap.size w w' := by
              intro w hT
              have h := udf_Dstring s size w hT (by omega)
              rwa [r1, r2] at h
            have kD := hide kD
            clear r1 r2
            generalize (⟨(Ch.field (Ch.comp cs) size.toNat).toArray⟩ : ByteArray) = Fd at kD kP p3'
            have q1 : ((Fd.size : Int) == size) = true := by rw [p3']; simp
            have q2 : ((⟨(Ch.comp cs).toArray⟩ : ByteArray).size : Int) ≤ size - 1 := by rw [hlen]; exact hl
            clear p3' hlen hcl hl hc
            generalize (⟨(Ch.comp cs).toArray⟩ : ByteArray) = D at kC kE q2
            go_enter Tryd.func5, Tryd.ntmps5
            go_wp2_with fail
            refine (unhide kA).mono ?_
            rintro e w0 ⟨rfl, hb0⟩
            have hT0 := tabs_below hT (Nat.le_refl _) hb0
            go_wp2_with fail
            refine (unhide kC _ hT0).mono ?_
            rintro e w1 ⟨rfl, hb1⟩
            have hT1 := tabs_below hT0 (Nat.le_refl _) hb1
            go_wp2_with fail
            refine (unhide kE _).mono ?_
            rintro e w2 ⟨rfl, hb2⟩
            have hT2 := tabs_below hT1 (Nat.le_refl _) hb2
            go_wp2_with fail
            refine (unhide kD _ hT2).mono ?_
            rintro e w3 ⟨rfl, hb3⟩
            go_wp2_with fail
            refine (unhide kP _).mono ?_
            rintro e w4 ⟨rfl, hb4⟩
            go_wp2_with fail
            go_ret
            exact ⟨rfl, hb0.trans ((hb1.trans ((hb2.trans ((hb3.trans (hb4.mono hb3.size)).mono hb2.size)).mono hb1.size)).mono hb0.size)⟩
          · have hl' : size - 1 < ((Ch.comp cs).length : Int) := by omega
            obtain ⟨r1, r2⟩ := dst_full g2 g255 hc hl'
            have kD : ∀ w, Tabs w → Calls Tryd.prog 15 #[.string s, .int .i64 size] w fun e w' => e = .returned (.tuple #[.string ⟨#[]⟩, .int .i64 12]) ∧ Below w.heap.size w w' := by
              intro w hT
              have h := udf_Dstring s size w hT (by omega)
              rwa [r1, r2] at h
            have kD := hide kD
            clear r1 r2
            have q2 : size - 1 < ((⟨(Ch.comp cs).toArray⟩ : ByteArray).size : Int) := by rw [hlen]; exact hl'
            clear hlen hcl hl hl' hc
            generalize (⟨(Ch.comp cs).toArray⟩ : ByteArray) = D at kC kE q2
            go_enter Tryd.func5, Tryd.ntmps5
            go_wp2_with fail
            refine (unhide kA).mono ?_
            rintro e w0 ⟨rfl, hb0⟩
            have hT0 := tabs_below hT (Nat.le_refl _) hb0
            go_wp2_with fail
            refine (unhide kC _ hT0).mono ?_
            rintro e w1 ⟨rfl, hb1⟩
            have hT1 := tabs_below hT0 (Nat.le_refl _) hb1
            go_wp2_with fail
            refine (unhide kE _).mono ?_
            rintro e w2 ⟨rfl, hb2⟩
            have hT2 := tabs_below hT1 (Nat.le_refl _) hb2
            go_wp2_with fail
            refine (unhide kD _ hT2).mono ?_
            rintro e w3 ⟨rfl, hb3⟩
            go_wp2_with fail
            go_ret
            exact ⟨rfl, hb0.trans ((hb1.trans ((hb2.trans (hb3.mono hb2.size)).mono hb1.size)).mono hb0.size)⟩
        · have g255' : 255 < size := by omega
          obtain ⟨r1, r2⟩ := dst_arg (s := s) (.inr g255')
          have kD : ∀ w, Tabs w → Calls Tryd.prog 15 #[.string s, .int .i64 size] w fun e w' => e = .returned (.tuple #[.string ⟨#[]⟩, .int .i64 1]) ∧ Below w.heap.size w w' := by
            intro w hT
            have h := udf_Dstring s size w hT (by omega)
            rwa [r1, r2] at h
          have kD := hide kD
          clear r1 r2
          clear hlen hcl hc
          generalize (⟨(Ch.comp cs).toArray⟩ : ByteArray) = D at kC kE
          go_enter Tryd.func5, Tryd.ntmps5
          go_wp2_with fail
          refine (unhide kA).mono ?_
          rintro e w0 ⟨rfl, hb0⟩
          have hT0 := tabs_below hT (Nat.le_refl _) hb0
          go_wp2_with fail
          refine (unhide kC _ hT0).mono ?_
          rintro e w1 ⟨rfl, hb1⟩
          have hT1 := tabs_below hT0 (Nat.le_refl _) hb1
          go_wp2_with fail
          refine (unhide kE _).mono ?_
          rintro e w2 ⟨rfl, hb2⟩
          have hT2 := tabs_below hT1 (Nat.le_refl _) hb2
          go_wp2_with fail
          refine (unhide kD _ hT2).mono ?_
          rintro e w3 ⟨rfl, hb3⟩
          go_wp2_with fail
          go_ret
          exact ⟨rfl, hb0.trans ((hb1.trans ((hb2.trans (hb3.mono hb2.size)).mono hb1.size)).mono hb0.size)⟩
      · have g2' : size < 2 := by omega
        obtain ⟨r1, r2⟩ := dst_arg (s := s) (.inl g2')
        have kD : ∀ w, Tabs w → Calls Tryd.prog 15 #[.string s, .int .i64 size] w fun e w' => e = .returned (.tuple #[.string ⟨#[]⟩, .int .i64 1]) ∧ Below w.heap.size w w' := by
          intro w hT
          have h := udf_Dstring s size w hT (by omega)
          rwa [r1, r2] at h
        have kD := hide kD
        clear r1 r2
        clear hlen hcl hc
        generalize (⟨(Ch.comp cs).toArray⟩ : ByteArray) = D at kC kE
        go_enter Tryd.func5, Tryd.ntmps5
        go_wp2_with fail
        refine (unhide kA).mono ?_
        rintro e w0 ⟨rfl, hb0⟩
        have hT0 := tabs_below hT (Nat.le_refl _) hb0
        go_wp2_with fail
        refine (unhide kC _ hT0).mono ?_
        rintro e w1 ⟨rfl, hb1⟩
        have hT1 := tabs_below hT0 (Nat.le_refl _) hb1
        go_wp2_with fail
        refine (unhide kE _).mono ?_
        rintro e w2 ⟨rfl, hb2⟩
        have hT2 := tabs_below hT1 (Nat.le_refl _) hb2
        go_wp2_with fail
        refine (unhide kD _ hT2).mono ?_
        rintro e w3 ⟨rfl, hb3⟩
        go_wp2_with fail
        go_ret
        exact ⟨rfl, hb0.trans ((hb1.trans ((hb2.trans (hb3.mono hb2.size)).mono hb1.size)).mono hb0.size)⟩
  · have hs' : 300 < s.size := by omega
    go_enter Tryd.func5, Tryd.ntmps5
    go_wp2_with fail
    refine (unhide kA).mono ?_
    rintro e w0 ⟨rfl, hb0⟩
    go_wp2_with fail
    go_ret
    exact ⟨rfl, hb0⟩
end Go.Proofs.YtgejjnbgeiappaaDoor
