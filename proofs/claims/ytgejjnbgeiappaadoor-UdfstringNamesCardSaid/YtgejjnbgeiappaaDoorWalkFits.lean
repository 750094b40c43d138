/-
  The walk of UdfstringFits: it returns true.
-/
import Derived.Test.YtgejjnbgeiappaaDoorWalkReturns
namespace Go.Proofs.YtgejjnbgeiappaaDoor
open Go.RowKit Go.Proofs.YtgejjnbgeiappaaDoorW.PrintWords

/-- What Fit gives: a prefix that fits; one character more would not. -/
theorem fit_facts {s : ByteArray} {size : Int} {cs : List Nat} (hc : Ch.chars s.data.toList = some cs) (h2 : 2 ≤ size) (h255 : size ≤ 255) :
    ∃ n, n ≤ cs.length ∧ fitS s size = ⟨(Ch.encs (cs.take n)).toArray⟩ ∧ ((Ch.comp (cs.take n)).length : Int) ≤ size - 1 ∧ (n < cs.length → size - 1 < ((Ch.comp (cs.take (n + 1))).length : Int)) := by
  refine ⟨Ch.fitN cs (size.toNat - 1) (min cs.length size.toNat), ?_, fit_some h2 h255 hc rfl, ?_, ?_⟩
  · have := Ch.fitN_le cs (size.toNat - 1) (min cs.length size.toNat); omega
  · have := Ch.fitN_fits cs (size.toNat - 1) (min cs.length size.toNat); omega
  · intro hn
    have hle := Ch.fitN_le cs (size.toNat - 1) (min cs.length size.toNat)
    have hfit := Ch.fitN_fits cs (size.toNat - 1) (min cs.length size.toNat)
    generalize hm : Ch.fitN cs (size.toNat - 1) (min cs.length size.toNat) = n at *
    by_cases hb : n + 1 ≤ min cs.length size.toNat
    · have := Ch.fitN_most cs (size.toNat - 1) (min cs.length size.toNat) (n + 1) (by omega) hb
      omega
    · have hn2 : n = size.toNat := by omega
      rw [Ch.comp_length] at hfit
      have hl : (cs.take n).length = n := by rw [List.length_take]; omega
      have hne : cs.take n ≠ [] := by intro e; rw [e] at hl; simp at hl; omega
      rw [if_neg hne, hl] at hfit
      split at hfit <;> omega
theorem go_of_dec {s : ByteArray} {c k : Nat} (h : Ch.dec s.data.toList = some (c, k)) : Lib.decodeGo s = (c, k) := by
  have hne : s.data.toList ≠ [] := by intro e; rw [e] at h; cases h
  have ht := Ch.dec_tells hne
  rw [← decodeGo_list s hne] at ht
  unfold Ch.Tells at ht
  rw [h] at ht
  split at ht
  · exact (Option.some.inj ht).symm
  · cases ht
theorem data_mk (l : List UInt8) : (⟨l.toArray⟩ : ByteArray).data.toList = l := rfl
/-- A text behind one of its prefixes. -/
theorem cut_at {s : ByteArray} {cs : List Nat} (hc : Ch.chars s.data.toList = some cs) {n : Nat} (hn : n < cs.length) :
    ∃ c k, Lib.decodeGo (s.extract (⟨(Ch.encs (cs.take n)).toArray⟩ : ByteArray).size s.size) = (c, k) ∧ (⟨(Ch.encs (cs.take n)).toArray⟩ : ByteArray).size + k ≤ s.size ∧ 1 ≤ k ∧ k ≤ 3 ∧
      s.extract 0 ((⟨(Ch.encs (cs.take n)).toArray⟩ : ByteArray).size + k) = ⟨(Ch.encs (cs.take (n + 1))).toArray⟩ := by
  have he := (Ch.chars_iff.1 hc).2
  have hch := (Ch.chars_iff.1 hc).1
  have hsz : (⟨(Ch.encs (cs.take n)).toArray⟩ : ByteArray).size = (Ch.encs (cs.take n)).length := Lib.size_eq _
  have hdrop : cs.drop n = cs[n] :: cs.drop (n + 1) := List.drop_eq_getElem_cons hn
  have hall : Ch.encs cs = Ch.encs (cs.take n) ++ (Ch.enc cs[n] ++ Ch.encs (cs.drop (n + 1))) := by
    rw [← Ch.encs_cons, ← hdrop, ← Ch.encs_append, List.take_append_drop]
  have hlen : s.size = (Ch.encs (cs.take n)).length + ((Ch.enc cs[n]).length + (Ch.encs (cs.drop (n + 1))).length) := by
    rw [Lib.size_eq, he, hall, List.length_append, List.length_append]
  have hsplit : cs.take (n + 1) = cs.take n ++ [cs[n]] := by rw [List.take_append_getElem hn]
  refine ⟨cs[n], (Ch.enc cs[n]).length, ?_, by rw [hsz]; omega, Ch.enc_pos _, Ch.enc_le _, ?_⟩
  · apply go_of_dec
    rw [Lib.extract_data, he, hsz, hall, List.drop_left, List.take_of_length_le (by rw [List.length_append]; omega)]
    exact Ch.dec_enc (hch _ (List.getElem_mem hn)) _
  · apply ByteArray.ext
    apply Array.ext'
    rw [Lib.extract_data, he, hsz]
    show _ = Ch.encs (cs.take (n + 1))
    rw [List.drop_zero, Nat.sub_zero, hsplit, Ch.encs_append, hall, ← List.append_assoc, Ch.encs_cons, Ch.encs_nil, List.append_nil, List.take_left']
    rw [List.length_append]
theorem pre_true {s : ByteArray} {cs : List Nat} (hc : Ch.chars s.data.toList = some cs) (n : Nat) : Lib.hasPrefix s.data.toList (⟨(Ch.encs (cs.take n)).toArray⟩ : ByteArray).data.toList = true := by
  unfold Lib.hasPrefix
  rw [List.isPrefixOf_iff_prefix, data_mk, (Ch.chars_iff.1 hc).2]
  exact ⟨Ch.encs (cs.drop n), by rw [← Ch.encs_append, List.take_append_drop]⟩

set_option maxHeartbeats 3200000 in
set_option maxRecDepth 100000 in
theorem walk_UdfstringFits (s : ByteArray) (size : Int) (w : World) (hT : Tabs w) (h1 : s.size ≤ maxLen) :
    Calls Tryd.prog 6 #[.string s, .int .i64 size] w fun e w' => e = .returned (.bool true) ∧ Below w.heap.size w w' := by
  have kA := hide (awake32 w hT)
  unfold maxLen at h1
  by_cases hs : s.size ≤ 300
  · cases hc : Ch.chars s.data.toList with
    | none =>
      have rf := fit_none (size := size) hc
      have kF : ∀ w, Tabs w → Calls Tryd.prog 19 #[.string s, .int .i64 size] w fun e w' => e = .returned (.string (⟨#[]⟩)) ∧ Below w.heap.size w w' := by
        intro w hT
        have h := udf_Fit s size w hT (by omega)
        rwa [rf] at h
      have kF := hide kF
      clear rf
      have kC : ∀ w, Tabs w → Calls Tryd.prog 11 #[.string s] w fun e w' => e = .returned (.tuple #[.string ⟨#[]⟩, .int .i64 3]) ∧ Below w.heap.size w w' := by
        intro w hT
        have h := udf_Compress s w hT (by omega)
        rwa [(compS_none hc).1, (compS_none hc).2] at h
      have kC := hide kC
      clear hc
      go_enter Tryd.func6, Tryd.ntmps6
      go_wp2_with fail
      refine (unhide kA).mono ?_
      rintro e w0 ⟨rfl, hb0⟩
      have hT0 := tabs_below hT (Nat.le_refl _) hb0
      go_wp2_with fail
      refine (unhide kF _ hT0).mono ?_
      rintro e w1 ⟨rfl, hb1⟩
      have hT1 := tabs_below hT0 (Nat.le_refl _) hb1
      go_wp2_with fail
      refine (unhide kC _ hT1).mono ?_
      rintro e w2 ⟨rfl, hb2⟩
      have hT2 := tabs_below hT1 (Nat.le_refl _) hb2
      go_wp2_with fail
      go_ret
      exact ⟨rfl, hb0.trans ((hb1.trans (hb2.mono hb1.size)).mono hb0.size)⟩
    | some cs =>
      have kC : ∀ w, Tabs w → Calls Tryd.prog 11 #[.string s] w fun e w' => e = .returned (.tuple #[.string ⟨(Ch.comp cs).toArray⟩, .int .i64 0]) ∧ Below w.heap.size w w' := by
        intro w hT
        have h := udf_Compress s w hT (by omega)
        rwa [(compS_some hc).1, (compS_some hc).2] at h
      have kC := hide kC
      by_cases g2 : 2 ≤ size
      · by_cases g255 : size ≤ 255
        · obtain ⟨n, hn, rf, hfit, hmore⟩ := fit_facts hc g2 g255
          have kF : ∀ w, Tabs w → Calls Tryd.prog 19 #[.string s, .int .i64 size] w fun e w' => e = .returned (.string (⟨(Ch.encs (cs.take n)).toArray⟩)) ∧ Below w.heap.size w w' := by
            intro w hT
            have h := udf_Fit s size w hT (by omega)
            rwa [rf] at h
          have kF := hide kF
          clear rf
          have hxs : (⟨(Ch.encs (cs.take n)).toArray⟩ : ByteArray).size ≤ s.size := by rw [Lib.size_eq]; exact encs_take_length hc n
          have hcx : Ch.chars (⟨(Ch.encs (cs.take n)).toArray⟩ : ByteArray).data.toList = some (cs.take n) := chars_take hc n
          have kD : ∀ w, Tabs w → Calls Tryd.prog 15 #[.string ⟨(Ch.encs (cs.take n)).toArray⟩, .int .i64 size] w fun e w' => e = .returned (.tuple #[.string ⟨(Ch.field (Ch.comp (cs.take n)) size.toNat).toArray⟩, .int .i64 0]) ∧ Below w.heap.size w w' := by
            intro w hT
            have h := udf_Dstring ⟨(Ch.encs (cs.take n)).toArray⟩ size w hT (by omega)
            rwa [(dst_field hcx g2 g255 hfit).1, (dst_field hcx g2 g255 hfit).2] at h
          have kD := hide kD
          have kH : ∀ w, Calls Tryd.prog 21 #[.string s, .string ⟨(Ch.encs (cs.take n)).toArray⟩] w fun e w' => e = .returned (.bool true) ∧ w' = w := by
            intro w
            have h := Tryd.strings_HasPrefix s ⟨(Ch.encs (cs.take n)).toArray⟩ w
            rwa [pre_true hc n] at h
          have kH := hide kH
          generalize (⟨(Ch.field (Ch.comp (cs.take n)) size.toNat).toArray⟩ : ByteArray) = Fd at kD
          generalize (⟨(Ch.comp cs).toArray⟩ : ByteArray) = D at kC
          by_cases hn' : n < cs.length
          · obtain ⟨c, k, r1, r2, r3, r4, r5⟩ := cut_at hc hn'
            have hm := hmore hn'
            have hcy : Ch.chars (⟨(Ch.encs (cs.take (n + 1))).toArray⟩ : ByteArray).data.toList = some (cs.take (n + 1)) := chars_take hc (n + 1)
            have hys : (⟨(Ch.encs (cs.take (n + 1))).toArray⟩ : ByteArray).size ≤ s.size := by rw [Lib.size_eq]; exact encs_take_length hc (n + 1)
            have kD2 : ∀ w, Tabs w → Calls Tryd.prog 15 #[.string (s.extract 0 ((⟨(Ch.encs (cs.take n)).toArray⟩ : ByteArray).size + k)), .int .i64 size] w fun e w' => e = .returned (.tuple #[.string ⟨#[]⟩, .int .i64 12]) ∧ Below w.heap.size w w' := by
              intro w hT
              rw [r5]
              have h := udf_Dstring ⟨(Ch.encs (cs.take (n + 1))).toArray⟩ size w hT (by omega)
              rwa [(dst_full g2 g255 hcy hm).1, (dst_full g2 g255 hcy hm).2] at h
            have kD2 := hide kD2
            have kR : ∀ w, Tabs w → Calls Tryd.prog 22 #[.string (s.extract (⟨(Ch.encs (cs.take n)).toArray⟩ : ByteArray).size s.size)] w fun e w' => e = .returned (.tuple #[.int .i32 (c : Int), .int .i64 (k : Int)]) ∧ Below w.heap.size w w' := by
              intro w hT
              have h := Tryd.utf8_DecodeRuneInString (s.extract (⟨(Ch.encs (cs.take n)).toArray⟩ : ByteArray).size s.size) w hT
              rwa [r1] at h
            have kR := hide kR
            clear r1 r5 hcy hys hm hmore hcx hc hfit hn hn'
            generalize (⟨(Ch.encs (cs.take n)).toArray⟩ : ByteArray) = X at *
            have q1 : (X.toList == s.toList) = false := by
              rw [beq_eq_false_iff_ne, ByteArray.toList_eq, ByteArray.toList_eq]; intro e
              have e := congrArg List.length e
              rw [← Lib.size_eq, ← Lib.size_eq] at e; omega
            go_enter Tryd.func6, Tryd.ntmps6
            go_wp2_with fail
            refine (unhide kA).mono ?_
            rintro e w0 ⟨rfl, hb0⟩
            have hT0 := tabs_below hT (Nat.le_refl _) hb0
            go_wp2_with fail
            refine (unhide kF _ hT0).mono ?_
            rintro e w1 ⟨rfl, hb1⟩
            have hT1 := tabs_below hT0 (Nat.le_refl _) hb1
            go_wp2_with fail
            refine (unhide kC _ hT1).mono ?_
            rintro e w2 ⟨rfl, hb2⟩
            have hT2 := tabs_below hT1 (Nat.le_refl _) hb2
            go_wp2_with fail
            refine (unhide kD _ hT2).mono ?_
            rintro e w3 ⟨rfl, hb3⟩
            have hT3 := tabs_below hT2 (Nat.le_refl _) hb3
            go_wp2_with fail
            refine (unhide kH _).mono ?_
            rintro e w3' ⟨rfl, rfl⟩
            go_wp2_with fail
            refine (unhide kR _ hT3).mono ?_
            rintro e w4 ⟨rfl, hb4⟩
            have hT4 := tabs_below hT3 (Nat.le_refl _) hb4
            go_wp2_with fail
            refine (unhide kD2 _ hT4).mono ?_
            rintro e w5 ⟨rfl, hb5⟩
            go_wp2_with fail
            go_ret
            exact ⟨rfl, hb0.trans ((hb1.trans ((hb2.trans ((hb3.trans ((hb4.trans (hb5.mono hb4.size)).mono hb3.size)).mono hb2.size)).mono hb1.size)).mono hb0.size)⟩
          · have hX : (⟨(Ch.encs (cs.take n)).toArray⟩ : ByteArray) = s := by
              rw [List.take_of_length_le (by omega)]; exact (chars_back hc).symm
            rw [hX] at kF kD kH
            clear hX hxs hcx hmore hfit hn hn' hc
            go_enter Tryd.func6, Tryd.ntmps6
            go_wp2_with fail
            refine (unhide kA).mono ?_
            rintro e w0 ⟨rfl, hb0⟩
            have hT0 := tabs_below hT (Nat.le_refl _) hb0
            go_wp2_with fail
            refine (unhide kF _ hT0).mono ?_
            rintro e w1 ⟨rfl, hb1⟩
            have hT1 := tabs_below hT0 (Nat.le_refl _) hb1
            go_wp2_with fail
            refine (unhide kC _ hT1).mono ?_
            rintro e w2 ⟨rfl, hb2⟩
            have hT2 := tabs_below hT1 (Nat.le_refl _) hb2
            go_wp2_with fail
            refine (unhide kD _ hT2).mono ?_
            rintro e w3 ⟨rfl, hb3⟩
            have hT3 := tabs_below hT2 (Nat.le_refl _) hb3
            go_wp2_with fail
            refine (unhide kH _).mono ?_
            rintro e w3' ⟨rfl, rfl⟩
            go_wp2_with fail
            go_ret
            exact ⟨rfl, hb0.trans ((hb1.trans ((hb2.trans (hb3.mono hb2.size)).mono hb1.size)).mono hb0.size)⟩
        · have g255' : 255 < size := by omega
          have rf := fit_arg (s := s) (.inr g255')
          have kF : ∀ w, Tabs w → Calls Tryd.prog 19 #[.string s, .int .i64 size] w fun e w' => e = .returned (.string (⟨#[]⟩)) ∧ Below w.heap.size w w' := by
            intro w hT
            have h := udf_Fit s size w hT (by omega)
            rwa [rf] at h
          have kF := hide kF
          clear rf
          clear hc
          generalize (⟨(Ch.comp cs).toArray⟩ : ByteArray) = D at kC
          go_enter Tryd.func6, Tryd.ntmps6
          go_wp2_with fail
          refine (unhide kA).mono ?_
          rintro e w0 ⟨rfl, hb0⟩
          have hT0 := tabs_below hT (Nat.le_refl _) hb0
          go_wp2_with fail
          refine (unhide kF _ hT0).mono ?_
          rintro e w1 ⟨rfl, hb1⟩
          have hT1 := tabs_below hT0 (Nat.le_refl _) hb1
          go_wp2_with fail
          refine (unhide kC _ hT1).mono ?_
          rintro e w2 ⟨rfl, hb2⟩
          have hT2 := tabs_below hT1 (Nat.le_refl _) hb2
          go_wp2_with fail
          go_ret
          exact ⟨rfl, hb0.trans ((hb1.trans (hb2.mono hb1.size)).mono hb0.size)⟩
      · have g2' : size < 2 := by omega
        have rf := fit_arg (s := s) (.inl g2')
        have kF : ∀ w, Tabs w → Calls Tryd.prog 19 #[.string s, .int .i64 size] w fun e w' => e = .returned (.string (⟨#[]⟩)) ∧ Below w.heap.size w w' := by
          intro w hT
          have h := udf_Fit s size w hT (by omega)
          rwa [rf] at h
        have kF := hide kF
        clear rf
        clear hc
        generalize (⟨(Ch.comp cs).toArray⟩ : ByteArray) = D at kC
        go_enter Tryd.func6, Tryd.ntmps6
        go_wp2_with fail
        refine (unhide kA).mono ?_
        rintro e w0 ⟨rfl, hb0⟩
        have hT0 := tabs_below hT (Nat.le_refl _) hb0
        go_wp2_with fail
        refine (unhide kF _ hT0).mono ?_
        rintro e w1 ⟨rfl, hb1⟩
        have hT1 := tabs_below hT0 (Nat.le_refl _) hb1
        go_wp2_with fail
        refine (unhide kC _ hT1).mono ?_
        rintro e w2 ⟨rfl, hb2⟩
        have hT2 := tabs_below hT1 (Nat.le_refl _) hb2
        go_wp2_with fail
        go_ret
        exact ⟨rfl, hb0.trans ((hb1.trans (hb2.mono hb1.size)).mono hb0.size)⟩
  · have hs' : 300 < s.size := by omega
    go_enter Tryd.func6, Tryd.ntmps6
    go_wp2_with fail
    refine (unhide kA).mono ?_
    rintro e w0 ⟨rfl, hb0⟩
    go_wp2_with fail
    go_ret
    exact ⟨rfl, hb0⟩
end Go.Proofs.YtgejjnbgeiappaaDoor
