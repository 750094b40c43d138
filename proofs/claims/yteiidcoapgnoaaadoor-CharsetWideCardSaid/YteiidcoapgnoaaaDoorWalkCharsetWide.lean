/-
  The walk of CharsetWide: it returns true.
-/
import Derived.Test.YteiidcoapgnoaaaDoorAwake17
import Derived.Test.YteiidcoapgnoaaaDoorChr17

namespace Go.Proofs.YteiidcoapgnoaaaDoor
open Go.RowKit Go.Proofs.YteiidcoapgnoaaaDoorW.PrintWords

set_option maxHeartbeats 6400000 in
set_option maxRecDepth 100000 in
theorem walk_CharsetWide (s u : ByteArray) (n : Int) (w : World) (hT : Tabs w) (h1 : s.size ≤ maxLen) (h2 : u.size ≤ maxLen) :
    Calls Tryd.prog 6 #[.string s, .string u, .int .i64 n] w fun e w' => e = .returned (.bool true) ∧ Below w.heap.size w w' := by
  have kA := hide (awake17 w hT)
  unfold maxLen at h1 h2
  by_cases h_s : s.size ≤ 300
  · by_cases h_u : u.size ≤ 300
    · by_cases h_n : n ≤ 1000
      · go_enter Tryd.func6, Tryd.ntmps6
        go_wp2_with fail
        refine (unhide kA).mono ?_
        rintro e w0 ⟨rfl, hb0⟩
        have hT0 := tabs_below hT (Nat.le_refl _) hb0
        go_wp2_with fail
        refine (udf_Ucs2 s _ hT0).mono ?_
        rintro e w1 ⟨rfl, hb1⟩
        have hT1 := tabs_below hT0 (Nat.le_refl _) hb1
        go_wp2_with fail
        refine (ref_Ucs2 s _).mono ?_
        rintro e w2 ⟨rfl, hb2⟩
        have hT2 := tabs_below hT1 (Nat.le_refl _) hb2
        go_wp2_with fail
        refine (udf_FromUcs2 u _).mono ?_
        rintro e w3 ⟨rfl, hb3⟩
        have hT3 := tabs_below hT2 (Nat.le_refl _) hb3
        go_wp2_with fail
        refine (ref_FromUcs2 u _).mono ?_
        rintro e w4 ⟨rfl, hb4⟩
        have hT4 := tabs_below hT3 (Nat.le_refl _) hb4
        go_wp2_with fail
        refine (udf_WideField s n _ hT4).mono ?_
        rintro e w5 ⟨rfl, hb5⟩
        go_wp2_with fail
        refine (ref_WideField s n _).mono ?_
        rintro e w6 ⟨rfl, hb6⟩
        go_wp2_with fail
        refine (udf_WideTrim u _).mono ?_
        rintro e w7 ⟨rfl, hb7⟩
        go_wp2_with fail
        refine (ref_WideTrim u _).mono ?_
        rintro e w8 ⟨rfl, hb8⟩
        go_wp2_with fail
        go_ret
        exact ⟨rfl, hb0.trans ((hb1.trans ((hb2.trans ((hb3.trans ((hb4.trans ((hb5.trans ((hb6.trans ((hb7.trans (hb8.mono hb7.size)).mono hb6.size)).mono hb5.size)).mono hb4.size)).mono hb3.size)).mono hb2.size)).mono hb1.size)).mono hb0.size)⟩
      · have h_n1 : 1000 < n := by omega
        by_cases h_n2 : n ≤ 65536
        · go_enter Tryd.func6, Tryd.ntmps6
          go_wp2_with fail
          refine (unhide kA).mono ?_
          rintro e w0 ⟨rfl, hb0⟩
          have hT0 := tabs_below hT (Nat.le_refl _) hb0
          go_wp2_with fail
          go_ret
          exact ⟨rfl, hb0⟩
        · have h_n3 : 65536 < n := by omega
          go_enter Tryd.func6, Tryd.ntmps6
          go_wp2_with fail
          refine (unhide kA).mono ?_
          rintro e w0 ⟨rfl, hb0⟩
          have hT0 := tabs_below hT (Nat.le_refl _) hb0
          go_wp2_with fail
          refine (udf_Ucs2 s _ hT0).mono ?_
          rintro e w1 ⟨rfl, hb1⟩
          have hT1 := tabs_below hT0 (Nat.le_refl _) hb1
          go_wp2_with fail
          refine (ref_Ucs2 s _).mono ?_
          rintro e w2 ⟨rfl, hb2⟩
          have hT2 := tabs_below hT1 (Nat.le_refl _) hb2
          go_wp2_with fail
          refine (udf_FromUcs2 u _).mono ?_
          rintro e w3 ⟨rfl, hb3⟩
          have hT3 := tabs_below hT2 (Nat.le_refl _) hb3
          go_wp2_with fail
          refine (ref_FromUcs2 u _).mono ?_
          rintro e w4 ⟨rfl, hb4⟩
          have hT4 := tabs_below hT3 (Nat.le_refl _) hb4
          go_wp2_with fail
          refine (udf_WideField s n _ hT4).mono ?_
          rintro e w5 ⟨rfl, hb5⟩
          go_wp2_with fail
          refine (ref_WideField s n _).mono ?_
          rintro e w6 ⟨rfl, hb6⟩
          go_wp2_with fail
          refine (udf_WideTrim u _).mono ?_
          rintro e w7 ⟨rfl, hb7⟩
          go_wp2_with fail
          refine (ref_WideTrim u _).mono ?_
          rintro e w8 ⟨rfl, hb8⟩
          go_wp2_with fail
          go_ret
          exact ⟨rfl, hb0.trans ((hb1.trans ((hb2.trans ((hb3.trans ((hb4.trans ((hb5.trans ((hb6.trans ((hb7.trans (hb8.mono hb7.size)).mono hb6.size)).mono hb5.size)).mono hb4.size)).mono hb3.size)).mono hb2.size)).mono hb1.size)).mono hb0.size)⟩
    · have h_u1 : 300 < u.size := by omega
      by_cases h_u2 : u.size ≤ 65536
      · go_enter Tryd.func6, Tryd.ntmps6
        go_wp2_with fail
        refine (unhide kA).mono ?_
        rintro e w0 ⟨rfl, hb0⟩
        have hT0 := tabs_below hT (Nat.le_refl _) hb0
        go_wp2_with fail
        go_ret
        exact ⟨rfl, hb0⟩
      · have h_u3 : 65536 < u.size := by omega
        by_cases h_n : n ≤ 1000
        · go_enter Tryd.func6, Tryd.ntmps6
          go_wp2_with fail
          refine (unhide kA).mono ?_
          rintro e w0 ⟨rfl, hb0⟩
          have hT0 := tabs_below hT (Nat.le_refl _) hb0
          go_wp2_with fail
          refine (udf_Ucs2 s _ hT0).mono ?_
          rintro e w1 ⟨rfl, hb1⟩
          have hT1 := tabs_below hT0 (Nat.le_refl _) hb1
          go_wp2_with fail
          refine (ref_Ucs2 s _).mono ?_
          rintro e w2 ⟨rfl, hb2⟩
          have hT2 := tabs_below hT1 (Nat.le_refl _) hb2
          go_wp2_with fail
          refine (udf_FromUcs2 u _).mono ?_
          rintro e w3 ⟨rfl, hb3⟩
          have hT3 := tabs_below hT2 (Nat.le_refl _) hb3
          go_wp2_with fail
          refine (ref_FromUcs2 u _).mono ?_
          rintro e w4 ⟨rfl, hb4⟩
          have hT4 := tabs_below hT3 (Nat.le_refl _) hb4
          go_wp2_with fail
          refine (udf_WideField s n _ hT4).mono ?_
          rintro e w5 ⟨rfl, hb5⟩
          go_wp2_with fail
          refine (ref_WideField s n _).mono ?_
          rintro e w6 ⟨rfl, hb6⟩
          go_wp2_with fail
          refine (udf_WideTrim u _).mono ?_
          rintro e w7 ⟨rfl, hb7⟩
          go_wp2_with fail
          refine (ref_WideTrim u _).mono ?_
          rintro e w8 ⟨rfl, hb8⟩
          go_wp2_with fail
          go_ret
          exact ⟨rfl, hb0.trans ((hb1.trans ((hb2.trans ((hb3.trans ((hb4.trans ((hb5.trans ((hb6.trans ((hb7.trans (hb8.mono hb7.size)).mono hb6.size)).mono hb5.size)).mono hb4.size)).mono hb3.size)).mono hb2.size)).mono hb1.size)).mono hb0.size)⟩
        · have h_n1 : 1000 < n := by omega
          by_cases h_n2 : n ≤ 65536
          · go_enter Tryd.func6, Tryd.ntmps6
            go_wp2_with fail
            refine (unhide kA).mono ?_
            rintro e w0 ⟨rfl, hb0⟩
            have hT0 := tabs_below hT (Nat.le_refl _) hb0
            go_wp2_with fail
            go_ret
            exact ⟨rfl, hb0⟩
          · have h_n3 : 65536 < n := by omega
            go_enter Tryd.func6, Tryd.ntmps6
            go_wp2_with fail
            refine (unhide kA).mono ?_
            rintro e w0 ⟨rfl, hb0⟩
            have hT0 := tabs_below hT (Nat.le_refl _) hb0
            go_wp2_with fail
            refine (udf_Ucs2 s _ hT0).mono ?_
            rintro e w1 ⟨rfl, hb1⟩
            have hT1 := tabs_below hT0 (Nat.le_refl _) hb1
            go_wp2_with fail
            refine (ref_Ucs2 s _).mono ?_
            rintro e w2 ⟨rfl, hb2⟩
            have hT2 := tabs_below hT1 (Nat.le_refl _) hb2
            go_wp2_with fail
            refine (udf_FromUcs2 u _).mono ?_
            rintro e w3 ⟨rfl, hb3⟩
            have hT3 := tabs_below hT2 (Nat.le_refl _) hb3
            go_wp2_with fail
            refine (ref_FromUcs2 u _).mono ?_
            rintro e w4 ⟨rfl, hb4⟩
            have hT4 := tabs_below hT3 (Nat.le_refl _) hb4
            go_wp2_with fail
            refine (udf_WideField s n _ hT4).mono ?_
            rintro e w5 ⟨rfl, hb5⟩
            go_wp2_with fail
            refine (ref_WideField s n _).mono ?_
            rintro e w6 ⟨rfl, hb6⟩
            go_wp2_with fail
            refine (udf_WideTrim u _).mono ?_
            rintro e w7 ⟨rfl, hb7⟩
            go_wp2_with fail
            refine (ref_WideTrim u _).mono ?_
            rintro e w8 ⟨rfl, hb8⟩
            go_wp2_with fail
            go_ret
            exact ⟨rfl, hb0.trans ((hb1.trans ((hb2.trans ((hb3.trans ((hb4.trans ((hb5.trans ((hb6.trans ((hb7.trans (hb8.mono hb7.size)).mono hb6.size)).mono hb5.size)).mono hb4.size)).mono hb3.size)).mono hb2.size)).mono hb1.size)).mono hb0.size)⟩
  · have h_s1 : 300 < s.size := by omega
    by_cases h_s2 : s.size ≤ 65536
    · go_enter Tryd.func6, Tryd.ntmps6
      go_wp2_with fail
      refine (unhide kA).mono ?_
      rintro e w0 ⟨rfl, hb0⟩
      have hT0 := tabs_below hT (Nat.le_refl _) hb0
      go_wp2_with fail
      go_ret
      exact ⟨rfl, hb0⟩
    · have h_s3 : 65536 < s.size := by omega
      by_cases h_u : u.size ≤ 300
      · by_cases h_n : n ≤ 1000
        · go_enter Tryd.func6, Tryd.ntmps6
          go_wp2_with fail
          refine (unhide kA).mono ?_
          rintro e w0 ⟨rfl, hb0⟩
          have hT0 := tabs_below hT (Nat.le_refl _) hb0
          go_wp2_with fail
          refine (udf_Ucs2 s _ hT0).mono ?_
          rintro e w1 ⟨rfl, hb1⟩
          have hT1 := tabs_below hT0 (Nat.le_refl _) hb1
          go_wp2_with fail
          refine (ref_Ucs2 s _).mono ?_
          rintro e w2 ⟨rfl, hb2⟩
          have hT2 := tabs_below hT1 (Nat.le_refl _) hb2
          go_wp2_with fail
          refine (udf_FromUcs2 u _).mono ?_
          rintro e w3 ⟨rfl, hb3⟩
          have hT3 := tabs_below hT2 (Nat.le_refl _) hb3
          go_wp2_with fail
          refine (ref_FromUcs2 u _).mono ?_
          rintro e w4 ⟨rfl, hb4⟩
          have hT4 := tabs_below hT3 (Nat.le_refl _) hb4
          go_wp2_with fail
          refine (udf_WideField s n _ hT4).mono ?_
          rintro e w5 ⟨rfl, hb5⟩
          go_wp2_with fail
          refine (ref_WideField s n _).mono ?_
          rintro e w6 ⟨rfl, hb6⟩
          go_wp2_with fail
          refine (udf_WideTrim u _).mono ?_
          rintro e w7 ⟨rfl, hb7⟩
          go_wp2_with fail
          refine (ref_WideTrim u _).mono ?_
          rintro e w8 ⟨rfl, hb8⟩
          go_wp2_with fail
          go_ret
          exact ⟨rfl, hb0.trans ((hb1.trans ((hb2.trans ((hb3.trans ((hb4.trans ((hb5.trans ((hb6.trans ((hb7.trans (hb8.mono hb7.size)).mono hb6.size)).mono hb5.size)).mono hb4.size)).mono hb3.size)).mono hb2.size)).mono hb1.size)).mono hb0.size)⟩
        · have h_n1 : 1000 < n := by omega
          by_cases h_n2 : n ≤ 65536
          · go_enter Tryd.func6, Tryd.ntmps6
            go_wp2_with fail
            refine (unhide kA).mono ?_
            rintro e w0 ⟨rfl, hb0⟩
            have hT0 := tabs_below hT (Nat.le_refl _) hb0
            go_wp2_with fail
            go_ret
            exact ⟨rfl, hb0⟩
          · have h_n3 : 65536 < n := by omega
            go_enter Tryd.func6, Tryd.ntmps6
            go_wp2_with fail
            refine (unhide kA).mono ?_
            rintro e w0 ⟨rfl, hb0⟩
            have hT0 := tabs_below hT (Nat.le_refl _) hb0
            go_wp2_with fail
            refine (udf_Ucs2 s _ hT0).mono ?_
            rintro e w1 ⟨rfl, hb1⟩
            have hT1 := tabs_below hT0 (Nat.le_refl _) hb1
            go_wp2_with fail
            refine (ref_Ucs2 s _).mono ?_
            rintro e w2 ⟨rfl, hb2⟩
            have hT2 := tabs_below hT1 (Nat.le_refl _) hb2
            go_wp2_with fail
            refine (udf_FromUcs2 u _).mono ?_
            rintro e w3 ⟨rfl, hb3⟩
            have hT3 := tabs_below hT2 (Nat.le_refl _) hb3
            go_wp2_with fail
            refine (ref_FromUcs2 u _).mono ?_
            rintro e w4 ⟨rfl, hb4⟩
            have hT4 := tabs_below hT3 (Nat.le_refl _) hb4
            go_wp2_with fail
            refine (udf_WideField s n _ hT4).mono ?_
            rintro e w5 ⟨rfl, hb5⟩
            go_wp2_with fail
            refine (ref_WideField s n _).mono ?_
            rintro e w6 ⟨rfl, hb6⟩
            go_wp2_with fail
            refine (udf_WideTrim u _).mono ?_
            rintro e w7 ⟨rfl, hb7⟩
            go_wp2_with fail
            refine (ref_WideTrim u _).mono ?_
            rintro e w8 ⟨rfl, hb8⟩
            go_wp2_with fail
            go_ret
            exact ⟨rfl, hb0.trans ((hb1.trans ((hb2.trans ((hb3.trans ((hb4.trans ((hb5.trans ((hb6.trans ((hb7.trans (hb8.mono hb7.size)).mono hb6.size)).mono hb5.size)).mono hb4.size)).mono hb3.size)).mono hb2.size)).mono hb1.size)).mono hb0.size)⟩
      · have h_u1 : 300 < u.size := by omega
        by_cases h_u2 : u.size ≤ 65536
        · go_enter Tryd.func6, Tryd.ntmps6
          go_wp2_with fail
          refine (unhide kA).mono ?_
          rintro e w0 ⟨rfl, hb0⟩
          have hT0 := tabs_below hT (Nat.le_refl _) hb0
          go_wp2_with fail
          go_ret
          exact ⟨rfl, hb0⟩
        · have h_u3 : 65536 < u.size := by omega
          by_cases h_n : n ≤ 1000
          · go_enter Tryd.func6, Tryd.ntmps6
            go_wp2_with fail
            refine (unhide kA).mono ?_
            rintro e w0 ⟨rfl, hb0⟩
            have hT0 := tabs_below hT (Nat.le_refl _) hb0
            go_wp2_with fail
            refine (udf_Ucs2 s _ hT0).mono ?_
            rintro e w1 ⟨rfl, hb1⟩
            have hT1 := tabs_below hT0 (Nat.le_refl _) hb1
            go_wp2_with fail
            refine (ref_Ucs2 s _).mono ?_
            rintro e w2 ⟨rfl, hb2⟩
            have hT2 := tabs_below hT1 (Nat.le_refl _) hb2
            go_wp2_with fail
            refine (udf_FromUcs2 u _).mono ?_
            rintro e w3 ⟨rfl, hb3⟩
            have hT3 := tabs_below hT2 (Nat.le_refl _) hb3
            go_wp2_with fail
            refine (ref_FromUcs2 u _).mono ?_
            rintro e w4 ⟨rfl, hb4⟩
            have hT4 := tabs_below hT3 (Nat.le_refl _) hb4
            go_wp2_with fail
            refine (udf_WideField s n _ hT4).mono ?_
            rintro e w5 ⟨rfl, hb5⟩
            go_wp2_with fail
            refine (ref_WideField s n _).mono ?_
            rintro e w6 ⟨rfl, hb6⟩
            go_wp2_with fail
            refine (udf_WideTrim u _).mono ?_
            rintro e w7 ⟨rfl, hb7⟩
            go_wp2_with fail
            refine (ref_WideTrim u _).mono ?_
            rintro e w8 ⟨rfl, hb8⟩
            go_wp2_with fail
            go_ret
            exact ⟨rfl, hb0.trans ((hb1.trans ((hb2.trans ((hb3.trans ((hb4.trans ((hb5.trans ((hb6.trans ((hb7.trans (hb8.mono hb7.size)).mono hb6.size)).mono hb5.size)).mono hb4.size)).mono hb3.size)).mono hb2.size)).mono hb1.size)).mono hb0.size)⟩
          · have h_n1 : 1000 < n := by omega
            by_cases h_n2 : n ≤ 65536
            · go_enter Tryd.func6, Tryd.ntmps6
              go_wp2_with fail
              refine (unhide kA).mono ?_
              rintro e w0 ⟨rfl, hb0⟩
              have hT0 := tabs_below hT (Nat.le_refl _) hb0
              go_wp2_with fail
              go_ret
              exact ⟨rfl, hb0⟩
            · have h_n3 : 65536 < n := by omega
              go_enter Tryd.func6, Tryd.ntmps6
              go_wp2_with fail
              refine (unhide kA).mono ?_
              rintro e w0 ⟨rfl, hb0⟩
              have hT0 := tabs_below hT (Nat.le_refl _) hb0
              go_wp2_with fail
              refine (udf_Ucs2 s _ hT0).mono ?_
              rintro e w1 ⟨rfl, hb1⟩
              have hT1 := tabs_below hT0 (Nat.le_refl _) hb1
              go_wp2_with fail
              refine (ref_Ucs2 s _).mono ?_
              rintro e w2 ⟨rfl, hb2⟩
              have hT2 := tabs_below hT1 (Nat.le_refl _) hb2
              go_wp2_with fail
              refine (udf_FromUcs2 u _).mono ?_
              rintro e w3 ⟨rfl, hb3⟩
              have hT3 := tabs_below hT2 (Nat.le_refl _) hb3
              go_wp2_with fail
              refine (ref_FromUcs2 u _).mono ?_
              rintro e w4 ⟨rfl, hb4⟩
              have hT4 := tabs_below hT3 (Nat.le_refl _) hb4
              go_wp2_with fail
              refine (udf_WideField s n _ hT4).mono ?_
              rintro e w5 ⟨rfl, hb5⟩
              go_wp2_with fail
              refine (ref_WideField s n _).mono ?_
              rintro e w6 ⟨rfl, hb6⟩
              go_wp2_with fail
              refine (udf_WideTrim u _).mono ?_
              rintro e w7 ⟨rfl, hb7⟩
              go_wp2_with fail
              refine (ref_WideTrim u _).mono ?_
              rintro e w8 ⟨rfl, hb8⟩
              go_wp2_with fail
              go_ret
              exact ⟨rfl, hb0.trans ((hb1.trans ((hb2.trans ((hb3.trans ((hb4.trans ((hb5.trans ((hb6.trans ((hb7.trans (hb8.mono hb7.size)).mono hb6.size)).mono hb5.size)).mono hb4.size)).mono hb3.size)).mono hb2.size)).mono hb1.size)).mono hb0.size)⟩
end Go.Proofs.YteiidcoapgnoaaaDoor
