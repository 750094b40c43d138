/-
  The walk of CharsetFields: it returns true.
-/
import Derived.Test.YteiidcoapgnoaaaDoorAwake17
import Derived.Test.YteiidcoapgnoaaaDoorChr17
import Derived.Test.YteiidcoapgnoaaaDoorRefFld
namespace Go.Proofs.YteiidcoapgnoaaaDoor
open Go.RowKit Go.Proofs.YteiidcoapgnoaaaDoorW.PrintWords

set_option maxHeartbeats 3200000 in
set_option maxRecDepth 100000 in
theorem walk_CharsetFields (s : ByteArray) (n : Int) (w : World) (hT : Tabs w) (h1 : s.size ≤ maxLen) :
    Calls Tryd.prog 5 #[.string s, .int .i64 n] w fun e w' => e = .returned (.bool true) ∧ Below w.heap.size w w' := by
  have kA := hide (awake17 w hT)
  unfold maxLen at h1
  by_cases hs : s.size ≤ 300
  · by_cases hx : n ≤ 1000
    · go_enter Tryd.func5, Tryd.ntmps5
      go_wp2_with fail
      refine (unhide kA).mono ?_
      rintro e w0 ⟨rfl, hb0⟩
      have hT0 := tabs_below hT (Nat.le_refl _) hb0
      go_wp2_with fail
      refine (udf_Field s n _).mono ?_
      rintro e w1 ⟨rfl, hb1⟩
      go_wp2_with fail
      refine (ref_Field s n _).mono ?_
      rintro e w2 ⟨rfl, hb2⟩
      go_wp2_with fail
      refine (udf_Trim s _).mono ?_
      rintro e w3 ⟨rfl, rfl⟩
      go_wp2_with fail
      refine (ref_Trim s _).mono ?_
      rintro e w4 ⟨rfl, hd4⟩
      have hb3 := hd4.below
      clear hd4
      go_wp2_with fail
      go_ret
      exact ⟨rfl, hb0.trans ((hb1.trans ((hb2.trans (hb3.mono hb2.size)).mono hb1.size)).mono hb0.size)⟩
    · have hx' : 1000 < n := by omega
      by_cases hx2 : n ≤ 65536
      · go_enter Tryd.func5, Tryd.ntmps5
        go_wp2_with fail
        refine (unhide kA).mono ?_
        rintro e w0 ⟨rfl, hb0⟩
        have hT0 := tabs_below hT (Nat.le_refl _) hb0
        go_wp2_with fail
        go_ret
        exact ⟨rfl, hb0⟩
      · have hx3 : 65536 < n := by omega
        go_enter Tryd.func5, Tryd.ntmps5
        go_wp2_with fail
        refine (unhide kA).mono ?_
        rintro e w0 ⟨rfl, hb0⟩
        have hT0 := tabs_below hT (Nat.le_refl _) hb0
        go_wp2_with fail
        refine (udf_Field s n _).mono ?_
        rintro e w1 ⟨rfl, hb1⟩
        go_wp2_with fail
        refine (ref_Field s n _).mono ?_
        rintro e w2 ⟨rfl, hb2⟩
        go_wp2_with fail
        refine (udf_Trim s _).mono ?_
        rintro e w3 ⟨rfl, rfl⟩
        go_wp2_with fail
        refine (ref_Trim s _).mono ?_
        rintro e w4 ⟨rfl, hd4⟩
        have hb3 := hd4.below
        clear hd4
        go_wp2_with fail
        go_ret
        exact ⟨rfl, hb0.trans ((hb1.trans ((hb2.trans (hb3.mono hb2.size)).mono hb1.size)).mono hb0.size)⟩
  · have hs' : 300 < s.size := by omega
    by_cases hs2 : s.size ≤ 65536
    · go_enter Tryd.func5, Tryd.ntmps5
      go_wp2_with fail
      refine (unhide kA).mono ?_
      rintro e w0 ⟨rfl, hb0⟩
      have hT0 := tabs_below hT (Nat.le_refl _) hb0
      go_wp2_with fail
      go_ret
      exact ⟨rfl, hb0⟩
    · have hs2' : 65536 < s.size := by omega
      by_cases hx : n ≤ 1000
      · go_enter Tryd.func5, Tryd.ntmps5
        go_wp2_with fail
        refine (unhide kA).mono ?_
        rintro e w0 ⟨rfl, hb0⟩
        have hT0 := tabs_below hT (Nat.le_refl _) hb0
        go_wp2_with fail
        refine (udf_Field s n _).mono ?_
        rintro e w1 ⟨rfl, hb1⟩
        go_wp2_with fail
        refine (ref_Field s n _).mono ?_
        rintro e w2 ⟨rfl, hb2⟩
        go_wp2_with fail
        refine (udf_Trim s _).mono ?_
        rintro e w3 ⟨rfl, rfl⟩
        go_wp2_with fail
        refine (ref_Trim s _).mono ?_
        rintro e w4 ⟨rfl, hd4⟩
        have hb3 := hd4.below
        clear hd4
        go_wp2_with fail
        go_ret
        exact ⟨rfl, hb0.trans ((hb1.trans ((hb2.trans (hb3.mono hb2.size)).mono hb1.size)).mono hb0.size)⟩
      · have hx' : 1000 < n := by omega
        by_cases hx2 : n ≤ 65536
        · go_enter Tryd.func5, Tryd.ntmps5
          go_wp2_with fail
          refine (unhide kA).mono ?_
          rintro e w0 ⟨rfl, hb0⟩
          have hT0 := tabs_below hT (Nat.le_refl _) hb0
          go_wp2_with fail
          go_ret
          exact ⟨rfl, hb0⟩
        · have hx3 : 65536 < n := by omega
          go_enter Tryd.func5, Tryd.ntmps5
          go_wp2_with fail
          refine (unhide kA).mono ?_
          rintro e w0 ⟨rfl, hb0⟩
          have hT0 := tabs_below hT (Nat.le_refl _) hb0
          go_wp2_with fail
          refine (udf_Field s n _).mono ?_
          rintro e w1 ⟨rfl, hb1⟩
          go_wp2_with fail
          refine (ref_Field s n _).mono ?_
          rintro e w2 ⟨rfl, hb2⟩
          go_wp2_with fail
          refine (udf_Trim s _).mono ?_
          rintro e w3 ⟨rfl, rfl⟩
          go_wp2_with fail
          refine (ref_Trim s _).mono ?_
          rintro e w4 ⟨rfl, hd4⟩
          have hb3 := hd4.below
          clear hd4
          go_wp2_with fail
          go_ret
          exact ⟨rfl, hb0.trans ((hb1.trans ((hb2.trans (hb3.mono hb2.size)).mono hb1.size)).mono hb0.size)⟩
end Go.Proofs.YteiidcoapgnoaaaDoor
