/-
  The walk of CharsetClasses: it returns true.
-/
import Derived.Test.YteiidcoapgnoaaaDoorAwake17
import Derived.Test.YteiidcoapgnoaaaDoorChr17
import Derived.Test.YteiidcoapgnoaaaDoorRefFld
namespace Go.Proofs.YteiidcoapgnoaaaDoor
open Go.RowKit Go.Proofs.YteiidcoapgnoaaaDoorW.PrintWords

set_option maxHeartbeats 3200000 in
set_option maxRecDepth 100000 in
theorem walk_CharsetClasses (s : ByteArray) (w : World) (hT : Tabs w) (h1 : s.size ≤ maxLen) :
    Calls Tryd.prog 4 #[.string s] w fun e w' => e = .returned (.bool true) ∧ Below w.heap.size w w' := by
  have kA := hide (awake17 w hT)
  unfold maxLen at h1
  by_cases hs : s.size ≤ 300
  · go_enter Tryd.func4, Tryd.ntmps4
    go_wp2_with fail
    refine (unhide kA).mono ?_
    rintro e w0 ⟨rfl, hb0⟩
    have hT0 := tabs_below hT (Nat.le_refl _) hb0
    go_wp2_with fail
    refine (udf_DCharacters s _).mono ?_
    rintro e w1 ⟨rfl, hb1⟩
    go_wp2_with fail
    refine (ref_DCharacters s (by omega) _).mono ?_
    rintro e w2 ⟨rfl, hd2⟩
    have hb2 := hd2.below
    clear hd2
    go_wp2_with fail
    refine (udf_ACharacters s _).mono ?_
    rintro e w3 ⟨rfl, hb3⟩
    go_wp2_with fail
    refine (ref_ACharacters s (by omega) _).mono ?_
    rintro e w4 ⟨rfl, hd4⟩
    have hb4 := hd4.below
    clear hd4
    go_wp2_with fail
    refine (udf_Upper s _).mono ?_
    rintro e w5 ⟨rfl, hb5⟩
    go_wp2_with fail
    refine (ref_Upper s _).mono ?_
    rintro e w6 ⟨rfl, hb6⟩
    go_wp2_with fail
    go_ret
    exact ⟨rfl, hb0.trans ((hb1.trans ((hb2.trans ((hb3.trans ((hb4.trans ((hb5.trans (hb6.mono hb5.size)).mono hb4.size)).mono hb3.size)).mono hb2.size)).mono hb1.size)).mono hb0.size)⟩
  · have hs' : 300 < s.size := by omega
    by_cases hs2 : s.size ≤ 65536
    · go_enter Tryd.func4, Tryd.ntmps4
      go_wp2_with fail
      refine (unhide kA).mono ?_
      rintro e w0 ⟨rfl, hb0⟩
      have hT0 := tabs_below hT (Nat.le_refl _) hb0
      go_wp2_with fail
      go_ret
      exact ⟨rfl, hb0⟩
    · have hs2' : 65536 < s.size := by omega
      go_enter Tryd.func4, Tryd.ntmps4
      go_wp2_with fail
      refine (unhide kA).mono ?_
      rintro e w0 ⟨rfl, hb0⟩
      have hT0 := tabs_below hT (Nat.le_refl _) hb0
      go_wp2_with fail
      refine (udf_DCharacters s _).mono ?_
      rintro e w1 ⟨rfl, hb1⟩
      go_wp2_with fail
      refine (ref_DCharacters s (by omega) _).mono ?_
      rintro e w2 ⟨rfl, hd2⟩
      have hb2 := hd2.below
      clear hd2
      go_wp2_with fail
      refine (udf_ACharacters s _).mono ?_
      rintro e w3 ⟨rfl, hb3⟩
      go_wp2_with fail
      refine (ref_ACharacters s (by omega) _).mono ?_
      rintro e w4 ⟨rfl, hd4⟩
      have hb4 := hd4.below
      clear hd4
      go_wp2_with fail
      refine (udf_Upper s _).mono ?_
      rintro e w5 ⟨rfl, hb5⟩
      go_wp2_with fail
      refine (ref_Upper s _).mono ?_
      rintro e w6 ⟨rfl, hb6⟩
      go_wp2_with fail
      go_ret
      exact ⟨rfl, hb0.trans ((hb1.trans ((hb2.trans ((hb3.trans ((hb4.trans ((hb5.trans (hb6.mono hb5.size)).mono hb4.size)).mono hb3.size)).mono hb2.size)).mono hb1.size)).mono hb0.size)⟩
end Go.Proofs.YteiidcoapgnoaaaDoor
