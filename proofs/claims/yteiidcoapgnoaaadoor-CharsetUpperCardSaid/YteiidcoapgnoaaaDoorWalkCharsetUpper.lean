/-
  The walk of CharsetUpper: it returns true.
-/
import Derived.Test.YteiidcoapgnoaaaDoorAwake17
import Derived.Test.YteiidcoapgnoaaaDoorChr17
import Derived.Test.YteiidcoapgnoaaaDoorBack17
namespace Go.Proofs.YteiidcoapgnoaaaDoor
open Go.RowKit Go.Proofs.YteiidcoapgnoaaaDoorW.PrintWords

theorem ref_IsText (s : ByteArray) (w : World) :
    Calls Tryd.prog 37 #[.string s] w fun e w' => e = .returned (.bool (chrE s == 0)) ∧ Below w.heap.size w w' := by
  have kC := hide (ref_Chars s w)
  generalize chrE s = E at *
  generalize chrL s = L at *
  go_enter Tryd.func37, Tryd.ntmps37
  go_wp2_with fail
  refine (unhide kC).mono ?_
  rintro e w1 ⟨A1, c1, rfl, -, -, hb1⟩
  go_wp2_with fail
  go_ret
  exact ⟨rfl, hb1⟩

set_option maxHeartbeats 3200000 in
set_option maxRecDepth 100000 in
theorem walk_CharsetUpper (s : ByteArray) (w : World) (hT : Tabs w) (h1 : s.size ≤ maxLen) :
    Calls Tryd.prog 9 #[.string s] w fun e w' => e = .returned (.bool true) ∧ Below w.heap.size w w' := by
  have kA := hide (awake17 w hT)
  unfold maxLen at h1
  by_cases hs : s.size ≤ 300
  · obtain ⟨u1, u2, u3⟩ := upr_twice hs
    cases hD : allB dB s with
    | true =>
      obtain ⟨hA, hUs⟩ := d_upper hs hD
      have HU := Lib.hid (And.intro hUs hUs)
      clear u1 u2 u3 hUs
      go_enter Tryd.func9, Tryd.ntmps9
      go_wp2_with fail
      refine (unhide kA).mono ?_
      rintro e w0 ⟨rfl, hb0⟩
      have hT0 := tabs_below hT (Nat.le_refl _) hb0
      go_wp2_with fail
      refine (udf_Upper s _).mono ?_
      rw [HU.out.1]
      rintro e w1 ⟨rfl, hb1⟩
      have hT1 := tabs_below hT0 (Nat.le_refl _) hb1
      go_wp2_with fail
      refine (udf_Upper s _).mono ?_
      rw [HU.out.2]
      rintro e w2 ⟨rfl, hb2⟩
      have hT2 := tabs_below hT1 (Nat.le_refl _) hb2
      go_wp2_with fail
      refine (cs_Chars s _ hT2).mono ?_
      rintro e w3 ⟨A1, c1, rfl, -, -, hb3⟩
      go_wp2_with fail
      refine (ref_IsText s _).mono ?_
      rintro e w4 ⟨rfl, hb4⟩
      go_wp2_with fail
      refine (udf_DCharacters s _).mono ?_
      rw [hD]
      rintro e w5 ⟨rfl, hb5⟩
      go_wp2_with fail
      refine (udf_ACharacters s _).mono ?_
      rw [hA]
      rintro e w6 ⟨rfl, hb6⟩
      go_wp2_with fail
      go_ret
      exact ⟨rfl, hb0.trans ((hb1.trans ((hb2.trans ((hb3.trans ((hb4.trans ((hb5.trans (hb6.mono hb5.size)).mono hb4.size)).mono hb3.size)).mono hb2.size)).mono hb1.size)).mono hb0.size)⟩
    | false =>
      obtain ⟨U, hU⟩ : ∃ U, uprS s = U := ⟨_, rfl⟩
      rw [hU] at u1 u2 u3
      have q1 : ((U.size : Int) != (s.size : Int)) = false := by rw [bne_eq_false_iff_eq]; omega
      have HU := Lib.hid (And.intro hU (And.intro u2 u3))
      clear u1 u2 u3 hU
      go_enter Tryd.func9, Tryd.ntmps9
      go_wp2_with fail
      refine (unhide kA).mono ?_
      rintro e w0 ⟨rfl, hb0⟩
      have hT0 := tabs_below hT (Nat.le_refl _) hb0
      go_wp2_with fail
      refine (udf_Upper s _).mono ?_
      rw [HU.out.1]
      rintro e w1 ⟨rfl, hb1⟩
      have hT1 := tabs_below hT0 (Nat.le_refl _) hb1
      go_wp2_with fail
      refine (udf_Upper U _).mono ?_
      rw [HU.out.2.1]
      rintro e w2 ⟨rfl, hb2⟩
      have hT2 := tabs_below hT1 (Nat.le_refl _) hb2
      go_wp2_with fail
      refine (cs_Chars s _ hT2).mono ?_
      rintro e w3 ⟨A1, c1, rfl, -, -, hb3⟩
      go_wp2_with fail
      refine (ref_IsText U _).mono ?_
      rw [HU.out.2.2]
      rintro e w4 ⟨rfl, hb4⟩
      go_wp2_with fail
      refine (udf_DCharacters s _).mono ?_
      rw [hD]
      rintro e w5 ⟨rfl, hb5⟩
      go_wp2_with fail
      go_ret
      exact ⟨rfl, hb0.trans ((hb1.trans ((hb2.trans ((hb3.trans ((hb4.trans (hb5.mono hb4.size)).mono hb3.size)).mono hb2.size)).mono hb1.size)).mono hb0.size)⟩
  · have hs' : 300 < s.size := by omega
    go_enter Tryd.func9, Tryd.ntmps9
    go_wp2_with fail
    refine (unhide kA).mono ?_
    rintro e w0 ⟨rfl, hb0⟩
    have hT0 := tabs_below hT (Nat.le_refl _) hb0
    go_wp2_with fail
    go_ret
    exact ⟨rfl, hb0⟩
end Go.Proofs.YteiidcoapgnoaaaDoor
