/-
  The walk of CharsetFilled: it returns true.
-/
import Derived.Test.YteiidcoapgnoaaaDoorAwake17
import Derived.Test.YteiidcoapgnoaaaDoorChr17
import Derived.Test.YteiidcoapgnoaaaDoorBack17
namespace Go.Proofs.YteiidcoapgnoaaaDoor
open Go.RowKit Go.Proofs.YteiidcoapgnoaaaDoorW.PrintWords

set_option maxHeartbeats 6400000 in
set_option maxRecDepth 100000 in
theorem walk_CharsetFilled (s : ByteArray) (n : Int) (w : World) (hT : Tabs w) (h1 : s.size ≤ maxLen) :
    Calls Tryd.prog 8 #[.string s, .int .i64 n] w fun e w' => e = .returned (.bool true) ∧ Below w.heap.size w w' := by
  have kA := hide (awake17 w hT)
  unfold maxLen at h1
  by_cases hs : s.size ≤ 200
  · by_cases h2 : n < 0
    · go_enter Tryd.func8, Tryd.ntmps8
      go_wp2_with fail
      refine (unhide kA).mono ?_
      rintro e w0 ⟨rfl, hb0⟩
      have hT0 := tabs_below hT (Nat.le_refl _) hb0
      go_wp2_with fail
      go_ret
      exact ⟨rfl, hb0⟩
    · have h3 : 0 ≤ n := by omega
      by_cases h4 : n ≤ 1000
      · obtain ⟨R, hR⟩ : ∃ R, (⟨(Lib.trimRightB s.data.toList 32).toArray⟩ : ByteArray) = R := ⟨_, rfl⟩
        have HR := Lib.hid hR
        by_cases h5 : (s.size : Int) ≤ n
        · obtain ⟨z1, z2, z3, z4, z5⟩ := fld_back hs h5 h4
          obtain ⟨F, hF⟩ : ∃ F, fldS s n = F := ⟨_, rfl⟩
          rw [hF] at z2 z3 z4 z5
          rw [hR] at z5
          have p1 : s.size ≤ F.size := by omega
          have p2 : F.size ≤ 1000 := by omega
          have p3 : ((F.size : Int) != n) = false := by rw [bne_eq_false_iff_eq]; exact z2
          have HB := Lib.hid (And.intro hF (And.intro z1 (And.intro z3 (And.intro z4 z5))))
          clear hR hF z1 z2 z3 z4 z5
          by_cases hE : ucsE s = 0
          · by_cases hN : n < ((ucsS s).size : Int)
            · obtain ⟨x1, x2⟩ := wfd_full hE (by omega) hN
              obtain ⟨U, hU⟩ : ∃ U, ucsS s = U := ⟨_, rfl⟩
              rw [hU] at hN
              have HE := Lib.hid (And.intro (And.intro hE hU) (And.intro x1 x2))
              clear x1 x2 hU hE
              go_enter Tryd.func8, Tryd.ntmps8
              go_wp2_with fail
              refine (unhide kA).mono ?_
              rintro e w0 ⟨rfl, hb0⟩
              have hT0 := tabs_below hT (Nat.le_refl _) hb0
              go_wp2_with fail
              refine (udf_Field s n _).mono ?_
              rw [HB.out.1, HB.out.2.1]
              rintro e w1 ⟨rfl, hb1⟩
              have hT1 := tabs_below hT0 (Nat.le_refl _) hb1
              go_wp2_with fail
              refine (Tryd.strings_HasPrefix F s _).mono ?_
              rw [HB.out.2.2.1]
              rintro e wx ⟨rfl, rfl⟩
              go_wp2_with fail
              refine (Tryd.strings_TrimRight_one (F.extract s.size F.size) 32 (by decide) _ (by rw [Lib.size_eq, Lib.extract_to_end, List.length_drop, ← Lib.size_eq]; omega)).mono ?_
              rw [HB.out.2.2.2.1]
              rintro e wx ⟨rfl, rfl⟩
              go_wp2_with fail
              refine (udf_Trim F _).mono ?_
              rw [HB.out.2.2.2.2]
              rintro e wx ⟨rfl, rfl⟩
              go_wp2_with fail
              refine (Tryd.strings_TrimRight_one s 32 (by decide) _ (by omega)).mono ?_
              rw [HR.out]
              rintro e wx ⟨rfl, rfl⟩
              go_wp2_with fail
              refine (udf_Ucs2 s _ hT1).mono ?_
              rw [HE.out.1.1, HE.out.1.2]
              rintro e w2 ⟨rfl, hb2⟩
              have hT2 := tabs_below hT1 (Nat.le_refl _) hb2
              go_wp2_with fail
              refine (udf_WideField s n _ hT2).mono ?_
              rw [HE.out.2.1, HE.out.2.2]
              rintro e w3 ⟨rfl, hb3⟩
              go_wp2_with fail
              go_ret
              exact ⟨rfl, hb0.trans ((hb1.trans ((hb2.trans (hb3.mono hb2.size)).mono hb1.size)).mono hb0.size)⟩
            · obtain ⟨m, hm⟩ : ∃ m : Nat, n = (((ucsS s).size + m : Nat) : Int) := ⟨(n - ((ucsS s).size : Int)).toNat, by omega⟩
              obtain ⟨y1, y2, y3, y4⟩ := wfd_back (m := m) hs hE (by omega)
              have x2 := (wfd_ok (s := s) (m := m) hE (by omega)).2
              rw [← hm] at y1 y2 y3 y4 x2
              rw [HR.out] at y4
              obtain ⟨U, hU⟩ : ∃ U, ucsS s = U := ⟨_, rfl⟩
              obtain ⟨Wd, hW⟩ : ∃ Wd, wfdS s n = Wd := ⟨_, rfl⟩
              rw [hU] at y2 hm hN
              rw [hW] at y1 y2 y3 y4
              have q5 : ((Wd.size : Int) == n) = true := by rw [beq_iff_eq, y1, hU, hm]
              have q6 : ¬ n < (U.size : Int) := hN
              have HE := Lib.hid (And.intro hE (And.intro hU (And.intro hW (And.intro x2 (And.intro y2 (And.intro y4 y3))))))
              clear hE hU hW x2 y1 y2 y3 y4 hm
              go_enter Tryd.func8, Tryd.ntmps8
              go_wp2_with fail
              refine (unhide kA).mono ?_
              rintro e w0 ⟨rfl, hb0⟩
              have hT0 := tabs_below hT (Nat.le_refl _) hb0
              go_wp2_with fail
              refine (udf_Field s n _).mono ?_
              rw [HB.out.1, HB.out.2.1]
              rintro e w1 ⟨rfl, hb1⟩
              have hT1 := tabs_below hT0 (Nat.le_refl _) hb1
              go_wp2_with fail
              refine (Tryd.strings_HasPrefix F s _).mono ?_
              rw [HB.out.2.2.1]
              rintro e wx ⟨rfl, rfl⟩
              go_wp2_with fail
              refine (Tryd.strings_TrimRight_one (F.extract s.size F.size) 32 (by decide) _ (by rw [Lib.size_eq, Lib.extract_to_end, List.length_drop, ← Lib.size_eq]; omega)).mono ?_
              rw [HB.out.2.2.2.1]
              rintro e wx ⟨rfl, rfl⟩
              go_wp2_with fail
              refine (udf_Trim F _).mono ?_
              rw [HB.out.2.2.2.2]
              rintro e wx ⟨rfl, rfl⟩
              go_wp2_with fail
              refine (Tryd.strings_TrimRight_one s 32 (by decide) _ (by omega)).mono ?_
              rw [HR.out]
              rintro e wx ⟨rfl, rfl⟩
              go_wp2_with fail
              refine (udf_Ucs2 s _ hT1).mono ?_
              rw [HE.out.1, HE.out.2.1]
              rintro e w2 ⟨rfl, hb2⟩
              have hT2 := tabs_below hT1 (Nat.le_refl _) hb2
              go_wp2_with fail
              refine (udf_WideField s n _ hT2).mono ?_
              rw [HE.out.2.2.1, HE.out.2.2.2.1]
              rintro e w3 ⟨rfl, hb3⟩
              go_wp2_with fail
              refine (udf_WideTrim Wd _).mono ?_
              rw [HE.out.2.2.2.2.2.1, HE.out.2.2.2.2.2.2]
              rintro e w4 ⟨rfl, hb4⟩
              go_wp2_with fail
              refine (Tryd.strings_HasPrefix Wd U _).mono ?_
              rw [HE.out.2.2.2.2.1]
              rintro e wx ⟨rfl, rfl⟩
              go_wp2_with fail
              refine (Tryd.strings_TrimRight_one s 32 (by decide) _ (by omega)).mono ?_
              rw [HR.out]
              rintro e wx ⟨rfl, rfl⟩
              go_wp2_with fail
              go_ret
              exact ⟨rfl, hb0.trans ((hb1.trans ((hb2.trans ((hb3.trans (hb4.mono hb3.size)).mono hb2.size)).mono hb1.size)).mono hb0.size)⟩
          · obtain ⟨x1, x2⟩ := wfd_err (n := n) hE
            obtain ⟨E, hEE⟩ : ∃ E, ucsE s = E := ⟨_, rfl⟩
            rw [hEE] at x2
            have qE : (E != 0) = true := by rw [bne_iff_ne, ← hEE]; exact hE
            have HE := Lib.hid (And.intro hEE (And.intro x1 x2))
            clear x1 x2 hE hEE
            go_enter Tryd.func8, Tryd.ntmps8
            go_wp2_with fail
            refine (unhide kA).mono ?_
            rintro e w0 ⟨rfl, hb0⟩
            have hT0 := tabs_below hT (Nat.le_refl _) hb0
            go_wp2_with fail
            refine (udf_Field s n _).mono ?_
            rw [HB.out.1, HB.out.2.1]
            rintro e w1 ⟨rfl, hb1⟩
            have hT1 := tabs_below hT0 (Nat.le_refl _) hb1
            go_wp2_with fail
            refine (Tryd.strings_HasPrefix F s _).mono ?_
            rw [HB.out.2.2.1]
            rintro e wx ⟨rfl, rfl⟩
            go_wp2_with fail
            refine (Tryd.strings_TrimRight_one (F.extract s.size F.size) 32 (by decide) _ (by rw [Lib.size_eq, Lib.extract_to_end, List.length_drop, ← Lib.size_eq]; omega)).mono ?_
            rw [HB.out.2.2.2.1]
            rintro e wx ⟨rfl, rfl⟩
            go_wp2_with fail
            refine (udf_Trim F _).mono ?_
            rw [HB.out.2.2.2.2]
            rintro e wx ⟨rfl, rfl⟩
            go_wp2_with fail
            refine (Tryd.strings_TrimRight_one s 32 (by decide) _ (by omega)).mono ?_
            rw [HR.out]
            rintro e wx ⟨rfl, rfl⟩
            go_wp2_with fail
            refine (udf_Ucs2 s _ hT1).mono ?_
            rw [HE.out.1]
            rintro e w2 ⟨rfl, hb2⟩
            have hT2 := tabs_below hT1 (Nat.le_refl _) hb2
            go_wp2_with fail
            refine (udf_WideField s n _ hT2).mono ?_
            rw [HE.out.2.1, HE.out.2.2]
            rintro e w3 ⟨rfl, hb3⟩
            go_wp2_with fail
            go_ret
            exact ⟨rfl, hb0.trans ((hb1.trans ((hb2.trans (hb3.mono hb2.size)).mono hb1.size)).mono hb0.size)⟩
        · have h6 : n < (s.size : Int) := by omega
          have z1 : fldE s n = 12 := by unfold fldE; rw [if_neg (by omega), if_neg (by omega), if_pos h6]
          have HA := Lib.hid z1
          clear hR z1
          by_cases hE : ucsE s = 0
          · by_cases hN : n < ((ucsS s).size : Int)
            · obtain ⟨x1, x2⟩ := wfd_full hE (by omega) hN
              obtain ⟨U, hU⟩ : ∃ U, ucsS s = U := ⟨_, rfl⟩
              rw [hU] at hN
              have HE := Lib.hid (And.intro (And.intro hE hU) (And.intro x1 x2))
              clear x1 x2 hU hE
              go_enter Tryd.func8, Tryd.ntmps8
              go_wp2_with fail
              refine (unhide kA).mono ?_
              rintro e w0 ⟨rfl, hb0⟩
              have hT0 := tabs_below hT (Nat.le_refl _) hb0
              go_wp2_with fail
              refine (udf_Field s n _).mono ?_
              rw [HA.out]
              rintro e w1 ⟨rfl, hb1⟩
              have hT1 := tabs_below hT0 (Nat.le_refl _) hb1
              go_wp2_with fail
              refine (udf_Ucs2 s _ hT1).mono ?_
              rw [HE.out.1.1, HE.out.1.2]
              rintro e w2 ⟨rfl, hb2⟩
              have hT2 := tabs_below hT1 (Nat.le_refl _) hb2
              go_wp2_with fail
              refine (udf_WideField s n _ hT2).mono ?_
              rw [HE.out.2.1, HE.out.2.2]
              rintro e w3 ⟨rfl, hb3⟩
              go_wp2_with fail
              go_ret
              exact ⟨rfl, hb0.trans ((hb1.trans ((hb2.trans (hb3.mono hb2.size)).mono hb1.size)).mono hb0.size)⟩
            · obtain ⟨m, hm⟩ : ∃ m : Nat, n = (((ucsS s).size + m : Nat) : Int) := ⟨(n - ((ucsS s).size : Int)).toNat, by omega⟩
              obtain ⟨y1, y2, y3, y4⟩ := wfd_back (m := m) hs hE (by omega)
              have x2 := (wfd_ok (s := s) (m := m) hE (by omega)).2
              rw [← hm] at y1 y2 y3 y4 x2
              rw [HR.out] at y4
              obtain ⟨U, hU⟩ : ∃ U, ucsS s = U := ⟨_, rfl⟩
              obtain ⟨Wd, hW⟩ : ∃ Wd, wfdS s n = Wd := ⟨_, rfl⟩
              rw [hU] at y2 hm hN
              rw [hW] at y1 y2 y3 y4
              have q5 : ((Wd.size : Int) == n) = true := by rw [beq_iff_eq, y1, hU, hm]
              have q6 : ¬ n < (U.size : Int) := hN
              have HE := Lib.hid (And.intro hE (And.intro hU (And.intro hW (And.intro x2 (And.intro y2 (And.intro y4 y3))))))
              clear hE hU hW x2 y1 y2 y3 y4 hm
              go_enter Tryd.func8, Tryd.ntmps8
              go_wp2_with fail
              refine (unhide kA).mono ?_
              rintro e w0 ⟨rfl, hb0⟩
              have hT0 := tabs_below hT (Nat.le_refl _) hb0
              go_wp2_with fail
              refine (udf_Field s n _).mono ?_
              rw [HA.out]
              rintro e w1 ⟨rfl, hb1⟩
              have hT1 := tabs_below hT0 (Nat.le_refl _) hb1
              go_wp2_with fail
              refine (udf_Ucs2 s _ hT1).mono ?_
              rw [HE.out.1, HE.out.2.1]
              rintro e w2 ⟨rfl, hb2⟩
              have hT2 := tabs_below hT1 (Nat.le_refl _) hb2
              go_wp2_with fail
              refine (udf_WideField s n _ hT2).mono ?_
              rw [HE.out.2.2.1, HE.out.2.2.2.1]
              rintro e w3 ⟨rfl, hb3⟩
              go_wp2_with fail
              refine (udf_WideTrim Wd _).mono ?_
              rw [HE.out.2.2.2.2.2.1, HE.out.2.2.2.2.2.2]
              rintro e w4 ⟨rfl, hb4⟩
              go_wp2_with fail
              refine (Tryd.strings_HasPrefix Wd U _).mono ?_
              rw [HE.out.2.2.2.2.1]
              rintro e wx ⟨rfl, rfl⟩
              go_wp2_with fail
              refine (Tryd.strings_TrimRight_one s 32 (by decide) _ (by omega)).mono ?_
              rw [HR.out]
              rintro e wx ⟨rfl, rfl⟩
              go_wp2_with fail
              go_ret
              exact ⟨rfl, hb0.trans ((hb1.trans ((hb2.trans ((hb3.trans (hb4.mono hb3.size)).mono hb2.size)).mono hb1.size)).mono hb0.size)⟩
          · obtain ⟨x1, x2⟩ := wfd_err (n := n) hE
            obtain ⟨E, hEE⟩ : ∃ E, ucsE s = E := ⟨_, rfl⟩
            rw [hEE] at x2
            have qE : (E != 0) = true := by rw [bne_iff_ne, ← hEE]; exact hE
            have HE := Lib.hid (And.intro hEE (And.intro x1 x2))
            clear x1 x2 hE hEE
            go_enter Tryd.func8, Tryd.ntmps8
            go_wp2_with fail
            refine (unhide kA).mono ?_
            rintro e w0 ⟨rfl, hb0⟩
            have hT0 := tabs_below hT (Nat.le_refl _) hb0
            go_wp2_with fail
            refine (udf_Field s n _).mono ?_
            rw [HA.out]
            rintro e w1 ⟨rfl, hb1⟩
            have hT1 := tabs_below hT0 (Nat.le_refl _) hb1
            go_wp2_with fail
            refine (udf_Ucs2 s _ hT1).mono ?_
            rw [HE.out.1]
            rintro e w2 ⟨rfl, hb2⟩
            have hT2 := tabs_below hT1 (Nat.le_refl _) hb2
            go_wp2_with fail
            refine (udf_WideField s n _ hT2).mono ?_
            rw [HE.out.2.1, HE.out.2.2]
            rintro e w3 ⟨rfl, hb3⟩
            go_wp2_with fail
            go_ret
            exact ⟨rfl, hb0.trans ((hb1.trans ((hb2.trans (hb3.mono hb2.size)).mono hb1.size)).mono hb0.size)⟩
      · have h5 : 1000 < n := by omega
        go_enter Tryd.func8, Tryd.ntmps8
        go_wp2_with fail
        refine (unhide kA).mono ?_
        rintro e w0 ⟨rfl, hb0⟩
        have hT0 := tabs_below hT (Nat.le_refl _) hb0
        go_wp2_with fail
        go_ret
        exact ⟨rfl, hb0⟩
  · have hs' : 200 < s.size := by omega
    go_enter Tryd.func8, Tryd.ntmps8
    go_wp2_with fail
    refine (unhide kA).mono ?_
    rintro e w0 ⟨rfl, hb0⟩
    have hT0 := tabs_below hT (Nat.le_refl _) hb0
    go_wp2_with fail
    go_ret
    exact ⟨rfl, hb0⟩
end Go.Proofs.YteiidcoapgnoaaaDoor
