/-
  The walk of CharsetTexts: it returns true.
-/
import Derived.Test.YteiidcoapgnoaaaDoorAwake17
import Derived.Test.YteiidcoapgnoaaaDoorChr17
import Derived.Test.YteiidcoapgnoaaaDoorRefTxt
namespace Go.Proofs.YteiidcoapgnoaaaDoor
open Go.RowKit Go.Proofs.YteiidcoapgnoaaaDoorW.PrintWords

set_option maxHeartbeats 3200000 in
set_option maxRecDepth 100000 in
theorem walk_CharsetTexts (s : ByteArray) (A : Option Addr) (c : Nat) (xs : List Int) (w : World) (hT : Tabs w) (h1 : s.size ≤ maxLen) (hr : Row w A xs) (hc : xs.length ≤ c) (hm : xs.length ≤ maxLen) :
    Calls Tryd.prog 3 #[.string s, .slice A xs.length c] w fun e w' => e = .returned (.bool true) ∧ Below w.heap.size w w' := by
  have kA := hide (awake17 w hT)
  have hcl := chrL_len s
  unfold maxLen at h1 hm
  by_cases hs : s.size ≤ 300
  · by_cases hx : xs.length ≤ 300
    · go_enter Tryd.func3, Tryd.ntmps3
      go_wp2_with fail
      refine (unhide kA).mono ?_
      rintro e w0 ⟨rfl, hb0⟩
      have hT0 := tabs_below hT (Nat.le_refl _) hb0
      go_wp2_with fail
      refine (cs_Chars s _ hT0).mono ?_
      rintro e w1 ⟨A1, c1, rfl, hr1, -, hb1⟩
      go_wp2_with fail
      refine (ref_Chars s _).mono ?_
      rintro e w2 ⟨A2, c2, rfl, hr2, -, hb2⟩
      have hrA := ((hr.below hb0).below hb1).below hb2
      go_wp2_with fail
      refine (cs_Text A c xs _ hrA (by omega)).mono ?_
      rintro e w3 ⟨rfl, hb3⟩
      go_wp2_with fail
      refine (ref_Text A c xs _ (hrA.below hb3) hc (by omega)).mono ?_
      rintro e w4 ⟨rfl, hb4⟩
      go_wp2_with fail
      refine (eq_nats A1 A2 c1 c2 (chrL s) _ (((hr1.below hb2).below hb3).below hb4) ((hr2.below hb3).below hb4) (by omega)).mono ?_
      rintro e w5 ⟨rfl, hb5⟩
      go_wp2_with fail
      go_ret
      exact ⟨rfl, hb0.trans ((hb1.trans ((hb2.trans ((hb3.trans ((hb4.trans (hb5.mono hb4.size)).mono hb3.size)).mono hb2.size)).mono hb1.size)).mono hb0.size)⟩
    · have hx' : 300 < xs.length := by omega
      go_enter Tryd.func3, Tryd.ntmps3
      go_wp2_with fail
      refine (unhide kA).mono ?_
      rintro e w0 ⟨rfl, hb0⟩
      have hT0 := tabs_below hT (Nat.le_refl _) hb0
      go_wp2_with fail
      go_ret
      exact ⟨rfl, hb0⟩
  · have hs' : 300 < s.size := by omega
    by_cases hs2 : s.size ≤ 65536
    · go_enter Tryd.func3, Tryd.ntmps3
      go_wp2_with fail
      refine (unhide kA).mono ?_
      rintro e w0 ⟨rfl, hb0⟩
      have hT0 := tabs_below hT (Nat.le_refl _) hb0
      go_wp2_with fail
      go_ret
      exact ⟨rfl, hb0⟩
    · have hs2' : 65536 < s.size := by omega
      by_cases hx : xs.length ≤ 300
      · go_enter Tryd.func3, Tryd.ntmps3
        go_wp2_with fail
        refine (unhide kA).mono ?_
        rintro e w0 ⟨rfl, hb0⟩
        have hT0 := tabs_below hT (Nat.le_refl _) hb0
        go_wp2_with fail
        refine (cs_Chars s _ hT0).mono ?_
        rintro e w1 ⟨A1, c1, rfl, hr1, -, hb1⟩
        go_wp2_with fail
        refine (ref_Chars s _).mono ?_
        rintro e w2 ⟨A2, c2, rfl, hr2, -, hb2⟩
        have hrA := ((hr.below hb0).below hb1).below hb2
        go_wp2_with fail
        refine (cs_Text A c xs _ hrA (by omega)).mono ?_
        rintro e w3 ⟨rfl, hb3⟩
        go_wp2_with fail
        refine (ref_Text A c xs _ (hrA.below hb3) hc (by omega)).mono ?_
        rintro e w4 ⟨rfl, hb4⟩
        go_wp2_with fail
        refine (eq_nats A1 A2 c1 c2 (chrL s) _ (((hr1.below hb2).below hb3).below hb4) ((hr2.below hb3).below hb4) (by omega)).mono ?_
        rintro e w5 ⟨rfl, hb5⟩
        go_wp2_with fail
        go_ret
        exact ⟨rfl, hb0.trans ((hb1.trans ((hb2.trans ((hb3.trans ((hb4.trans (hb5.mono hb4.size)).mono hb3.size)).mono hb2.size)).mono hb1.size)).mono hb0.size)⟩
      · have hx' : 300 < xs.length := by omega
        go_enter Tryd.func3, Tryd.ntmps3
        go_wp2_with fail
        refine (unhide kA).mono ?_
        rintro e w0 ⟨rfl, hb0⟩
        have hT0 := tabs_below hT (Nat.le_refl _) hb0
        go_wp2_with fail
        go_ret
        exact ⟨rfl, hb0⟩
end Go.Proofs.YteiidcoapgnoaaaDoor
