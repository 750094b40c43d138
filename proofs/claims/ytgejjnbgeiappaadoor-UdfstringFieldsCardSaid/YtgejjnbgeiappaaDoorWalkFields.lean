/-
  The walk of UdfstringFields: it returns true.
-/
import Derived.Test.YtgejjnbgeiappaaDoorAwake32
namespace Go.Proofs.YtgejjnbgeiappaaDoor
open Go.RowKit Go.Proofs.YtgejjnbgeiappaaDoorW.PrintWords

set_option maxHeartbeats 3200000 in
set_option maxRecDepth 100000 in
theorem walk_UdfstringFields (s : ByteArray) (size : Int) (field : ByteArray) (w : World) (hT : Tabs w) (h1 : s.size ≤ maxLen) (h2 : field.size ≤ maxLen) :
    Calls Tryd.prog 4 #[.string s, .int .i64 size, .string field] w fun e w' => e = .returned (.bool true) ∧ Below w.heap.size w w' := by
  have kA := hide (awake32 w hT)
  unfold maxLen at h1 h2
  by_cases hs : s.size ≤ 300
  · by_cases hd : field.size ≤ 300
    · go_enter Tryd.func4, Tryd.ntmps4
      go_wp2_with fail
      refine (unhide kA).mono ?_
      rintro e w0 ⟨rfl, hb0⟩
      have hT0 := tabs_below hT (Nat.le_refl _) hb0
      go_wp2_with fail
      refine (udf_Dstring _ _ _ hT0 (by omega)).mono ?_
      rintro e w1 ⟨rfl, hb1⟩
      have hT1 := tabs_below hT0 (Nat.le_refl _) hb1
      go_wp2_with fail
      refine (ref_Dstring _ _ _ (by omega)).mono ?_
      rintro e w2 ⟨rfl, hb2⟩
      have hT2 := tabs_below hT1 (Nat.le_refl _) hb2
      go_wp2_with fail
      refine (udf_ParseDstring _ _ (by omega)).mono ?_
      rintro e w3 ⟨rfl, hb3⟩
      have hT3 := tabs_below hT2 (Nat.le_refl _) hb3
      go_wp2_with fail
      refine (ref_ParseDstring _ _ (by omega)).mono ?_
      rintro e w4 ⟨rfl, hb4⟩
      have hT4 := tabs_below hT3 (Nat.le_refl _) hb4
      go_wp2_with fail
      refine (udf_Fit _ _ _ hT4 (by omega)).mono ?_
      rintro e w5 ⟨rfl, hb5⟩
      go_wp2_with fail
      refine (ref_Fit _ _ _ (by omega)).mono ?_
      rintro e w6 ⟨rfl, hb6⟩
      go_wp2_with fail
      go_ret
      exact ⟨rfl, hb0.trans ((hb1.trans ((hb2.trans ((hb3.trans ((hb4.trans ((hb5.trans (hb6.mono hb5.size)).mono hb4.size)).mono hb3.size)).mono hb2.size)).mono hb1.size)).mono hb0.size)⟩
    · have hd' : 300 < field.size := by omega
      go_enter Tryd.func4, Tryd.ntmps4
      go_wp2_with fail
      refine (unhide kA).mono ?_
      rintro e w0 ⟨rfl, hb0⟩
      go_wp2_with fail
      go_ret
      exact ⟨rfl, hb0⟩
  · have hs' : 300 < s.size := by omega
    go_enter Tryd.func4, Tryd.ntmps4
    go_wp2_with fail
    refine (unhide kA).mono ?_
    rintro e w0 ⟨rfl, hb0⟩
    go_wp2_with fail
    go_ret
    exact ⟨rfl, hb0⟩
end Go.Proofs.YtgejjnbgeiappaaDoor
