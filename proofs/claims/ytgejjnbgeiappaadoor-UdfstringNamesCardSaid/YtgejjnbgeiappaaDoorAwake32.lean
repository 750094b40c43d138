/-
  masterdisclaw32.awake returns true.
-/
import Derived.Test.YtgejjnbgeiappaaDoorUdf6
namespace Go.Proofs.YtgejjnbgeiappaaDoor
open Go.RowKit Go.Proofs.YtgejjnbgeiappaaDoorW.PrintWords

theorem aw1 : compS ⟨#[65, 195, 169]⟩ = ⟨#[8, 65, 233]⟩ := by kernel_rfl
theorem aw2 : compE ⟨#[65, 195, 169]⟩ = 0 := by kernel_rfl
theorem aw3 : compS ⟨#[65, 226, 130, 172]⟩ = ⟨#[16, 0, 65, 32, 172]⟩ := by kernel_rfl
theorem aw4 : compE ⟨#[65, 226, 130, 172]⟩ = 0 := by kernel_rfl
theorem aw5 : dstS ⟨#[65, 195, 169]⟩ 8 = ⟨#[8, 65, 233, 0, 0, 0, 0, 3]⟩ := by kernel_rfl
theorem aw6 : dstE ⟨#[65, 195, 169]⟩ 8 = 0 := by kernel_rfl
theorem aw7 : pdsS ⟨#[8, 65, 233, 0, 0, 0, 0, 3]⟩ = ⟨#[65, 195, 169]⟩ := by kernel_rfl
theorem aw8 : pdsE ⟨#[8, 65, 233, 0, 0, 0, 0, 3]⟩ = 0 := by kernel_rfl
theorem aw9 : fitS ⟨#[65, 226, 130, 172]⟩ 4 = ⟨#[65]⟩ := by kernel_rfl
theorem aw10 : ((⟨#[0, 79, 83, 84, 65, 32, 67, 111, 109, 112, 114, 101, 115, 115, 101, 100, 32, 85, 110, 105, 99, 111, 100, 101]⟩ : ByteArray) ++ zS 40).size = 64 := by kernel_rfl

set_option maxHeartbeats 3200000 in
set_option maxRecDepth 100000 in
theorem awake32 (w : World) (hT : Tabs w) : Calls Tryd.prog 10 #[] w fun e w' => e = .returned (.bool true) ∧ Below w.heap.size w w' := by
  go_enter Tryd.func10, Tryd.ntmps10
  go_wp2_with fail
  refine (udf_Compress _ _ hT (by decide)).mono ?_
  rw [aw1, aw2]
  rintro e w1 ⟨rfl, hb1⟩
  have hT1 := tabs_below hT (Nat.le_refl _) hb1
  go_wp2_with fail
  refine (udf_Compress _ _ hT1 (by decide)).mono ?_
  rw [aw3, aw4]
  rintro e w2 ⟨rfl, hb2⟩
  have hT2 := tabs_below hT1 (Nat.le_refl _) hb2
  go_wp2_with fail
  refine (udf_Dstring _ _ _ hT2 (by decide)).mono ?_
  rw [aw5, aw6]
  rintro e w3 ⟨rfl, hb3⟩
  have hT3 := tabs_below hT2 (Nat.le_refl _) hb3
  go_wp2_with fail
  refine (udf_ParseDstring _ _ (by decide)).mono ?_
  rw [aw7, aw8]
  rintro e w4 ⟨rfl, hb4⟩
  have hT4 := tabs_below hT3 (Nat.le_refl _) hb4
  go_wp2_with fail
  refine (udf_Fit _ _ _ hT4 (by decide)).mono ?_
  rw [aw9]
  rintro e w5 ⟨rfl, hb5⟩
  go_wp2_with fail
  refine (udf_Charspec _).mono ?_
  rintro e w6 ⟨s, rfl, hs, hb6⟩
  have hz : (s.size : Int) = 64 := by rw [hs, aw10]; rfl
  clear hs
  have q : ((s.size : Int) == 64) = true := by rw [hz]; rfl
  clear hz
  go_wp2_with fail
  go_ret
  exact ⟨rfl, hb1.trans ((hb2.trans ((hb3.trans ((hb4.trans ((hb5.trans (hb6.mono hb5.size)).mono hb4.size)).mono hb3.size)).mono hb2.size)).mono hb1.size)⟩
end Go.Proofs.YtgejjnbgeiappaaDoor
