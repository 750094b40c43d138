/-
  masterdisclaw17.awake returns true.
-/
import Derived.Test.YteiidcoapgnoaaaDoorEqs
import Derived.Test.YteiidcoapgnoaaaDoorUpr
import Derived.Test.YteiidcoapgnoaaaDoorWfd
import Derived.Test.YteiidcoapgnoaaaDoorWtr
import Derived.KernelRfl
namespace Go.Proofs.YteiidcoapgnoaaaDoor
open Go.RowKit Go.Proofs.YteiidcoapgnoaaaDoorW.PrintWords

def awA : ByteArray := ⟨#[65, 195, 169, 226, 130, 172]⟩
theorem aw1 : Ch.chars awA.data.toList = some [65, 233, 8364] := by kernel_rfl
theorem aw2 : (⟨(textS [65, 233, 8364]).toArray⟩ : ByteArray) = ⟨#[65, 195, 169, 226, 130, 172]⟩ := by kernel_rfl
theorem aw3 : textE [65, 233, 8364] = 0 := by kernel_rfl
theorem aw4 : ucsS awA = ⟨#[0, 65, 0, 233, 32, 172]⟩ := by kernel_rfl
theorem aw5 : ucsE awA = 0 := by kernel_rfl
theorem aw6 : frmS ⟨#[0, 65, 0, 233, 32, 172]⟩ = ⟨#[65, 195, 169, 226, 130, 172]⟩ := by kernel_rfl
theorem aw7 : frmE ⟨#[0, 65, 0, 233, 32, 172]⟩ = 0 := by kernel_rfl
theorem aw8 : wfdS awA 9 = ⟨#[0, 65, 0, 233, 32, 172, 0, 32, 0]⟩ := by kernel_rfl
theorem aw9 : wfdE awA 9 = 0 := by kernel_rfl
theorem aw10 : wtrS ⟨#[0, 65, 0, 233, 32, 172, 0, 32, 0]⟩ = ⟨#[65, 195, 169, 226, 130, 172]⟩ := by kernel_rfl
theorem aw11 : wtrE ⟨#[0, 65, 0, 233, 32, 172, 0, 32, 0]⟩ = 0 := by kernel_rfl
theorem aw12 : fldS ⟨#[65, 66]⟩ 4 = ⟨#[65, 66, 32, 32]⟩ := by kernel_rfl
theorem aw13 : fldE ⟨#[65, 66]⟩ 4 = 0 := by kernel_rfl
theorem aw14 : trmS ⟨#[65, 66, 32, 32]⟩ = ⟨#[65, 66]⟩ := by kernel_rfl
theorem aw15 : allB (fun b => dB b || aB b) ⟨#[82, 69, 65, 68, 77, 69, 46, 84, 88, 84]⟩ = true := by kernel_rfl
theorem aw16 : allB dB ⟨#[82, 69, 65, 68, 77, 69, 46, 84, 88, 84]⟩ = false := by kernel_rfl
theorem aw17 : allB dB ⟨#[82, 69, 65, 68, 77, 69, 95, 49]⟩ = true := by kernel_rfl
theorem aw18 : uprS ⟨#[97, 98, 95, 195, 169]⟩ = ⟨#[65, 66, 95, 195, 169]⟩ := by kernel_rfl
theorem aw19 : (nat2int [65, 233, 8364] == [65, 233, 8364]) = true := by kernel_rfl

theorem aw20 : ((⟨#[0, 65, 0, 233, 32, 172]⟩ : ByteArray) ++ ⟨#[0, 32, 0]⟩).toList = [0, 65, 0, 233, 32, 172, 0, 32, 0] := by kernel_rfl

set_option maxHeartbeats 3200000 in
set_option maxRecDepth 100000 in
theorem awake17 (w : World) (hT : Tabs w) : Calls Tryd.prog 11 #[] w fun e w' => e = .returned (.bool true) ∧ Below w.heap.size w w' := by
  go_enter Tryd.func11, Tryd.ntmps11
  go_wp2_with fail
  refine (cs_Characters_some awA w hT (by decide) aw1).mono ?_
  rintro e w1 ⟨A, c, rfl, hr, hcap, -, hb1⟩
  have hT1 := tabs_below hT (Nat.le_refl _) hb1
  go_wp2_with fail
  refine (cs_Text _ _ [65, 233, 8364] _ (row_three w1 65 233 8364 _) (by decide)).mono ?_
  rw [aw2, aw3]
  rintro e w2 ⟨rfl, hb2'⟩
  have hb2 : Below w1.heap.size w1 w2 := ((Below.refl _ _).alloc (Nat.le_refl _) _).trans (hb2'.mono (by simp))
  have hT2 := tabs_below hT1 (Nat.le_refl _) hb2
  clear hb2'
  go_wp2_with fail
  refine (udf_Ucs2 awA _ hT2).mono ?_
  rw [aw4, aw5]
  rintro e w3 ⟨rfl, hb3⟩
  have hT3 := tabs_below hT2 (Nat.le_refl _) hb3
  go_wp2_with fail
  refine (udf_FromUcs2 _ _).mono ?_
  rw [aw6, aw7]
  rintro e w4 ⟨rfl, hb4⟩
  have hT4 := tabs_below hT3 (Nat.le_refl _) hb4
  go_wp2_with fail
  refine (udf_WideField awA 9 _ hT4).mono ?_
  rw [aw8, aw9]
  rintro e w5 ⟨rfl, hb5⟩
  go_wp2_with fail
  refine (udf_WideTrim _ _).mono ?_
  rw [aw10, aw11]
  rintro e w6 ⟨rfl, hb6⟩
  go_wp2_with fail
  refine (udf_Field _ _ _).mono ?_
  rw [aw12, aw13]
  rintro e w7 ⟨rfl, hb7⟩
  have hB7 : Below w1.heap.size w1 w7 := hb2.trans ((hb3.trans ((hb4.trans ((hb5.trans ((hb6.trans (hb7.mono hb6.size)).mono hb5.size)).mono hb4.size)).mono hb3.size)).mono hb2.size)
  clear hb2 hb3 hb4 hb5 hb6 hb7 hT1 hT2 hT3 hT4
  go_wp2_with fail
  refine (eq_rows A _ c _ (nat2int [65, 233, 8364]) [65, 233, 8364] _ ((hr.below hB7).below ((Below.refl _ _).alloc (Nat.le_refl _) _)) (row_three w7 65 233 8364 _) (by decide) (by decide)).mono ?_
  rw [aw19]
  rintro e w8 ⟨rfl, hb8'⟩
  have hB8 : Below w1.heap.size w1 w8 := hB7.trans (((Below.refl _ _).alloc (Nat.le_refl _) _).trans (hb8'.mono (by simp)) |>.mono hB7.size)
  clear hb8' hB7 hr
  have hcat := aw20
  go_wp2_with fail
  refine (udf_Trim _ _).mono ?_
  rw [aw14]
  rintro e w9 ⟨rfl, rfl⟩
  go_wp2_with fail
  refine (udf_ACharacters _ _).mono ?_
  rw [aw15]
  rintro e w10 ⟨rfl, hb10⟩
  go_wp2_with fail
  refine (udf_DCharacters _ _).mono ?_
  rw [aw16]
  rintro e w11 ⟨rfl, hb11⟩
  go_wp2_with fail
  refine (udf_DCharacters _ _).mono ?_
  rw [aw17]
  rintro e w12 ⟨rfl, hb12⟩
  go_wp2_with fail
  refine (udf_Upper _ _).mono ?_
  rw [aw18]
  rintro e w13 ⟨rfl, hb13⟩
  go_wp2_with fail
  go_ret
  exact ⟨rfl, hb1.trans ((hB8.trans ((hb10.trans ((hb11.trans ((hb12.trans (hb13.mono hb12.size)).mono hb11.size)).mono hb10.size)).mono hB8.size)).mono hb1.size)⟩
end Go.Proofs.YteiidcoapgnoaaaDoor
