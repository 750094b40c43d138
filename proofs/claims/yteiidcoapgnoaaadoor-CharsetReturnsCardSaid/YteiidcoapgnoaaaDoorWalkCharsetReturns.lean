/-
  The walk of CharsetReturns: it returns true.
-/
import Derived.Test.YteiidcoapgnoaaaDoorAwake17
import Derived.Test.YteiidcoapgnoaaaDoorChr17
import Derived.Test.YteiidcoapgnoaaaDoorBack17
namespace Go.Proofs.YteiidcoapgnoaaaDoor
open Go.RowKit Go.Proofs.YteiidcoapgnoaaaDoorW.PrintWords

theorem cs_Text_nat (A : Option Addr) (c : Nat) (cs : List Nat) (w : World) (hr : Row w A (nat2int cs)) (hl : cs.length ≤ 21845) :
    Calls Tryd.prog 14 #[.slice A cs.length c] w fun e w' => e = .returned (.tuple #[.string ⟨(textS (nat2int cs)).toArray⟩, .int .i64 (textE (nat2int cs))]) ∧ Below w.heap.size w w' := by
  have := cs_Text A c (nat2int cs) w hr (by rw [nat2int_length]; exact hl)
  rw [nat2int_length] at this
  exact this

set_option maxHeartbeats 3200000 in
set_option maxRecDepth 100000 in
theorem walk_CharsetReturns (s u : ByteArray) (w : World) (hT : Tabs w) (h1 : s.size ≤ maxLen) (h2 : u.size ≤ maxLen) :
    Calls Tryd.prog 7 #[.string s, .string u] w fun e w' => e = .returned (.bool true) ∧ Below w.heap.size w w' := by
  have kA := hide (awake17 w hT)
  unfold maxLen at h1 h2
  by_cases hs : s.size ≤ 300
  · by_cases hu : u.size ≤ 300
    · cases hc : Ch.chars s.data.toList with
      | none =>
        obtain ⟨hL, hE⟩ := chr_none (by omega) hc
        have HL := Lib.hid (And.intro hL hE)
        clear hc hL hE
        by_cases hF0 : frmE u = 0
        · obtain ⟨v1, v2⟩ := frm_back hu hF0
          obtain ⟨V, hV⟩ : ∃ V, frmS u = V := ⟨_, rfl⟩
          rw [hV] at v1 v2
          have hF0 := hF0
          have HV := Lib.hid (And.intro hV (And.intro hF0 (And.intro v1 v2)))
          clear hV hF0 v1 v2
          go_enter Tryd.func7, Tryd.ntmps7
          go_wp2_with fail
          refine (unhide kA).mono ?_
          rintro e w0 ⟨rfl, hb0⟩
          have hT0 := tabs_below hT (Nat.le_refl _) hb0
          go_wp2_with fail
          refine (cs_Chars s _ hT0).mono ?_
          rw [HL.out.1, HL.out.2]
          rintro e w1 ⟨A1, c1, rfl, hr1, -, hb1⟩
          have hT1 := tabs_below hT0 (Nat.le_refl _) hb1
          go_wp2_with fail
          refine (udf_FromUcs2 u _).mono ?_
          rw [HV.out.2.1, HV.out.1]
          rintro e w2 ⟨rfl, hb2⟩
          have hT2 := tabs_below hT1 (Nat.le_refl _) hb2
          go_wp2_with fail
          refine (udf_Ucs2 V _ hT2).mono ?_
          rw [HV.out.2.2.1, HV.out.2.2.2]
          rintro e w3 ⟨rfl, hb3⟩
          go_wp2_with fail
          go_ret
          exact ⟨rfl, hb0.trans ((hb1.trans ((hb2.trans (hb3.mono hb2.size)).mono hb1.size)).mono hb0.size)⟩
        · obtain ⟨F, hF⟩ : ∃ F, frmE u = F := ⟨_, rfl⟩
          have qF : (F != 0) = true := by rw [bne_iff_ne, ← hF]; exact hF0
          obtain ⟨V, hV⟩ : ∃ V, frmS u = V := ⟨_, rfl⟩
          have HF := Lib.hid (And.intro hF hV)
          clear hF0 hF hV
          go_enter Tryd.func7, Tryd.ntmps7
          go_wp2_with fail
          refine (unhide kA).mono ?_
          rintro e w0 ⟨rfl, hb0⟩
          have hT0 := tabs_below hT (Nat.le_refl _) hb0
          go_wp2_with fail
          refine (cs_Chars s _ hT0).mono ?_
          rw [HL.out.1, HL.out.2]
          rintro e w1 ⟨A1, c1, rfl, hr1, -, hb1⟩
          have hT1 := tabs_below hT0 (Nat.le_refl _) hb1
          go_wp2_with fail
          refine (udf_FromUcs2 u _).mono ?_
          rw [HF.out.1, HF.out.2]
          rintro e w2 ⟨rfl, hb2⟩
          go_wp2_with fail
          go_ret
          exact ⟨rfl, hb0.trans ((hb1.trans (hb2.mono hb1.size)).mono hb0.size)⟩
      | some cs =>
        obtain ⟨hL, hE⟩ := chr_some (by omega) hc
        obtain ⟨t1, t2, t3, t4, t5, t6⟩ := txt_back hs hc
        have hl := Ch.chars_length hc
        rw [← Lib.size_eq] at hl
        have hcl : cs.length ≤ 300 := by omega
        obtain ⟨U, hU⟩ : ∃ U, ucsS s = U := ⟨_, rfl⟩
        rw [hU] at t4 t5 t6
        have q4 : ((U.size : Int) != 2 * (cs.length : Int)) = false := by rw [bne_eq_false_iff_eq]; omega
        have hUz : U.size ≤ 600 := by omega
        have HL := Lib.hid (And.intro hL hE)
        have Ht := Lib.hid (And.intro t1 (And.intro t2 (And.intro t3 (And.intro hU (And.intro t5 t6)))))
        clear hc hL hE t1 t2 t3 t4 t5 t6 hU hl
        by_cases hF0 : frmE u = 0
        · obtain ⟨v1, v2⟩ := frm_back hu hF0
          obtain ⟨V, hV⟩ : ∃ V, frmS u = V := ⟨_, rfl⟩
          rw [hV] at v1 v2
          have hF0 := hF0
          have HV := Lib.hid (And.intro hV (And.intro hF0 (And.intro v1 v2)))
          clear hV hF0 v1 v2
          go_enter Tryd.func7, Tryd.ntmps7
          go_wp2_with fail
          refine (unhide kA).mono ?_
          rintro e w0 ⟨rfl, hb0⟩
          have hT0 := tabs_below hT (Nat.le_refl _) hb0
          go_wp2_with fail
          refine (cs_Chars s _ hT0).mono ?_
          rw [HL.out.1, HL.out.2]
          rintro e wa ⟨A1, c1, rfl, hr1, -, hba⟩
          have hTa := tabs_below hT0 (Nat.le_refl _) hba
          go_wp2_with fail
          refine (cs_Text_nat A1 c1 cs wa hr1 (by omega)).mono ?_
          rw [Ht.out.1, Ht.out.2.1]
          rintro e wb ⟨rfl, hbb⟩
          have hTb := tabs_below hTa (Nat.le_refl _) hbb
          go_wp2_with fail
          refine (udf_Ucs2 s _ hTb).mono ?_
          rw [Ht.out.2.2.1, Ht.out.2.2.2.1]
          rintro e wc ⟨rfl, hbc⟩
          have hTc := tabs_below hTb (Nat.le_refl _) hbc
          go_wp2_with fail
          refine (udf_FromUcs2 U _).mono ?_
          rw [Ht.out.2.2.2.2.1, Ht.out.2.2.2.2.2]
          rintro e w1 ⟨rfl, hbd⟩
          have hT1 := tabs_below hTc (Nat.le_refl _) hbd
          have hb1 := hba.trans ((hbb.trans ((hbc.trans (hbd.mono hbc.size)).mono hbb.size)).mono hba.size)
          go_wp2_with fail
          refine (udf_FromUcs2 u _).mono ?_
          rw [HV.out.2.1, HV.out.1]
          rintro e w2 ⟨rfl, hb2⟩
          have hT2 := tabs_below hT1 (Nat.le_refl _) hb2
          go_wp2_with fail
          refine (udf_Ucs2 V _ hT2).mono ?_
          rw [HV.out.2.2.1, HV.out.2.2.2]
          rintro e w3 ⟨rfl, hb3⟩
          go_wp2_with fail
          go_ret
          exact ⟨rfl, hb0.trans ((hb1.trans ((hb2.trans (hb3.mono hb2.size)).mono hb1.size)).mono hb0.size)⟩
        · obtain ⟨F, hF⟩ : ∃ F, frmE u = F := ⟨_, rfl⟩
          have qF : (F != 0) = true := by rw [bne_iff_ne, ← hF]; exact hF0
          obtain ⟨V, hV⟩ : ∃ V, frmS u = V := ⟨_, rfl⟩
          have HF := Lib.hid (And.intro hF hV)
          clear hF0 hF hV
          go_enter Tryd.func7, Tryd.ntmps7
          go_wp2_with fail
          refine (unhide kA).mono ?_
          rintro e w0 ⟨rfl, hb0⟩
          have hT0 := tabs_below hT (Nat.le_refl _) hb0
          go_wp2_with fail
          refine (cs_Chars s _ hT0).mono ?_
          rw [HL.out.1, HL.out.2]
          rintro e wa ⟨A1, c1, rfl, hr1, -, hba⟩
          have hTa := tabs_below hT0 (Nat.le_refl _) hba
          go_wp2_with fail
          refine (cs_Text_nat A1 c1 cs wa hr1 (by omega)).mono ?_
          rw [Ht.out.1, Ht.out.2.1]
          rintro e wb ⟨rfl, hbb⟩
          have hTb := tabs_below hTa (Nat.le_refl _) hbb
          go_wp2_with fail
          refine (udf_Ucs2 s _ hTb).mono ?_
          rw [Ht.out.2.2.1, Ht.out.2.2.2.1]
          rintro e wc ⟨rfl, hbc⟩
          have hTc := tabs_below hTb (Nat.le_refl _) hbc
          go_wp2_with fail
          refine (udf_FromUcs2 U _).mono ?_
          rw [Ht.out.2.2.2.2.1, Ht.out.2.2.2.2.2]
          rintro e w1 ⟨rfl, hbd⟩
          have hT1 := tabs_below hTc (Nat.le_refl _) hbd
          have hb1 := hba.trans ((hbb.trans ((hbc.trans (hbd.mono hbc.size)).mono hbb.size)).mono hba.size)
          go_wp2_with fail
          refine (udf_FromUcs2 u _).mono ?_
          rw [HF.out.1, HF.out.2]
          rintro e w2 ⟨rfl, hb2⟩
          go_wp2_with fail
          go_ret
          exact ⟨rfl, hb0.trans ((hb1.trans (hb2.mono hb1.size)).mono hb0.size)⟩
    · have hu' : 300 < u.size := by omega
      go_enter Tryd.func7, Tryd.ntmps7
      go_wp2_with fail
      refine (unhide kA).mono ?_
      rintro e w0 ⟨rfl, hb0⟩
      have hT0 := tabs_below hT (Nat.le_refl _) hb0
      go_wp2_with fail
      go_ret
      exact ⟨rfl, hb0⟩
  · have hs' : 300 < s.size := by omega
    go_enter Tryd.func7, Tryd.ntmps7
    go_wp2_with fail
    refine (unhide kA).mono ?_
    rintro e w0 ⟨rfl, hb0⟩
    have hT0 := tabs_below hT (Nat.le_refl _) hb0
    go_wp2_with fail
    go_ret
    exact ⟨rfl, hb0⟩
end Go.Proofs.YteiidcoapgnoaaaDoor
