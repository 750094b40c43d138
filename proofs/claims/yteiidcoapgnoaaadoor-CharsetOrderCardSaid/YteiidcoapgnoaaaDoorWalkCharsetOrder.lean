/-
  The walk of CharsetOrder: it returns true.
-/
import Derived.Test.YteiidcoapgnoaaaDoorAwake17
import Derived.Test.YteiidcoapgnoaaaDoorChr17
import Derived.Test.YteiidcoapgnoaaaDoorBack17
namespace Go.Proofs.YteiidcoapgnoaaaDoor
open Go.RowKit Go.Proofs.YteiidcoapgnoaaaDoorW.PrintWords

set_option maxHeartbeats 3200000 in
set_option maxRecDepth 100000 in
theorem walk_CharsetOrder (s t : ByteArray) (w : World) (hT : Tabs w) (h1 : s.size ≤ maxLen) (h2 : t.size ≤ maxLen) :
    Calls Tryd.prog 10 #[.string s, .string t] w fun e w' => e = .returned (.bool true) ∧ Below w.heap.size w w' := by
  have kA := hide (awake17 w hT)
  unfold maxLen at h1 h2
  by_cases hs : s.size ≤ 300
  · by_cases ht : t.size ≤ 300
    · cases hc : Ch.chars s.data.toList with
      | none =>
        have HS := Lib.hid (chr_none (s := s) (by omega) hc)
        obtain ⟨L2, E2, e1, e2⟩ : ∃ L2 E2, chrL t = L2 ∧ chrE t = E2 := ⟨_, _, rfl, rfl⟩
        have HS2 := Lib.hid (And.intro e1 e2)
        clear hc e1 e2
        go_enter Tryd.func10, Tryd.ntmps10
        go_wp2_with fail
        refine (unhide kA).mono ?_
        rintro e w0 ⟨rfl, hb0⟩
        have hT0 := tabs_below hT (Nat.le_refl _) hb0
        go_wp2_with fail
        refine (cs_Chars s _ hT0).mono ?_
        rw [HS.out.1, HS.out.2]
        rintro e w1 ⟨A1, c1, rfl, hr1, -, hb1⟩
        have hT1 := tabs_below hT0 (Nat.le_refl _) hb1
        go_wp2_with fail
        refine (cs_Chars t _ hT1).mono ?_
        rw [HS2.out.1, HS2.out.2]
        rintro e w2 ⟨A2, c2, rfl, hr2, -, hb2⟩
        have hT2 := tabs_below hT1 (Nat.le_refl _) hb2
        go_wp2_with fail
        go_ret
        exact ⟨rfl, hb0.trans ((hb1.trans (hb2.mono hb1.size)).mono hb0.size)⟩
      | some cs =>
        have HS := Lib.hid (chr_some (s := s) (by omega) hc)
        cases hd : Ch.chars t.data.toList with
        | none =>
          have HS2 := Lib.hid (chr_none (s := t) (by omega) hd)
          clear hc hd
          go_enter Tryd.func10, Tryd.ntmps10
          go_wp2_with fail
          refine (unhide kA).mono ?_
          rintro e w0 ⟨rfl, hb0⟩
          have hT0 := tabs_below hT (Nat.le_refl _) hb0
          go_wp2_with fail
          refine (cs_Chars s _ hT0).mono ?_
          rw [HS.out.1, HS.out.2]
          rintro e w1 ⟨A1, c1, rfl, hr1, -, hb1⟩
          have hT1 := tabs_below hT0 (Nat.le_refl _) hb1
          go_wp2_with fail
          refine (cs_Chars t _ hT1).mono ?_
          rw [HS2.out.1, HS2.out.2]
          rintro e w2 ⟨A2, c2, rfl, hr2, -, hb2⟩
          have hT2 := tabs_below hT1 (Nat.le_refl _) hb2
          go_wp2_with fail
          go_ret
          exact ⟨rfl, hb0.trans ((hb1.trans (hb2.mono hb1.size)).mono hb0.size)⟩
        | some ds =>
          have HS2 := Lib.hid (chr_some (s := t) (by omega) hd)
          have HO := Lib.hid (ord_back hs ht hc hd)
          have l1 := Ch.chars_length hc
          have l2 := Ch.chars_length hd
          rw [← Lib.size_eq] at l1 l2
          clear hc hd
          obtain ⟨N, hN⟩ : ∃ N, Ch.cmpN cs ds = N := ⟨_, rfl⟩
          have HN := Lib.hid hN
          clear hN
          go_enter Tryd.func10, Tryd.ntmps10
          go_wp2_with fail
          refine (unhide kA).mono ?_
          rintro e w0 ⟨rfl, hb0⟩
          have hT0 := tabs_below hT (Nat.le_refl _) hb0
          go_wp2_with fail
          refine (cs_Chars s _ hT0).mono ?_
          rw [HS.out.1, HS.out.2]
          rintro e w1 ⟨A1, c1, rfl, hr1, -, hb1⟩
          have hT1 := tabs_below hT0 (Nat.le_refl _) hb1
          go_wp2_with fail
          refine (cs_Chars t _ hT1).mono ?_
          rw [HS2.out.1, HS2.out.2]
          rintro e w2 ⟨A2, c2, rfl, hr2, -, hb2⟩
          have hT2 := tabs_below hT1 (Nat.le_refl _) hb2
          go_wp2_with fail
          refine (udf_Ucs2 s _ hT2).mono ?_
          rw [HO.out.2.2.1]
          rintro e w3 ⟨rfl, hb3⟩
          have hT3 := tabs_below hT2 (Nat.le_refl _) hb3
          go_wp2_with fail
          refine (udf_Ucs2 t _ hT3).mono ?_
          rw [HO.out.2.2.2]
          rintro e w4 ⟨rfl, hb4⟩
          go_wp2_with fail
          refine (Tryd.strings_Compare s t _).mono ?_
          rw [HO.out.1]
          rintro e w5 ⟨rfl, rfl⟩
          go_wp2_with fail
          refine (cmp_rows A1 A2 c1 c2 cs ds _ (((hr1.below hb2).below hb3).below hb4) ((hr2.below hb3).below hb4) (by omega)).mono ?_
          rintro e w5 ⟨rfl, hb5⟩
          go_wp2_with fail
          refine (Tryd.strings_Compare (ucsS s) (ucsS t) _).mono ?_
          rw [HO.out.2.1]
          rintro e w6 ⟨rfl, rfl⟩
          go_wp2_with fail
          go_ret
          exact ⟨rfl, hb0.trans ((hb1.trans ((hb2.trans ((hb3.trans ((hb4.trans (hb5.mono hb4.size)).mono hb3.size)).mono hb2.size)).mono hb1.size)).mono hb0.size)⟩
    · have ht' : 300 < t.size := by omega
      go_enter Tryd.func10, Tryd.ntmps10
      go_wp2_with fail
      refine (unhide kA).mono ?_
      rintro e w0 ⟨rfl, hb0⟩
      have hT0 := tabs_below hT (Nat.le_refl _) hb0
      go_wp2_with fail
      go_ret
      exact ⟨rfl, hb0⟩
  · have hs' : 300 < s.size := by omega
    go_enter Tryd.func10, Tryd.ntmps10
    go_wp2_with fail
    refine (unhide kA).mono ?_
    rintro e w0 ⟨rfl, hb0⟩
    have hT0 := tabs_below hT (Nat.le_refl _) hb0
    go_wp2_with fail
    go_ret
    exact ⟨rfl, hb0⟩
end Go.Proofs.YteiidcoapgnoaaaDoor
