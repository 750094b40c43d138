/-
  The walk of UdfstringEntities: it returns true.
-/
import Derived.Test.YtgejjnbgeiappaaDoorEnt6
namespace Go.Proofs.YtgejjnbgeiappaaDoor
open Go.RowKit Go.Proofs.YtgejjnbgeiappaaDoorW.PrintWords

set_option maxHeartbeats 800000 in
set_option maxRecDepth 100000 in
theorem ref_Charspec (w : World) : Calls Tryd.prog 29 #[] w fun e w' => ∃ s : ByteArray, e = .returned (.string s) ∧ s = ⟨#[0, 79, 83, 84, 65, 32, 67, 111, 109, 112, 114, 101, 115, 115, 101, 100, 32, 85, 110, 105, 99, 111, 100, 101]⟩ ++ zS 40 ∧ Below w.heap.size w w' := by
  have hz : (zS 40).size = 40 := zS_size 40
  have kZ := fun w => ref_zeros 40 (by decide) (by decide) w
  rw [show (40 : Int).toNat = 40 from rfl] at kZ
  have KZ := hide kZ
  clear kZ
  obtain ⟨Z, hZ⟩ : ∃ Z, Z = zS 40 := ⟨_, rfl⟩
  rw [← hZ] at hz KZ ⊢
  have hz' : Z.size ≤ 40 := by omega
  clear hZ hz
  go_enter Tryd.func29, Tryd.ntmps29
  go_wp2_with fail
  refine (unhide KZ _).mono ?_
  rintro e w2 ⟨rfl, hb2⟩
  go_wp2_with fail
  go_ret
  exact ⟨_, rfl, rfl, hb2⟩

theorem max_below {m : Int} {w w' : World} (h : w.cell? ⟨2, 0, none⟩ = some (.int .i64 m)) {B : Nat} (hB : w.heap.size ≤ B) (hb : Below B w w') : w'.cell? ⟨2, 0, none⟩ = some (.int .i64 m) :=
  (hb.cell (Nat.lt_of_lt_of_le (cell_lt h) hB)).trans h

set_option maxHeartbeats 3200000 in
set_option maxRecDepth 100000 in
theorem walk_UdfstringEntities (i s f : ByteArray) (w : World) (hT : Tabs w) (h1 : i.size ≤ maxLen) (h2 : s.size ≤ maxLen) (h3 : f.size ≤ maxLen) (m : Int) (hm : w.cell? ⟨2, 0, none⟩ = some (.int .i64 m)) :
    Calls Tryd.prog 8 #[.string i, .string s, .string f] w fun e w' => e = .returned (.bool true) ∧ Below w.heap.size w w' := by
  have kA := hide (awake32 w hT)
  have HM := hide (fun (w' : World) (hb : Below w.heap.size w w') => max_below hm (Nat.le_refl _) hb)
  clear hm
  unfold maxLen at h1 h2 h3
  by_cases hi : i.size ≤ 60
  · by_cases hs : s.size ≤ 60
    · by_cases hf : f.size ≤ 60
      · go_enter Tryd.func8, Tryd.ntmps8
        go_wp2_with fail
        refine (unhide kA).mono ?_
        rintro e w0 ⟨rfl, hb0⟩
        go_wp2_with fail
        refine (udf_Entity _ _ _ hi hs).mono ?_
        rintro e w1 ⟨rfl, hb1⟩
        have hB1 := hb0.trans (hb1.mono hb0.size)
        go_wp2_with fail
        refine (ref_Entity _ _ _ hi hs).mono ?_
        rintro e w2 ⟨rfl, hb2⟩
        have hB2 := hB1.trans (hb2.mono hB1.size)
        go_wp2_with fail
        refine (udf_ParseEntity _ m _ hf (unhide HM _ hB2)).mono ?_
        rintro e w3 ⟨rfl, hb3⟩
        have hB3 := hB2.trans (hb3.mono hB2.size)
        go_wp2_with fail
        refine (ref_ParseEntity _ _).mono ?_
        rintro e w4 ⟨rfl, hb4⟩
        have hB4 := hB3.trans (hb4.mono hB3.size)
        go_wp2_with fail
        refine (udf_Charspec _).mono ?_
        rintro e w5 ⟨x, rfl, hx, hb5⟩
        have hB5 := hB4.trans (hb5.mono hB4.size)
        have Hx := Lib.hid hx
        clear hx
        go_wp2_with fail
        refine (ref_Charspec _).mono ?_
        rintro e w6 ⟨y, rfl, hy, hb6⟩
        have hB6 := hB5.trans (hb6.mono hB5.size)
        obtain rfl : y = x := hy.trans Hx.out.symm
        clear hy
        go_wp2_with fail
        go_ret
        exact ⟨rfl, hB6⟩
      · have hf' : 60 < f.size := by omega
        go_enter Tryd.func8, Tryd.ntmps8
        go_wp2_with fail
        refine (unhide kA).mono ?_
        rintro e w0 ⟨rfl, hb0⟩
        go_wp2_with fail
        go_ret
        exact ⟨rfl, hb0⟩
    · have hs' : 60 < s.size := by omega
      go_enter Tryd.func8, Tryd.ntmps8
      go_wp2_with fail
      refine (unhide kA).mono ?_
      rintro e w0 ⟨rfl, hb0⟩
      go_wp2_with fail
      go_ret
      exact ⟨rfl, hb0⟩
  · have hi' : 60 < i.size := by omega
    go_enter Tryd.func8, Tryd.ntmps8
    go_wp2_with fail
    refine (unhide kA).mono ?_
    rintro e w0 ⟨rfl, hb0⟩
    go_wp2_with fail
    go_ret
    exact ⟨rfl, hb0⟩
end Go.Proofs.YtgejjnbgeiappaaDoor
