/-
  The walk of PartitionmapDecodes: it returns true.
-/
import Derived.Test.YtokcpammdhkecaaGreatDoorGl
import Derived.Test.YtokcpammdhkecaaGreatDoorRce37k
namespace Go.Proofs.YtokcpammdhkecaaGreatDoor
open Go.RowKit

set_option maxHeartbeats 3200000 in
set_option maxRecDepth 100000 in
theorem walk_PartitionmapDecodes (s : ByteArray) (c : Int) (w : World) (h1 : s.size ≤ maxLen) (mx : Int) (hm : w.cell? ⟨0, 0, none⟩ = some (.int .i64 mx)) :
    Calls Tryz.prog 6 #[.string s, .int .i64 c] w fun e w' => e = .returned (.bool true) ∧ Below w.heap.size w w' := by
  have kA := hide (awake37 w mx hm)
  unfold maxLen at h1
  by_cases hs : s.size ≤ 400
  · have kD : Hid (∀ w', Below w.heap.size w w' → Calls Tryz.prog 19 #[.string s, .int .i64 c] w' fun e w'' => DcsIs (dcsE s c) (dcsM s c) w' w'' e) := fun w' hb => pm_Decode s c mx w' (by omega) ((hb.cell (p := ⟨_, _, _⟩) (cell_lt hm)).trans hm)
    have kR : Hid (∀ w', Calls Tryz.prog 20 #[.string s, .int .i64 c] w' fun e w'' => DcsIs (dcsE s c) (dcsM s c) w' w'' e) := fun w' => rf_Decode s c w' (by omega)
    clear hm
    generalize dcsE s c = E at *
    generalize dcsM s c = M at *
    go_enter Tryz.func6, Tryz.ntmps6
    go_wp2_with fail
    refine (unhide kA).mono ?_
    rintro e w0 ⟨rfl, hb0⟩
    go_wp2_with fail
    refine (unhide kD _ hb0).mono ?_
    rintro e w1 ⟨A, c1, ps, rfl, hP, hq, hl, hb1⟩
    have B1 := hb0.trans (hb1.mono hb0.size)
    clear hb0 hb1
    go_wp2_with fail
    refine (unhide kR _).mono ?_
    rintro e w2 ⟨B, c2, qs, rfl, hQ, hq2, hl2, hb2⟩
    have B2 := B1.trans (hb2.mono B1.size)
    have kS := hide (rf_SameMaps A B c1 c2 ps qs w2 (hP.below hb2) hQ (hq.trans hq2.symm) (by omega))
    clear B1 hb2 hP hQ hq hq2
    go_wp2_with fail
    refine (unhide kS).mono ?_
    rintro e w3 ⟨rfl, hd⟩
    have B3 := B2.trans (hd.below.mono B2.size)
    clear hd B2
    go_wp2_with fail
    go_ret
    exact ⟨rfl, B3⟩
  · have hs2 : 400 < s.size := by omega
    clear hm
    go_enter Tryz.func6, Tryz.ntmps6
    go_wp2_with fail
    refine (unhide kA).mono ?_
    rintro e w0 ⟨rfl, hb0⟩
    go_wp2_with fail
    go_ret
    exact ⟨rfl, hb0⟩
end Go.Proofs.YtokcpammdhkecaaGreatDoor
