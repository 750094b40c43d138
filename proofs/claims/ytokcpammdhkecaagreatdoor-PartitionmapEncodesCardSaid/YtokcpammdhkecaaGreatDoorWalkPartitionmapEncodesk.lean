/-
  The walk of PartitionmapEncodes: it returns true.
-/
import Derived.Test.YtokcpammdhkecaaGreatDoorGl
import Derived.Test.YtokcpammdhkecaaGreatDoorGo
namespace Go.Proofs.YtokcpammdhkecaaGreatDoor
open Go.RowKit

set_option maxHeartbeats 3200000 in
set_option maxRecDepth 100000 in
theorem walk_PartitionmapEncodes (A : Option Addr) (c : Nat) (ps : List PM) (w : World) (hr : PRow w A ps) (h1 : ps.length ≤ maxLen) (mx : Int) (hm : w.cell? ⟨0, 0, none⟩ = some (.int .i64 mx)) :
    Calls Tryz.prog 5 #[.slice A ps.length c] w fun e w' => e = .returned (.bool true) ∧ Below w.heap.size w w' := by
  have kA := hide (awake37 w mx hm)
  clear hm
  unfold maxLen at h1
  have kF := hide (fun w' (hb : Below w.heap.size w w') => rf_FewMaps A c ps w' (hr.below hb) (by omega))
  have kE := hide (fun w' (hb : Below w.heap.size w w') => pm_Encode A c ps w' (hr.below hb) (by omega))
  have kR := hide (fun w' (hb : Below w.heap.size w w') => rf_Encode A c ps w' (hr.below hb) (by omega))
  clear hr
  generalize encS ps = s at *
  generalize encE ps = n at *
  cases hF : fewB ps with
  | false =>
    rw [hF] at kF
    clear hF
    go_enter Tryz.func5, Tryz.ntmps5
    go_wp2_with fail
    refine (unhide kA).mono ?_
    rintro e w0 ⟨rfl, hb0⟩
    go_wp2_with fail
    refine (unhide kF _ hb0).mono ?_
    rintro e w1 ⟨rfl, rfl⟩
    go_wp2_with fail
    go_ret
    exact ⟨rfl, hb0⟩
  | true =>
    rw [hF] at kF
    clear hF
    go_enter Tryz.func5, Tryz.ntmps5
    go_wp2_with fail
    refine (unhide kA).mono ?_
    rintro e w0 ⟨rfl, hb0⟩
    go_wp2_with fail
    refine (unhide kF _ hb0).mono ?_
    rintro e w1 ⟨rfl, rfl⟩
    go_wp2_with fail
    refine (unhide kE _ hb0).mono ?_
    rintro e w2 ⟨rfl, hb2⟩
    have B2 := hb0.trans (hb2.mono hb0.size)
    clear hb2
    go_wp2_with fail
    refine (unhide kR _ B2).mono ?_
    rintro e w3 ⟨rfl, hb3⟩
    have B3 := B2.trans (hb3.mono B2.size)
    clear hb3
    go_wp2_with fail
    go_ret
    exact ⟨rfl, B3⟩
end Go.Proofs.YtokcpammdhkecaaGreatDoor
