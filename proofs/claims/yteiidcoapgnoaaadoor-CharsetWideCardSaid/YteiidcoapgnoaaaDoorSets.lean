/-
  charset.DCharacters and charset.ACharacters: what they give at each string.
-/
import Derived.Test.YteiidcoapgnoaaaDoorAll
import Derived.WalkSmall
namespace Go.Proofs.YteiidcoapgnoaaaDoor
open Go.RowKit

set_option maxHeartbeats 800000 in
set_option maxRecDepth 100000 in
theorem udf_DCharacters (s : ByteArray) (w : World) :
    Calls Tryd.prog 17 #[.string s] w fun e w' => e = .returned (.bool (allB dB s)) ∧ Below w.heap.size w w' := by
  go_enter Tryd.func17, Tryd.ntmps17
  go_wp2_with fail
  refine (all_one s _ _ _ (cell_one_new _ _ _ 0 _ rfl)).mono ?_
  rintro e w1 ⟨rfl, rfl⟩
  go_wp2_with fail
  go_ret
  exact ⟨rfl, (Below.refl _ _).alloc (Nat.le_refl _) _⟩
set_option maxHeartbeats 800000 in
set_option maxRecDepth 100000 in
theorem udf_ACharacters (s : ByteArray) (w : World) :
    Calls Tryd.prog 19 #[.string s] w fun e w' => e = .returned (.bool (allB (fun b => dB b || aB b) s)) ∧ Below w.heap.size w w' := by
  go_enter Tryd.func19, Tryd.ntmps19
  go_wp2_with fail
  refine (all_two s _ _ _ (cell_two_new _ _ _ _ 0 _ rfl) (cell_two_new _ _ _ _ 1 _ rfl)).mono ?_
  rintro e w1 ⟨rfl, rfl⟩
  go_wp2_with fail
  go_ret
  exact ⟨rfl, (Below.refl _ _).alloc (Nat.le_refl _) _⟩
end Go.Proofs.YteiidcoapgnoaaaDoor
