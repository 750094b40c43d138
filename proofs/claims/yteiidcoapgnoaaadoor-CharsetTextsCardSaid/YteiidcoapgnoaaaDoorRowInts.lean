/-
  An argument that is a slice of ints, as a row.
-/
import Derived.Test.YteiidcoapgnoaaaDoorRow
import Derived.Test.YteiidcoapgnoaaaDoorCs2
import Derived.ChangeSlices
import Derived.Carry
namespace Go.Proofs.YteiidcoapgnoaaaDoor
open Go.ChangeShapes Go.WideShapes Go.ChangeAt Go.RowKit Go.Proofs.YteiidcoapgnoaaaDoorW.PrintWords

theorem open_row {H : Type} {enc : TypeId × Value → H} {W : World} {A : Option Addr} {n c : Nat} {d : DataW H} {p : List MemPlace} (h : DataW.Trod enc Tryd.prog W 0 (fun _ => true) true 22 (.slice A n c) d p) :
    ∃ xs : List Int, xs.length = n ∧ Row W A xs ∧ n ≤ c ∧ n ≤ maxLen := by
  obtain ⟨fuel, hf⟩ := h
  have hcs : (Value.slice A n c).cells.toList = [.slice A n c] := rfl
  rw [hcs] at hf
  rcases open_ints Tryd.underlying22 Tryd.underlying3 (by kernel_rfl) hf with ⟨h1, _⟩ | ⟨a, len, cap, zs, h1, _, h3, h4, h5, _, h7, _⟩
  · injection h1 with h1
    injection h1 with e1 e2 e3
    subst e1 e2 e3
    exact ⟨[], rfl, ⟨⟨rfl, by simp, fun h => absurd h (by simp)⟩⟩, Nat.le_refl _, Nat.zero_le _⟩
  · injection h1 with h1
    injection h1 with e1 e2 e3
    subst e1 e2 e3
    simp only [if_true] at h5
    have hl : (zs.take n).length = n := by rw [List.length_take, h5]; omega
    refine ⟨zs.take n, hl, ⟨?_⟩, h3, by omega⟩
    refine ⟨rfl, by rw [hl]; unfold maxLen at h4; omega, fun _ => ⟨a, rfl, fun j hj => ?_⟩⟩
    rw [hl] at hj
    rw [h7 j (by omega)]
    congr 2
    rw [List.getD_eq_getElem?_getD, List.getD_eq_getElem?_getD, List.getElem?_take, if_pos hj]
end Go.Proofs.YteiidcoapgnoaaaDoor
