/-
  Arguments that are slices of ints or of maps, in this seat's words.
-/
import Derived.Test.YtokcpammdhkecaaGreatDoorRow37k
import Derived.ChangeSlices
import Derived.Deep.Slices
import Derived.Carry
namespace Go.Proofs.YtokcpammdhkecaaGreatDoor
open Go.ChangeShapes Go.WideShapes Go.ChangeAt Go.RowKit

section
variable {H : Type} {enc : TypeId × Value → H} {W : World}
theorem wf_i64 {n : Int} (h : (Lit.int .i64 n).wf = true) : I64 n := by
  have h2 : (decide (IntKind.i64.min ≤ n) && decide (n ≤ IntKind.i64.max)) = true := h
  rw [Bool.and_eq_true, decide_eq_true_eq, decide_eq_true_eq] at h2
  exact h2
theorem c_int : Tryz.prog.cellsOf 3 = 1 := by kernel_rfl
theorem c_ints : Tryz.prog.cellsOf 25 = 1 := by kernel_rfl
theorem c_pm : Tryz.prog.cellsOf 65 = 6 := by kernel_rfl
/-- A slice of ints. -/
theorem ints_trod {fuel : Nat} {cs : List Value} {x : DataW H × List MemPlace} (h : DataW.trod enc Tryz.prog W 0 (fun _ => true) true fuel 25 cs = some x) :
    ∃ (A : Option Addr) (c : Nat) (xs : List Int), cs = [.slice A xs.length c] ∧ Row W A xs ∧ xs.length ≤ c ∧ c ≤ maxLen ∧ (A = none → c = 0) := by
  rcases open_ints Tryz.underlying25 Tryz.underlying3 c_int h with ⟨rfl, _⟩ | ⟨a, len, cap, zs, rfl, _, h3, h4, h5, _, h7, _⟩
  · exact ⟨none, 0, [], rfl, row_nil _ _, Nat.le_refl _, Nat.zero_le _, fun _ => rfl⟩
  · simp only [if_true] at h5
    have hl : (zs.take len).length = len := by rw [List.length_take, h5]; omega
    refine ⟨some a, cap, zs.take len, by rw [hl], ⟨fun h0 => ⟨a, rfl, fun j hj => ?_⟩⟩, by omega, h4, fun h => by cases h⟩
    rw [hl] at hj
    rw [h7 j (by omega)]
    congr 2
    rw [List.getD_eq_getElem?_getD, List.getD_eq_getElem?_getD, List.getElem?_take, if_pos hj]
theorem six {α : Type} {l : List α} (h : l.length = 6) : ∃ a b c d e f, l = [a, b, c, d, e, f] := by
  match l, h with
  | [a, b, c, d, e, f], _ => exact ⟨a, b, c, d, e, f, rfl⟩
/-- A map. -/
theorem pm_trod {fuel : Nat} {cs : List Value} {x : DataW H × List MemPlace} (h : DataW.trod enc Tryz.prog W 0 (fun _ => true) true fuel 65 cs = some x) :
    ∃ p : PM, cs = p.cells.toList ∧ p.Wf W ∧ p.xs.length ≤ p.c ∧ p.c ≤ maxLen ∧ I64 p.k ∧ I64 p.n := by
  obtain ⟨xs, n, -, -, hl, hxl, hf⟩ := DataW.trod_struct Tryz.underlying65 h
  rw [c_pm] at hl
  obtain ⟨v0, v1, v2, v3, v4, v5, rfl⟩ := six hl
  obtain ⟨y0, y1, y2, y3, y4, y5, rfl⟩ := six hxl
  have g0 := hf 0 _ rfl
  have g1 := hf 1 _ rfl
  have g2 := hf 2 _ rfl
  have g3 := hf 3 _ rfl
  have g4 := hf 4 _ rfl
  have g5 := hf 5 _ rfl
  simp [c_int, c_ints] at g0 g1 g2 g3 g4 g5
  obtain ⟨n0, e0, -, b0⟩ := DataW.trod_int Tryz.underlying3 g0
  obtain ⟨n1, e1, -, b1⟩ := DataW.trod_int Tryz.underlying3 g1
  obtain ⟨A, c, zs, e2, hr, h1, h2, -⟩ := ints_trod g2
  obtain ⟨n3, e3, -, b3⟩ := DataW.trod_int Tryz.underlying3 g3
  obtain ⟨n4, e4, -, b4⟩ := DataW.trod_int Tryz.underlying3 g4
  obtain ⟨n5, e5, -, b5⟩ := DataW.trod_int Tryz.underlying3 g5
  injection e0 with e0
  injection e1 with e1
  injection e2 with e2
  injection e3 with e3
  injection e4 with e4
  injection e5 with e5
  subst e0 e1 e2 e3 e4 e5
  exact ⟨⟨n0, n1, A, c, zs, n3, n4, n5⟩, rfl, ⟨hr, wf_i64 b3, wf_i64 b4, wf_i64 b5⟩, h1, h2, wf_i64 b0, wf_i64 b1⟩
instance : Inhabited PM := ⟨⟨0, 0, none, 0, [], 0, 0, 0⟩⟩
/-- A slice of maps. -/
theorem maps_trod {fuel : Nat} {cs : List Value} {x : DataW H × List MemPlace} (h : DataW.trod enc Tryz.prog W 0 (fun _ => true) true fuel 22 cs = some x) :
    ∃ (A : Option Addr) (c : Nat) (ps : List PM), cs = [.slice A ps.length c] ∧ PRow W A ps ∧ ps.length ≤ c ∧ c ≤ maxLen := by
  rcases Deep.open_slice Tryz.underlying22 h with ⟨rfl, _⟩ | ⟨a, len, cap, m, nn, D, Pl, rfl, _, hl, hm, hmm, _, hx⟩
  · exact ⟨none, 0, [], rfl, ⟨fun h => absurd h (by simp), by simp, by simp⟩, Nat.le_refl _, Nat.zero_le _⟩
  · simp only [if_true] at hmm
    subst hmm
    obtain ⟨f, hf⟩ := Deep.choose_lt (α := PM) (n := len) (p := fun i p => (∀ j v, p.cells[j]? = some v → W.cell? (a.add (i * 6 + j)) = some v) ∧ p.Wf W ∧ p.xs.length ≤ 9223372036854775807) (fun i hi => by
      obtain ⟨cs', h1, h2⟩ := hx i (by omega)
      rw [c_pm] at h1
      obtain ⟨_, _, hcell⟩ := World.cells?_some h1
      obtain ⟨p, rfl, hw, hxc, hcm, _, _⟩ := pm_trod h2
      refine ⟨p, fun j v hv => ?_, hw, by unfold maxLen at hcm; omega⟩
      have hj : j < 6 := by
        have hz : p.cells.size = 6 := rfl
        rcases Nat.lt_or_ge j 6 with h | h
        · exact h
        · rw [Array.getElem?_eq_none (by omega)] at hv; cases hv
      have := hcell j hj
      rw [add_of_add] at this
      rw [this]
      simpa using hv)
    have hlen : ((List.range len).map f).length = len := by simp
    refine ⟨some a, m, (List.range len).map f, by rw [hlen], ⟨fun _ => ⟨a, rfl, fun j hj i v hv => ?_⟩, fun p hp => ?_, fun p hp => ?_⟩, by omega, hm⟩
    · rw [hlen] at hj
      simp only [List.getElem_map, List.getElem_range] at hv
      exact (hf j hj).1 i v hv
    · obtain ⟨i, hi, rfl⟩ := List.mem_map.1 hp
      exact (hf i (List.mem_range.1 hi)).2.1
    · obtain ⟨i, hi, rfl⟩ := List.mem_map.1 hp
      exact (hf i (List.mem_range.1 hi)).2.2
theorem open_maps {A : Option Addr} {n c : Nat} {d : DataW H} {p : List MemPlace} (h : DataW.Trod enc Tryz.prog W 0 (fun _ => true) true 22 (.slice A n c) d p) :
    ∃ ps : List PM, ps.length = n ∧ PRow W A ps ∧ n ≤ c ∧ n ≤ maxLen := by
  obtain ⟨fuel, hf⟩ := h
  have hcs : (Value.slice A n c).cells.toList = [.slice A n c] := rfl
  rw [hcs] at hf
  obtain ⟨A', c', ps, e, hr, h1, h2⟩ := maps_trod hf
  injection e with e
  injection e with e1 e2 e3
  subst e1 e3
  exact ⟨ps, e2.symm, hr, by omega, by omega⟩
theorem open_ints2 {A : Option Addr} {n c : Nat} {d : DataW H} {p : List MemPlace} (h : DataW.Trod enc Tryz.prog W 0 (fun _ => true) true 25 (.slice A n c) d p) :
    ∃ xs : List Int, xs.length = n ∧ Row W A xs ∧ n ≤ c ∧ n ≤ maxLen ∧ (A = none → c = 0) := by
  obtain ⟨fuel, hf⟩ := h
  have hcs : (Value.slice A n c).cells.toList = [.slice A n c] := rfl
  rw [hcs] at hf
  obtain ⟨A', c', xs, e, hr, h1, h2, h3⟩ := ints_trod hf
  injection e with e
  injection e with e1 e2 e3
  subst e1 e3
  exact ⟨xs, e2.symm, hr, by omega, by omega, h3⟩
end
end Go.Proofs.YtokcpammdhkecaaGreatDoor
