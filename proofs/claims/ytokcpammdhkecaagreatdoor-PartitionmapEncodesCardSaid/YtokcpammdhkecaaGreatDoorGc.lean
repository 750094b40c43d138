/-
  Texts of this claim, joined in one file: each begins with its own sentence.
-/
import Derived.Test.YtokcpammdhkecaaGreatDoorGb
import Derived.Maps.Own
import Derived.Lib.SliceRun
/-
  Maps with int keys whose entries are known one by one: an insertion, a look-up; partitionmap.kinds and identifiers.
-/
namespace Go.Proofs.YtokcpammdhkecaaGreatDoor
open Go.RowKit
open Go.ChangeMaps (setBlock)

/-- Block b is a map with these entries. -/
def MapAt (w : World) (b : Nat) (es : Array MapEntry) (clock : Nat) : Prop := w.heap[b]? = some (.map es clock)
def keysNo (k : Int) (es : List MapEntry) : Prop := Instr.findNow (.int .i64) (.int .i64 k) es 0 = some none

theorem run_insert_int {P : Program} {T K E : TypeId} (hT : P.underlying T = some (.map K E)) (hK : P.underlying K = some (.int .i64)) {w : World} {b : Nat} {es : Array MapEntry} {clock : Nat} (h : MapAt w b es clock) (k : Int) (v : Value)
    (hno : keysNo k es.toList) :
    (Instr.mapUpdate T (.map (some b)) (.int .i64 k) v).run P w = .ok () (setBlock w b (.map (es.push { key := .int .i64 k, val := v, born := clock }) (clock + 1))) := by
  have hf : (Instr.findKey K (.int .i64 k) es.toList).run P w = .ok none w := by
    unfold Instr.findKey
    simp [run_underlying hK, Result.andThen]
    unfold keysNo at hno
    rw [hno]
    rfl
  have hck : (Instr.checkKey false 10000 K (.int .i64 k)).run P w = .ok () w := by
    unfold Instr.checkKey
    simp [run_underlying hK, Result.andThen]
  simp [Instr.mapUpdate, run_underlying hT, MapKept.run_getObj_map h, hck, hf, MapKept.run_setObj_map _ h, Result.andThen, setBlock]
theorem run_lookup_int {P : Program} {T K E : TypeId} (hT : P.underlying T = some (.map K E)) (hK : P.underlying K = some (.int .i64)) {w : World} {b : Nat} {es : Array MapEntry} {clock : Nat} (h : MapAt w b es clock) (k : Int) (i : Nat) (v : Value)
    (hyes : Instr.findNow (.int .i64) (.int .i64 k) es.toList 0 = some (some (i, v))) (hne : es.isEmpty = false) :
    (Instr.lookup T (.map (some b)) (.int .i64 k) false).run P w = .ok v w := by
  have hf : (Instr.findKey K (.int .i64 k) es.toList).run P w = .ok (some (i, v)) w := by
    unfold Instr.findKey
    simp [run_underlying hK, Result.andThen]
    rw [hyes]
    rfl
  have hck : (Instr.checkKey false 10000 K (.int .i64 k)).run P w = .ok () w := by
    unfold Instr.checkKey
    simp [run_underlying hK, Result.andThen]
  simp [Instr.lookup, run_underlying hT, MapKept.run_getObj_map h, hck, hf, hne, Result.andThen]
theorem run_lookup_none {P : Program} {T K E : TypeId} (hT : P.underlying T = some (.map K E)) (hK : P.underlying K = some (.int .i64)) {w : World} {b : Nat} {es : Array MapEntry} {clock : Nat} (h : MapAt w b es clock) (k : Int) (z : Value)
    (hno : keysNo k es.toList) (hne : es.isEmpty = false) (hz : (zeroValue E).run P w = .ok z w) :
    (Instr.lookup T (.map (some b)) (.int .i64 k) false).run P w = .ok z w := by
  have hf : (Instr.findKey K (.int .i64 k) es.toList).run P w = .ok none w := by
    unfold Instr.findKey
    simp [run_underlying hK, Result.andThen]
    unfold keysNo at hno
    rw [hno]
    rfl
  have hck : (Instr.checkKey false 10000 K (.int .i64 k)).run P w = .ok () w := by
    unfold Instr.checkKey
    simp [run_underlying hK, Result.andThen]
  simp [Instr.lookup, run_underlying hT, MapKept.run_getObj_map h, hck, hf, hne, hz, Result.andThen]

/-- 'm[k] = v' of a map literal, for the walk. -/
theorem wpList_insert_int {P : Program} (w : World) {ops : Array Oper} {rest : List Oper} {o : Oper} {a : Act} {Q : Exit → Act → World → Prop}
    (hg : o.guard = none) (T : TypeId) (m x v : Operand) (hop : o.op = Op.insert T m x v) (K E : TypeId) (hT : P.underlying T = some (.map K E)) (hK : P.underlying K = some (.int .i64))
    (b : Nat) (hm : a.eval m = .map (some b)) (es : Array MapEntry) (clock : Nat) (h : MapAt w b es clock) (k : Int) (hx : a.eval x = .int .i64 k) (u : Value) (hv : a.eval v = u) (hno : keysNo k es.toList)
    (hK' : ∀ w', MapAt w' b (es.push { key := .int .i64 k, val := u, born := clock }) (clock + 1) → w.grownBy w' (some b) → wpList P ops Q rest (a.put o.dst undef) w') :
    wpList P ops Q (o :: rest) a w := by
  refine wpList_plain hg fun K' hK => ?_
  have hrun := run_insert_int hT ‹_› h k u hno
  unfold Oper.wp
  simp [execOp, hop, hm, hx, hv, hrun, Result.andThen]
  refine hK _ _ (hK' _ ?_ ?_)
  · have hlt : b < w.heap.size := by
      unfold MapAt at h
      rcases Nat.lt_or_ge b w.heap.size with hl | hg
      · exact hl
      · rw [Array.getElem?_eq_none hg] at h; cases h
    show (w.heap.setIfInBounds b _)[b]? = _
    rw [Array.getElem?_setIfInBounds_self_of_lt hlt]
  · refine ⟨rfl, rfl, rfl, ?_, fun i hi hne => ?_⟩
    · show w.heap.size ≤ (w.heap.setIfInBounds b _).size
      rw [Array.size_setIfInBounds]
      exact Nat.le_refl _
    · show (w.heap.setIfInBounds b _)[i]? = _
      rw [Array.getElem?_setIfInBounds_ne (fun e => hne (by rw [e]))]

theorem MapAt.lt {w : World} {b : Nat} {es : Array MapEntry} {clock : Nat} (h : MapAt w b es clock) : b < w.heap.size := by
  unfold MapAt at h
  rcases Nat.lt_or_ge b w.heap.size with hl | hg
  · exact hl
  · rw [Array.getElem?_eq_none hg] at h; cases h
theorem MapAt.below {w w' : World} {b : Nat} {es : Array MapEntry} {clock : Nat} (h : MapAt w b es clock) (hb : Below w.heap.size w w') : MapAt w' b es clock := (hb.block b h.lt).trans h
theorem MapAt.alloc {w : World} {b : Nat} {es : Array MapEntry} {clock : Nat} (h : MapAt w b es clock) (o : Obj) : MapAt (w.alloc o) b es clock := h.below ((Below.refl _ _).alloc (Nat.le_refl _) _)
theorem mapAt_new (w : World) (es : Array MapEntry) (clock : Nat) : MapAt (w.alloc (.map es clock)) w.heap.size es clock := heap_new w _
theorem Row.other {w w' : World} {A : Option Addr} {xs : List Int} {b : Nat} (h : Row w A xs) (hg : w.grownBy w' (some b)) (hA : ∀ ad, A = some ad → ad.block ≠ b) : Row w' A xs :=
  ⟨fun h0 => by
    obtain ⟨ad, e, hc⟩ := h.reads h0
    refine ⟨ad, e, fun j hj => ?_⟩
    have hne : (ad.add j).block ≠ b := by rw [block_of_add]; exact hA ad e
    have hlt := addr_lt (hc j hj)
    have := hg.block (ad.add j).block hlt (fun q => hne (by injection q))
    exact (World.cell?_of_block this).trans (hc j hj)⟩
theorem row_one (w : World) (a : Int) (t : TypeId) : Row (w.alloc (.cells #[.int .i64 a] t)) (some ⟨w.heap.size, 0, none⟩) [a] := by
  refine ⟨fun _ => ⟨_, rfl, fun j hj => ?_⟩⟩
  match j, hj with
  | 0, _ => simp [Addr.add]
theorem row_two (w : World) (a b : Int) (t : TypeId) : Row (w.alloc (.cells #[.int .i64 a, .int .i64 b] t)) (some ⟨w.heap.size, 0, none⟩) [a, b] := by
  refine ⟨fun _ => ⟨_, rfl, fun j hj => ?_⟩⟩
  match j, hj with
  | 0, _ => simp [Addr.add]
  | 1, _ => simp [Addr.add]
theorem below_other {B b : Nat} {a w w' : World} (h : Below B a w) (hg : w.grownBy w' (some b)) (hB : B ≤ b) (hs : B ≤ w.heap.size) : Below B a w' := h.grown hg hs (fun k hk => by injection hk with hk; omega)

/-- What partitionmap.kinds gives: a map whose four rows are the kinds of the maps of each kind of volume. -/
def kindsE (g0 g1 g2 g3 : Nat) : Array MapEntry :=
  #[{ key := .int .i64 0, val := .slice (some ⟨g0, 0, none⟩) 1 1, born := 0 }, { key := .int .i64 1, val := .slice (some ⟨g1, 0, none⟩) 2 2, born := 1 },
    { key := .int .i64 2, val := .slice (some ⟨g2, 0, none⟩) 1 1, born := 2 }, { key := .int .i64 3, val := .slice (some ⟨g3, 0, none⟩) 2 2, born := 3 }]
structure KindsAt (w : World) (B : Nat) (g0 g1 g2 g3 : Nat) : Prop where
  map : MapAt w B (kindsE g0 g1 g2 g3) 4
  r0 : Row w (some ⟨g0, 0, none⟩) [0]
  r1 : Row w (some ⟨g1, 0, none⟩) [0, 1]
  r2 : Row w (some ⟨g2, 0, none⟩) [2]
  r3 : Row w (some ⟨g3, 0, none⟩) [0, 3]
set_option maxHeartbeats 1600000 in
set_option maxRecDepth 100000 in
theorem pm_kinds (w : World) : Calls Tryz.prog 40 #[] w fun e w' => ∃ B g0 g1 g2 g3, e = .returned (.map (some B)) ∧ KindsAt w' B g0 g1 g2 g3 ∧ Below w.heap.size w w' := by
  have hmm := @run_makeMap Tryz.prog
  go_enter Tryz.func40, Tryz.ntmps40
  go_wp2_with (first
    | (refine wpList_insert_int _ rfl 73 (.tmp 1) (.const (.int .i64 0)) (.tmp 2) rfl 3 25 Tryz.underlying73 Tryz.underlying3 w.heap.size rfl #[] 0 ((mapAt_new w #[] 0).alloc _) 0 rfl (.slice (some ⟨w.heap.size + 1, 0, none⟩) 1 1) rfl rfl ?_; intro w1 hm1 hg1)
    | (refine wpList_insert_int _ rfl 73 (.tmp 1) (.const (.int .i64 1)) (.tmp 3) rfl 3 25 Tryz.underlying73 Tryz.underlying3 w.heap.size rfl _ _ (hm1.alloc _) 1 rfl (.slice (some ⟨w1.heap.size, 0, none⟩) 2 2) rfl rfl ?_; intro w2 hm2 hg2)
    | (refine wpList_insert_int _ rfl 73 (.tmp 1) (.const (.int .i64 2)) (.tmp 4) rfl 3 25 Tryz.underlying73 Tryz.underlying3 w.heap.size rfl _ _ (hm2.alloc _) 2 rfl (.slice (some ⟨w2.heap.size, 0, none⟩) 1 1) rfl rfl ?_; intro w3 hm3 hg3)
    | (refine wpList_insert_int _ rfl 73 (.tmp 1) (.const (.int .i64 3)) (.tmp 5) rfl 3 25 Tryz.underlying73 Tryz.underlying3 w.heap.size rfl _ _ (hm3.alloc _) 3 rfl (.slice (some ⟨w3.heap.size, 0, none⟩) 2 2) rfl rfl ?_; intro w4 hm4 hg4))
  go_ret
  have z0 : (w.alloc (.map #[] 0)).heap.size = w.heap.size + 1 := by simp
  have r0 := row_one (w.alloc (.map #[] 0)) 0 3
  rw [z0] at r0
  have s1 : w.heap.size + 1 + 1 ≤ w1.heap.size := by have := hg1.size; simpa using this
  have s2 : w1.heap.size + 1 ≤ w2.heap.size := by have := hg2.size; simpa using this
  have s3 : w2.heap.size + 1 ≤ w3.heap.size := by have := hg3.size; simpa using this
  have al : ∀ (w : World) (o : Obj), Below w.heap.size w (w.alloc o) := fun w o => (Below.refl _ _).alloc (Nat.le_refl _) _
  have ne : ∀ (g : Nat), g ≠ w.heap.size → ∀ ad : Addr, some (⟨g, 0, none⟩ : Addr) = some ad → ad.block ≠ w.heap.size := by
    intro g hg ad e
    injection e with e
    rw [← e]
    exact hg
  have r0 := (((((((r0.other hg1 (ne _ (by omega))).below (al _ _)).other hg2 (ne _ (by omega))).below (al _ _)).other hg3 (ne _ (by omega))).below (al _ _)).other hg4 (ne _ (by omega)))
  have r1 := ((((((row_two w1 0 1 3).other hg2 (ne _ (by omega))).below (al _ _)).other hg3 (ne _ (by omega))).below (al _ _)).other hg4 (ne _ (by omega)))
  have r2 := ((((row_one w2 2 3).other hg3 (ne _ (by omega))).below (al _ _)).other hg4 (ne _ (by omega)))
  have r3 := (row_two w3 0 3 3).other hg4 (ne _ (by omega))
  have b0 : Below w.heap.size w ((w.alloc (.map #[] 0)).alloc (.cells #[.int .i64 0] 3)) := ((Below.refl _ _).alloc (Nat.le_refl _) _).alloc (by simp) _
  have b1 := below_other b0 hg1 (Nat.le_refl _) (by simp; omega)
  have b2 := below_other (b1.alloc b1.size _) hg2 (Nat.le_refl _) (by simp; omega)
  have b3 := below_other (b2.alloc b2.size _) hg3 (Nat.le_refl _) (by simp; omega)
  have b4 := below_other (b3.alloc b3.size _) hg4 (Nat.le_refl _) (by simp; omega)
  exact ⟨w.heap.size, w.heap.size + 1, w1.heap.size, w2.heap.size, w3.heap.size, rfl, ⟨hm4, r0, r1, r2, r3⟩, b4⟩
end Go.Proofs.YtokcpammdhkecaaGreatDoor

/-
  partitionmap.identifiers: the identifiers of the kinds that have one.
-/
namespace Go.Proofs.YtokcpammdhkecaaGreatDoor
open Go.RowKit

def idV : ByteArray := ⟨#[42, 85, 68, 70, 32, 86, 105, 114, 116, 117, 97, 108, 32, 80, 97, 114, 116, 105, 116, 105, 111, 110]⟩
def idS : ByteArray := ⟨#[42, 85, 68, 70, 32, 83, 112, 97, 114, 97, 98, 108, 101, 32, 80, 97, 114, 116, 105, 116, 105, 111, 110]⟩
def idM : ByteArray := ⟨#[42, 85, 68, 70, 32, 77, 101, 116, 97, 100, 97, 116, 97, 32, 80, 97, 114, 116, 105, 116, 105, 111, 110]⟩
def idnE : Array MapEntry := #[{ key := .int .i64 1, val := .string idV, born := 0 }, { key := .int .i64 2, val := .string idS, born := 1 }, { key := .int .i64 3, val := .string idM, born := 2 }]
set_option maxHeartbeats 1600000 in
set_option maxRecDepth 100000 in
theorem pm_identifiers (w : World) : Calls Tryz.prog 57 #[] w fun e w' => ∃ B, e = .returned (.map (some B)) ∧ MapAt w' B idnE 3 ∧ Below w.heap.size w w' := by
  have hmm := @run_makeMap Tryz.prog
  go_enter Tryz.func57, Tryz.ntmps57
  go_wp2_with (first
    | (refine wpList_insert_int _ rfl 87 (.tmp 1) (.const (.int .i64 1)) (.const (.string idV)) rfl 3 9 Tryz.underlying87 Tryz.underlying3 w.heap.size rfl #[] 0 (mapAt_new w #[] 0) 1 rfl (.string idV) rfl rfl ?_; intro w1 hm1 hg1)
    | (refine wpList_insert_int _ rfl 87 (.tmp 1) (.const (.int .i64 2)) (.const (.string idS)) rfl 3 9 Tryz.underlying87 Tryz.underlying3 w.heap.size rfl _ _ hm1 2 rfl (.string idS) rfl rfl ?_; intro w2 hm2 hg2)
    | (refine wpList_insert_int _ rfl 87 (.tmp 1) (.const (.int .i64 3)) (.const (.string idM)) rfl 3 9 Tryz.underlying87 Tryz.underlying3 w.heap.size rfl _ _ hm2 3 rfl (.string idM) rfl rfl ?_; intro w3 hm3 hg3))
  go_ret
  have b0 : Below w.heap.size w (w.alloc (.map #[] 0)) := (Below.refl _ _).alloc (Nat.le_refl _) _
  have b1 := below_other b0 hg1 (Nat.le_refl _) b0.size
  have b2 := below_other b1 hg2 (Nat.le_refl _) b1.size
  have b3 := below_other b2 hg3 (Nat.le_refl _) b2.size
  exact ⟨w.heap.size, rfl, hm3, b3⟩
end Go.Proofs.YtokcpammdhkecaaGreatDoor

/-
  partitionmap.Maps: the maps of a kind of volume.
-/
namespace Go.Proofs.YtokcpammdhkecaaGreatDoor
open Go.RowKit

theorem own_base {w : World} {base n m c size : Nat} {e : TypeId} {A : Option Addr} {xs : List Value} (h : w.ownsRow base e size (.slice A m c) n xs) : ∀ ad, A = some ad → base ≤ ad.block := by
  intro ad hA
  rcases h.2 with ⟨h1, _⟩ | ⟨g, cap, cur, h1, hg, _⟩
  · injection h1 with h1
    rw [hA] at h1
    cases h1
  · injection h1 with h1
    rw [hA] at h1
    injection h1 with h1
    rw [h1]
    exact hg
theorem Row.set {w : World} {A : Option Addr} {xs : List Int} (h : Row w A xs) {p : Addr} (hA : ∀ ad, A = some ad → ad.block ≠ p.block) (u : Value) : Row (w.setCell p u) A xs :=
  ⟨fun h0 => by
    obtain ⟨ad, e, hc⟩ := h.reads h0
    refine ⟨ad, e, fun j hj => ?_⟩
    rw [World.cell?_setCell_other _ _ _ _ (fun q => hA ad e (by rw [q, block_of_add]))]
    exact hc j hj⟩
set_option maxHeartbeats 1600000 in
set_option maxRecDepth 100000 in
theorem sl_Clone (A : Option Addr) (c : Nat) (xs : List Int) (w : World) (hr : Row w A xs) (hc : xs.length ≤ c) (hn : A = none → c = 0) (hl : xs.length ≤ 1000) :
    Calls Tryz.prog 41 #[.slice A xs.length c] w fun e w' => ∃ A1 c1, e = .returned (.slice A1 xs.length c1) ∧ Row w' A1 xs ∧ Below w.heap.size w w' ∧ ∀ ad, A1 = some ad → w.heap.size ≤ ad.block := by
  have q22 : ∀ (w : World) (a : Option Addr) (n c n' c' : Nat), (binOp .eql 25 (.slice a n c) (.slice none n' c')).run Tryz.prog w = .ok (.bool a.isNone) w := fun w a n c n' c' => Lib.run_eql_slice_nil w _ _ a n c n' c' Tryz.underlying25
  rcases A with _ | ad
  · have h0 : xs = [] := List.eq_nil_of_length_eq_zero (by have := hn rfl; omega)
    subst h0
    have hc0 := hn rfl
    subst hc0
    go_enter Tryz.func41, Tryz.ntmps41
    go_wp2
    go_ret
    exact ⟨none, ⟨0, rfl⟩, row_nil _ _, Below.refl _ _, fun _ h => by cases h⟩
  · obtain ⟨i0, hi, hz0, hz1, hz2⟩ := info_parts intInfo
    have b0 : Below w.heap.size w (w.alloc (.cells #[] 3)) := (Below.refl _ _).alloc (Nat.le_refl _) _
    have hown : (w.alloc (.cells #[] 3)).ownsRow w.heap.size 3 1 (.slice (some ⟨w.heap.size, 0, none⟩) 0 0) 0 [] :=
      ⟨rfl, .inr ⟨w.heap.size, 0, #[], rfl, Nat.le_refl _, heap_new w _, Nat.le_refl _, Nat.zero_le _, rfl, rfl⟩⟩
    have rx : Reads (w.alloc (.cells #[] 3)) w.heap.size 1 (some ad) xs.length (intsV xs) := hr.toReads.below b0
    go_enter Tryz.func41, Tryz.ntmps41
    go_wp2_with (at_builtin; refine wpList_append_any _ rfl (.tmp 5) (.tmp 6) 25 rfl w.heap.size 3 i0 (.int .i64 0) 1 8 Tryz.underlying25 hi hz0 hz1 hz2 rfl (by decide) _ _ _ rfl hown w.heap.size (some ad) xs.length c (intsV xs) rfl rx (intsV_one xs) (by unfold maxLen; omega) (by omega) b0.size ?_; intro v2 w2 hown2 hgrow2 _)
    have hb2 : Below w.heap.size w w2 := b0.grown hgrow2 b0.size (fun y hy => (hown.lt y hy).1)
    rw [List.nil_append, Nat.zero_add] at hown2
    go_ret
    have hob := hown2
    obtain ⟨A1, c1, rfl, hr1, _, _⟩ := own_row hown2
    exact ⟨A1, c1, rfl, hr1, hb2, own_base hob⟩

theorem pmInfo : (Tryz.prog.info? 65).map (fun i => (i.zero, i.size, i.bytes)) = some (some (.agg #[.int .i64 0, .int .i64 0, .slice none 0 0, .int .i64 0, .int .i64 0, .int .i64 0]), 6, 64) := by kernel_rfl

theorem reads_new (w : World) (C : Array Value) (t : TypeId) (g : Nat) (hg : g = w.heap.size) (hC : C.size = 6) : Reads (w.alloc (.cells C t)) (w.heap.size + 1) 6 (some ⟨g, 0, none⟩) 1 C.toList := by
  subst hg
  refine ⟨by simpa using hC, fun _ => ⟨_, rfl, Nat.lt_succ_self _, fun j u hj => ?_⟩⟩
  have : (⟨w.heap.size, 0, none⟩ : Addr).add j = ⟨w.heap.size, j, none⟩ := by
    unfold Addr.add
    split
    · simp_all
    · simp
  rw [this]
  simp
  simpa using hj
theorem own_maps {w : World} {base n : Nat} {v : Value} {ps : List PM} (h : w.ownsRow base 65 6 v n (ps.flatMap fun p => p.cells.toList)) (hw : ∀ p ∈ ps, p.Wf w) (hl : ∀ p ∈ ps, p.xs.length ≤ 9223372036854775807) :
    ∃ A c, v = .slice A ps.length c ∧ PRow w A ps ∧ ps.length ≤ c ∧ n = ps.length := by
  have hlen : (ps.flatMap fun p => p.cells.toList).length = ps.length * 6 := by
    clear h hw hl
    induction ps with
    | nil => rfl
    | cons p ps ih =>
      rw [List.flatMap_cons, List.length_append, ih]
      show 6 + _ = _
      simp only [List.length_cons]
      omega
  have hn : n = ps.length := by have := h.1; omega
  subst hn
  rcases h.2 with ⟨rfl, h0⟩ | ⟨g, cap, cur, rfl, hg, hh, hnc, _⟩
  · have hx : ps = [] := List.eq_nil_of_length_eq_zero h0
    subst hx
    exact ⟨none, 0, rfl, ⟨fun h => absurd h (by simp), by simp, by simp⟩, Nat.le_refl _, rfl⟩
  · refine ⟨_, cap, rfl, ⟨fun h0 => ⟨_, rfl, fun j hj i v hv => ?_⟩, hw, hl⟩, hnc, rfl⟩
    refine h.cells (g := g) rfl _ _ ?_
    have key : ∀ (qs : List PM) (j : Nat) (hj : j < qs.length), (qs[j]).cells[i]? = some v → (qs.flatMap fun p => p.cells.toList)[j * 6 + i]? = some v := by
      intro qs
      induction qs with
      | nil => intro j hj; simp at hj
      | cons q qs ih =>
        intro j hj hv
        have hi : i < 6 := by
          have hz : ((q :: qs)[j]).cells.size = 6 := rfl
          rcases Nat.lt_or_ge i 6 with h | h
          · exact h
          · rw [Array.getElem?_eq_none (by omega)] at hv; cases hv
        rw [List.flatMap_cons]
        cases j with
        | zero =>
          rw [Nat.zero_mul, Nat.zero_add, List.getElem?_append_left (by show i < 6; exact hi)]
          simpa using hv
        | succ j =>
          rw [List.getElem?_append_right (by show 6 ≤ _; omega)]
          have : (j + 1) * 6 + i - q.cells.toList.length = j * 6 + i := by
            show (j + 1) * 6 + i - 6 = _
            omega
          rw [this]
          exact ih j (by simpa using hj) hv
    exact key ps j hj hv

set_option maxHeartbeats 1600000 in
set_option maxRecDepth 100000 in
theorem pm_Maps_0 (A : Option Addr) (c : Nat) (xs : List Int) (f m b : Int) (w : World) :
    Calls Tryz.prog 22 #[.int .i64 0, .slice A xs.length c, .int .i64 f, .int .i64 m, .int .i64 b] w fun e w' => ∃ A1 c1, e = .returned (.slice A1 1 c1) ∧ PRow w' A1 [⟨0, 0, none, 0, [], 0, 0, 0⟩] ∧ 1 ≤ c1 ∧ Below w.heap.size w w' := by
  obtain ⟨i0, hi, hz0, hz1, hz2⟩ := info_parts pmInfo
  go_enter Tryz.func22, Tryz.ntmps22
  go_wp2_with fail
  refine (pm_kinds _).mono ?_
  rintro e w1 ⟨B, g0, g1, g2, g3, rfl, hK, hb1⟩
  have hlk := run_lookup_int (P := Tryz.prog) Tryz.underlying73 Tryz.underlying3 hK.map 0 0 (.slice (some ⟨g0, 0, none⟩) 1 1) rfl rfl
  go_wp2_with fail
  have hk0 : w1.cell? ⟨g0, 0, none⟩ = some (.int .i64 0) := by
    obtain ⟨ad, e, hc⟩ := hK.r0.at_ (k := 0) (by decide)
    injection e with e
    subst e
    exact hc
  refine wp_loop_rounds 2 ?_
  rw [rounds_succ]
  go_wp2_with (at_builtin; refine wpList_append_any _ rfl (.tmp 39) (.tmp 41) 22 rfl w1.heap.size 65 i0 _ 6 64 Tryz.underlying22 hi hz0 hz1 hz2 rfl (by decide) _ 0 [] rfl ⟨rfl, .inl ⟨rfl, rfl⟩⟩ _ _ 1 1 (PM.cells ⟨0, 0, none, 0, [], 0, 0, 0⟩).toList rfl (reads_new _ _ _ _ (by simp) rfl) (by decide) (by unfold maxLen; omega) (by omega) (by simp; omega) ?_; intro v2 w2 hown_w2 hgrow_w2 _)
  rw [rounds_succ]
  go_wp2_with fail
  go_ret
  have hB2 : Below w1.heap.size w1 w2 := (((Below.refl _ _).alloc (Nat.le_refl _) _).alloc (by simp) _).grown hgrow_w2 (by simp; omega) (fun k hk => by cases hk)
  obtain ⟨A1, c1, rfl, hr1, hc1, _⟩ := own_maps (ps := [⟨0, 0, none, 0, [], 0, 0, 0⟩]) hown_w2 (by
    intro p hp
    rw [List.mem_singleton] at hp
    subst hp
    exact ⟨row_nil _ _, ⟨by decide, by decide⟩, ⟨by decide, by decide⟩, ⟨by decide, by decide⟩⟩) (by
    intro p hp
    rw [List.mem_singleton] at hp
    subst hp
    exact Nat.zero_le _)
  exact ⟨A1, c1, rfl, hr1, hc1, hb1.trans (hB2.mono hb1.size)⟩

set_option maxHeartbeats 1600000 in
set_option maxRecDepth 100000 in
theorem pm_Maps_1 (A : Option Addr) (c : Nat) (xs : List Int) (f m b : Int) (w : World) :
    Calls Tryz.prog 22 #[.int .i64 1, .slice A xs.length c, .int .i64 f, .int .i64 m, .int .i64 b] w fun e w' => ∃ A1 c1, e = .returned (.slice A1 2 c1) ∧ PRow w' A1 [⟨0, 0, none, 0, [], 0, 0, 0⟩, ⟨1, 0, none, 0, [], 0, 0, 0⟩] ∧ 2 ≤ c1 ∧ Below w.heap.size w w' := by
  obtain ⟨i0, hi, hz0, hz1, hz2⟩ := info_parts pmInfo
  go_enter Tryz.func22, Tryz.ntmps22
  go_wp2_with fail
  refine (pm_kinds _).mono ?_
  rintro e w1 ⟨B, g0, g1, g2, g3, rfl, hK, hb1⟩
  have hlk := run_lookup_int (P := Tryz.prog) Tryz.underlying73 Tryz.underlying3 hK.map 1 1 (.slice (some ⟨g1, 0, none⟩) 2 2) rfl rfl
  go_wp2_with fail
  have hk0 : w1.cell? ⟨g1, 0, none⟩ = some (.int .i64 0) := by
    obtain ⟨ad, e, hc⟩ := hK.r1.at_ (k := 0) (by decide)
    injection e with e
    subst e
    exact hc
  have hk1 : w1.cell? ⟨g1, 1, none⟩ = some (.int .i64 1) := by
    obtain ⟨ad, e, hc⟩ := hK.r1.at_ (k := 1) (by decide)
    injection e with e
    subst e
    exact hc
  refine wp_loop_rounds 3 ?_
  rw [rounds_succ]
  go_wp2_with (at_builtin; refine wpList_append_any _ rfl (.tmp 39) (.tmp 41) 22 rfl w1.heap.size 65 i0 _ 6 64 Tryz.underlying22 hi hz0 hz1 hz2 rfl (by decide) _ 0 [] rfl ⟨rfl, .inl ⟨rfl, rfl⟩⟩ _ _ 1 1 (PM.cells ⟨0, 0, none, 0, [], 0, 0, 0⟩).toList rfl (reads_new _ _ _ _ (by simp) rfl) (by decide) (by unfold maxLen; omega) (by omega) (by simp; omega) ?_; intro v2 w2 hown_w2 hgrow_w2 _)
  have hB2 : Below w1.heap.size w1 w2 := (((Below.refl _ _).alloc (Nat.le_refl _) _).alloc (by simp) _).grown hgrow_w2 (by simp; omega) (fun k hk => by cases hk)
  have hk1' : w2.cell? ⟨g1, 1, none⟩ = some (.int .i64 1) := (hB2.cell (p := ⟨g1, 1, none⟩) (cell_lt hk1)).trans hk1
  have hs2 := hB2.size
  rw [rounds_succ]
  go_wp2_with (at_builtin; refine wpList_append_any _ rfl (.tmp 39) (.tmp 41) 22 rfl w1.heap.size 65 i0 _ 6 64 Tryz.underlying22 hi hz0 hz1 hz2 rfl (by decide) _ 1 _ rfl ((hown_w2.alloc _).alloc _) _ _ 1 1 (PM.cells ⟨1, 0, none, 0, [], 0, 0, 0⟩).toList rfl (reads_new _ _ _ _ (by simp) rfl) (by decide) (by unfold maxLen; omega) (by omega) (by simp; omega) ?_; intro v3 w3 hown_w3 hgrow_w3 _)
  have hB3 : Below w1.heap.size w1 w3 := ((hB2.alloc hs2 _).alloc (by simp; omega) _).grown hgrow_w3 (by simp; omega) (fun k hk => (hown_w2.lt k hk).1)
  rw [rounds_succ]
  go_wp2_with fail
  go_ret
  obtain ⟨A1, c1, rfl, hr1, hc1, _⟩ := own_maps (ps := [⟨0, 0, none, 0, [], 0, 0, 0⟩, ⟨1, 0, none, 0, [], 0, 0, 0⟩]) hown_w3 (by
    intro p hp
    simp only [List.mem_cons, List.not_mem_nil, or_false] at hp
    rcases hp with rfl | rfl
    · exact ⟨row_nil _ _, ⟨by decide, by decide⟩, ⟨by decide, by decide⟩, ⟨by decide, by decide⟩⟩
    · exact ⟨row_nil _ _, ⟨by decide, by decide⟩, ⟨by decide, by decide⟩, ⟨by decide, by decide⟩⟩) (by
    intro p hp
    simp only [List.mem_cons, List.not_mem_nil, or_false] at hp
    rcases hp with rfl | rfl <;> exact Nat.zero_le _)
  exact ⟨A1, c1, rfl, hr1, hc1, hb1.trans (hB3.mono hb1.size)⟩

set_option maxHeartbeats 1600000 in
set_option maxRecDepth 100000 in
theorem pm_Maps_3 (A : Option Addr) (c : Nat) (xs : List Int) (f m b : Int) (hf : I64 f) (hm : I64 m) (hb : I64 b) (w : World) :
    Calls Tryz.prog 22 #[.int .i64 3, .slice A xs.length c, .int .i64 f, .int .i64 m, .int .i64 b] w fun e w' => ∃ A1 c1, e = .returned (.slice A1 2 c1) ∧ PRow w' A1 [⟨0, 0, none, 0, [], 0, 0, 0⟩, ⟨3, 0, none, 0, [], f, m, b⟩] ∧ 2 ≤ c1 ∧ Below w.heap.size w w' := by
  obtain ⟨i0, hi, hz0, hz1, hz2⟩ := info_parts pmInfo
  go_enter Tryz.func22, Tryz.ntmps22
  go_wp2_with fail
  refine (pm_kinds _).mono ?_
  rintro e w1 ⟨B, g0, g1, g2, g3, rfl, hK, hb1⟩
  have hlk := run_lookup_int (P := Tryz.prog) Tryz.underlying73 Tryz.underlying3 hK.map 3 3 (.slice (some ⟨g3, 0, none⟩) 2 2) rfl rfl
  go_wp2_with fail
  have hk0 : w1.cell? ⟨g3, 0, none⟩ = some (.int .i64 0) := by
    obtain ⟨ad, e, hc⟩ := hK.r3.at_ (k := 0) (by decide)
    injection e with e
    subst e
    exact hc
  have hk1 : w1.cell? ⟨g3, 1, none⟩ = some (.int .i64 3) := by
    obtain ⟨ad, e, hc⟩ := hK.r3.at_ (k := 1) (by decide)
    injection e with e
    subst e
    exact hc
  refine wp_loop_rounds 3 ?_
  rw [rounds_succ]
  go_wp2_with (at_builtin; refine wpList_append_any _ rfl (.tmp 39) (.tmp 41) 22 rfl w1.heap.size 65 i0 _ 6 64 Tryz.underlying22 hi hz0 hz1 hz2 rfl (by decide) _ 0 [] rfl ⟨rfl, .inl ⟨rfl, rfl⟩⟩ _ _ 1 1 (PM.cells ⟨0, 0, none, 0, [], 0, 0, 0⟩).toList rfl (reads_new _ _ _ _ (by simp) rfl) (by decide) (by unfold maxLen; omega) (by omega) (by simp; omega) ?_; intro v2 w2 hown_w2 hgrow_w2 _)
  have hB2 : Below w1.heap.size w1 w2 := (((Below.refl _ _).alloc (Nat.le_refl _) _).alloc (by simp) _).grown hgrow_w2 (by simp; omega) (fun k hk => by cases hk)
  have hk1' : w2.cell? ⟨g3, 1, none⟩ = some (.int .i64 3) := (hB2.cell (p := ⟨g3, 1, none⟩) (cell_lt hk1)).trans hk1
  have hs2 := hB2.size
  have hone : ∀ u ∈ (PM.cells ⟨3, 0, none, 0, [], f, m, b⟩).toList, u.oneCell' = true := by
    intro u hu
    simp only [PM.cells, List.mem_cons, List.not_mem_nil, or_false] at hu
    rcases hu with rfl | rfl | rfl | rfl | rfl | rfl <;> rfl
  rw [rounds_succ]
  go_wp2_with (at_builtin; refine wpList_append_any _ rfl (.tmp 39) (.tmp 41) 22 rfl w1.heap.size 65 i0 _ 6 64 Tryz.underlying22 hi hz0 hz1 hz2 rfl (by decide) _ 1 _ rfl ((hown_w2.alloc _).alloc _) _ _ 1 1 (PM.cells ⟨3, 0, none, 0, [], f, m, b⟩).toList rfl (reads_new _ _ _ _ (by simp) rfl) hone (by unfold maxLen; omega) (by omega) (by simp; omega) ?_; intro v3 w3 hown_w3 hgrow_w3 _)
  have hB3 : Below w1.heap.size w1 w3 := ((hB2.alloc hs2 _).alloc (by simp; omega) _).grown hgrow_w3 (by simp; omega) (fun k hk => (hown_w2.lt k hk).1)
  rw [rounds_succ]
  go_wp2_with fail
  go_ret
  obtain ⟨A1, c1, rfl, hr1, hc1, _⟩ := own_maps (ps := [⟨0, 0, none, 0, [], 0, 0, 0⟩, ⟨3, 0, none, 0, [], f, m, b⟩]) hown_w3 (by
    intro p hp
    simp only [List.mem_cons, List.not_mem_nil, or_false] at hp
    rcases hp with rfl | rfl
    · exact ⟨row_nil _ _, ⟨by decide, by decide⟩, ⟨by decide, by decide⟩, ⟨by decide, by decide⟩⟩
    · exact ⟨row_nil _ _, hf, hm, hb⟩) (by
    intro p hp
    simp only [List.mem_cons, List.not_mem_nil, or_false] at hp
    rcases hp with rfl | rfl <;> exact Nat.zero_le _)
  exact ⟨A1, c1, rfl, hr1, hc1, hb1.trans (hB3.mono hb1.size)⟩
end Go.Proofs.YtokcpammdhkecaaGreatDoor

/-
  partitionmap.Maps at the sparable kind and at no kind; all kinds in one.
-/
namespace Go.Proofs.YtokcpammdhkecaaGreatDoor
open Go.RowKit

theorem i64_zero : I64 0 := ⟨by decide, by decide⟩
set_option maxHeartbeats 1600000 in
set_option maxRecDepth 100000 in
theorem pm_Maps_2 (A : Option Addr) (c : Nat) (xs : List Int) (f m b : Int) (w : World) (hr : Row w A xs) (hc : xs.length ≤ c) (hn : A = none → c = 0) (hl : xs.length ≤ 1000) :
    Calls Tryz.prog 22 #[.int .i64 2, .slice A xs.length c, .int .i64 f, .int .i64 m, .int .i64 b] w fun e w' => ∃ A1 c1 A2 c2, e = .returned (.slice A1 1 c1) ∧ PRow w' A1 [⟨2, 0, A2, c2, xs, 0, 0, 0⟩] ∧ 1 ≤ c1 ∧ Below w.heap.size w w' := by
  obtain ⟨i0, hi, hz0, hz1, hz2⟩ := info_parts pmInfo
  go_enter Tryz.func22, Tryz.ntmps22
  go_wp2_with fail
  refine (pm_kinds _).mono ?_
  rintro e w1 ⟨B, g0, g1, g2, g3, rfl, hK, hb1⟩
  have hlk := run_lookup_int (P := Tryz.prog) Tryz.underlying73 Tryz.underlying3 hK.map 2 2 (.slice (some ⟨g2, 0, none⟩) 1 1) rfl rfl
  go_wp2_with fail
  have hk0 : w1.cell? ⟨g2, 0, none⟩ = some (.int .i64 2) := by
    obtain ⟨ad, e, hc⟩ := hK.r2.at_ (k := 0) (by decide)
    injection e with e
    subst e
    exact hc
  have ba : ∀ o : Obj, Below w1.heap.size w1 (w1.alloc o) := fun o => (Below.refl _ _).alloc (Nat.le_refl _) _
  refine wp_loop_rounds 2 ?_
  rw [rounds_succ]
  go_wp2_with fail
  refine (sl_Clone A c xs _ ((hr.below hb1).below (ba _)) hc hn hl).mono ?_
  rintro e w2 ⟨A2, c2, rfl, hr2, hb2, hA2⟩
  obtain ⟨hcl, hfr⟩ := bcell hb2
  have hlt : w1.heap.size < (w1.alloc (.cells (PM.cells ⟨2, 0, none, 0, [], 0, 0, 0⟩) 65)).heap.size := by simp
  have x0 : w2.cell? ⟨w1.heap.size, 0, none⟩ = some (.int .i64 2) := (hcl _ 0 hlt).trans (by simp)
  have x1 : w2.cell? ⟨w1.heap.size, 1, none⟩ = some (.int .i64 0) := (hcl _ 1 hlt).trans (by simp)
  have x2 : w2.cell? ⟨w1.heap.size, 2, none⟩ = some (.slice none 0 0) := (hcl _ 2 hlt).trans (by simp)
  have x3 : w2.cell? ⟨w1.heap.size, 3, none⟩ = some (.int .i64 0) := (hcl _ 3 hlt).trans (by simp)
  have x4 : w2.cell? ⟨w1.heap.size, 4, none⟩ = some (.int .i64 0) := (hcl _ 4 hlt).trans (by simp)
  have x5 : w2.cell? ⟨w1.heap.size, 5, none⟩ = some (.int .i64 0) := (hcl _ 5 hlt).trans (by simp)
  have xf : w2.frozen? ⟨w1.heap.size, 2, none⟩ = false := (hfr _ 2 hlt).trans (by simp)
  have hB2 : Below w1.heap.size w1 w2 := (ba _).trans (hb2.mono (ba _).size)
  have hone : ∀ u ∈ (PM.cells ⟨2, 0, A2, c2, xs, 0, 0, 0⟩).toList, u.oneCell' = true := by
    intro u hu
    simp only [PM.cells, List.mem_cons, List.not_mem_nil, or_false] at hu
    rcases hu with rfl | rfl | rfl | rfl | rfl | rfl <;> rfl
  have hr3 : Row (w2.setCell ⟨w1.heap.size, 2, none⟩ (.slice A2 xs.length c2)) A2 xs := hr2.set (fun ad h => by have := hA2 ad h; show ad.block ≠ w1.heap.size; simp at this; omega) _
  have Hr3 := Lib.hid hr3
  clear hr3 hr2 hA2
  clear hcl hfr
  go_wp2_with (at_builtin; refine wpList_append_any _ rfl (.tmp 39) (.tmp 41) 22 rfl w1.heap.size 65 i0 _ 6 64 Tryz.underlying22 hi hz0 hz1 hz2 rfl (by decide) _ 0 [] rfl ⟨rfl, .inl ⟨rfl, rfl⟩⟩ _ _ 1 1 (PM.cells ⟨2, 0, A2, c2, xs, 0, 0, 0⟩).toList rfl (reads_new _ _ _ _ (by simp) rfl) hone (by unfold maxLen; omega) (by omega) (by have := hB2.size; simp; omega) ?_; intro v3 w3 hown_w3 hgrow_w3 _)
  rw [rounds_succ]
  go_wp2_with fail
  go_ret
  have b3 : Below w1.heap.size w1 ((w2.setCell ⟨w1.heap.size, 2, none⟩ (.slice A2 xs.length c2)).alloc (.cells (PM.cells ⟨2, 0, A2, c2, xs, 0, 0, 0⟩) 65)) := (hB2.setCell (Nat.le_refl _) _).alloc (by have := hB2.size; simpa using this) _
  have hg3 : ((w2.setCell ⟨w1.heap.size, 2, none⟩ (.slice A2 xs.length c2)).alloc (.cells (PM.cells ⟨2, 0, A2, c2, xs, 0, 0, 0⟩) 65)).grownBy w3 none := hgrow_w3
  have hB3 : Below w1.heap.size w1 w3 := b3.grown hg3 b3.size (fun k hk => by cases hk)
  have hrow : Row w3 A2 xs := (Hr3.out.below ((Below.refl _ _).alloc (Nat.le_refl _) _)).below ((Below.refl _ _).grown hg3 (Nat.le_refl _) (fun k hk => by cases hk))
  obtain ⟨A1, c1, rfl, hr1, hc1, _⟩ := own_maps (ps := [⟨2, 0, A2, c2, xs, 0, 0, 0⟩]) hown_w3 (by
    intro p hp
    rw [List.mem_singleton] at hp
    subst hp
    exact ⟨hrow, i64_zero, i64_zero, i64_zero⟩) (by
    intro p hp
    rw [List.mem_singleton] at hp
    subst hp
    show xs.length ≤ _
    omega)
  exact ⟨A1, c1, A2, c2, rfl, hr1, hc1, hb1.trans (hB3.mono hb1.size)⟩

set_option maxHeartbeats 1600000 in
set_option maxRecDepth 100000 in
theorem pm_Maps_no (k : Int) (hk : k < 0 ∨ 3 < k) (A : Option Addr) (c : Nat) (xs : List Int) (f m b : Int) (w : World) :
    Calls Tryz.prog 22 #[.int .i64 k, .slice A xs.length c, .int .i64 f, .int .i64 m, .int .i64 b] w fun e w' => e = .returned (.slice none 0 0) ∧ Below w.heap.size w w' := by
  have hf : ∀ g0 g1 g2 g3, keysNo k (kindsE g0 g1 g2 g3).toList := by
    intro g0 g1 g2 g3
    have e0 : (k == 0) = false := by rw [beq_eq_false_iff_ne]; omega
    have e1 : (k == 1) = false := by rw [beq_eq_false_iff_ne]; omega
    have e2 : (k == 2) = false := by rw [beq_eq_false_iff_ne]; omega
    have e3 : (k == 3) = false := by rw [beq_eq_false_iff_ne]; omega
    simp [keysNo, kindsE, Instr.findNow, Instr.sameNow, e0, e1, e2, e3]
  have Hf := Lib.hid hf
  clear hf hk
  go_enter Tryz.func22, Tryz.ntmps22
  go_wp2_with fail
  refine (pm_kinds _).mono ?_
  rintro e w1 ⟨B, g0, g1, g2, g3, rfl, hK, hb1⟩
  have hlk := run_lookup_none (P := Tryz.prog) Tryz.underlying73 Tryz.underlying3 hK.map k (.slice none 0 0) (Hf.out g0 g1 g2 g3) rfl (Tryz.zeroValue25 w1)
  go_wp2_with fail
  refine wp_loop_rounds 1 ?_
  rw [rounds_succ]
  go_wp2_with fail
  go_ret
  exact ⟨rfl, hb1⟩
end Go.Proofs.YtokcpammdhkecaaGreatDoor
