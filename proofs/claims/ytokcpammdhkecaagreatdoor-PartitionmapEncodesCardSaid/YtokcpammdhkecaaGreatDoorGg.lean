/-
  Texts of this claim, joined in one file: each begins with its own sentence.
-/
import Derived.Test.YtokcpammdhkecaaGreatDoorGf
import Derived.Maps.RangeRun
import Derived.Test.YtokcpammdhkecaaGreatDoorGe
import Derived.WalkSmall
import Derived.Lib.IndexMore
import Derived.Lib.TrimByte
import Derived.Maps.RangeWalk
/-
  endian.ReadLittle at a place inside of the string.
-/
namespace Go.Proofs.YtokcpammdhkecaaGreatDoor
open Go.RowKit

/-- The number of the first bytes behind a place, the least first. -/
def rdP (f : Nat → Nat) : Nat → Nat
  | 0 => 0
  | i + 1 => rdP f i + f i * 256 ^ i
def rdN (s : ByteArray) (at_ k : Nat) : Nat := rdP (fun i => (s.data.toList.getD (at_ + i) 0).toNat) k
theorem rdP_lt {f : Nat → Nat} (hf : ∀ i, f i < 256) : ∀ k, rdP f k < 256 ^ k
  | 0 => Nat.one_pos
  | k + 1 => by
    have h1 := rdP_lt hf k
    have h2 := hf k
    rw [rdP, Nat.pow_succ]
    have : f k * 256 ^ k ≤ 255 * 256 ^ k := Nat.mul_le_mul_right _ (by omega)
    omega
theorem byte_at2 (s : ByteArray) (i : Nat) (h : i < s.size) : s[i]'h = s.data.toList.getD i 0 := by
  have e : s[i]'h = s.data[i]'h := rfl
  have h2 : i < s.data.toList.length := h
  rw [e, List.getD_eq_getElem?_getD, List.getElem?_eq_getElem h2]; rfl
theorem or_next {a b i : Nat} (ha : a < 256 ^ i) (hb : b < 256) (hi : i < 8) : bits .or .u64 (a : Int) ((b * 256 ^ i : Nat) : Int) = ((a + b * 256 ^ i : Nat) : Int) := by
  have hv : bits .or .u64 (a : Int) ((b * 256 ^ i : Nat) : Int) = IntKind.u64.wrap ((BitVec.ofInt 64 (a : Int) ||| BitVec.ofInt 64 ((b * 256 ^ i : Nat) : Int)).toNat : Int) := rfl
  have hp : 256 ^ i * 256 ≤ 256 ^ 8 := by
    rw [← Nat.pow_succ]
    exact Nat.pow_le_pow_right (by decide) (by omega)
  have hp2 : (256 : Nat) ^ 8 = 2 ^ 64 := by decide
  have hb2 : b * 256 ^ i ≤ 255 * 256 ^ i := Nat.mul_le_mul_right _ (by omega)
  have hpos : 0 < 256 ^ i := Nat.pow_pos (by decide)
  have hor : a ||| b * 256 ^ i = a + b * 256 ^ i := by
    have h8 : (256 : Nat) ^ i = 2 ^ (8 * i) := by rw [Nat.pow_mul]
    rw [h8] at ha ⊢
    rw [Nat.or_comm, ← Nat.shiftLeft_eq, ← Nat.shiftLeft_add_eq_or_of_lt ha]
    omega
  rw [hv, BitVec.toNat_or, BitVec.toNat_ofInt, BitVec.toNat_ofInt]
  rw [show ((a : Int) % ((2 ^ 64 : Nat) : Int)).toNat = a from by omega, show (((b * 256 ^ i : Nat) : Int) % ((2 ^ 64 : Nat) : Int)).toNat = b * 256 ^ i from by omega, hor, IntKind.wrap_u64]
  omega
theorem shl_byte {b i : Nat} (hb : b < 256) (hi : i < 8) : IntKind.u64.wrap (IntKind.u64.wrap (b : Int) * 2 ^ (8 * i)) = ((b * 256 ^ i : Nat) : Int) := by
  have hp : 256 ^ i * 256 ≤ 256 ^ 8 := by
    rw [← Nat.pow_succ]
    exact Nat.pow_le_pow_right (by decide) (by omega)
  have hp2 : (256 : Nat) ^ 8 = 2 ^ 64 := by decide
  have hb2 : b * 256 ^ i ≤ 255 * 256 ^ i := Nat.mul_le_mul_right _ (by omega)
  rw [IntKind.wrap_u64, IntKind.wrap_u64, pow_8i, show ((b : Int) % 18446744073709551616) = b from by omega, ← Int.natCast_mul]
  omega
set_option maxHeartbeats 800000 in
set_option maxRecDepth 100000 in
theorem en_inside (s : ByteArray) (p k : Nat) (hs : s.size ≤ 1000) (hp : p + k ≤ s.size) (w : World) :
    Calls Tryz.prog 109 #[.string s, .int .i64 (p : Int), .int .i64 (k : Int)] w fun e w' => e = .returned (.bool true) ∧ w' = w := by
  have hw1 : IntKind.i64.wrap ((s.size : Int) - (k : Int)) = (s.size : Int) - (k : Int) := IntWalk.i64_in _ (by omega)
  have hc : (p : Int) ≤ (s.size : Int) - (k : Int) := by omega
  go_enter Tryz.func109, Tryz.ntmps109
  go_wp2
  go_ret
  exact ⟨rfl, rfl⟩
set_option maxHeartbeats 1600000 in
set_option maxRecDepth 100000 in
theorem en_read (s : ByteArray) (p k : Nat) (hs : s.size ≤ 1000) (h1 : 1 ≤ k) (h4 : k ≤ 4) (hp : p + k ≤ s.size) (w : World) :
    Calls Tryz.prog 92 #[.string s, .int .i64 (p : Int), .int .i64 (k : Int), .func (.func 110) #[] #[]] w fun e w' => e = .returned (.tuple #[.int .i64 (rdN s p k : Int), .int .i64 0]) ∧ w' = w := by
  have kI := hide (en_inside s p k hs hp w)
  have hf : ∀ i, (s.data.toList.getD (p + i) 0).toNat < 256 := fun i => UInt8.toNat_lt _
  have Hlt := Lib.hid (rdP_lt hf)
  go_enter Tryz.func92, Tryz.ntmps92
  go_wp2_with (go_at_call 109; refine (unhide kI).mono ?_; rintro e w2 ⟨rfl, rfl⟩)
  go_loopw [10, 26] (fun o x wr => ∃ i : Nat, i ≤ k ∧ x = .int .i64 (i : Int) ∧ o = .int .u64 (rdN s p i : Int) ∧ wr = w2) (fun _ x _ => k - (intOf x).toNat)
  case atStart => exact ⟨0, Nat.zero_le _, rfl, rfl, rfl⟩
  case round =>
    obtain ⟨i, hi, rfl, rfl, rfl⟩ := hrel
    by_cases hik : i < k
    · have kU := hide (fun w => en_up (i : Int) w)
      have hw8 : IntKind.i64.wrap (8 * (i : Int)) = 8 * (i : Int) := IntWalk.i64_in _ (by omega)
      have hwp : IntKind.i64.wrap ((p : Int) + (i : Int)) = (p : Int) + (i : Int) := IntWalk.i64_in _ (by omega)
      have g1 : (p : Int) + (i : Int) < (s.size : Int) := by omega
      have g0 : (0 : Int) ≤ (p : Int) + (i : Int) := by omega
      have gt : ((p : Int) + (i : Int)).toNat = p + i := by omega
      clear hf
      go_wp2_with (go_at_call 110; refine (unhide kU _).mono ?_; rintro e w2 ⟨rfl, rfl⟩)
      refine ⟨⟨i + 1, by omega, by go_num, ?_, trivial⟩, by simp [intOf]; omega⟩
      unfold rdN
      rw [byte_at2, shl_byte (UInt8.toNat_lt _) (by omega), or_next (Hlt.out i) (UInt8.toNat_lt _) (by omega)]
      rfl
    · obtain rfl : i = k := by omega
      have hle : rdN s p i < 4294967296 := Nat.lt_of_lt_of_le (Hlt.out i) (Nat.le_trans (Nat.pow_le_pow_right (by decide) h4) (by decide))
      generalize hrr : rdN s p i = r at *
      have Hr := Lib.hid hrr
      clear hrr
      have hw9 : IntKind.i64.wrap (r : Int) = r := IntWalk.i64_in _ (by omega)
      clear hf Hlt
      go_wp2
      go_ret2
      exact ⟨by rw [Hr.out]; rfl, by first | rfl | trivial⟩
set_option maxHeartbeats 800000 in
set_option maxRecDepth 100000 in
theorem en_ReadLittle (s : ByteArray) (p k : Nat) (hs : s.size ≤ 1000) (h1 : 1 ≤ k) (h4 : k ≤ 4) (hp : p + k ≤ s.size) (w : World) :
    Calls Tryz.prog 65 #[.string s, .int .i64 (p : Int), .int .i64 (k : Int)] w fun e w' => e = .returned (.tuple #[.int .i64 (rdN s p k : Int), .int .i64 0]) ∧ w' = w := by
  have kU := hide (fun w => en_upf (k : Int) w)
  have kR := hide (fun w => en_read s p k hs h1 h4 hp w)
  go_enter Tryz.func65, Tryz.ntmps65
  go_wp2_with (first | (go_at_call 93; refine (unhide kU _).mono ?_; rintro e w2 ⟨rfl, rfl⟩) | (go_at_call 92; refine (unhide kR _).mono ?_; rintro e w2 ⟨rfl, rfl⟩))
  go_ret2
  exact ⟨rfl, rfl⟩
end Go.Proofs.YtokcpammdhkecaaGreatDoor

/-
  Ranges over a map whose entries are known one by one; maps with byte keys.
-/
namespace Go.Proofs.YtokcpammdhkecaaGreatDoor
open Go.RowKit
open Go.ChangeMaps (setBlock)

/-- Block r is an iterator over the map in block b; seen: the stamps of the entries that have come. -/
structure It (w : World) (b r : Nat) (es : Array MapEntry) (clock : Nat) (seen : Array Nat) : Prop where
  map : MapAt w b es clock
  ne : r ≠ b
  it : ∃ c0, clock ≤ c0 ∧ w.heap[r]? = some (.mapIter (some b) clock seen c0)
theorem It.lt {w : World} {b r : Nat} {es : Array MapEntry} {clock : Nat} {seen : Array Nat} (h : It w b r es clock seen) : r < w.heap.size := by
  obtain ⟨c0, _, h⟩ := h.it
  rcases Nat.lt_or_ge r w.heap.size with hl | hg
  · exact hl
  · rw [Array.getElem?_eq_none hg] at h; cases h
theorem It.left_eq {w : World} {b r : Nat} {es : Array MapEntry} {clock : Nat} {seen : Array Nat} (h : It w b r es clock seen) : w.rangeLeft b r = (leftOf es seen).size := by
  obtain ⟨c0, _, hi⟩ := h.it
  have hm := h.map
  unfold MapAt at hm
  simp only [World.rangeLeft, hm, hi]
theorem It.kept {w w' : World} {b r : Nat} {es : Array MapEntry} {clock : Nat} {seen : Array Nat} (h : It w b r es clock seen) (hb : w'.heap[b]? = w.heap[b]?) (hr : w'.heap[r]? = w.heap[r]?) : It w' b r es clock seen := by
  obtain ⟨c0, h1, h2⟩ := h.it
  exact ⟨hb.trans h.map, h.ne, c0, h1, hr.trans h2⟩
theorem It.below {w w' : World} {b r : Nat} {es : Array MapEntry} {clock : Nat} {seen : Array Nat} (h : It w b r es clock seen) (hb : Below w.heap.size w w') : It w' b r es clock seen :=
  h.kept (hb.block b h.map.lt) (hb.block r h.lt)
theorem It.set {w : World} {b r : Nat} {es : Array MapEntry} {clock : Nat} {seen : Array Nat} (h : It w b r es clock seen) (p : Addr) (u : Value) (hb : p.block ≠ b) (hr : p.block ≠ r) : It (w.setCell p u) b r es clock seen :=
  h.kept (Below.heap_setCell w p u b (Ne.symm hb)) (Below.heap_setCell w p u r (Ne.symm hr))
/-- 'range m'. -/
theorem wpList_range_it {P : Program} (w : World) {ops : Array Oper} {rest : List Oper} {o : Oper} {a : Act} {Q : Exit → Act → World → Prop}
    (hg : o.guard = none) (T : TypeId) (m : Operand) (hop : o.op = Op.range T m) (K E : TypeId) (hT : P.underlying T = some (.map K E)) (b : Nat) (hm : a.eval m = .map (some b)) (es : Array MapEntry) (clock : Nat) (h : MapAt w b es clock)
    (hK : ∀ w', It w' b w.heap.size es clock #[] → Below w.heap.size w w' → w.heap.size < w'.heap.size → wpList P ops Q rest (a.put o.dst (.pointer (some ⟨w.heap.size, 0, none⟩))) w') :
    wpList P ops Q (o :: rest) a w := by
  refine wpList_plain hg fun K' hK' => ?_
  have hrun := run_range_map w T K E b es clock hT h
  have hlt := h.lt
  unfold Oper.wp
  simp [execOp, hop, hm, hrun, Result.andThen]
  exact hK' _ _ (hK _ ⟨h.alloc _, by omega, clock, Nat.le_refl _, heap_new w _⟩ ((Below.refl _ _).alloc (Nat.le_refl _) _) (by simp))
/-- The step. -/
theorem wpList_next_it {P : Program} (w : World) {ops : Array Oper} {rest : List Oper} {o : Oper} {a : Act} {Q : Exit → Act → World → Prop}
    (hg : o.guard = none) (it : Operand) (hop : o.op = Op.next it false) (b r : Nat) (hit : a.eval it = .pointer (some ⟨r, 0, none⟩)) (es : Array MapEntry) (clock : Nat) (seen : Array Nat) (h : It w b r es clock seen)
    (hold : ∀ x ∈ es.toList, x.born < clock) (hn : (es.toList.map (·.born)).Nodup)
    (hDone : (∀ x ∈ es.toList, seen.contains x.born = true) → wpList P ops Q rest (a.put o.dst (.tuple #[.bool false])) w)
    (hMore : ∀ (e : MapEntry) (w' : World), e ∈ es.toList → seen.contains e.born = false → It w' b r es clock (seen.push e.born) → w'.rangeLeft b r < w.rangeLeft b r → w.grownBy w' (some r) → w'.heap.size = w.heap.size →
      (Instr.entry (.pointer (some ⟨r, 0, none⟩))).run P w' = .ok (.tuple #[e.key, e.val]) w' → wpList P ops Q rest (a.put o.dst (.tuple #[.bool true, e.key, e.val])) w') :
    wpList P ops Q (o :: rest) a w := by
  refine wpList_plain hg fun K' hK' => ?_
  have hleft := h.left_eq
  have hlt := h.lt
  have hblt := h.map.lt
  have hmap := h.map
  have hne := h.ne
  obtain ⟨c0, hc0, hi⟩ := h.it
  unfold Oper.wp
  rcases run_next_at (P := P) w o.type r b clock c0 seen es clock hi h.map hold hc0 with ⟨h0, hrun⟩ | ⟨e, he, w1, hal, hrun⟩
  · simp [execOp, hop, hit, hrun, Result.andThen]
    exact hK' _ _ (hDone (all_seen es seen h0))
  · simp [execOp, hop, hit, hrun, Result.andThen]
    obtain ⟨hm1, hm2⟩ := mem_left he
    have hw1 : w1.heap = w.heap ∧ w1.os = w.os ∧ w1.tape = w.tape ∧ w1.output = w.output := by
      rcases hal with rfl | rfl
      · exact ⟨rfl, rfl, rfl, rfl⟩
      · exact ⟨rfl, rfl, rfl, rfl⟩
    have hsz : (setBlock w1 r (.mapIter (some b) clock (seen.push e.born) clock)).heap.size = w.heap.size := by
      show (w1.heap.setIfInBounds r _).size = _
      rw [Array.size_setIfInBounds, hw1.1]
    have hr2 : (setBlock w1 r (.mapIter (some b) clock (seen.push e.born) clock)).heap[r]? = some (.mapIter (some b) clock (seen.push e.born) clock) := by
      show (w1.heap.setIfInBounds r _)[r]? = _
      rw [Array.getElem?_setIfInBounds_self_of_lt (by rw [hw1.1]; exact hlt)]
    have hoth : ∀ i, i ≠ r → (setBlock w1 r (.mapIter (some b) clock (seen.push e.born) clock)).heap[i]? = w.heap[i]? := fun i hi => by
      show (w1.heap.setIfInBounds r _)[i]? = _
      rw [Array.getElem?_setIfInBounds_ne (Ne.symm hi), hw1.1]
    have hIt : It (setBlock w1 r (.mapIter (some b) clock (seen.push e.born) clock)) b r es clock (seen.push e.born) :=
      ⟨(hoth b (Ne.symm hne)).trans hmap, hne, clock, Nat.le_refl _, hr2⟩
    refine hK' _ _ (hMore e _ hm1 hm2 hIt ?_ ⟨hw1.2.1, hw1.2.2.1, hw1.2.2.2, by rw [hsz]; exact Nat.le_refl _, fun i _ hne' => hoth i (fun q => hne' (by rw [q]))⟩ hsz ?_)
    · rw [hIt.left_eq, hleft]
      exact left_shrinks es seen e he
    · exact run_entry_at _ r b clock seen es clock e hr2 hIt.map hm1 hn
/-! Maps with byte keys. -/
theorem run_insert_u8 {P : Program} {T K E : TypeId} (hT : P.underlying T = some (.map K E)) (hK : P.underlying K = some (.int .u8)) {w : World} {b : Nat} {es : Array MapEntry} {clock : Nat} (h : MapAt w b es clock) (k : Int) (v : Value)
    (hno : Instr.findNow (.int .u8) (.int .u8 k) es.toList 0 = some none) :
    (Instr.mapUpdate T (.map (some b)) (.int .u8 k) v).run P w = .ok () (setBlock w b (.map (es.push { key := .int .u8 k, val := v, born := clock }) (clock + 1))) := by
  have hf : (Instr.findKey K (.int .u8 k) es.toList).run P w = .ok none w := by
    unfold Instr.findKey
    simp [run_underlying hK, Result.andThen]
    rw [hno]
    rfl
  have hck : (Instr.checkKey false 10000 K (.int .u8 k)).run P w = .ok () w := by
    unfold Instr.checkKey
    simp [run_underlying hK, Result.andThen]
  simp [Instr.mapUpdate, run_underlying hT, MapKept.run_getObj_map h, hck, hf, MapKept.run_setObj_map _ h, Result.andThen, setBlock]
theorem run_lookup_u8 {P : Program} {T K E : TypeId} (hT : P.underlying T = some (.map K E)) (hK : P.underlying K = some (.int .u8)) {w : World} {b : Nat} {es : Array MapEntry} {clock : Nat} (h : MapAt w b es clock) (k : Int) (i : Nat) (v : Value)
    (hyes : Instr.findNow (.int .u8) (.int .u8 k) es.toList 0 = some (some (i, v))) (hne : es.isEmpty = false) :
    (Instr.lookup T (.map (some b)) (.int .u8 k) false).run P w = .ok v w := by
  have hf : (Instr.findKey K (.int .u8 k) es.toList).run P w = .ok (some (i, v)) w := by
    unfold Instr.findKey
    simp [run_underlying hK, Result.andThen]
    rw [hyes]
    rfl
  have hck : (Instr.checkKey false 10000 K (.int .u8 k)).run P w = .ok () w := by
    unfold Instr.checkKey
    simp [run_underlying hK, Result.andThen]
  simp [Instr.lookup, run_underlying hT, MapKept.run_getObj_map h, hck, hf, hne, Result.andThen]
theorem run_lookup_u8_none {P : Program} {T K E : TypeId} (hT : P.underlying T = some (.map K E)) (hK : P.underlying K = some (.int .u8)) {w : World} {b : Nat} {es : Array MapEntry} {clock : Nat} (h : MapAt w b es clock) (k : Int) (z : Value)
    (hno : Instr.findNow (.int .u8) (.int .u8 k) es.toList 0 = some none) (hne : es.isEmpty = false) (hz : (zeroValue E).run P w = .ok z w) :
    (Instr.lookup T (.map (some b)) (.int .u8 k) false).run P w = .ok z w := by
  have hf : (Instr.findKey K (.int .u8 k) es.toList).run P w = .ok none w := by
    unfold Instr.findKey
    simp [run_underlying hK, Result.andThen]
    rw [hno]
    rfl
  have hck : (Instr.checkKey false 10000 K (.int .u8 k)).run P w = .ok () w := by
    unfold Instr.checkKey
    simp [run_underlying hK, Result.andThen]
  simp [Instr.lookup, run_underlying hT, MapKept.run_getObj_map h, hck, hf, hne, hz, Result.andThen]
theorem wpList_insert_u8 {P : Program} (w : World) {ops : Array Oper} {rest : List Oper} {o : Oper} {a : Act} {Q : Exit → Act → World → Prop}
    (hg : o.guard = none) (T : TypeId) (m x v : Operand) (hop : o.op = Op.insert T m x v) (K E : TypeId) (hT : P.underlying T = some (.map K E)) (hK : P.underlying K = some (.int .u8))
    (b : Nat) (hm : a.eval m = .map (some b)) (es : Array MapEntry) (clock : Nat) (h : MapAt w b es clock) (k : Int) (hx : a.eval x = .int .u8 k) (u : Value) (hv : a.eval v = u) (hno : Instr.findNow (.int .u8) (.int .u8 k) es.toList 0 = some none)
    (hK' : ∀ w', MapAt w' b (es.push { key := .int .u8 k, val := u, born := clock }) (clock + 1) → w.grownBy w' (some b) → w'.heap.size = w.heap.size → wpList P ops Q rest (a.put o.dst undef) w') :
    wpList P ops Q (o :: rest) a w := by
  refine wpList_plain hg fun K' hK => ?_
  have hrun := run_insert_u8 hT ‹_› h k u hno
  have hlt := h.lt
  unfold Oper.wp
  simp [execOp, hop, hm, hx, hv, hrun, Result.andThen]
  have hsz : (w.heap.setIfInBounds b (Obj.map (es.push { key := .int .u8 k, val := u, born := clock }) (clock + 1))).size = w.heap.size := by rw [Array.size_setIfInBounds]
  refine hK _ _ (hK' _ ?_ ?_ hsz)
  · show (w.heap.setIfInBounds b _)[b]? = _
    rw [Array.getElem?_setIfInBounds_self_of_lt hlt]
  · refine ⟨rfl, rfl, rfl, Nat.le_of_eq hsz.symm, fun i hi hne => ?_⟩
    show (w.heap.setIfInBounds b _)[i]? = _
    rw [Array.getElem?_setIfInBounds_ne (fun e => hne (by rw [e]))]
end Go.Proofs.YtokcpammdhkecaaGreatDoor

/-
  Entity identifiers: plain facts, and what udfstring.ParseEntity gives at each string.
-/
namespace Go.Proofs.YtokcpammdhkecaaGreatDoor
open Go.RowKit

def nz (l : List UInt8) : Nat := (l.takeWhile fun b => b != 0).length
def peA (f : ByteArray) : List UInt8 := (f.data.toList.drop 1).take 23
def peN (f : ByteArray) : Nat := nz (peA f)
def peO (f : ByteArray) : Bool := decide (1 ≤ peN f) && (prL ((peA f).take (peN f)) && ((peA f).drop (peN f)).all (· == 0))
def peI (f : ByteArray) : ByteArray := if f.size = 32 then (if peO f = true then f.extract 1 (1 + peN f) else ⟨#[]⟩) else ⟨#[]⟩
def peX (f : ByteArray) : ByteArray := if f.size = 32 then (if peO f = true then f.extract 24 f.size else ⟨#[]⟩) else ⟨#[]⟩
def peE (f : ByteArray) : Int := if f.size = 32 then (if peO f = true then 0 else 10) else 1

theorem nz_le (l : List UInt8) : nz l ≤ l.length := by
  unfold nz; exact (List.takeWhile_prefix _).length_le
theorem nz_lt : ∀ (l : List UInt8) (j : Nat), j < nz l → l.getD j 0 ≠ 0
  | [], j, h => by simp [nz] at h
  | a :: t, j, h => by
    by_cases ha : a = 0
    · subst ha; simp [nz] at h
    · have e : nz (a :: t) = nz t + 1 := by unfold nz; rw [List.takeWhile_cons_of_pos (by simpa using ha)]; rfl
      cases j with
      | zero => simpa using ha
      | succ j => rw [List.getD_cons_succ]; exact nz_lt t j (by omega)
theorem nz_at : ∀ (l : List UInt8), nz l < l.length → l.getD (nz l) 0 = 0
  | [], h => by simp at h
  | a :: t, h => by
    by_cases ha : a = 0
    · subst ha; simp [nz]
    · have e : nz (a :: t) = nz t + 1 := by unfold nz; rw [List.takeWhile_cons_of_pos (by simpa using ha)]; rfl
      rw [e, List.getD_cons_succ]
      exact nz_at t (by rw [e] at h; simpa using h)
theorem index_nz : ∀ (l : List UInt8), (nz l = l.length ∧ Lib.indexByte l 0 = -1) ∨ (nz l < l.length ∧ Lib.indexByte l 0 = (nz l : Int))
  | [] => .inl ⟨rfl, rfl⟩
  | a :: t => by
    by_cases ha : a = 0
    · subst ha
      exact .inr ⟨by simp [nz], by simp [nz, Lib.indexByte]⟩
    · have e : nz (a :: t) = nz t + 1 := by unfold nz; rw [List.takeWhile_cons_of_pos (by simpa using ha)]; rfl
      have hb : (a == 0) = false := by simpa using ha
      rcases index_nz t with ⟨h1, h2⟩ | ⟨h1, h2⟩
      · refine .inl ⟨by rw [e, h1]; rfl, ?_⟩
        unfold Lib.indexByte
        rw [hb, h2]; rfl
      · refine .inr ⟨by rw [e]; simp; omega, ?_⟩
        unfold Lib.indexByte
        have h3 : ((nz t : Int) == -1) = false := by rw [beq_eq_false_iff_ne]; omega
        rw [hb, h2, h3, e]
        simp
theorem cut_nz (l : List UInt8) : (Lib.cut l [0]).1 = l.take (nz l) := by
  unfold Lib.cut
  rw [Lib.index_one]
  rcases index_nz l with ⟨h1, h2⟩ | ⟨h1, h2⟩
  · rw [h2, if_neg (by decide), h1, List.take_length]
  · rw [h2, if_pos (by omega)]
    simp
theorem drop_all {p : UInt8 → Bool} : ∀ L : List UInt8, (L.dropWhile p).all p = true → L.dropWhile p = []
  | [], _ => rfl
  | a :: t, h => by
    cases ha : p a
    · rw [List.dropWhile_cons_of_neg (by simp [ha])] at h
      rw [List.all_cons, ha] at h
      cases h
    · rw [List.dropWhile_cons_of_pos ha] at h ⊢
      exact drop_all t h
theorem drop_nil {p : UInt8 → Bool} : ∀ L : List UInt8, L.dropWhile p = [] ↔ L.all p = true
  | [] => by simp
  | a :: t => by
    cases ha : p a
    · rw [List.dropWhile_cons_of_neg (by simp [ha]), List.all_cons, ha]; simp
    · rw [List.dropWhile_cons_of_pos ha, List.all_cons, ha, Bool.true_and]
      exact drop_nil t
theorem trim_nil (l : List UInt8) : (Lib.trimB l 0).isEmpty = l.all (· == 0) := by
  have key : Lib.trimB l 0 = [] ↔ l.all (· == 0) = true := by
    unfold Lib.trimB Lib.trimLeftB Lib.trimRightB
    rw [drop_nil, List.all_reverse]
    constructor
    · intro h
      have h2 := drop_all _ h
      rw [drop_nil, List.all_reverse] at h2
      exact h2
    · intro h
      have h2 : l.reverse.dropWhile (· == (0 : UInt8)) = [] := (drop_nil _).2 (by rw [List.all_reverse]; exact h)
      rw [h2]; rfl
  rw [Bool.eq_iff_iff, List.isEmpty_iff]
  exact key

theorem peA_length {f : ByteArray} (h : f.size = 32) : (peA f).length = 23 := by
  unfold peA; rw [List.length_take, List.length_drop, ← Lib.size_eq, h]; rfl
theorem peN_le {f : ByteArray} (h : f.size = 32) : peN f ≤ 23 := by rw [← peA_length h]; exact nz_le _
theorem ext_A (f : ByteArray) : (f.extract 1 24).data.toList = peA f := by rw [Lib.extract_data]; rfl
theorem ext_I {f : ByteArray} (h : f.size = 32) : (f.extract 1 (1 + peN f)).data.toList = (peA f).take (peN f) := by
  have := peN_le h
  rw [Lib.extract_data]
  unfold peA
  rw [List.take_take]
  congr 1; omega
theorem ext_R {f : ByteArray} (h : f.size = 32) : (f.extract (1 + peN f) 24).data.toList = (peA f).drop (peN f) := by
  have := peN_le h
  rw [Lib.extract_data]
  unfold peA
  rw [List.drop_take, List.drop_drop]
  congr 1; omega
theorem size_I {f : ByteArray} (h : f.size = 32) : (f.extract 1 (1 + peN f)).size = peN f := by
  have h1 := peN_le h
  have h2 := peA_length h
  rw [Lib.size_eq, ext_I h, List.length_take]; omega
theorem prS_I {f : ByteArray} (h : f.size = 32) : prS (f.extract 1 (1 + peN f)) = (decide (1 ≤ peN f) && prL ((peA f).take (peN f))) := by
  unfold prS
  rw [size_I h, ext_I h, decide_eq_true (peN_le h), Bool.true_and]

theorem cut_zero (s : ByteArray) (m : Int) (w : World) (hs : s.size ≤ 60) (hm : w.cell? ⟨0, 0, none⟩ = some (.int .i64 m)) :
    Calls Tryz.prog 94 #[.string s, .string ⟨#[0]⟩] w fun e w' => ∃ X b, e = .returned (.tuple #[.string ⟨(s.data.toList.take (nz s.data.toList)).toArray⟩, .string X, .bool b]) ∧ Below w.heap.size w w' := by
  refine (Tryz.strings_Cut s ⟨#[0]⟩ m w (by omega) hm).mono fun e w' ⟨he, n, hw⟩ => ?_
  rw [show (⟨#[0]⟩ : ByteArray).data.toList = [0] from rfl, cut_nz] at he
  subst hw
  exact ⟨_, _, he, below_drewN (Below.refl _ _) n⟩
theorem trim_zero (s : ByteArray) (w : World) (hs : s.size ≤ 60) :
    Calls Tryz.prog 95 #[.string s, .string ⟨#[0]⟩] w fun e w' => ∃ T : ByteArray, e = .returned (.string T) ∧ T.toList.isEmpty = s.data.toList.all (· == 0) ∧ Below w.heap.size w w' := by
  refine (Tryz.strings_Trim_one s 0 (by decide) w (by omega)).mono fun e w' ⟨he, hw⟩ => ?_
  refine ⟨_, he, ?_, ?_⟩
  · rw [ByteArray.toList_eq]; exact trim_nil _
  · rcases hw with rfl | rfl
    · exact Below.refl _ _
    · exact (Below.refl _ _).drew
end Go.Proofs.YtokcpammdhkecaaGreatDoor

/-
  udfstring.ParseEntity and the reference's: what they give at each string.
-/
namespace Go.Proofs.YtokcpammdhkecaaGreatDoor
open Go.RowKit

theorem pe_no {f : ByteArray} (h : f.size = 32) (ho : peO f = false) : peI f = ⟨#[]⟩ ∧ peX f = ⟨#[]⟩ ∧ peE f = 10 := by
  unfold peI peX peE; rw [if_pos h, if_pos h, if_pos h, ho]; exact ⟨rfl, rfl, rfl⟩
theorem pe_yes {f : ByteArray} (h : f.size = 32) (ho : peO f = true) : peI f = f.extract 1 (1 + peN f) ∧ peX f = f.extract 24 f.size ∧ peE f = 0 := by
  unfold peI peX peE; rw [if_pos h, if_pos h, if_pos h, ho]; exact ⟨rfl, rfl, rfl⟩
theorem pe_arg {f : ByteArray} (h : f.size ≠ 32) : peI f = ⟨#[]⟩ ∧ peX f = ⟨#[]⟩ ∧ peE f = 1 := by
  unfold peI peX peE; rw [if_neg h, if_neg h, if_neg h]; exact ⟨rfl, rfl, rfl⟩
theorem size_R {f : ByteArray} (h : f.size = 32) : (f.extract (1 + peN f) 24).size ≤ 60 := by
  rw [Lib.size_eq, ext_R h, List.length_drop, peA_length h]; omega

set_option maxHeartbeats 1600000 in
set_option maxRecDepth 100000 in
theorem udf_ParseEntity (f : ByteArray) (m : Int) (w : World) (hf : f.size ≤ 60) (hm : w.cell? ⟨0, 0, none⟩ = some (.int .i64 m)) :
    Calls Tryz.prog 66 #[.string f] w fun e w' => e = .returned (.tuple #[.string (peI f), .string (peX f), .int .i64 (peE f)]) ∧ Below w.heap.size w w' := by
  by_cases h32 : f.size = 32
  · have hn := peN_le h32
    have kC := cut_zero (f.extract 1 24) m w (by rw [Lib.size_eq, ext_A, peA_length h32]; omega) hm
    have hI : (⟨((peA f).take (nz (peA f))).toArray⟩ : ByteArray) = f.extract 1 (1 + peN f) := by
      apply ByteArray.ext
      apply Array.ext'
      rw [ext_I h32]; rfl
    rw [ext_A, hI] at kC
    have KC := hide kC
    have hsz := size_I h32
    have kP := fun w => udf_printable (f.extract 1 (1 + peN f)) w (by omega)
    rw [prS_I h32] at kP
    have kT := fun w => trim_zero (f.extract (1 + peN f) 24) w (size_R h32)
    rw [ext_R h32] at kT
    have q : ((f.size : Int) != 32) = false := by rw [bne_eq_false_iff_eq, h32]; rfl
    have hge : 32 ≤ f.size := by omega
    have hsz' : ((f.extract 1 (1 + peN f)).size : Int) = (peN f : Int) := by rw [hsz]
    have hpo : peO f = (decide (1 ≤ peN f) && (prL ((peA f).take (peN f)) && ((peA f).drop (peN f)).all (· == 0))) := rfl
    have hyes := fun h => pe_yes h32 h
    have hno := fun h => pe_no h32 h
    clear kC hI hm hsz h32
    generalize hb1 : (decide (1 ≤ peN f) && prL ((peA f).take (peN f))) = b1 at kP
    generalize hb2 : ((peA f).drop (peN f)).all (· == 0) = b2 at kT hpo
    rw [← Bool.and_assoc, hb1] at hpo
    clear hb1 hb2
    generalize peN f = n at *
    generalize hC : f.extract 1 (1 + n) = C at *
    have HC := Lib.hid hC
    clear hC
    cases b1 with
    | false =>
      obtain ⟨r1, r2, r3⟩ := hno (by rw [hpo]; rfl)
      rw [r1, r2, r3]
      have KP := hide kP
      clear hyes hno hpo kP kT r1 r2 r3
      go_enter Tryz.func66, Tryz.ntmps66
      go_wp2_with fail
      refine (unhide KC).mono ?_
      rintro e w1 ⟨X, b, rfl, hb1⟩
      go_wp2_with fail
      refine (unhide KP _).mono ?_
      rintro e w2 ⟨rfl, hb2⟩
      go_wp2_with fail
      go_ret3
      exact ⟨rfl, hb1.trans (hb2.mono hb1.size)⟩
    | true =>
      have KP := hide kP
      have KT := hide kT
      clear kP kT
      cases b2 with
      | false =>
        obtain ⟨r1, r2, r3⟩ := hno (by rw [hpo]; rfl)
        rw [r1, r2, r3]
        clear hyes hno hpo r1 r2 r3
        go_enter Tryz.func66, Tryz.ntmps66
        go_wp2_with fail
        refine (unhide KC).mono ?_
        rintro e w1 ⟨X, b, rfl, hb1⟩
        go_wp2_with fail
        refine (unhide KP _).mono ?_
        rintro e w2 ⟨rfl, hb2⟩
        have hw : IntKind.i64.wrap (1 + (n : Int)) = 1 + (n : Int) := IntWalk.i64_in _ (by omega)
        have hw2 : (1 + (n : Int)).toNat = 1 + n := by omega
        go_wp2_with fail
        refine (unhide KT _).mono ?_
        rintro e w3 ⟨T, rfl, hT, hb3⟩
        go_wp2_with fail
        go_ret3
        exact ⟨rfl, hb1.trans ((hb2.trans (hb3.mono hb2.size)).mono hb1.size)⟩
      | true =>
        obtain ⟨r1, r2, r3⟩ := hyes (by rw [hpo]; rfl)
        rw [r1, r2, r3]
        clear hyes hno hpo r1 r2 r3
        go_enter Tryz.func66, Tryz.ntmps66
        go_wp2_with fail
        refine (unhide KC).mono ?_
        rintro e w1 ⟨X, b, rfl, hb1⟩
        go_wp2_with fail
        refine (unhide KP _).mono ?_
        rintro e w2 ⟨rfl, hb2⟩
        have hw : IntKind.i64.wrap (1 + (n : Int)) = 1 + (n : Int) := IntWalk.i64_in _ (by omega)
        have hw2 : (1 + (n : Int)).toNat = 1 + n := by omega
        go_wp2_with fail
        refine (unhide KT _).mono ?_
        rintro e w3 ⟨T, rfl, hT, hb3⟩
        have hB := hb1.trans ((hb2.trans (hb3.mono hb2.size)).mono hb1.size)
        go_wp2_with fail
        go_region
        all_goals (try go_wp2)
        all_goals go_ret3
        all_goals exact ⟨rfl, by first | exact hB | exact hB.drew⟩
  · obtain ⟨r1, r2, r3⟩ := pe_arg h32
    rw [r1, r2, r3]
    have q : ((f.size : Int) != 32) = true := by rw [bne_iff_ne]; omega
    clear r1 r2 r3 hm
    go_enter Tryz.func66, Tryz.ntmps66
    go_wp2
    go_ret3
    exact ⟨rfl, Below.refl _ _⟩
end Go.Proofs.YtokcpammdhkecaaGreatDoor

/-
  partitionmap.decode: the short ways.
-/
namespace Go.Proofs.YtokcpammdhkecaaGreatDoor
open Go.RowKit

theorem pm_number (s : ByteArray) (p k g : Nat) (hs : s.size ≤ 1000) (h1 : 1 ≤ k) (h4 : k ≤ 4) (hp : p + k ≤ s.size) (w : World) (hc : w.cell? ⟨g, 0, none⟩ = some (.string s)) :
    Calls Tryz.prog 64 #[.int .i64 (p : Int), .int .i64 (k : Int), .pointer (some ⟨g, 0, none⟩)] w fun e w' => e = .returned (.int .i64 (rdN s p k : Int)) ∧ w' = w := by
  have kR := hide (fun w => en_ReadLittle s p k hs h1 h4 hp w)
  go_enter Tryz.func64, Tryz.ntmps64
  go_wp2_with (go_at_call 65; refine (unhide kR _).mono ?_; rintro e w2 ⟨rfl, rfl⟩)
  go_ret
  exact ⟨rfl, rfl⟩
/-- What decode gives. -/
structure DR where
  E : Int
  N : Int
  k : Int
  n : Int
  xs : List Int
  f : Int
  m : Int
  b : Int
def dNo (E : Int) : DR := ⟨E, 0, 0, 0, [], 0, 0, 0⟩
def DR.Is (d : DR) (w w' : World) (e : Ending) : Prop :=
  ∃ A c, e = .returned (.tuple #[.agg #[.int .i64 d.k, .int .i64 d.n, .slice A d.xs.length c, .int .i64 d.f, .int .i64 d.m, .int .i64 d.b], .int .i64 d.N, .int .i64 d.E]) ∧ Row w' A d.xs ∧ (∀ ad, A = some ad → w.heap.size ≤ ad.block) ∧ Below w.heap.size w w'
def by0 (s : ByteArray) (i : Nat) : Nat := (s.data.toList.getD i 0).toNat
theorem by0_at (s : ByteArray) (i : Nat) : ∀ h : i < s.size, (((s[i]'h).toNat : Nat) : Int) = (by0 s i : Int) := fun h => by rw [byte_at2]; rfl
theorem by0_lt (s : ByteArray) (i : Nat) : by0 s i < 256 := UInt8.toNat_lt _
/-- Since the call began nothing of what was there has changed, and its own three boxes hold the string, the result and the empty map. -/
structure Dx (w w' : World) (s : ByteArray) : Prop where
  low : Below w.heap.size w w'
  sz : w.heap.size + 3 ≤ w'.heap.size
  b0 : w'.heap[w.heap.size]? = some (.cells #[.string s] 9)
  b1 : w'.heap[w.heap.size + 1]? = some (.cells #[.int .i64 0, .int .i64 0, .slice none 0 0, .int .i64 0, .int .i64 0, .int .i64 0] 65)
  b2 : w'.heap[w.heap.size + 1 + 1]? = some (.cells #[.int .i64 0, .int .i64 0, .slice none 0 0, .int .i64 0, .int .i64 0, .int .i64 0] 65)
theorem Dx.step {w w' w'' : World} {s : ByteArray} (h : Dx w w' s) (hb : Below w'.heap.size w' w'') : Dx w w'' s := by
  have := h.sz
  exact ⟨h.low.trans (hb.mono h.low.size), Nat.le_trans h.sz hb.size, (hb.block _ (by omega)).trans h.b0, (hb.block _ (by omega)).trans h.b1, (hb.block _ (by omega)).trans h.b2⟩
theorem cell_block {w : World} {b : Nat} {cs : Array Value} {t : TypeId} (h : w.heap[b]? = some (.cells cs t)) (i : Nat) (v : Value) (hv : cs[i]? = some v) : w.cell? ⟨b, i, none⟩ = some v := by
  unfold World.cell?
  rw [h]
  simpa using hv
theorem frozen_block {w : World} {b : Nat} {cs : Array Value} {t : TypeId} (h : w.heap[b]? = some (.cells cs t)) (i : Nat) : w.frozen? ⟨b, i, none⟩ = false := by
  unfold World.frozen?
  rw [h]
  simp
theorem dx_start (w : World) (s : ByteArray) : Dx w (((w.alloc (.cells #[.string s] 9)).alloc (.cells #[.int .i64 0, .int .i64 0, .slice none 0 0, .int .i64 0, .int .i64 0, .int .i64 0] 65)).alloc (.cells #[.int .i64 0, .int .i64 0, .slice none 0 0, .int .i64 0, .int .i64 0, .int .i64 0] 65)) s := by
  have a1 : Below w.heap.size w (w.alloc (.cells #[.string s] 9)) := (Below.refl _ _).alloc (Nat.le_refl _) _
  refine ⟨(a1.alloc (by simp) _).alloc (by simp; omega) _, by simp, ?_, ?_, ?_⟩
  · rw [Below.heap_alloc _ _ _ (by simp; omega), Below.heap_alloc _ _ _ (by simp)]
    exact heap_new w _
  · rw [Below.heap_alloc _ _ _ (by simp)]
    have := heap_new (w.alloc (.cells #[.string s] 9)) (.cells #[.int .i64 0, .int .i64 0, .slice none 0 0, .int .i64 0, .int .i64 0, .int .i64 0] 65)
    simpa using this
  · have := heap_new ((w.alloc (.cells #[.string s] 9)).alloc (.cells #[.int .i64 0, .int .i64 0, .slice none 0 0, .int .i64 0, .int .i64 0, .int .i64 0] 65)) (.cells #[.int .i64 0, .int .i64 0, .slice none 0 0, .int .i64 0, .int .i64 0, .int .i64 0] 65)
    simpa using this
set_option maxHeartbeats 1600000 in
set_option maxRecDepth 100000 in
theorem dcd_res (tmps : Array Value) (w : World) (g : Nat) (v0 v1 v2 v3 v4 v5 : Value) (ht : tmps.getD 2 undef = .pointer (some ⟨g, 0, none⟩)) (c0 : w.cell? ⟨g, 0, none⟩ = some v0) (c1 : w.cell? ⟨g, 1, none⟩ = some v1)
    (c2 : w.cell? ⟨g, 2, none⟩ = some v2) (c3 : w.cell? ⟨g, 3, none⟩ = some v3) (c4 : w.cell? ⟨g, 4, none⟩ = some v4) (c5 : w.cell? ⟨g, 5, none⟩ = some v5) :
    (results Tryz.f37 tmps).run Tryz.prog w = .ok (.tuple #[.agg #[v0, v1, v2, v3, v4, v5], tmps.getD 3 undef, tmps.getD 4 undef]) w := by
  have h : Tryz.f37.results = #[.cell 2 65, .tmp 3, .tmp 4] := rfl
  have ht2 : tmps[2]?.getD undef = .pointer (some ⟨g, 0, none⟩) := by simpa using ht
  simp only [results, h]
  simp [Sem.run_bind, Result.andThen, ht2]
  go_simp
def set6 (w : World) (g : Nat) (v0 v1 v2 v3 v4 v5 : Value) : World :=
  (((((w.setCell ⟨g, 0, none⟩ v0).setCell ⟨g, 1, none⟩ v1).setCell ⟨g, 2, none⟩ v2).setCell ⟨g, 3, none⟩ v3).setCell ⟨g, 4, none⟩ v4).setCell ⟨g, 5, none⟩ v5
theorem dcd_done (w : World) (s : ByteArray) (w4 : World) (D1 : Dx w w4 s) (d : DR) (A : Option Addr) (c : Nat) (tmps : Array Value) (ht : tmps.getD 2 undef = .pointer (some ⟨w.heap.size + 1, 0, none⟩)) (h3 : tmps.getD 3 undef = .int .i64 d.N) (h4 : tmps.getD 4 undef = .int .i64 d.E)
    (hr : Row w4 A d.xs) (hA : ∀ ad, A = some ad → w.heap.size ≤ ad.block) (hA2 : ∀ ad, A = some ad → ad.block ≠ w.heap.size + 1) :
    bodyPost Tryz.prog Tryz.f37 (fun e w' => d.Is w w' e) Exit.ret ⟨tmps, []⟩ (set6 w4 (w.heap.size + 1) (.int .i64 d.k) (.int .i64 d.n) (.slice A d.xs.length c) (.int .i64 d.f) (.int .i64 d.m) (.int .i64 d.b)) := by
  have r0 := cell_block D1.b1 0 _ rfl
  have r1 := cell_block D1.b1 1 _ rfl
  have r2 := cell_block D1.b1 2 _ rfl
  have r3 := cell_block D1.b1 3 _ rfl
  have r4 := cell_block D1.b1 4 _ rfl
  have r5 := cell_block D1.b1 5 _ rfl
  have hB : Below w.heap.size w (set6 w4 (w.heap.size + 1) (.int .i64 d.k) (.int .i64 d.n) (.slice A d.xs.length c) (.int .i64 d.f) (.int .i64 d.m) (.int .i64 d.b)) := by
    unfold set6
    have q : w.heap.size ≤ w.heap.size + 1 := by omega
    exact (((((D1.low.setCell (p := ⟨_, _, _⟩) q _).setCell (p := ⟨_, _, _⟩) q _).setCell (p := ⟨_, _, _⟩) q _).setCell (p := ⟨_, _, _⟩) q _).setCell (p := ⟨_, _, _⟩) q _).setCell (p := ⟨_, _, _⟩) q _
  have hR : Row (set6 w4 (w.heap.size + 1) (.int .i64 d.k) (.int .i64 d.n) (.slice A d.xs.length c) (.int .i64 d.f) (.int .i64 d.m) (.int .i64 d.b)) A d.xs := by
    unfold set6
    exact (((((hr.set hA2 _).set hA2 _).set hA2 _).set hA2 _).set hA2 _).set hA2 _
  refine bodyPost_ret (dcd_res tmps _ (w.heap.size + 1) (.int .i64 d.k) (.int .i64 d.n) (.slice A d.xs.length c) (.int .i64 d.f) (.int .i64 d.m) (.int .i64 d.b) ht ?_ ?_ ?_ ?_ ?_ ?_) rfl ?_
  · unfold set6; go_simp
  · unfold set6; go_simp
  · unfold set6; go_simp
  · unfold set6; go_simp
  · unfold set6; go_simp
  · unfold set6; go_simp
  · rw [h3, h4]
    exact ⟨A, c, rfl, hR, hA, hB⟩
set_option maxHeartbeats 1600000 in
set_option maxRecDepth 100000 in
theorem dcd_short (s : ByteArray) (w : World) (h : s.size < 2) : Calls Tryz.prog 37 #[.string s] w fun e w' => (dNo 10).Is w w' e := by
  have hg : decide ((s.size : Int) < 2) = true := by simp; omega
  go_enter Tryz.func37, Tryz.ntmps37
  go_wp2_with fail
  have D0 := dx_start w s
  generalize ((w.alloc _).alloc _).alloc _ = w3 at *
  have c0 := cell_block D0.b0 0 _ rfl
  go_quiet (fail)
  have D1 := D0.step (below_drewN (Below.refl _ _) nq)
  generalize w3.drewN nq = w4 at *
  clear D0 c0
  have n0 := cell_block D1.b2 0 _ rfl
  have n1 := cell_block D1.b2 1 _ rfl
  have n2 := cell_block D1.b2 2 _ rfl
  have n3 := cell_block D1.b2 3 _ rfl
  have n4 := cell_block D1.b2 4 _ rfl
  have n5 := cell_block D1.b2 5 _ rfl
  have r0 := cell_block D1.b1 0 _ rfl
  have r1 := cell_block D1.b1 1 _ rfl
  have r2 := cell_block D1.b1 2 _ rfl
  have r3 := cell_block D1.b1 3 _ rfl
  have r4 := cell_block D1.b1 4 _ rfl
  have r5 := cell_block D1.b1 5 _ rfl
  have f0 := frozen_block D1.b1 0
  have f1 := frozen_block D1.b1 1
  have f2 := frozen_block D1.b1 2
  have f3 := frozen_block D1.b1 3
  have f4 := frozen_block D1.b1 4
  have f5 := frozen_block D1.b1 5
  go_wp2_with fail
  exact dcd_done w s w4 D1 (dNo 10) none 0 _ rfl rfl rfl (row_nil _ _) (fun _ h => by cases h) (fun _ h => by cases h)
set_option maxHeartbeats 1600000 in
set_option maxRecDepth 100000 in
theorem dcd_cut (s : ByteArray) (w : World) (h : 2 ≤ s.size) (hl : s.size ≤ 1000) (h1 : s.size < by0 s 1) : Calls Tryz.prog 37 #[.string s] w fun e w' => (dNo 10).Is w w' e := by
  have q1 := by0_at s 1
  have hb1 := by0_lt s 1
  generalize by0 s 1 = b1 at *
  have hw1 := IntWalk.wrap64_in (b1 : Int) (by omega)
  have g1 : (s.size : Int) < (b1 : Int) := by omega
  have hg : decide ((s.size : Int) < 2) = false := by simp; omega
  have g2 : (1 : Int) < (s.size : Int) := by omega
  go_enter Tryz.func37, Tryz.ntmps37
  go_wp2_with fail
  have D0 := dx_start w s
  generalize ((w.alloc _).alloc _).alloc _ = w3 at *
  have c0 := cell_block D0.b0 0 _ rfl
  go_quiet (fail)
  have D1 := D0.step (below_drewN (Below.refl _ _) nq)
  generalize w3.drewN nq = w4 at *
  clear D0 c0
  have n0 := cell_block D1.b2 0 _ rfl
  have n1 := cell_block D1.b2 1 _ rfl
  have n2 := cell_block D1.b2 2 _ rfl
  have n3 := cell_block D1.b2 3 _ rfl
  have n4 := cell_block D1.b2 4 _ rfl
  have n5 := cell_block D1.b2 5 _ rfl
  have r0 := cell_block D1.b1 0 _ rfl
  have r1 := cell_block D1.b1 1 _ rfl
  have r2 := cell_block D1.b1 2 _ rfl
  have r3 := cell_block D1.b1 3 _ rfl
  have r4 := cell_block D1.b1 4 _ rfl
  have r5 := cell_block D1.b1 5 _ rfl
  have f0 := frozen_block D1.b1 0
  have f1 := frozen_block D1.b1 1
  have f2 := frozen_block D1.b1 2
  have f3 := frozen_block D1.b1 3
  have f4 := frozen_block D1.b1 4
  have f5 := frozen_block D1.b1 5
  go_wp2_with fail
  exact dcd_done w s w4 D1 (dNo 10) none 0 _ rfl rfl rfl (row_nil _ _) (fun _ h => by cases h) (fun _ h => by cases h)
end Go.Proofs.YtokcpammdhkecaaGreatDoor

/-
  partitionmap.decode: by the first two bytes; a physical map.
-/
namespace Go.Proofs.YtokcpammdhkecaaGreatDoor
open Go.RowKit

set_option maxHeartbeats 1600000 in
set_option maxRecDepth 100000 in
theorem dcd_kind (s : ByteArray) (w : World) (h : 2 ≤ s.size) (hl : s.size ≤ 1000) (h1 : by0 s 1 ≤ s.size) (hk : by0 s 0 ≠ 1 ∧ by0 s 0 ≠ 2) : Calls Tryz.prog 37 #[.string s] w fun e w' => (dNo 14).Is w w' e := by
  have hmm := @run_makeMap Tryz.prog
  have q0 := by0_at s 0
  have q1 := by0_at s 1
  have hb0 := by0_lt s 0
  have hb1 := by0_lt s 1
  generalize by0 s 0 = b0 at *
  generalize by0 s 1 = b1 at *
  have hw1 := IntWalk.wrap64_in (b1 : Int) (by omega)
  have g1 : ¬ (s.size : Int) < (b1 : Int) := by omega
  have hg : decide ((s.size : Int) < 2) = false := by simp; omega
  have g2 : (1 : Int) < (s.size : Int) := by omega
  have g3 : (0 : Int) < (s.size : Int) := by omega
  have Hno : Hid (Instr.findNow (.int .u8) (.int .u8 (b0 : Int)) (#[{ key := .int .u8 1, val := .int .i64 6, born := 0 }, { key := .int .u8 2, val := .int .i64 64, born := 1 }] : Array MapEntry).toList 0 = some none) := by
    have e1 : ((b0 : Int) == 1) = false := by simp; omega
    have e2 : ((b0 : Int) == 2) = false := by simp; omega
    simp [Hid, Instr.findNow, Instr.sameNow, e1, e2]
  go_enter Tryz.func37, Tryz.ntmps37
  go_wp2_with fail
  have D0 := dx_start w s
  generalize ((w.alloc _).alloc _).alloc _ = w3 at *
  have c0 := cell_block D0.b0 0 _ rfl
  go_quiet (fail)
  have D1 := D0.step (below_drewN (Below.refl _ _) nq)
  generalize w3.drewN nq = w4 at *
  clear D0 c0
  go_wp2_with (first
    | (refine wpList_insert_u8 _ rfl 94 (.tmp 30) (.const (.int .u8 1)) (.const (.int .i64 6)) rfl 5 3 Tryz.underlying94 Tryz.underlying5 w4.heap.size rfl #[] 0 (mapAt_new w4 #[] 0) 1 rfl (.int .i64 6) rfl rfl ?_; intro w5 hm5 hg5 hs5)
    | (refine wpList_insert_u8 _ rfl 94 (.tmp 30) (.const (.int .u8 2)) (.const (.int .i64 64)) rfl 5 3 Tryz.underlying94 Tryz.underlying5 w4.heap.size rfl _ _ hm5 2 rfl (.int .i64 64) rfl rfl ?_; intro w6 hm6 hg6 hs6; have hB6 := below_other (below_other ((Below.refl w4.heap.size w4).alloc (Nat.le_refl _) (.map #[] 0)) hg5 (Nat.le_refl _) (by simp)) hg6 (Nat.le_refl _) (by rw [hs5]; simp); have D2 := D1.step hB6; have c0 := cell_block D2.b0 0 _ rfl; have n0 := cell_block D2.b2 0 _ rfl; have n1 := cell_block D2.b2 1 _ rfl; have n2 := cell_block D2.b2 2 _ rfl; have n3 := cell_block D2.b2 3 _ rfl; have n4 := cell_block D2.b2 4 _ rfl; have n5 := cell_block D2.b2 5 _ rfl; have r0 := cell_block D2.b1 0 _ rfl; have r1 := cell_block D2.b1 1 _ rfl; have r2 := cell_block D2.b1 2 _ rfl; have r3 := cell_block D2.b1 3 _ rfl; have r4 := cell_block D2.b1 4 _ rfl; have r5 := cell_block D2.b1 5 _ rfl; have f0 := frozen_block D2.b1 0; have f1 := frozen_block D2.b1 1; have f2 := frozen_block D2.b1 2; have f3 := frozen_block D2.b1 3; have f4 := frozen_block D2.b1 4; have f5 := frozen_block D2.b1 5; have hlk := run_lookup_u8_none (P := Tryz.prog) Tryz.underlying94 Tryz.underlying5 hm6 (b0 : Int) (.int .i64 0) (Hno.out) rfl (Tryz.zeroValue3 w6)))
  go_wp2_with fail
  refine dcd_done w s _ D2 (dNo 14) none 0 _ ?_ ?_ ?_ (row_nil _ _) (fun _ h => by cases h) (fun _ h => by cases h) <;> rfl
set_option maxHeartbeats 1600000 in
set_option maxRecDepth 100000 in
theorem dcd_size1 (s : ByteArray) (w : World) (h : 2 ≤ s.size) (hl : s.size ≤ 1000) (h1 : by0 s 1 ≤ s.size) (hk : by0 s 0 = 1) (hz : by0 s 1 ≠ 6) : Calls Tryz.prog 37 #[.string s] w fun e w' => (dNo 10).Is w w' e := by
  have hmm := @run_makeMap Tryz.prog
  have q0 := by0_at s 0
  have q1 := by0_at s 1
  have hb0 := by0_lt s 0
  have hb1 := by0_lt s 1
  generalize by0 s 0 = b0 at *
  generalize by0 s 1 = b1 at *
  have hw1 := IntWalk.wrap64_in (b1 : Int) (by omega)
  have g1 : ¬ (s.size : Int) < (b1 : Int) := by omega
  have hg : decide ((s.size : Int) < 2) = false := by simp; omega
  have g2 : (1 : Int) < (s.size : Int) := by omega
  have g3 : (0 : Int) < (s.size : Int) := by omega
  subst hk
  have g4 : ¬ (b1 : Int) = 6 := by omega
  go_enter Tryz.func37, Tryz.ntmps37
  go_wp2_with fail
  have D0 := dx_start w s
  generalize ((w.alloc _).alloc _).alloc _ = w3 at *
  have c0 := cell_block D0.b0 0 _ rfl
  go_quiet (fail)
  have D1 := D0.step (below_drewN (Below.refl _ _) nq)
  generalize w3.drewN nq = w4 at *
  clear D0 c0
  go_wp2_with (first
    | (refine wpList_insert_u8 _ rfl 94 (.tmp 30) (.const (.int .u8 1)) (.const (.int .i64 6)) rfl 5 3 Tryz.underlying94 Tryz.underlying5 w4.heap.size rfl #[] 0 (mapAt_new w4 #[] 0) 1 rfl (.int .i64 6) rfl rfl ?_; intro w5 hm5 hg5 hs5)
    | (refine wpList_insert_u8 _ rfl 94 (.tmp 30) (.const (.int .u8 2)) (.const (.int .i64 64)) rfl 5 3 Tryz.underlying94 Tryz.underlying5 w4.heap.size rfl _ _ hm5 2 rfl (.int .i64 64) rfl rfl ?_; intro w6 hm6 hg6 hs6; have hB6 := below_other (below_other ((Below.refl w4.heap.size w4).alloc (Nat.le_refl _) (.map #[] 0)) hg5 (Nat.le_refl _) (by simp)) hg6 (Nat.le_refl _) (by rw [hs5]; simp); have D2 := D1.step hB6; have c0 := cell_block D2.b0 0 _ rfl; have n0 := cell_block D2.b2 0 _ rfl; have n1 := cell_block D2.b2 1 _ rfl; have n2 := cell_block D2.b2 2 _ rfl; have n3 := cell_block D2.b2 3 _ rfl; have n4 := cell_block D2.b2 4 _ rfl; have n5 := cell_block D2.b2 5 _ rfl; have r0 := cell_block D2.b1 0 _ rfl; have r1 := cell_block D2.b1 1 _ rfl; have r2 := cell_block D2.b1 2 _ rfl; have r3 := cell_block D2.b1 3 _ rfl; have r4 := cell_block D2.b1 4 _ rfl; have r5 := cell_block D2.b1 5 _ rfl; have f0 := frozen_block D2.b1 0; have f1 := frozen_block D2.b1 1; have f2 := frozen_block D2.b1 2; have f3 := frozen_block D2.b1 3; have f4 := frozen_block D2.b1 4; have f5 := frozen_block D2.b1 5; have hlk := run_lookup_u8 (P := Tryz.prog) Tryz.underlying94 Tryz.underlying5 hm6 1 0 (.int .i64 6) rfl rfl))
  go_wp2_with fail
  refine dcd_done w s _ D2 (dNo 10) none 0 _ ?_ ?_ ?_ (row_nil _ _) (fun _ h => by cases h) (fun _ h => by cases h) <;> rfl
set_option maxHeartbeats 1600000 in
set_option maxRecDepth 100000 in
theorem dcd_size2 (s : ByteArray) (w : World) (h : 2 ≤ s.size) (hl : s.size ≤ 1000) (h1 : by0 s 1 ≤ s.size) (hk : by0 s 0 = 2) (hz : by0 s 1 ≠ 64) : Calls Tryz.prog 37 #[.string s] w fun e w' => (dNo 10).Is w w' e := by
  have hmm := @run_makeMap Tryz.prog
  have q0 := by0_at s 0
  have q1 := by0_at s 1
  have hb0 := by0_lt s 0
  have hb1 := by0_lt s 1
  generalize by0 s 0 = b0 at *
  generalize by0 s 1 = b1 at *
  have hw1 := IntWalk.wrap64_in (b1 : Int) (by omega)
  have g1 : ¬ (s.size : Int) < (b1 : Int) := by omega
  have hg : decide ((s.size : Int) < 2) = false := by simp; omega
  have g2 : (1 : Int) < (s.size : Int) := by omega
  have g3 : (0 : Int) < (s.size : Int) := by omega
  subst hk
  have g4 : ¬ (b1 : Int) = 64 := by omega
  go_enter Tryz.func37, Tryz.ntmps37
  go_wp2_with fail
  have D0 := dx_start w s
  generalize ((w.alloc _).alloc _).alloc _ = w3 at *
  have c0 := cell_block D0.b0 0 _ rfl
  go_quiet (fail)
  have D1 := D0.step (below_drewN (Below.refl _ _) nq)
  generalize w3.drewN nq = w4 at *
  clear D0 c0
  go_wp2_with (first
    | (refine wpList_insert_u8 _ rfl 94 (.tmp 30) (.const (.int .u8 1)) (.const (.int .i64 6)) rfl 5 3 Tryz.underlying94 Tryz.underlying5 w4.heap.size rfl #[] 0 (mapAt_new w4 #[] 0) 1 rfl (.int .i64 6) rfl rfl ?_; intro w5 hm5 hg5 hs5)
    | (refine wpList_insert_u8 _ rfl 94 (.tmp 30) (.const (.int .u8 2)) (.const (.int .i64 64)) rfl 5 3 Tryz.underlying94 Tryz.underlying5 w4.heap.size rfl _ _ hm5 2 rfl (.int .i64 64) rfl rfl ?_; intro w6 hm6 hg6 hs6; have hB6 := below_other (below_other ((Below.refl w4.heap.size w4).alloc (Nat.le_refl _) (.map #[] 0)) hg5 (Nat.le_refl _) (by simp)) hg6 (Nat.le_refl _) (by rw [hs5]; simp); have D2 := D1.step hB6; have c0 := cell_block D2.b0 0 _ rfl; have n0 := cell_block D2.b2 0 _ rfl; have n1 := cell_block D2.b2 1 _ rfl; have n2 := cell_block D2.b2 2 _ rfl; have n3 := cell_block D2.b2 3 _ rfl; have n4 := cell_block D2.b2 4 _ rfl; have n5 := cell_block D2.b2 5 _ rfl; have r0 := cell_block D2.b1 0 _ rfl; have r1 := cell_block D2.b1 1 _ rfl; have r2 := cell_block D2.b1 2 _ rfl; have r3 := cell_block D2.b1 3 _ rfl; have r4 := cell_block D2.b1 4 _ rfl; have r5 := cell_block D2.b1 5 _ rfl; have f0 := frozen_block D2.b1 0; have f1 := frozen_block D2.b1 1; have f2 := frozen_block D2.b1 2; have f3 := frozen_block D2.b1 3; have f4 := frozen_block D2.b1 4; have f5 := frozen_block D2.b1 5; have hlk := run_lookup_u8 (P := Tryz.prog) Tryz.underlying94 Tryz.underlying5 hm6 2 1 (.int .i64 64) rfl rfl))
  go_wp2_with fail
  refine dcd_done w s _ D2 (dNo 10) none 0 _ ?_ ?_ ?_ (row_nil _ _) (fun _ h => by cases h) (fun _ h => by cases h) <;> rfl
set_option maxHeartbeats 1600000 in
set_option maxRecDepth 100000 in
theorem dcd_phys (s : ByteArray) (w : World) (h : 2 ≤ s.size) (hl : s.size ≤ 1000) (h1 : by0 s 1 ≤ s.size) (hk : by0 s 0 = 1) (hz : by0 s 1 = 6) : Calls Tryz.prog 37 #[.string s] w fun e w' => ((⟨0, 6, 0, rdN s 4 2, [], 0, 0, 0⟩ : DR)).Is w w' e := by
  have kN : Hid (∀ w' g, w'.cell? ⟨g, 0, none⟩ = some (.string s) → Calls Tryz.prog 64 #[.int .i64 4, .int .i64 2, .pointer (some ⟨g, 0, none⟩)] w' fun e w'' => e = .returned (.int .i64 (rdN s 4 2 : Int)) ∧ w'' = w') := fun w' g hc => pm_number s 4 2 g hl (by decide) (by decide) (by omega) w' hc
  have hmm := @run_makeMap Tryz.prog
  have q0 := by0_at s 0
  have q1 := by0_at s 1
  have hb0 := by0_lt s 0
  have hb1 := by0_lt s 1
  generalize by0 s 0 = b0 at *
  generalize by0 s 1 = b1 at *
  have hw1 := IntWalk.wrap64_in (b1 : Int) (by omega)
  have g1 : ¬ (s.size : Int) < (b1 : Int) := by omega
  have hg : decide ((s.size : Int) < 2) = false := by simp; omega
  have g2 : (1 : Int) < (s.size : Int) := by omega
  have g3 : (0 : Int) < (s.size : Int) := by omega
  subst hk
  subst hz
  go_enter Tryz.func37, Tryz.ntmps37
  go_wp2_with fail
  have D0 := dx_start w s
  generalize ((w.alloc _).alloc _).alloc _ = w3 at *
  have c0 := cell_block D0.b0 0 _ rfl
  go_quiet (fail)
  have D1 := D0.step (below_drewN (Below.refl _ _) nq)
  generalize w3.drewN nq = w4 at *
  clear D0 c0
  go_wp2_with (first
    | (refine wpList_insert_u8 _ rfl 94 (.tmp 30) (.const (.int .u8 1)) (.const (.int .i64 6)) rfl 5 3 Tryz.underlying94 Tryz.underlying5 w4.heap.size rfl #[] 0 (mapAt_new w4 #[] 0) 1 rfl (.int .i64 6) rfl rfl ?_; intro w5 hm5 hg5 hs5)
    | (refine wpList_insert_u8 _ rfl 94 (.tmp 30) (.const (.int .u8 2)) (.const (.int .i64 64)) rfl 5 3 Tryz.underlying94 Tryz.underlying5 w4.heap.size rfl _ _ hm5 2 rfl (.int .i64 64) rfl rfl ?_; intro w6 hm6 hg6 hs6; have hB6 := below_other (below_other ((Below.refl w4.heap.size w4).alloc (Nat.le_refl _) (.map #[] 0)) hg5 (Nat.le_refl _) (by simp)) hg6 (Nat.le_refl _) (by rw [hs5]; simp); have D2 := D1.step hB6; have c0 := cell_block D2.b0 0 _ rfl; have n0 := cell_block D2.b2 0 _ rfl; have n1 := cell_block D2.b2 1 _ rfl; have n2 := cell_block D2.b2 2 _ rfl; have n3 := cell_block D2.b2 3 _ rfl; have n4 := cell_block D2.b2 4 _ rfl; have n5 := cell_block D2.b2 5 _ rfl; have r0 := cell_block D2.b1 0 _ rfl; have r1 := cell_block D2.b1 1 _ rfl; have r2 := cell_block D2.b1 2 _ rfl; have r3 := cell_block D2.b1 3 _ rfl; have r4 := cell_block D2.b1 4 _ rfl; have r5 := cell_block D2.b1 5 _ rfl; have f0 := frozen_block D2.b1 0; have f1 := frozen_block D2.b1 1; have f2 := frozen_block D2.b1 2; have f3 := frozen_block D2.b1 3; have f4 := frozen_block D2.b1 4; have f5 := frozen_block D2.b1 5; have hlk := run_lookup_u8 (P := Tryz.prog) Tryz.underlying94 Tryz.underlying5 hm6 1 0 (.int .i64 6) rfl rfl))
  go_wp2_with (go_at_call 64; refine (unhide kN _ _ c0).mono ?_; rintro e w7 ⟨rfl, rfl⟩)
  refine dcd_done w s _ D2 (⟨0, 6, 0, rdN s 4 2, [], 0, 0, 0⟩) none 0 _ ?_ ?_ ?_ (row_nil _ _) (fun _ h => by cases h) (fun _ h => by cases h) <;> rfl
end Go.Proofs.YtokcpammdhkecaaGreatDoor

/-
  partitionmap.decode: 64 bytes with no entity identifier.
-/
namespace Go.Proofs.YtokcpammdhkecaaGreatDoor
open Go.RowKit

set_option maxHeartbeats 1600000 in
set_option maxRecDepth 100000 in
theorem dcd_ent (s : ByteArray) (mx : Int) (w : World) (h : 64 ≤ s.size) (hl : s.size ≤ 1000) (hk : by0 s 0 = 2) (hz : by0 s 1 = 64) (hm : w.cell? ⟨0, 0, none⟩ = some (.int .i64 mx)) (he : peE (s.extract 4 36) ≠ 0) : Calls Tryz.prog 37 #[.string s] w fun e w' => (dNo 10).Is w w' e := by
  have hfs : (s.extract 4 36).size = 32 := by rw [ByteArray.size_extract]; omega
  have kE : Hid (∀ w', Below w.heap.size w w' → Calls Tryz.prog 66 #[.string (s.extract 4 36)] w' fun e w'' => e = .returned (.tuple #[.string (peI (s.extract 4 36)), .string (peX (s.extract 4 36)), .int .i64 (peE (s.extract 4 36))]) ∧ Below w'.heap.size w' w'') := fun w' hb =>
    udf_ParseEntity (s.extract 4 36) mx w' (by omega) ((hb.cell (p := ⟨_, _, _⟩) (cell_lt hm)).trans hm)
  clear hfs hm
  generalize peI (s.extract 4 36) = nm at *
  generalize peX (s.extract 4 36) = sx at *
  generalize peE (s.extract 4 36) = er at *
  have hmm := @run_makeMap Tryz.prog
  have hk' := hk
  have hz' := hz
  clear hk hz
  have q0 := by0_at s 0
  have q1 := by0_at s 1
  have hb0 := by0_lt s 0
  have hb1 := by0_lt s 1
  generalize by0 s 0 = b0 at *
  generalize by0 s 1 = b1 at *
  have hw1 := IntWalk.wrap64_in (b1 : Int) (by omega)
  have g1 : ¬ (s.size : Int) < (b1 : Int) := by omega
  subst hk'
  subst hz'
  have g36 : (36 : Int) ≤ (s.size : Int) := by omega
  have hg : decide ((s.size : Int) < 2) = false := by simp; omega
  have g2 : (1 : Int) < (s.size : Int) := by omega
  have g3 : (0 : Int) < (s.size : Int) := by omega
  go_enter Tryz.func37, Tryz.ntmps37
  go_wp2_with fail
  have D0 := dx_start w s
  generalize ((w.alloc _).alloc _).alloc _ = w3 at *
  have c0 := cell_block D0.b0 0 _ rfl
  go_quiet (fail)
  have D1 := D0.step (below_drewN (Below.refl _ _) nq)
  generalize w3.drewN nq = w4 at *
  clear D0 c0
  go_wp2_with (first
    | (refine wpList_insert_u8 _ rfl 94 (.tmp 30) (.const (.int .u8 1)) (.const (.int .i64 6)) rfl 5 3 Tryz.underlying94 Tryz.underlying5 w4.heap.size rfl #[] 0 (mapAt_new w4 #[] 0) 1 rfl (.int .i64 6) rfl rfl ?_; intro w5 hm5 hg5 hs5)
    | (refine wpList_insert_u8 _ rfl 94 (.tmp 30) (.const (.int .u8 2)) (.const (.int .i64 64)) rfl 5 3 Tryz.underlying94 Tryz.underlying5 w4.heap.size rfl _ _ hm5 2 rfl (.int .i64 64) rfl rfl ?_; intro w6 hm6 hg6 hs6; have hB6 := below_other (below_other ((Below.refl w4.heap.size w4).alloc (Nat.le_refl _) (.map #[] 0)) hg5 (Nat.le_refl _) (by simp)) hg6 (Nat.le_refl _) (by rw [hs5]; simp); have D2 := D1.step hB6; have c0 := cell_block D2.b0 0 _ rfl; have n0 := cell_block D2.b2 0 _ rfl; have n1 := cell_block D2.b2 1 _ rfl; have n2 := cell_block D2.b2 2 _ rfl; have n3 := cell_block D2.b2 3 _ rfl; have n4 := cell_block D2.b2 4 _ rfl; have n5 := cell_block D2.b2 5 _ rfl; have r0 := cell_block D2.b1 0 _ rfl; have r1 := cell_block D2.b1 1 _ rfl; have r2 := cell_block D2.b1 2 _ rfl; have r3 := cell_block D2.b1 3 _ rfl; have r4 := cell_block D2.b1 4 _ rfl; have r5 := cell_block D2.b1 5 _ rfl; have f0 := frozen_block D2.b1 0; have f1 := frozen_block D2.b1 1; have f2 := frozen_block D2.b1 2; have f3 := frozen_block D2.b1 3; have f4 := frozen_block D2.b1 4; have f5 := frozen_block D2.b1 5; have hlk := run_lookup_u8 (P := Tryz.prog) Tryz.underlying94 Tryz.underlying5 hm6 2 1 (.int .i64 64) rfl rfl)
    | (go_at_call 66; refine (unhide kE _ D2.low).mono ?_; rintro e w7 ⟨rfl, hb7⟩; have D3 := D2.step hb7; clear n0 r0 f0 n1 r1 f1 n2 r2 f2 n3 r3 f3 n4 r4 f4 n5 r5 f5; have n0 := cell_block D3.b2 0 _ rfl; have n1 := cell_block D3.b2 1 _ rfl; have n2 := cell_block D3.b2 2 _ rfl; have n3 := cell_block D3.b2 3 _ rfl; have n4 := cell_block D3.b2 4 _ rfl; have n5 := cell_block D3.b2 5 _ rfl; have r0 := cell_block D3.b1 0 _ rfl; have r1 := cell_block D3.b1 1 _ rfl; have r2 := cell_block D3.b1 2 _ rfl; have r3 := cell_block D3.b1 3 _ rfl; have r4 := cell_block D3.b1 4 _ rfl; have r5 := cell_block D3.b1 5 _ rfl; have f0 := frozen_block D3.b1 0; have f1 := frozen_block D3.b1 1; have f2 := frozen_block D3.b1 2; have f3 := frozen_block D3.b1 3; have f4 := frozen_block D3.b1 4; have f5 := frozen_block D3.b1 5))
  refine dcd_done w s _ D3 (dNo 10) none 0 _ ?_ ?_ ?_ (row_nil _ _) (fun _ h => by cases h) (fun _ h => by cases h) <;> rfl
end Go.Proofs.YtokcpammdhkecaaGreatDoor

/-
  The worlds of partitionmap.decode's loop over the identifiers.
-/
namespace Go.Proofs.YtokcpammdhkecaaGreatDoor
open Go.RowKit

/-- The map x of decode is in block g. -/
structure Lx (w wr : World) (s : ByteArray) (g : Nat) (kv n : Int) : Prop where
  dx : Dx w wr s
  lo : w.heap.size + 3 ≤ g
  bx : wr.heap[g]? = some (.cells #[.int .i64 kv, .int .i64 n, .slice none 0 0, .int .i64 0, .int .i64 0, .int .i64 0] 65)
theorem Lx.lt {w wr : World} {s : ByteArray} {g : Nat} {kv n : Int} (h : Lx w wr s g kv n) : g < wr.heap.size := by
  have := h.bx
  rcases Nat.lt_or_ge g wr.heap.size with hl | hg
  · exact hl
  · rw [Array.getElem?_eq_none hg] at this; cases this
theorem Lx.step {w wr w' : World} {s : ByteArray} {g : Nat} {kv n : Int} (h : Lx w wr s g kv n) (hb : Below wr.heap.size wr w') : Lx w w' s g kv n :=
  ⟨h.dx.step hb, h.lo, (hb.block g h.lt).trans h.bx⟩
theorem Dx.grown {w wr w' : World} {s : ByteArray} {r : Nat} (h : Dx w wr s) (hg : wr.grownBy w' (some r)) (hr : w.heap.size + 3 ≤ r) : Dx w w' s := by
  have := h.sz
  refine ⟨h.low.grown hg h.low.size (fun k hk => by injection hk with hk; omega), Nat.le_trans h.sz hg.size, ?_, ?_, ?_⟩
  · exact (hg.block _ (by omega) (fun q => by injection q; omega)).trans h.b0
  · exact (hg.block _ (by omega) (fun q => by injection q; omega)).trans h.b1
  · exact (hg.block _ (by omega) (fun q => by injection q; omega)).trans h.b2
theorem Lx.grown {w wr w' : World} {s : ByteArray} {g r : Nat} {kv n : Int} (h : Lx w wr s g kv n) (hg : wr.grownBy w' (some r)) (hr : w.heap.size + 3 ≤ r) (hne : g ≠ r) : Lx w w' s g kv n :=
  ⟨h.dx.grown hg hr, h.lo, (hg.block g h.lt (fun q => hne (by injection q))).trans h.bx⟩
theorem grown_set (w : World) (g o : Nat) (v : Value) : w.grownBy (w.setCell ⟨g, o, none⟩ v) (some g) :=
  ⟨rfl, rfl, rfl, by simp [World.setCell], fun i _ hne => Below.heap_setCell w _ v i (fun e => hne (by rw [e]))⟩
theorem set_block {w : World} {b : Nat} {cs : Array Value} {t : TypeId} (h : w.heap[b]? = some (.cells cs t)) (i : Nat) (v : Value) : (w.setCell ⟨b, i, none⟩ v).heap[b]? = some (.cells (cs.setIfInBounds i v) t) := by
  unfold World.setCell
  simp [Array.getElem?_modify, h]
theorem Lx.setk {w wr : World} {s : ByteArray} {g : Nat} {kv n : Int} (h : Lx w wr s g kv n) (k' : Int) : Lx w (wr.setCell ⟨g, 0, none⟩ (.int .i64 k')) s g k' n :=
  ⟨h.dx.grown (grown_set wr g 0 _) h.lo, h.lo, by rw [set_block h.bx]; rfl⟩
theorem lx_start {w w7 w9 : World} {s : ByteArray} {n : Int} (h : Dx w w7 s)
    (hb : Below (w7.alloc (.cells #[.int .i64 0, .int .i64 n, .slice none 0 0, .int .i64 0, .int .i64 0, .int .i64 0] 65)).heap.size (w7.alloc (.cells #[.int .i64 0, .int .i64 n, .slice none 0 0, .int .i64 0, .int .i64 0, .int .i64 0] 65)) w9) :
    Lx w w9 s w7.heap.size 0 n :=
  Lx.step ⟨h.step ((Below.refl _ _).alloc (Nat.le_refl _) _), h.sz, heap_new _ _⟩ hb
theorem map_not_cells {w : World} {b g : Nat} {es : Array MapEntry} {clock : Nat} {cs : Array Value} {t : TypeId} (h : MapAt w b es clock) (h' : w.heap[g]? = some (.cells cs t)) : b ≠ g := by
  intro e
  unfold MapAt at h
  rw [e, h'] at h
  injection h with h
  cases h
theorem idn_old : ∀ x ∈ idnE.toList, x.born < 3 := by decide
theorem idn_nodup : (idnE.toList.map (·.born)).Nodup := by decide
theorem idn_mem {e : MapEntry} (h : e ∈ idnE.toList) : e = { key := .int .i64 1, val := .string idV, born := 0 } ∨ e = { key := .int .i64 2, val := .string idS, born := 1 } ∨ e = { key := .int .i64 3, val := .string idM, born := 2 } := by
  simpa [idnE] using h
end Go.Proofs.YtokcpammdhkecaaGreatDoor
