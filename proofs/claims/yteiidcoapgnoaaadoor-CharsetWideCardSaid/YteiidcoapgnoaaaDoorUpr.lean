/-
  charset.Upper and the reference's: the string in capitals.
-/
import Derived.Test.YteiidcoapgnoaaaDoorWide17
import Derived.Laws.IdiomStrings
namespace Go.Proofs.YteiidcoapgnoaaaDoor
open Go.RowKit

/-- '[]byte(s)': a new row with the string's bytes, none of them frozen. -/
theorem wpList_bytes2 {P : Program} (w : World) {ops : Array Oper} {rest : List Oper} {o : Oper} {a : Act} {Q : Exit → Act → World → Prop}
    (hg : o.guard = none) (x : Operand) (src dst e : TypeId) (hop : o.op = Op.convert src dst x) (hs : P.underlying src = some .string) (hd : P.underlying dst = some (.slice e)) (he : P.underlying e = some (.int .u8))
    (s : ByteArray) (hx : a.eval x = .string s)
    (hK : ∀ w' cap, Below w.heap.size w w' → w.heap.size < w'.heap.size → s.size ≤ cap → (∀ j, j < s.size → w'.cell? ⟨w.heap.size, j, none⟩ = some (.int .u8 (s.data.toList.getD j 0).toNat)) → (∀ j, j < s.size → w'.frozen? ⟨w.heap.size, j, none⟩ = false) →
      wpList P ops Q rest (a.put o.dst (.slice (some ⟨w.heap.size, 0, none⟩) s.size cap)) w') :
    wpList P ops Q (o :: rest) a w := by
  refine wpList_plain hg fun K hK' => ?_
  have hrun := Lib.run_convert_string_bytes (P := P) w src dst e s hs hd he
  unfold Oper.wp
  simp [execOp, hop, hx, hrun, Result.andThen]
  refine hK' _ _ (hK _ _ ⟨rfl, rfl, rfl, by rw [Lib.bytesWorld_size]; omega, fun i hi => Lib.bytesWorld_at_old w e s i hi⟩ (by rw [Lib.bytesWorld_size]; omega) (grownCap_ge w s.size 0 e) (fun j hj => Lib.bytesWorld_cell w e s j hj) (fun j hj => ?_))
  unfold World.frozen?
  rw [Lib.bytesWorld_at_new]
  have hz : s.size ≤ (Lib.bytesCells w e s).size := by
    have hd : s.data.size = s.size := rfl
    simp [Lib.bytesCells, hd] <;> omega
  simp <;> omega

/-- The row that Upper writes: the first i bytes in capitals. -/
def UpI (w : World) (g : Nat) (l : List UInt8) (i : Nat) (wr : World) : Prop :=
  (∀ j (h : j < l.length), wr.cell? ⟨g, j, none⟩ = some (.int .u8 (((if j < i then Ch.upB l[j] else l[j]).toNat : Nat) : Int))) ∧ (∀ j, j < l.length → wr.frozen? ⟨g, j, none⟩ = false) ∧ Below w.heap.size w wr
theorem UpI.keep {w wr : World} {g : Nat} {l : List UInt8} {i : Nat} (h : UpI w g l i wr) (hi : i < l.length) {b : UInt8} (hb : b = l[i]) (hu : Ch.upB b = b) : UpI w g l (i + 1) wr := by
  rw [hb] at hu
  refine ⟨fun j hj => ?_, h.2.1, h.2.2⟩
  rw [h.1 j hj]
  by_cases e : j = i
  · subst e
    rw [if_neg (by omega), if_pos (by omega), hu]
  · by_cases e2 : j < i
    · rw [if_pos e2, if_pos (by omega)]
    · rw [if_neg e2, if_neg (by omega)]
theorem UpI.set {w wr : World} {g : Nat} {l : List UInt8} {i : Nat} (h : UpI w g l i wr) (hg : w.heap.size ≤ g) (hi : i < l.length) {b : UInt8} (hb : b = l[i]) {v : Int} (hv : v = ((Ch.upB b).toNat : Int)) : UpI w g l (i + 1) (wr.setCell ⟨g, i, none⟩ (.int .u8 v)) := by
  rw [hb] at hv
  subst hv
  refine ⟨fun j hj => ?_, fun j hj => by rw [World.frozen?_setCell]; exact h.2.1 j hj, h.2.2.setCell hg _⟩
  by_cases e : j = i
  · subst e
    rw [if_pos (by omega)]
    exact World.cell?_setCell_same _ _ _ (h.1 j hi)
  · rw [World.cell?_setCell_other _ _ _ _ (by intro e2; injection e2; omega), h.1 j hj]
    by_cases e2 : j < i
    · rw [if_pos e2, if_pos (by omega)]
    · rw [if_neg e2, if_neg (by omega)]
theorem UpI.done {w wr : World} {g : Nat} {s : ByteArray} (h : UpI w g s.data.toList s.data.toList.length wr) (hs : s.size ≤ 65536) (cap : Nat) :
    (convert 47 9 (.slice (some ⟨g, 0, none⟩) s.size cap)).run Tryd.prog wr = .ok (.string (uprS s)) wr := by
  have hl : (s.data.toList.map Ch.upB).length = s.size := by rw [List.length_map, Lib.size_eq]
  have := run_convert_bytes_back (P := Tryd.prog) (w := wr) 47 9 5 ⟨g, 0, none⟩ cap (s.data.toList.map Ch.upB) Tryd.underlying47 Tryd.underlying5 Tryd.underlying9 (fun j hj => by
    rw [List.length_map] at hj
    have e : (⟨g, 0, none⟩ : Addr).add j = ⟨g, j, none⟩ := by
      unfold Addr.add
      split
      · simp_all
      · simp
    rw [e, h.1 j hj, if_pos hj, List.getElem_map])
  rw [hl] at this
  rw [this]
  unfold uprS
  rw [if_neg (by omega)]

set_option maxHeartbeats 1600000 in
set_option maxRecDepth 100000 in
theorem udf_Upper (s : ByteArray) (w : World) :
    Calls Tryd.prog 21 #[.string s] w fun e w' => e = .returned (.string (uprS s)) ∧ Below w.heap.size w w' := by
  by_cases h1 : s.size ≤ 65536
  · have hsl := Lib.size_eq s
    go_enter Tryd.func21, Tryd.ntmps21
    have Hsl := Lib.hid hsl
    clear hsl
    go_wp2_with (refine wpList_bytes2 _ rfl _ 9 47 5 rfl Tryd.underlying9 Tryd.underlying47 Tryd.underlying5 _ rfl ?_; intro w2 cap hb2 hz2 hcap hcell hfz; have hU : UpI w w.heap.size s.data.toList 0 w2 := (by refine ⟨fun j hj => ?_, fun j hj => hfz j (by rw [Hsl.out]; exact hj), hb2⟩; rw [if_neg (by omega), hcell j (by rw [Hsl.out]; exact hj), List.getD_eq_getElem?_getD, List.getElem?_eq_getElem hj]; rfl); clear hcell hfz hb2)
    generalize hg : w.heap.size = g at *
    have Hg := Lib.hid hg
    clear hg
    go_loopw [13] (fun x wr => ∃ i : Nat, i ≤ s.size ∧ x = .int .i64 (i : Int) ∧ UpI w g s.data.toList i wr) (fun x _ => s.size - (intOf x).toNat)
    case atStart => exact ⟨0, Nat.zero_le _, rfl, hU⟩
    case round =>
      obtain ⟨i, hi, rfl, hI⟩ := hrel
      clear hU
      by_cases hlt : i < s.size
      · have hil : i < s.data.toList.length := by rw [← Hsl.out]; exact hlt
        have hc : wr.cell? ⟨g, i, none⟩ = some (.int .u8 ((s.data.toList[i].toNat : Nat) : Int)) := by
          have := hI.1 i hil
          rwa [if_neg (by omega)] at this
        have hf : wr.frozen? ⟨g, i, none⟩ = false := hI.2.1 i hil
        obtain ⟨b, hb⟩ : ∃ b, b = s.data.toList[i] := ⟨_, rfl⟩
        have hk := hide (fun hu => hI.keep hil hb hu)
        have hset := hide (fun v hv => hI.set (v := v) (by rw [Hg.out]; exact Nat.le_refl _) hil hb hv)
        rw [← hb] at hc
        have HI := Lib.hid hI
        clear hI hb hil
        have b0 : (0 : Int) ≤ (b.toNat : Int) := by omega
        have b1 : (b.toNat : Int) < 256 := by have := b.toNat_lt; omega
        by_cases q1 : (97 : Int) ≤ (b.toNat : Int)
        · by_cases q2 : (b.toNat : Int) ≤ 122
          · have q3 : ((Ch.upB b).toNat : Int) = (b.toNat : Int) - 97 + 65 := by rw [Ch.upB_toNat, if_pos (by omega)]; omega
            have Q3 := Lib.hid q3
            clear q3
            go_wp2
            go_roundw
            case rel => exact ⟨i + 1, by omega, by go_num, unhide hset _ (by rw [Q3.out])⟩
            case measure => simp [intOf]; omega
          · have q3 : Ch.upB b = b := by unfold Ch.upB; rw [if_neg (by omega)]
            have Q3 := Lib.hid q3
            clear q3
            go_wp2
            go_roundw
            case rel => exact ⟨i + 1, by omega, by go_num, unhide hk Q3.out⟩
            case measure => simp [intOf]; omega
        · have q3 : Ch.upB b = b := by unfold Ch.upB; rw [if_neg (by omega)]
          have Q3 := Lib.hid q3
          clear q3
          go_wp2
          go_roundw
          case rel => exact ⟨i + 1, by omega, by go_num, unhide hk Q3.out⟩
          case measure => simp [intOf]; omega
      · obtain rfl : i = s.size := by omega
        have hb := hI.2.2
        have hrun := UpI.done (by rw [← Hsl.out]; exact hI) h1 cap
        have HI := Lib.hid hI
        clear hI
        have Hb := Lib.hid hb
        clear hb
        go_wp2
        go_ret
        exact ⟨rfl, Hb.out⟩
  · have e1 : 65536 < s.size := by omega
    have r1 : uprS s = ⟨#[]⟩ := by unfold uprS; rw [if_pos e1]
    rw [r1]
    clear r1
    go_enter Tryd.func21, Tryd.ntmps21
    go_wp2
    go_ret
    exact ⟨rfl, Below.refl _ _⟩
set_option maxHeartbeats 1600000 in
set_option maxRecDepth 100000 in
theorem ref_Upper (s : ByteArray) (w : World) :
    Calls Tryd.prog 22 #[.string s] w fun e w' => e = .returned (.string (uprS s)) ∧ Below w.heap.size w w' := by
  by_cases h1 : s.size ≤ 65536
  · have hsl := Lib.size_eq s
    go_enter Tryd.func22, Tryd.ntmps22
    have Hsl := Lib.hid hsl
    clear hsl
    go_wp2_with (refine wpList_bytes2 _ rfl _ 9 47 5 rfl Tryd.underlying9 Tryd.underlying47 Tryd.underlying5 _ rfl ?_; intro w2 cap hb2 hz2 hcap hcell hfz; have hU : UpI w w.heap.size s.data.toList 0 w2 := (by refine ⟨fun j hj => ?_, fun j hj => hfz j (by rw [Hsl.out]; exact hj), hb2⟩; rw [if_neg (by omega), hcell j (by rw [Hsl.out]; exact hj), List.getD_eq_getElem?_getD, List.getElem?_eq_getElem hj]; rfl); clear hcell hfz hb2)
    generalize hg : w.heap.size = g at *
    have Hg := Lib.hid hg
    clear hg
    go_loopw [4] (fun x wr => ∃ i : Nat, i ≤ s.size ∧ x = .int .i64 (i : Int) ∧ UpI w g s.data.toList i wr) (fun x _ => s.size - (intOf x).toNat)
    case atStart => exact ⟨0, Nat.zero_le _, rfl, hU⟩
    case round =>
      obtain ⟨i, hi, rfl, hI⟩ := hrel
      clear hU
      by_cases hlt : i < s.size
      · have hil : i < s.data.toList.length := by rw [← Hsl.out]; exact hlt
        have hc : wr.cell? ⟨g, i, none⟩ = some (.int .u8 ((s.data.toList[i].toNat : Nat) : Int)) := by
          have := hI.1 i hil
          rwa [if_neg (by omega)] at this
        have hf : wr.frozen? ⟨g, i, none⟩ = false := hI.2.1 i hil
        obtain ⟨b, hb⟩ : ∃ b, b = s.data.toList[i] := ⟨_, rfl⟩
        have hk := hide (fun hu => hI.keep hil hb hu)
        have hset := hide (fun v hv => hI.set (v := v) (by rw [Hg.out]; exact Nat.le_refl _) hil hb hv)
        rw [← hb] at hc
        have HI := Lib.hid hI
        clear hI hb hil
        have b0 : (0 : Int) ≤ (b.toNat : Int) := by omega
        have b1 : (b.toNat : Int) < 256 := by have := b.toNat_lt; omega
        by_cases q1 : (97 : Int) ≤ (b.toNat : Int)
        · by_cases q2 : (b.toNat : Int) ≤ 122
          · have q3 : ((Ch.upB b).toNat : Int) = (b.toNat : Int) - 97 + 65 := by rw [Ch.upB_toNat, if_pos (by omega)]; omega
            have Q3 := Lib.hid q3
            clear q3
            go_wp2
            go_roundw
            case rel => exact ⟨i + 1, by omega, by go_num, unhide hset _ (by rw [Q3.out])⟩
            case measure => simp [intOf]; omega
          · have q3 : Ch.upB b = b := by unfold Ch.upB; rw [if_neg (by omega)]
            have Q3 := Lib.hid q3
            clear q3
            go_wp2
            go_roundw
            case rel => exact ⟨i + 1, by omega, by go_num, unhide hk Q3.out⟩
            case measure => simp [intOf]; omega
        · have q3 : Ch.upB b = b := by unfold Ch.upB; rw [if_neg (by omega)]
          have Q3 := Lib.hid q3
          clear q3
          go_wp2
          go_roundw
          case rel => exact ⟨i + 1, by omega, by go_num, unhide hk Q3.out⟩
          case measure => simp [intOf]; omega
      · obtain rfl : i = s.size := by omega
        have hb := hI.2.2
        have hrun := UpI.done (by rw [← Hsl.out]; exact hI) h1 cap
        have HI := Lib.hid hI
        clear hI
        have Hb := Lib.hid hb
        clear hb
        go_wp2
        go_ret
        exact ⟨rfl, Hb.out⟩
  · have e1 : 65536 < s.size := by omega
    have r1 : uprS s = ⟨#[]⟩ := by unfold uprS; rw [if_pos e1]
    rw [r1]
    clear r1
    go_enter Tryd.func22, Tryd.ntmps22
    go_wp2
    go_ret
    exact ⟨rfl, Below.refl _ _⟩
end Go.Proofs.YteiidcoapgnoaaaDoor
