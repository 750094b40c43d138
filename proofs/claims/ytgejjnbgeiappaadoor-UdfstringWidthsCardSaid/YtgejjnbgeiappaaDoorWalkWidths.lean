/-
  The walk of UdfstringWidths: it returns true.
-/
import Derived.Test.YtgejjnbgeiappaaDoorRange
namespace Go.Proofs.YtgejjnbgeiappaaDoor
open Go.RowKit Go.Proofs.YtgejjnbgeiappaaDoorW.PrintWords

set_option maxHeartbeats 6400000 in
set_option maxRecDepth 100000 in
theorem widths_narrow (s : ByteArray) (w : World) (hT : Tabs w) (hs : s.size ≤ 300) {cs : List Nat} (hc : Ch.chars s.data.toList = some cs) (h0 : cs ≠ []) (hn : Ch.isNarrow cs = true) :
    Calls Tryd.prog 7 #[.string s] w fun e w' => e = .returned (.bool true) ∧ Below w.heap.size w w' := by
  have kA := hide (awake32 w hT)
  have kN := hide (fun w => rune_count hc (by omega) w)
  have hl := (chars_small hc).2
  have hlp : 0 < cs.length := List.length_pos_iff.2 h0
  have qs : s.toList.isEmpty = false := by
    rw [ByteArray.toList_eq]
    cases e : s.data.toList with
    | nil =>
      exfalso
      have h9 : s.size = ([] : List UInt8).length := by rw [Lib.size_eq, e]
      have h8 : ([] : List UInt8).length = 0 := rfl
      omega
    | cons a b => rfl
  have kC : ∀ w, Tabs w → Calls Tryd.prog 11 #[.string s] w fun e w' => e = .returned (.tuple #[.string ⟨(Ch.comp cs).toArray⟩, .int .i64 0]) ∧ Below w.heap.size w w' := by
    intro w hT
    have h := udf_Compress s w hT (by omega)
    rwa [(compS_some hc).1, (compS_some hc).2] at h
  have kC := hide kC
  generalize hD : (⟨(Ch.comp cs).toArray⟩ : ByteArray) = D at kC
  have hD := hD.symm
  have hsz : (D.size : Int) = 1 + (cs.length : Int) := by rw [hD, Lib.size_eq]; show ((Ch.comp cs).length : Int) = _; rw [narrow_bytes hn h0]; simp; omega
  have b0 : ∀ h, ((D[0]'h).toNat : Int) = 8 := fun h => by rw [byte_at, hD]; show (((Ch.comp cs).getD 0 0).toNat : Int) = _; rw [narrow_bytes hn h0]; rfl
  have bj : ∀ j (hj : j < cs.length) h, ((D[1 + j]'h).toNat : Int) = (cs[j] : Int) := fun j hj h => by
    rw [byte_at, hD]
    show (((Ch.comp cs).getD (1 + j) 0).toNat : Int) = _
    rw [narrow_bytes hn h0, Nat.add_comm, List.getD_cons_succ, List.getD_eq_getElem?_getD, List.getElem?_map, List.getElem?_eq_getElem hj]
    simp only [Option.map_some, Option.getD_some]
    rw [Ch.ofNat_toNat (by have := Ch.isNarrow_iff.1 hn _ (List.getElem_mem hj); omega)]
  have HD := Lib.hid hD
  clear hD
  have Hs := Lib.hid hs
  go_enter Tryd.func7, Tryd.ntmps7
  go_wp2_with fail
  refine (unhide kA).mono ?_
  rintro e w0 ⟨rfl, hb0⟩
  have hT0 := tabs_below hT (Nat.le_refl _) hb0
  go_wp2_with fail
  refine (unhide kC _ hT0).mono ?_
  rintro e w1 ⟨rfl, hb1⟩
  have hB1 := hb0.trans (hb1.mono hb0.size)
  go_wp2_with fail
  go_loopw [5] (fun n wr => ∃ j, j ≤ cs.length ∧ wr = w1.iter s (posL cs j) ∧ n = .int .i64 1) (fun _ wr => s.size - wr.iterPos w1.heap.size)
  case atStart => exact ⟨0, Nat.zero_le _, by rw [posL_zero], rfl⟩
  case round =>
    obtain ⟨j, hj, rfl, rfl⟩ := hrel
    by_cases hjl : j < cs.length
    · obtain ⟨hd1, hp⟩ := posL_at hc hjl
      have hnx : ∀ ty, (Instr.next (.pointer (some ⟨w1.heap.size, 0, none⟩)) true ty).run Tryd.prog (w1.iter s (posL cs j)) = _ := fun ty => run_next_any w1 s (posL cs j) ty hp
      rw [hd1] at hnx
      have hsucc := posL_succ hjl
      have hpos := Ch.enc_pos cs[j]
      have hc255 : ¬ (255 : Int) < (cs[j] : Int) := by have := Ch.isNarrow_iff.1 hn _ (List.getElem_mem hjl); omega
      go_wp2
      go_roundw
      case rel => exact ⟨j + 1, by omega, by rw [hsucc], rfl⟩
      case measure => simp; omega
    · have hjj : j = cs.length := by omega
      subst hjj
      rw [posL_all hc]
      have hnx : ∀ ty, (Instr.next (.pointer (some ⟨w1.heap.size, 0, none⟩)) true ty).run Tryd.prog (w1.iter s s.size) = _ := fun ty => run_next_end w1 s s.size ty (by omega)
      have hB2 : Below w.heap.size w (w1.iter s s.size) := hB1.alloc hB1.size _
      have hpD : 0 < D.size := by omega
      have b00 := b0 hpD
      go_wp2_with (go_at_call 23; refine (unhide kN _).mono ?_; rintro e w2 ⟨rfl, hb2⟩)
      have hB3 := hB2.trans (hb2.mono hB2.size)
      go_loopw [8] (fun n wr => ∃ j : Nat, j ≤ cs.length ∧ wr = w2.iter s (posL cs j) ∧ n = .int .i64 ((1 + j : Nat) : Int)) (fun _ wr => s.size - wr.iterPos w2.heap.size)
      case atStart => exact ⟨0, Nat.zero_le _, by rw [posL_zero], rfl⟩
      case round =>
        obtain ⟨j, hj, rfl, rfl⟩ := hrel
        by_cases hjl : j < cs.length
        · obtain ⟨hd1, hp⟩ := posL_at hc hjl
          have hnx : ∀ ty, (Instr.next (.pointer (some ⟨w2.heap.size, 0, none⟩)) true ty).run Tryd.prog (w2.iter s (posL cs j)) = _ := fun ty => run_next_any w2 s (posL cs j) ty hp
          rw [hd1] at hnx
          have hsucc := posL_succ hjl
          have hpos := Ch.enc_pos cs[j]
          have hcb := (chars_small hc).1 _ (List.getElem_mem hjl)
          have g1 : 1 + j < D.size := by omega
          have v1 := bj j hjl g1
          go_wp2
          go_roundw
          case rel => exact ⟨j + 1, by omega, by rw [hsucc], by first | (congr 1; done) | (congr 1; omega)⟩
          case measure => simp; omega
        · have hjj : j = cs.length := by omega
          subst hjj
          rw [posL_all hc]
          have hnx : ∀ ty, (Instr.next (.pointer (some ⟨w2.heap.size, 0, none⟩)) true ty).run Tryd.prog (w2.iter s s.size) = _ := fun ty => run_next_end w2 s s.size ty (by omega)
          go_wp2
          go_ret
          exact ⟨rfl, hB3.alloc hB3.size _⟩

set_option maxHeartbeats 6400000 in
set_option maxRecDepth 100000 in
theorem widths_wide (s : ByteArray) (w : World) (hT : Tabs w) (hs : s.size ≤ 300) {cs : List Nat} (hc : Ch.chars s.data.toList = some cs) (h0 : cs ≠ []) (hn : Ch.isNarrow cs = false) :
    Calls Tryd.prog 7 #[.string s] w fun e w' => e = .returned (.bool true) ∧ Below w.heap.size w w' := by
  have kA := hide (awake32 w hT)
  have kN := hide (fun w => rune_count hc (by omega) w)
  have hl := (chars_small hc).2
  have hlp : 0 < cs.length := List.length_pos_iff.2 h0
  have qs : s.toList.isEmpty = false := by
    rw [ByteArray.toList_eq]
    cases e : s.data.toList with
    | nil =>
      exfalso
      have h9 : s.size = ([] : List UInt8).length := by rw [Lib.size_eq, e]
      have h8 : ([] : List UInt8).length = 0 := rfl
      omega
    | cons a b => rfl
  have kC : ∀ w, Tabs w → Calls Tryd.prog 11 #[.string s] w fun e w' => e = .returned (.tuple #[.string ⟨(Ch.comp cs).toArray⟩, .int .i64 0]) ∧ Below w.heap.size w w' := by
    intro w hT
    have h := udf_Compress s w hT (by omega)
    rwa [(compS_some hc).1, (compS_some hc).2] at h
  have kC := hide kC
  generalize hD : (⟨(Ch.comp cs).toArray⟩ : ByteArray) = D at kC
  have hD := hD.symm
  have hsz : (D.size : Int) = 1 + 2 * (cs.length : Int) := by rw [hD, Lib.size_eq]; show ((Ch.comp cs).length : Int) = _; rw [wide_bytes hn h0, List.length_cons, Ch.ucs_length]; omega
  have b0 : ∀ h, ((D[0]'h).toNat : Int) = 16 := fun h => by rw [byte_at, hD]; show (((Ch.comp cs).getD 0 0).toNat : Int) = _; rw [wide_bytes hn h0]; rfl
  have bj : ∀ j (hj : j < cs.length) h, ((D[1 + 2 * j]'h).toNat : Int) = ((cs[j] / 256 : Nat) : Int) := fun j hj h => by
    rw [byte_at, hD]
    show (((Ch.comp cs).getD (1 + 2 * j) 0).toNat : Int) = _
    rw [wide_bytes hn h0, Nat.add_comm, List.getD_cons_succ, (ucs_at cs j hj (chars_small hc).1).1]
  have bk : ∀ j (hj : j < cs.length) h, ((D[1 + 2 * j + 1]'h).toNat : Int) = ((cs[j] % 256 : Nat) : Int) := fun j hj h => by
    rw [byte_at, hD]
    show (((Ch.comp cs).getD (1 + 2 * j + 1) 0).toNat : Int) = _
    rw [wide_bytes hn h0, show 1 + 2 * j + 1 = (2 * j + 1) + 1 by omega, List.getD_cons_succ, (ucs_at cs j hj (chars_small hc).1).2]
  have HD := Lib.hid hD
  clear hD
  have Hs := Lib.hid hs
  go_enter Tryd.func7, Tryd.ntmps7
  go_wp2_with fail
  refine (unhide kA).mono ?_
  rintro e w0 ⟨rfl, hb0⟩
  have hT0 := tabs_below hT (Nat.le_refl _) hb0
  go_wp2_with fail
  refine (unhide kC _ hT0).mono ?_
  rintro e w1 ⟨rfl, hb1⟩
  have hB1 := hb0.trans (hb1.mono hb0.size)
  go_wp2_with fail
  go_loopw [5] (fun n wr => ∃ j, j ≤ cs.length ∧ wr = w1.iter s (posL cs j) ∧ n = .int .i64 (if Ch.isNarrow (cs.take j) = true then 1 else 2)) (fun _ wr => s.size - wr.iterPos w1.heap.size)
  case atStart => exact ⟨0, Nat.zero_le _, by rw [posL_zero], rfl⟩
  case round =>
    obtain ⟨j, hj, rfl, rfl⟩ := hrel
    by_cases hjl : j < cs.length
    · obtain ⟨hd1, hp⟩ := posL_at hc hjl
      have hnx : ∀ ty, (Instr.next (.pointer (some ⟨w1.heap.size, 0, none⟩)) true ty).run Tryd.prog (w1.iter s (posL cs j)) = _ := fun ty => run_next_any w1 s (posL cs j) ty hp
      rw [hd1] at hnx
      have hsucc := posL_succ hjl
      have hpos := Ch.enc_pos cs[j]
      by_cases hc255 : (255 : Int) < (cs[j] : Int)
      · have hif : Ch.isNarrow (cs.take (j + 1)) = false := by
          cases e : Ch.isNarrow (cs.take (j + 1))
          · rfl
          · exfalso
            have := Ch.isNarrow_iff.1 e cs[j] (by rw [← List.take_append_getElem hjl]; exact List.mem_append_right _ (List.mem_singleton.2 rfl))
            omega
        go_wp2
        go_roundw
        case rel => exact ⟨j + 1, by omega, by rw [hsucc], by rw [hif]; rfl⟩
        case measure => simp; omega
      · have hif : Ch.isNarrow (cs.take (j + 1)) = Ch.isNarrow (cs.take j) := by
          rw [Bool.eq_iff_iff, Ch.isNarrow_iff, Ch.isNarrow_iff, ← List.take_append_getElem hjl]
          constructor
          · intro h c hc; exact h c (List.mem_append_left _ hc)
          · intro h c hc
            rcases List.mem_append.1 hc with h1 | h1
            · exact h c h1
            · rw [List.mem_singleton.1 h1]; omega
        go_wp2
        go_roundw
        case rel => exact ⟨j + 1, by omega, by rw [hsucc], by rw [hif]⟩
        case measure => simp; omega
    · have hjj : j = cs.length := by omega
      subst hjj
      rw [posL_all hc]
      have hnx : ∀ ty, (Instr.next (.pointer (some ⟨w1.heap.size, 0, none⟩)) true ty).run Tryd.prog (w1.iter s s.size) = _ := fun ty => run_next_end w1 s s.size ty (by omega)
      rw [List.take_length, hn]
      simp only [Bool.false_eq_true, if_false]
      have hB2 : Below w.heap.size w (w1.iter s s.size) := hB1.alloc hB1.size _
      have hpD : 0 < D.size := by omega
      have b00 := b0 hpD
      go_wp2_with (go_at_call 23; refine (unhide kN _).mono ?_; rintro e w2 ⟨rfl, hb2⟩)
      have hB3 := hB2.trans (hb2.mono hB2.size)
      go_loopw [8] (fun n wr => ∃ j : Nat, j ≤ cs.length ∧ wr = w2.iter s (posL cs j) ∧ n = .int .i64 ((1 + 2 * j : Nat) : Int)) (fun _ wr => s.size - wr.iterPos w2.heap.size)
      case atStart => exact ⟨0, Nat.zero_le _, by rw [posL_zero], rfl⟩
      case round =>
        obtain ⟨j, hj, rfl, rfl⟩ := hrel
        by_cases hjl : j < cs.length
        · obtain ⟨hd1, hp⟩ := posL_at hc hjl
          have hnx : ∀ ty, (Instr.next (.pointer (some ⟨w2.heap.size, 0, none⟩)) true ty).run Tryd.prog (w2.iter s (posL cs j)) = _ := fun ty => run_next_any w2 s (posL cs j) ty hp
          rw [hd1] at hnx
          have hsucc := posL_succ hjl
          have hpos := Ch.enc_pos cs[j]
          have hcb := (chars_small hc).1 _ (List.getElem_mem hjl)
          have g1 : 1 + 2 * j < D.size := by omega
          have v1 := bj j hjl g1
          have g2 : 1 + 2 * j + 1 < D.size := by omega
          have v2 := bk j hjl g2
          obtain ⟨hi, lo, e1, e2, hm, hlo, hhi⟩ : ∃ hi lo : Nat, cs[j] / 256 = hi ∧ cs[j] % 256 = lo ∧ 256 * hi + lo = cs[j] ∧ lo < 256 ∧ hi < 256 := ⟨_, _, rfl, rfl, by omega, by omega, by omega⟩
          rw [e1] at v1
          rw [e2] at v2
          have q3 : ((256 * (hi : Int) + (lo : Int)) != (cs[j] : Int)) = false := by rw [bne_eq_false_iff_eq]; omega
          clear e1 e2 hm
          go_wp2
          go_roundw
          case rel => exact ⟨j + 1, by omega, by rw [hsucc], by first | (congr 1; done) | (congr 1; omega)⟩
          case measure => simp; omega
        · have hjj : j = cs.length := by omega
          subst hjj
          rw [posL_all hc]
          have hnx : ∀ ty, (Instr.next (.pointer (some ⟨w2.heap.size, 0, none⟩)) true ty).run Tryd.prog (w2.iter s s.size) = _ := fun ty => run_next_end w2 s s.size ty (by omega)
          go_wp2
          go_ret
          exact ⟨rfl, hB3.alloc hB3.size _⟩

set_option maxHeartbeats 3200000 in
set_option maxRecDepth 100000 in
theorem walk_UdfstringWidths (s : ByteArray) (w : World) (hT : Tabs w) (h1 : s.size ≤ maxLen) :
    Calls Tryd.prog 7 #[.string s] w fun e w' => e = .returned (.bool true) ∧ Below w.heap.size w w' := by
  have kA := hide (awake32 w hT)
  unfold maxLen at h1
  by_cases hs : s.size ≤ 300
  · cases hc : Ch.chars s.data.toList with
    | none =>
      have kC : ∀ w, Tabs w → Calls Tryd.prog 11 #[.string s] w fun e w' => e = .returned (.tuple #[.string ⟨#[]⟩, .int .i64 3]) ∧ Below w.heap.size w w' := by
        intro w hT
        have h := udf_Compress s w hT (by omega)
        rwa [(compS_none hc).1, (compS_none hc).2] at h
      have kC := hide kC
      clear hc
      go_enter Tryd.func7, Tryd.ntmps7
      go_wp2_with fail
      refine (unhide kA).mono ?_
      rintro e w0 ⟨rfl, hb0⟩
      have hT0 := tabs_below hT (Nat.le_refl _) hb0
      go_wp2_with fail
      refine (unhide kC _ hT0).mono ?_
      rintro e w1 ⟨rfl, hb1⟩
      go_wp2_with fail
      go_ret
      exact ⟨rfl, hb0.trans (hb1.mono hb0.size)⟩
    | some cs =>
      by_cases h0 : cs = []
      · subst h0
        have hs0 : s = ⟨#[]⟩ := chars_back hc
        have kC : ∀ w, Tabs w → Calls Tryd.prog 11 #[.string s] w fun e w' => e = .returned (.tuple #[.string ⟨#[]⟩, .int .i64 0]) ∧ Below w.heap.size w w' := by
          intro w hT
          have h := udf_Compress s w hT (by omega)
          rwa [(compS_some hc).1, (compS_some hc).2] at h
        have kC := hide kC
        clear hc
        subst hs0
        go_enter Tryd.func7, Tryd.ntmps7
        go_wp2_with fail
        refine (unhide kA).mono ?_
        rintro e w0 ⟨rfl, hb0⟩
        have hT0 := tabs_below hT (Nat.le_refl _) hb0
        go_wp2_with fail
        refine (unhide kC _ hT0).mono ?_
        rintro e w1 ⟨rfl, hb1⟩
        go_wp2_with fail
        go_ret
        exact ⟨rfl, hb0.trans (hb1.mono hb0.size)⟩
      · cases hn : Ch.isNarrow cs with
        | true => exact widths_narrow s w hT hs hc h0 hn
        | false => exact widths_wide s w hT hs hc h0 hn
  · have hs' : 300 < s.size := by omega
    go_enter Tryd.func7, Tryd.ntmps7
    go_wp2_with fail
    refine (unhide kA).mono ?_
    rintro e w0 ⟨rfl, hb0⟩
    go_wp2_with fail
    go_ret
    exact ⟨rfl, hb0⟩
end Go.Proofs.YtgejjnbgeiappaaDoor
