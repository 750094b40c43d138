/-
  The reference's ParseEntity at each string.
-/
import Derived.Test.YtokcpammdhkecaaGreatDoorGg
import Derived.Test.YtokcpammdhkecaaGreatDoorPDecodexk
namespace Go.Proofs.YtokcpammdhkecaaGreatDoor
open Go.RowKit Go.Proofs.YtokcpammdhkecaaGreatDoorW.PrintWords

theorem bt_list (s : ByteArray) (i : Int) : bt s i = ((s.data.toList.getD i.toNat 0).toNat : Int) := by
  unfold bt
  split
  next h =>
    have h' : i.toNat < s.data.toList.length := by rw [← Lib.size_eq]; exact h
    rw [List.getD_eq_getElem?_getD, List.getElem?_eq_getElem h']
    rfl
  next h =>
    have h' : s.data.toList.length ≤ i.toNat := by rw [← Lib.size_eq]; omega
    rw [List.getD_eq_getElem?_getD, List.getElem?_eq_none h']
    rfl
theorem w64 {n : Int} (h1 : -9223372036854775808 ≤ n) (h2 : n ≤ 9223372036854775807) : wrap64 n = n := IntWalk.wrap64_in n ⟨h1, h2⟩
theorem zeros_eq (n : Nat) (l : List UInt8) (h : l.length = n) : (l == List.replicate n 0) = l.all (· == 0) := by
  subst h
  rw [Bool.eq_iff_iff, beq_iff_eq, List.all_eq_true]
  constructor
  · intro h x hx
    rw [h] at hx
    rw [(List.mem_replicate.1 hx).2]; rfl
  · intro h
    exact List.eq_replicate_iff.2 ⟨rfl, fun x hx => by simpa using h x hx⟩

section
open Go.Proofs.YtokcpammdhkecaaGreatDoor.PDecode
theorem pe_repeat_loop (n : Nat) (hn : n ≤ 1000) : ∀ (m i : Nat) (acc : List Int), i + m = n → acc.length = i →
    Ev (fun k => masterdiscref01_Repeat.l0 k 0 (n : Int) acc (i : Int)) ⟨((acc.map fun (x : Int) => UInt8.ofNat x.toNat) ++ List.replicate m 0).toArray⟩
  | 0, i, acc, hi, ha => by
    refine Ev.step (f := fun _ => some _) (fun k => ?_) (Ev.now _)
    simp only [masterdiscref01_Repeat.l0]
    rw [if_neg (by omega)]
    congr 1
    simp [strOfNums]
  | m + 1, i, acc, hi, ha => by
    have ih := pe_repeat_loop n hn m (i + 1) (acc ++ [0]) (by omega) (by simp [ha])
    refine Ev.step (fun k => ?_) (f := fun k => masterdiscref01_Repeat.l0 k 0 (n : Int) (acc ++ [0]) ((i + 1 : Nat) : Int)) ?_
    · simp only [masterdiscref01_Repeat.l0]
      rw [if_pos (by omega), if_pos (by omega), w64 (by omega) (by omega)]
      rfl
    · have e : ((acc.map fun (x : Int) => UInt8.ofNat x.toNat) ++ List.replicate (m + 1) 0) = ((acc ++ [(0 : Int)]).map fun (x : Int) => UInt8.ofNat x.toNat) ++ List.replicate m 0 := by
        simp [List.replicate_succ]
      rw [e]; exact ih
theorem pe_Repeat (n : Nat) (hn : n ≤ 1000) : Ev (fun k => masterdiscref01_Repeat.f k 0 (n : Int)) (zS n) := by
  have := pe_repeat_loop n hn n 0 [] (by omega) rfl
  rw [List.map_nil, List.nil_append] at this
  refine Ev.congr (fun k => ?_) this
  simp [masterdiscref01_Repeat.f]

theorem pe_print_loop (s : ByteArray) (hs : s.size ≤ 1000) : ∀ (t : List UInt8) (i : Nat), s.data.toList.drop i = t → i + t.length = s.size →
    Ev (fun k => masterdiscref32_printable.l0 k s (i : Int)) (prL t)
  | [], i, ht, hi => by
    simp only [List.length_nil] at hi
    refine Ev.step (f := fun _ => some _) (fun k => ?_) (Ev.now _)
    simp only [masterdiscref32_printable.l0]
    rw [if_neg (by omega)]
    rfl
  | b :: t, i, ht, hi => by
    simp only [List.length_cons] at hi
    have hb : bt s (i : Int) = (b.toNat : Int) := by
      rw [bt_list]
      have h0 : (s.data.toList.drop i)[0]? = some b := by rw [ht]; rfl
      rw [List.getElem?_drop, Nat.add_zero] at h0
      rw [Int.toNat_natCast, List.getD_eq_getElem?_getD, h0]; rfl
    have ht' : s.data.toList.drop (i + 1) = t := by rw [← List.drop_drop, ht]; rfl
    by_cases h1 : 32 ≤ b.toNat
    · by_cases h2 : b.toNat ≤ 126
      · have hp : prL (b :: t) = prL t := by
          have hpb : prB b = true := by unfold prB; rw [decide_eq_true_eq]; exact ⟨h1, h2⟩
          unfold prL; rw [List.all_cons, hpb, Bool.true_and]
        rw [hp]
        have ih := pe_print_loop s hs t (i + 1) ht' (by omega)
        refine Ev.step (fun k => ?_) ih
        simp only [masterdiscref32_printable.l0]
        rw [if_pos (by omega), if_pos (by omega), hb, if_neg (by omega), if_neg (by omega), w64 (by omega) (by omega)]
        rfl
      · have hp : prL (b :: t) = false := by
          have hpb : prB b = false := by unfold prB; rw [decide_eq_false_iff_not]; intro h; exact h2 h.2
          unfold prL; rw [List.all_cons, hpb, Bool.false_and]
        rw [hp]
        refine Ev.step (f := fun _ => some _) (fun k => ?_) (Ev.now _)
        simp only [masterdiscref32_printable.l0]
        rw [if_pos (by omega), if_pos (by omega), hb, if_neg (by omega), if_pos (by omega)]
    · have hp : prL (b :: t) = false := by
        have hpb : prB b = false := by unfold prB; rw [decide_eq_false_iff_not]; intro h; exact h1 h.1
        unfold prL; rw [List.all_cons, hpb, Bool.false_and]
      rw [hp]
      refine Ev.step (f := fun _ => some _) (fun k => ?_) (Ev.now _)
      simp only [masterdiscref32_printable.l0]
      rw [if_pos (by omega), if_pos (by omega), hb, if_pos (by omega)]
theorem pe_printable (s : ByteArray) (hs : s.size ≤ 1000) : Ev (fun k => masterdiscref32_printable.f k s) (prL s.data.toList) := by
  have := pe_print_loop s hs s.data.toList 0 rfl (by rw [← Lib.size_eq, Nat.zero_add])
  refine Ev.congr (fun k => ?_) this
  simp [masterdiscref32_printable.f]

theorem pe_end (f : ByteArray) (h32 : f.size = 32) : Ev (fun k => masterdiscref32_ParseEntity.j1 k f (peN f : Int)) (peI f, peX f, peE f) := by
  have hn := peN_le h32
  by_cases h0 : peN f = 0
  · have ho : peO f = false := by unfold peO; rw [decide_eq_false (by omega), Bool.false_and]
    obtain ⟨r1, r2, r3⟩ := pe_no h32 ho
    rw [r1, r2, r3]
    refine Ev.step (f := fun _ => some _) (fun k => ?_) (Ev.now _)
    simp only [masterdiscref32_ParseEntity.j1]
    rw [if_pos (by omega)]
  · have hw : wrap64 (1 + (peN f : Int)) = 1 + (peN f : Int) := w64 (by omega) (by omega)
    have hw3 : wrap64 (23 - (peN f : Int)) = ((23 - peN f : Nat) : Int) := by rw [w64 (by omega) (by omega)]; omega
    have hP := pe_printable (f.extract 1 (1 + peN f)) (by rw [size_I h32]; omega)
    rw [ext_I h32] at hP
    have hZ := pe_Repeat (23 - peN f) (by omega)
    have hrest : ((f.extract (1 + peN f) 24).toList == (zS (23 - peN f)).toList) = ((peA f).drop (peN f)).all (· == 0) := by
      rw [ByteArray.toList_eq, ByteArray.toList_eq, ext_R h32]
      exact zeros_eq (23 - peN f) _ (by rw [List.length_drop, peA_length h32])
    have ho : peO f = (prL ((peA f).take (peN f)) && ((peA f).drop (peN f)).all (· == 0)) := by unfold peO; rw [decide_eq_true (by omega), Bool.true_and]
    refine Ev.step (fun k => by
      simp only [masterdiscref32_ParseEntity.j1]
      rw [if_neg (by omega), hw, if_pos (by omega), if_pos (by omega), show (1 + (peN f : Int)).toNat = 1 + peN f by omega, hw3]) ?_
    refine Ev.bind hP ?_
    cases hb1 : prL ((peA f).take (peN f)) with
    | false =>
      obtain ⟨r1, r2, r3⟩ := pe_no h32 (by rw [ho, hb1, Bool.false_and])
      rw [r1, r2, r3]
      refine Ev.congr (fun k => ?_) (Ev.now _)
      rw [if_neg (by simp)]
    | true =>
      refine Ev.congr (f := fun k => (masterdiscref01_Repeat.f k 0 ((23 - peN f : Nat) : Int)).bind fun t164 => (if (f.extract (1 + peN f) 24).toList = t164.toList then (some (f.extract 1 (1 + peN f), f.extract 24 f.size, 0)) else (some ((⟨#[]⟩ : ByteArray), (⟨#[]⟩ : ByteArray), 10)))) (fun k => ?_) ?_
      · rw [if_pos rfl, if_pos (by omega), if_pos (by omega), if_pos (by omega)]
      · refine Ev.bind hZ ?_
        cases hb2 : ((peA f).drop (peN f)).all (· == 0) with
        | false =>
          obtain ⟨r1, r2, r3⟩ := pe_no h32 (by rw [ho, hb1, hb2]; rfl)
          rw [r1, r2, r3]
          rw [hb2, beq_eq_false_iff_ne] at hrest
          refine Ev.congr (fun k => ?_) (Ev.now _)
          rw [if_neg hrest]
        | true =>
          obtain ⟨r1, r2, r3⟩ := pe_yes h32 (by rw [ho, hb1, hb2]; rfl)
          rw [r1, r2, r3]
          rw [hb2, beq_iff_eq] at hrest
          refine Ev.congr (fun k => ?_) (Ev.now _)
          rw [if_pos hrest]

theorem pe_loop (f : ByteArray) (h32 : f.size = 32) : ∀ (m j : Nat), j + m = peN f → Ev (fun k => masterdiscref32_ParseEntity.l0 k f (j : Int)) (peI f, peX f, peE f)
  | 0, j, hj => by
    have hn := peN_le h32
    have hj' : j = peN f := by omega
    rw [hj']
    by_cases h23 : peN f < 23
    · have hbt : bt f (1 + (peN f : Int)) = 0 := by
        have h := nz_at (peA f) (by rw [peA_length h32]; exact h23)
        have hnn : nz (peA f) = peN f := rfl
        rw [hnn] at h
        rw [bt_list, show (1 + (peN f : Int)).toNat = 1 + peN f by omega]
        unfold peA at h
        rw [List.getD_eq_getElem?_getD, List.getElem?_take_of_lt h23, List.getElem?_drop] at h
        rw [List.getD_eq_getElem?_getD, h]; rfl
      refine Ev.step (fun k => ?_) (pe_end f h32)
      simp only [masterdiscref32_ParseEntity.l0]
      rw [if_pos (by omega), w64 (by omega) (by omega), if_pos (by omega), if_pos (by omega), hbt, if_pos rfl]
    · refine Ev.step (fun k => ?_) (pe_end f h32)
      simp only [masterdiscref32_ParseEntity.l0]
      rw [if_neg (by omega)]
  | m + 1, j, hj => by
    have hn := peN_le h32
    have ih := pe_loop f h32 m (j + 1) (by omega)
    have hbt : bt f (1 + (j : Int)) ≠ 0 := by
      have h := nz_lt (peA f) j (by have hnn : nz (peA f) = peN f := rfl; omega)
      rw [bt_list, show (1 + (j : Int)).toNat = 1 + j by omega]
      unfold peA at h
      rw [List.getD_eq_getElem?_getD, List.getElem?_take_of_lt (by omega), List.getElem?_drop] at h
      rw [List.getD_eq_getElem?_getD]
      intro e
      exact h (by apply UInt8.toNat_inj.1; have : (0 : UInt8).toNat = 0 := rfl; omega)
    refine Ev.step (fun k => ?_) ih
    simp only [masterdiscref32_ParseEntity.l0]
    rw [if_pos (by omega), w64 (by omega) (by omega), if_pos (by omega), if_pos (by omega), if_neg hbt, w64 (by omega) (by omega)]
    rfl
theorem pe_f (f : ByteArray) : Ev (fun k => masterdiscref32_ParseEntity.f k f) (peI f, peX f, peE f) := by
  by_cases h32 : f.size = 32
  · have := pe_loop f h32 (peN f) 0 (by omega)
    refine Ev.congr (fun k => ?_) this
    simp only [masterdiscref32_ParseEntity.f]
    rw [if_pos (by omega)]; rfl
  · obtain ⟨r1, r2, r3⟩ := pe_arg h32
    rw [r1, r2, r3]
    refine Ev.congr (fun k => ?_) (Ev.now _)
    simp only [masterdiscref32_ParseEntity.f]
    rw [if_neg (by omega)]
theorem rf_ParseEntity (f : ByteArray) (w : World) :
    Calls Tryz.prog 68 #[.string f] w fun e w' => e = .returned (.tuple #[.string (peI f), .string (peX f), .int .i64 (peE f)]) ∧ Below w.heap.size w w' := by
  obtain ⟨k, hk⟩ := (pe_f f).rounds
  exact masterdiscref32_ParseEntity.calls k f _ _ _ w hk
end
end Go.Proofs.YtokcpammdhkecaaGreatDoor
