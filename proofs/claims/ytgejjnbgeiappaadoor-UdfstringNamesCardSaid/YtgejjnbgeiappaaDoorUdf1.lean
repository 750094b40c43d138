/-
  udfstring.compressed and udfstring.Compress, masterdiscref32.Compress: the compressed Unicode of a text.
-/
import Derived.Test.YtgejjnbgeiappaaDoorPcompressedx
import Derived.Test.YtgejjnbgeiappaaDoorSqueeze
import Derived.Test.YtgejjnbgeiappaaDoorChars2
namespace Go.Proofs.YtgejjnbgeiappaaDoor
open Go.RowKit Go.Proofs.YtgejjnbgeiappaaDoorW.PrintWords Go.Proofs.YtgejjnbgeiappaaDoorW.PrintMore

section
open Go.Proofs.YtgejjnbgeiappaaDoor.Pcompressed
theorem shr_8 (c : Nat) : shr .i64 (c : Int) 8 = ((c / 256 : Nat) : Int) := by
  unfold shr
  rw [show min (8 : Int).toNat IntKind.i64.bits = 8 from by decide]
  omega
theorem shr_0 (c : Nat) : shr .i64 (c : Int) 0 = (c : Int) := by
  unfold shr
  rw [show min (0 : Int).toNat IntKind.i64.bits = 0 from by decide]
  omega
theorem compressed_loop (cs : List Nat) (hc : ∀ c ∈ cs, c ≤ 65535) (hl : cs.length ≤ 100000) (size : Nat) (h12 : size = 1 ∨ size = 2) : ∀ (m i : Nat) (acc : List Int), i + m = cs.length → acc.length ≤ 2 * i + 1 →
    Ev (fun k => udfstring_compressed.l0 k (size : Int) acc (nat2int cs) (cs.length : Int) (i : Int)) ⟨((acc.map fun x => UInt8.ofNat x.toNat) ++ (cs.drop i).flatMap (wbytes size)).toArray⟩
  | 0, i, acc, hi, ha => by
    refine Ev.step (f := fun _ => some _) (fun k => ?_) (Ev.now _)
    simp only [udfstring_compressed.l0]
    rw [if_neg (by omega), List.drop_of_length_le (by omega)]
    congr 1
    simp [strOfNums]
  | m + 1, i, acc, hi, ha => by
    have hil : i < cs.length := by omega
    have hci := hc (cs[i]'hil) (List.getElem_mem _)
    refine Ev.step (fun k => by simp only [udfstring_compressed.l0]; rw [if_pos (by omega), if_pos (by omega), if_pos (by rw [nat2int_length]; omega), rd_nat cs i hil]) ?_
    rcases h12 with rfl | rfl
    · have ih := compressed_loop cs hc hl 1 (.inl rfl) m (i + 1) (acc ++ [((cs[i]'hil % 256 : Nat) : Int)]) (by omega) (by simp; omega)
      refine Ev.step (fun k => by
        simp only [udfstring_compressed.l1]
        rw [if_pos (by decide), show wrap64 (8 * wrap64 (wrap64 (((1 : Nat) : Int) - 1) - 0)) = 0 from by unfold wrap64; omega, if_pos (by decide), if_pos (by omega), shr_0, show wrap64 ((0 : Int) + 1) = 1 from by unfold wrap64; omega,
          show ((cs[i]'hil : Nat) : Int) % 256 = ((cs[i]'hil % 256 : Nat) : Int) from by omega]) ?_
      refine Ev.step (fun k => by simp only [udfstring_compressed.l1]; rw [if_neg (by decide), w64 (n := (i : Int) + 1) (by omega) (by omega)]) ?_
      have e : ((acc.map fun x => UInt8.ofNat x.toNat) ++ (cs.drop i).flatMap (wbytes 1)) = ((acc ++ [((cs[i]'hil % 256 : Nat) : Int)]).map fun x => UInt8.ofNat x.toNat) ++ (cs.drop (i + 1)).flatMap (wbytes 1) := by
        rw [List.drop_eq_getElem_cons hil, List.flatMap_cons, List.map_append, List.append_assoc, List.map_cons, List.map_nil, Int.toNat_natCast]
        rfl
      rw [e]; exact ih
    · have ih := compressed_loop cs hc hl 2 (.inr rfl) m (i + 1) (acc ++ [((cs[i]'hil / 256 % 256 : Nat) : Int), ((cs[i]'hil % 256 : Nat) : Int)]) (by omega) (by simp; omega)
      refine Ev.step (fun k => by
        simp only [udfstring_compressed.l1]
        rw [if_pos (by decide), show wrap64 (8 * wrap64 (wrap64 (((2 : Nat) : Int) - 1) - 0)) = 8 from by unfold wrap64; omega, if_pos (by decide), if_pos (by omega), shr_8, show wrap64 ((0 : Int) + 1) = 1 from by unfold wrap64; omega,
          show ((cs[i]'hil / 256 : Nat) : Int) % 256 = ((cs[i]'hil / 256 % 256 : Nat) : Int) from by omega]) ?_
      refine Ev.step (fun k => by
        simp only [udfstring_compressed.l1]
        rw [if_pos (by decide), show wrap64 (8 * wrap64 (wrap64 (((2 : Nat) : Int) - 1) - 1)) = 0 from by unfold wrap64; omega, if_pos (by decide), if_pos (by rw [List.length_append]; simp only [List.length_cons, List.length_nil]; omega), shr_0, show wrap64 ((1 : Int) + 1) = 2 from by unfold wrap64; omega,
          show ((cs[i]'hil : Nat) : Int) % 256 = ((cs[i]'hil % 256 : Nat) : Int) from by omega, List.append_assoc]) ?_
      refine Ev.step (fun k => by simp only [udfstring_compressed.l1]; rw [if_neg (by decide), w64 (n := (i : Int) + 1) (by omega) (by omega)]) ?_
      have e : ((acc.map fun x => UInt8.ofNat x.toNat) ++ (cs.drop i).flatMap (wbytes 2)) = ((acc ++ [((cs[i]'hil / 256 % 256 : Nat) : Int), ((cs[i]'hil % 256 : Nat) : Int)]).map fun x => UInt8.ofNat x.toNat) ++ (cs.drop (i + 1)).flatMap (wbytes 2) := by
        rw [List.drop_eq_getElem_cons hil, List.flatMap_cons, List.map_append, List.append_assoc, List.map_cons, List.map_cons, List.map_nil, Int.toNat_natCast, Int.toNat_natCast]
        rfl
      rw [e]; exact ih
theorem udf_compressed (A : Option Addr) (c : Nat) (cs : List Nat) (size : Nat) (w : World) (hr : Row w A (nat2int cs)) (hcap : cs.length ≤ c) (hc : ∀ c ∈ cs, c ≤ 65535) (hl : cs.length ≤ 100000) (h12 : size = 1 ∨ size = 2) :
    Calls Tryd.prog 33 #[.slice A cs.length c, .int .i64 (size : Int)] w fun e w' => e = .returned (.string ⟨(UInt8.ofNat (8 * size) :: cs.flatMap (wbytes size)).toArray⟩) ∧ Below w.heap.size w w' := by
  have hE : Ev (fun k => udfstring_compressed.f k (nat2int cs) (size : Int)) ⟨(UInt8.ofNat (8 * size) :: cs.flatMap (wbytes size)).toArray⟩ := by
    have := compressed_loop cs hc hl size h12 cs.length 0 [((8 * size : Nat) : Int)] (by omega) (by simp)
    simp only [List.map_cons, List.map_nil, Int.toNat_natCast, List.drop_zero, List.cons_append, List.nil_append] at this
    refine Ev.congr (fun k => ?_) this
    unfold udfstring_compressed.f
    rw [w64 (by omega) (by omega), nat2int_length, show (8 * (size : Int)) % 256 = ((8 * size : Nat) : Int) from by omega]
    rfl
  obtain ⟨k, hk⟩ := hE.rounds
  have := udfstring_compressed.calls k A c (nat2int cs) size _ w (Kd.C_of_reads (enc := Value.int .i64) (d := (0 : Int)) hr.reads) (by rw [nat2int_length]; exact hcap) hk
  rw [nat2int_length] at this
  exact this
end

/-- The compressed Unicode of a string, and the error. -/
def compS (s : ByteArray) : ByteArray := match Ch.chars s.data.toList with | some cs => ⟨(Ch.comp cs).toArray⟩ | none => ⟨#[]⟩
def compE (s : ByteArray) : Int := match Ch.chars s.data.toList with | some _ => 0 | none => 3
theorem compS_some {s : ByteArray} {cs : List Nat} (h : Ch.chars s.data.toList = some cs) : compS s = ⟨(Ch.comp cs).toArray⟩ ∧ compE s = 0 := by unfold compS compE; rw [h]; exact ⟨rfl, rfl⟩
theorem compS_none {s : ByteArray} (h : Ch.chars s.data.toList = none) : compS s = ⟨#[]⟩ ∧ compE s = 3 := by unfold compS compE; rw [h]; exact ⟨rfl, rfl⟩
theorem chars_small {s : ByteArray} {cs : List Nat} (h : Ch.chars s.data.toList = some cs) : (∀ c ∈ cs, c ≤ 65535) ∧ cs.length ≤ s.size := by
  refine ⟨fun c hc => ?_, by rw [Lib.size_eq]; exact Ch.chars_length h⟩
  have := Ch.isCh_iff.1 ((Ch.chars_iff.1 h).1 c hc)
  omega
theorem maxOf_le (b : Int) : ∀ (l : List Int) (a : Int), l.foldl max a ≤ b ↔ a ≤ b ∧ ∀ x ∈ l, x ≤ b
  | [], a => by simp
  | x :: l, a => by
    rw [List.foldl_cons, maxOf_le b l]
    simp only [List.mem_cons, forall_eq_or_imp]
    constructor
    · intro ⟨h1, h2⟩; exact ⟨by omega, by omega, h2⟩
    · intro ⟨h1, h2, h3⟩; exact ⟨by omega, h3⟩
theorem max_narrow {cs : List Nat} (hn : 0 < cs.length) : Lib.maxOf ((nat2int cs).take cs.length) ≤ 255 ↔ Ch.isNarrow cs = true := by
  rw [List.take_of_length_le (by rw [nat2int_length]; exact Nat.le_refl _), Ch.isNarrow_iff]
  unfold Lib.maxOf
  rw [maxOf_le]
  constructor
  · intro ⟨_, h⟩ c hc
    have := h (c : Int) (List.mem_map_of_mem hc)
    omega
  · intro h
    refine ⟨?_, fun x hx => ?_⟩
    · cases cs with
      | nil => simp at hn
      | cons c cs => have := h c (by simp); simp [nat2int]; omega
    · obtain ⟨c, hc, rfl⟩ := List.mem_map.1 hx
      have := h c hc
      omega

theorem Row.cells {w : World} {g : Nat} {xs : List Int} (h : Row w (some ⟨g, 0, none⟩) xs) (j : Nat) (hj : j < xs.length) : w.cell? ⟨g, 0 + j, none⟩ = some (.int .i64 (xs.getD j 0)) := by
  obtain ⟨ad, e, hc⟩ := h.at_ hj
  injection e with e
  subst e
  rw [← hc]
  congr 1
  unfold Addr.add
  split
  · simp_all
  · rfl
theorem max_ints {w : World} {g c : Nat} {cs : List Nat} (h : Row w (some ⟨g, 0, none⟩) (nat2int cs)) (hp : 0 < cs.length) (hl : cs.length ≤ 100000) :
    Calls Tryd.prog 32 #[.slice (some ⟨g, 0, none⟩) cs.length c] w fun e w' => e = .returned (.int .i64 (Lib.maxOf ((nat2int cs).take cs.length))) ∧ w = w' :=
  (Tryd.slices_Max_int g 0 cs.length c (nat2int cs) w hp (by rw [nat2int_length]; exact Nat.le_refl _) (by omega) h.cells).mono fun _ _ hh => ⟨hh.1, hh.2.symm⟩

set_option maxHeartbeats 1600000 in
set_option maxRecDepth 100000 in
theorem udf_Compress (s : ByteArray) (w : World) (hT : Tabs w) (hs : s.size ≤ 65536) :
    Calls Tryd.prog 11 #[.string s] w fun e w' => e = .returned (.tuple #[.string (compS s), .int .i64 (compE s)]) ∧ Below w.heap.size w w' := by
  cases hc : Ch.chars s.data.toList with
  | none =>
    have kN := hide (cs_Characters_none s w hT hs hc)
    obtain ⟨t1, t2⟩ := compS_none hc
    rw [t1, t2]
    clear hc t1 t2
    go_enter Tryd.func11, Tryd.ntmps11
    go_wp2_with (go_at_call 31; refine (unhide kN).mono ?_; rintro e w2 ⟨rfl, hb2⟩)
    go_ret2
    exact ⟨rfl, hb2⟩
  | some cs =>
    obtain ⟨hcc, hcl⟩ := chars_small hc
    have kS := hide (cs_Characters_some s w hT hs hc)
    obtain ⟨t1, t2⟩ := compS_some hc
    rw [t1, t2]
    have hcw := comp_wbytes cs hcc
    have Hc := Lib.hid hc
    clear hc t1 t2
    have HC := Lib.hid hcc
    clear hcc
    by_cases hn : cs = []
    · subst hn
      clear hcw
      go_enter Tryd.func11, Tryd.ntmps11
      go_wp2_with (go_at_call 31; refine (unhide kS).mono ?_; rintro e w2 ⟨A, c, rfl, hr, hcap, hg, hb2⟩)
      go_ret2
      exact ⟨rfl, hb2⟩
    · have hcl2 : cs.length ≤ 100000 := by omega
      have hpos : 0 < cs.length := by
        have : cs.length ≠ 0 := fun e => hn (List.eq_nil_of_length_eq_zero e)
        omega
      have Hcw := Lib.hid (hcw hn)
      have Hn := Lib.hid hn
      clear hcw hn
      have q0 : ((cs.length : Int) == 0) = false := by rw [beq_eq_false_iff_ne]; omega
      by_cases hw : Ch.isNarrow cs = true
      · have hm : Lib.maxOf ((nat2int cs).take cs.length) ≤ 255 := (max_narrow hpos).2 hw
        have Hw := Lib.hid hw
        clear hw
        go_enter Tryd.func11, Tryd.ntmps11
        go_wp2_with (first | (go_at_call 31; refine (unhide kS).mono ?_; rintro e w2 ⟨A, c, rfl, hr, hcap, hg, hb2⟩; obtain ⟨g, rfl⟩ := hg hpos) | (go_at_call 32; refine (max_ints hr hpos hcl2).mono ?_; rintro e w3 ⟨rfl, rfl⟩) | (go_at_call 33; refine (udf_compressed _ _ cs 1 w2 hr hcap HC.out hcl2 (by omega)).mono ?_; rintro e w4 ⟨rfl, hb4⟩))
        go_ret2
        refine ⟨?_, hb2.trans (hb4.mono hb2.size)⟩
        rw [Hcw.out, if_pos Hw.out]
        rfl
      · have hm : ¬ Lib.maxOf ((nat2int cs).take cs.length) ≤ 255 := fun h => hw ((max_narrow hpos).1 h)
        have Hw := Lib.hid hw
        clear hw
        go_enter Tryd.func11, Tryd.ntmps11
        go_wp2_with (first | (go_at_call 31; refine (unhide kS).mono ?_; rintro e w2 ⟨A, c, rfl, hr, hcap, hg, hb2⟩; obtain ⟨g, rfl⟩ := hg hpos) | (go_at_call 32; refine (max_ints hr hpos hcl2).mono ?_; rintro e w3 ⟨rfl, rfl⟩) | (go_at_call 33; refine (udf_compressed _ _ cs 2 w2 hr hcap HC.out hcl2 (by omega)).mono ?_; rintro e w4 ⟨rfl, hb4⟩))
        go_ret2
        refine ⟨?_, hb2.trans (hb4.mono hb2.size)⟩
        rw [Hcw.out, if_neg Hw.out]
        rfl

theorem ref_squeeze (A : Option Addr) (c : Nat) (cs : List Nat) (w : World) (hr : Row w A (nat2int cs)) (hcap : cs.length ≤ c) (hc : ∀ c ∈ cs, c ≤ 65535) (hl : cs.length ≤ 100000) :
    Calls Tryd.prog 35 #[.slice A cs.length c] w fun e w' => e = .returned (.string ⟨(Ch.comp cs).toArray⟩) ∧ Below w.heap.size w w' := by
  obtain ⟨k, hk⟩ := (ref32_squeeze cs hc hl).rounds
  have := Psqueeze.masterdiscref32_squeeze.calls k A c (nat2int cs) _ w (Kd.C_of_reads (enc := Value.int .i64) (d := (0 : Int)) hr.reads) (by rw [nat2int_length]; exact hcap) hk
  rw [nat2int_length] at this
  exact this
set_option maxHeartbeats 1600000 in
set_option maxRecDepth 100000 in
theorem ref_Compress (s : ByteArray) (w : World) (hs : s.size ≤ 65536) :
    Calls Tryd.prog 12 #[.string s] w fun e w' => e = .returned (.tuple #[.string (compS s), .int .i64 (compE s)]) ∧ Below w.heap.size w w' := by
  cases hc : Ch.chars s.data.toList with
  | none =>
    have kN := hide (ref_Characters_none s w hs hc)
    obtain ⟨t1, t2⟩ := compS_none hc
    rw [t1, t2]
    clear hc t1 t2
    go_enter Tryd.func12, Tryd.ntmps12
    go_wp2_with (go_at_call 34; refine (unhide kN).mono ?_; rintro e w2 ⟨v, rfl, hb2⟩)
    go_ret2
    exact ⟨rfl, hb2⟩
  | some cs =>
    obtain ⟨hcc, hcl⟩ := chars_small hc
    have kS := hide (ref_Characters_some s w hs hc)
    obtain ⟨t1, t2⟩ := compS_some hc
    rw [t1, t2]
    have hcl2 : cs.length ≤ 100000 := by omega
    have HC := Lib.hid hcc
    clear hc t1 t2 hcc
    go_enter Tryd.func12, Tryd.ntmps12
    go_wp2_with (first | (go_at_call 34; refine (unhide kS).mono ?_; rintro e w2 ⟨A, c, rfl, hr, hcap, hb2⟩) | (go_at_call 35; refine (ref_squeeze _ _ cs w2 hr hcap HC.out hcl2).mono ?_; rintro e w4 ⟨rfl, hb4⟩))
    go_ret2
    exact ⟨rfl, hb2.trans (hb4.mono hb2.size)⟩
end Go.Proofs.YtgejjnbgeiappaaDoor
