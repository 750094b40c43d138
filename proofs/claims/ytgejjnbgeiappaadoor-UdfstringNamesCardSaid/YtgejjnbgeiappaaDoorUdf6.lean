/-
  udfstring.Fit and the reference's: the longest prefix that fits.
-/
import Derived.Test.YtgejjnbgeiappaaDoorUdf5
namespace Go.Proofs.YtgejjnbgeiappaaDoor
open Go.RowKit Go.Proofs.YtgejjnbgeiappaaDoorW.PrintWords

def fitS (s : ByteArray) (size : Int) : ByteArray :=
  if size < 2 ∨ 255 < size then ⟨#[]⟩ else match Ch.chars s.data.toList with
  | none => ⟨#[]⟩
  | some cs => ⟨(Ch.encs (Ch.fit cs size.toNat)).toArray⟩
theorem fit_arg {s : ByteArray} {size : Int} (h : size < 2 ∨ 255 < size) : fitS s size = ⟨#[]⟩ := by unfold fitS; rw [if_pos h]
theorem fit_none {s : ByteArray} {size : Int} (hc : Ch.chars s.data.toList = none) : fitS s size = ⟨#[]⟩ := by
  unfold fitS; split
  · rfl
  · rw [hc]
theorem fit_some {s : ByteArray} {size : Int} (h2 : 2 ≤ size) (h255 : size ≤ 255) {cs : List Nat} (hc : Ch.chars s.data.toList = some cs) {n : Nat} (hn : Ch.fitN cs (size.toNat - 1) (min cs.length size.toNat) = n) : fitS s size = ⟨(Ch.encs (cs.take n)).toArray⟩ := by
  have h0 : ¬ (size < 2 ∨ 255 < size) := by omega
  unfold fitS; rw [if_neg h0, hc]
  simp only [Ch.fit, hn]

theorem chars_take {s : ByteArray} {cs : List Nat} (hc : Ch.chars s.data.toList = some cs) (n : Nat) : Ch.chars (Ch.encs (cs.take n)) = some (cs.take n) :=
  Ch.chars_complete _ fun c h => (Ch.chars_iff.1 hc).1 c (List.mem_of_mem_take h)
theorem encs_take_length {s : ByteArray} {cs : List Nat} (hc : Ch.chars s.data.toList = some cs) (n : Nat) : (Ch.encs (cs.take n)).length ≤ s.size := by
  rw [Lib.size_eq, (Ch.chars_iff.1 hc).2, ← List.take_append_drop n cs, Ch.encs_append, List.length_append, List.take_append_drop]
  omega
theorem text_take {s : ByteArray} {cs : List Nat} (hc : Ch.chars s.data.toList = some cs) (hs : s.size ≤ 20000) (A : Option Addr) (c n : Nat) (w : World) (hr : Row w A (nat2int cs)) (hn : n ≤ cs.length) :
    Calls Tryd.prog 44 #[.slice A n c] w fun e w' => e = .returned (.tuple #[.string ⟨(Ch.encs (cs.take n)).toArray⟩, .int .i64 0]) ∧ Below w.heap.size w w' := by
  have hl := (chars_small hc).2
  have ht := hr.take n (by rw [nat2int_length]; exact hn)
  have hlen : ((nat2int cs).take n).length = n := by rw [List.length_take, nat2int_length]; omega
  have hx : (nat2int cs).take n = nat2int (cs.take n) := by simp [nat2int]
  have hall : (nat2int (cs.take n)).all chI = true := by
    rw [List.all_eq_true]
    intro x hx
    obtain ⟨y, hy, rfl⟩ := List.mem_map.1 hx
    rw [chI_nat]
    exact (Ch.chars_iff.1 hc).1 y (List.mem_of_mem_take hy)
  have := cs_Text A c ((nat2int cs).take n) w ht (by rw [hlen]; omega)
  rw [hlen] at this
  refine this.mono fun e w' hh => ⟨?_, hh.2⟩
  rw [hh.1]
  unfold textS textE
  rw [hx, if_pos hall, if_pos hall]
  have hm : (nat2int (cs.take n)).map Int.toNat = cs.take n := by
    unfold nat2int
    rw [List.map_map]
    exact (List.map_congr_left fun x _ => rfl).trans (List.map_id _)
  rw [hm]
theorem comp_take {s : ByteArray} {cs : List Nat} (hc : Ch.chars s.data.toList = some cs) (n : Nat) : compS ⟨(Ch.encs (cs.take n)).toArray⟩ = ⟨(Ch.comp (cs.take n)).toArray⟩ ∧ compE ⟨(Ch.encs (cs.take n)).toArray⟩ = 0 :=
  compS_some (s := ⟨(Ch.encs (cs.take n)).toArray⟩) (chars_take hc n)

/-- The loop of Fit: all longer prefixes don't fit. -/
def FitI (cs : List Nat) (m : Nat) (n0 n : Nat) : Prop := n ≤ n0 ∧ Ch.fitN cs m n0 = Ch.fitN cs m n
theorem FitI.hit {cs : List Nat} {m n0 n : Nat} (h : FitI cs m n0 (n + 1)) (hf : (Ch.comp (cs.take (n + 1))).length ≤ m) : Ch.fitN cs m n0 = n + 1 := by
  rw [h.2]; unfold Ch.fitN; rw [if_pos hf]
theorem FitI.miss {cs : List Nat} {m n0 n : Nat} (h : FitI cs m n0 (n + 1)) (hf : m < (Ch.comp (cs.take (n + 1))).length) : FitI cs m n0 n := by
  refine ⟨by have := h.1; omega, ?_⟩
  rw [h.2]
  conv => lhs; unfold Ch.fitN
  rw [if_neg (by omega)]

set_option maxHeartbeats 3200000 in
set_option maxRecDepth 100000 in
theorem udf_Fit_some (s : ByteArray) (size : Int) (w : World) (hT : Tabs w) (hs : s.size ≤ 20000) (h2 : 2 ≤ size) (h255 : size ≤ 255) {cs : List Nat} (hc : Ch.chars s.data.toList = some cs) :
    Calls Tryd.prog 19 #[.string s, .int .i64 size] w fun e w' => e = .returned (.string (fitS s size)) ∧ Below w.heap.size w w' := by
  have kS := hide (cs_Characters_some s w hT (by omega) hc)
  obtain ⟨_, hcl⟩ := chars_small hc
  have HC := Lib.hid hc
  clear hc
  go_enter Tryd.func19, Tryd.ntmps19
  go_wp2_with (first | (go_at_call 31; refine (unhide kS).mono ?_; rintro e w2 ⟨A, c, rfl, hr, hcap, hg, hb2⟩) | (go_at_call 41; go_in))
  obtain ⟨N0, hN0⟩ : ∃ N0, N0 = min cs.length size.toNat := ⟨_, rfl⟩
  have hst : (Value.int .i64 (min (cs.length : Int) size)) = .int .i64 (N0 : Int) := by congr 1; omega
  have hN : N0 ≤ cs.length := by omega
  rw [hst]
  have HN0 := Lib.hid hN0
  have hT2 := tabs_below hT (Nat.le_refl _) hb2
  have hz2 := hb2.size
  clear hst hN0 hT
  go_loopw [7] (fun x wr => ∃ n : Nat, x = .int .i64 (n : Int) ∧ FitI cs (size.toNat - 1) N0 n ∧ Below w2.heap.size w2 wr) (fun x _ => (intOf x).toNat)
  case atStart => exact ⟨N0, rfl, ⟨Nat.le_refl _, rfl⟩, Below.refl _ _⟩
  case round =>
    obtain ⟨n, rfl, hI, hbr⟩ := hrel
    rcases Nat.eq_zero_or_pos n with h0 | hpos
    · subst h0
      have hfit := fit_some h2 h255 HC.out (n := 0) (by rw [← HN0.out, hI.2]; rfl)
      rw [List.take_zero] at hfit
      have HF := Lib.hid hfit
      clear hfit hI
      go_wp2_with fail
      go_ret
      exact ⟨by rw [HF.out]; rfl, hb2.trans (hbr.mono hz2)⟩
    · obtain ⟨m, rfl⟩ : ∃ m, n = m + 1 := ⟨n - 1, by omega⟩
      have hle := hI.1
      obtain ⟨c1, c2⟩ := comp_take HC.out (m + 1)
      have hel := encs_take_length HC.out (m + 1)
      have kT := text_take HC.out hs A c (m + 1) wr (hr.below hbr) (by omega)
      obtain ⟨T, hTT⟩ : ∃ T : ByteArray, T = ⟨(Ch.encs (cs.take (m + 1))).toArray⟩ := ⟨_, rfl⟩
      rw [← hTT] at kT c1 c2
      have hTs : T.size ≤ 65536 := by
        rw [hTT, Lib.size_eq]
        show (Ch.encs (cs.take (m + 1))).length ≤ 65536
        omega
      have kC := fun (W : World) (hW : Tabs W) => udf_Compress T W hW hTs
      obtain ⟨C, hCC⟩ : ∃ C : ByteArray, C = ⟨(Ch.comp (cs.take (m + 1))).toArray⟩ := ⟨_, rfl⟩
      rw [c1, c2, ← hCC] at kC
      have hCs : C.size = (Ch.comp (cs.take (m + 1))).length := by rw [hCC, Lib.size_eq]
      have KT := hide kT
      have KC := hide kC
      have HTT := Lib.hid hTT
      have hTr := tabs_below hT2 (Nat.le_refl _) hbr
      by_cases hf : (Ch.comp (cs.take (m + 1))).length ≤ size.toNat - 1
      · have hfit := fit_some h2 h255 HC.out (n := m + 1) (by rw [← HN0.out, hI.hit hf])
        rw [← hTT] at hfit
        have hCi : (C.size : Int) ≤ size - 1 := by omega
        have HF := Lib.hid hfit
        clear hfit hI kT kC c1 c2 hTT hCC hCs hf hTs
        go_wp2_with (first | (go_at_call 44; refine (unhide KT).mono ?_; rintro e w3 ⟨rfl, hb3⟩) | (go_at_call 11; refine (unhide KC _ (tabs_below hTr (Nat.le_refl _) hb3)).mono ?_; rintro e w4 ⟨rfl, hb4⟩))
        go_ret
        exact ⟨by rw [HF.out]; rfl, hb2.trans ((hbr.trans ((hb3.trans (hb4.mono hb3.size)).mono hbr.size)).mono hz2)⟩
      · have hCi : ¬ (C.size : Int) ≤ size - 1 := by omega
        have hmiss := hide (hI.miss (by omega))
        clear hI kT kC c1 c2 hTT hCC hCs hf hTs
        go_wp2_with (first | (go_at_call 44; refine (unhide KT).mono ?_; rintro e w3 ⟨rfl, hb3⟩) | (go_at_call 11; refine (unhide KC _ (tabs_below hTr (Nat.le_refl _) hb3)).mono ?_; rintro e w4 ⟨rfl, hb4⟩))
        go_roundw
        case rel => exact ⟨m, by go_num, unhide hmiss, hbr.trans ((hb3.trans (hb4.mono hb3.size)).mono hbr.size)⟩
        case measure => simp [intOf]

set_option maxHeartbeats 1600000 in
set_option maxRecDepth 100000 in
theorem udf_Fit (s : ByteArray) (size : Int) (w : World) (hT : Tabs w) (hs : s.size ≤ 20000) :
    Calls Tryd.prog 19 #[.string s, .int .i64 size] w fun e w' => e = .returned (.string (fitS s size)) ∧ Below w.heap.size w w' := by
  cases hc : Ch.chars s.data.toList with
  | none =>
    have HF := Lib.hid (fit_none (size := size) hc)
    have kN := hide (cs_Characters_none s w hT (by omega) hc)
    clear hc
    go_enter Tryd.func19, Tryd.ntmps19
    go_wp2_with (first | (go_at_call 31; refine (unhide kN).mono ?_; rintro e w2 ⟨rfl, hb2⟩))
    go_ret
    exact ⟨by rw [HF.out]; rfl, hb2⟩
  | some cs =>
    by_cases h : size < 2 ∨ 255 < size
    · have HF := Lib.hid (fit_arg (s := s) h)
      have kS := hide (cs_Characters_some s w hT (by omega) hc)
      obtain ⟨_, hcl⟩ := chars_small hc
      have HC := Lib.hid hc
      clear hc
      have hs2 : ¬ (65536 : Int) < (s.size : Int) := by omega
      rcases h with h | h
      · have h3 : ¬ 2 ≤ size := by omega
        go_enter Tryd.func19, Tryd.ntmps19
        go_wp2_with (first | (go_at_call 31; refine (unhide kS).mono ?_; rintro e w2 ⟨A, c, rfl, hr, hcap, hg, hb2⟩) | (go_at_call 41; go_in))
        go_ret
        exact ⟨by rw [HF.out]; rfl, hb2⟩
      · have h3 : 2 ≤ size := by omega
        have h4 : decide (size ≤ 255) = false := decide_eq_false (by omega)
        go_enter Tryd.func19, Tryd.ntmps19
        go_wp2_with (first | (go_at_call 31; refine (unhide kS).mono ?_; rintro e w2 ⟨A, c, rfl, hr, hcap, hg, hb2⟩) | (go_at_call 41; go_in))
        go_ret
        exact ⟨by rw [HF.out]; rfl, hb2⟩
    · exact udf_Fit_some s size w hT hs (by omega) (by omega) hc

theorem ref_Utf8 {s : ByteArray} {cs : List Nat} (hc : Ch.chars s.data.toList = some cs) (hs : s.size ≤ 20000) (A : Option Addr) (c n : Nat) (w : World) (hr : Row w A (nat2int cs)) (hn : n ≤ cs.length) (hcap : cs.length ≤ c) :
    Calls Tryd.prog 40 #[.slice A n c] w fun e w' => e = .returned (.string ⟨(Ch.encs (cs.take n)).toArray⟩) ∧ Below w.heap.size w w' := by
  obtain ⟨hs1, hl⟩ := chars_small hc
  have ht := hr.take n (by rw [nat2int_length]; exact hn)
  have hx : (nat2int cs).take n = nat2int (cs.take n) := by simp [nat2int]
  have hlen : (nat2int (cs.take n)).length = n := by rw [nat2int_length, List.length_take]; omega
  rw [hx] at ht
  obtain ⟨k, hk⟩ := (ref32_Utf8 (cs.take n) (fun x h => hs1 x (List.mem_of_mem_take h)) (by rw [List.length_take]; omega)).rounds
  have := PExpand.masterdiscref32_Utf8.calls k A c (nat2int (cs.take n)) _ w (Kd.C_of_reads (enc := Value.int .i64) (d := (0 : Int)) ht.reads) (by rw [hlen]; omega) hk
  rw [hlen] at this
  exact this
theorem squeeze_take {s : ByteArray} {cs : List Nat} (hc : Ch.chars s.data.toList = some cs) (hs : s.size ≤ 20000) (A : Option Addr) (c n : Nat) (w : World) (hr : Row w A (nat2int cs)) (hn : n ≤ cs.length) (hcap : cs.length ≤ c) :
    Calls Tryd.prog 35 #[.slice A n c] w fun e w' => e = .returned (.string ⟨(Ch.comp (cs.take n)).toArray⟩) ∧ Below w.heap.size w w' := by
  obtain ⟨hs1, hl⟩ := chars_small hc
  have ht := hr.take n (by rw [nat2int_length]; exact hn)
  have hx : (nat2int cs).take n = nat2int (cs.take n) := by simp [nat2int]
  have hlen : (cs.take n).length = n := by rw [List.length_take]; omega
  rw [hx] at ht
  have := ref_squeeze A c (cs.take n) w ht (by rw [hlen]; omega) (fun x h => hs1 x (List.mem_of_mem_take h)) (by rw [hlen]; omega)
  rw [hlen] at this
  exact this

set_option maxHeartbeats 3200000 in
set_option maxRecDepth 100000 in
theorem ref_Fit_some (s : ByteArray) (size : Int) (w : World) (hs : s.size ≤ 20000) (h2 : 2 ≤ size) (h255 : size ≤ 255) {cs : List Nat} (hc : Ch.chars s.data.toList = some cs) :
    Calls Tryd.prog 20 #[.string s, .int .i64 size] w fun e w' => e = .returned (.string (fitS s size)) ∧ Below w.heap.size w w' := by
  have kS := hide (ref_Characters_some s w (by omega) hc)
  obtain ⟨_, hcl⟩ := chars_small hc
  have HC := Lib.hid hc
  clear hc
  go_enter Tryd.func20, Tryd.ntmps20
  go_wp2_with (first | (go_at_call 34; refine (unhide kS).mono ?_; rintro e w2 ⟨A, c, rfl, hr, hcap, hb2⟩))
  obtain ⟨N0, hN0⟩ : ∃ N0, N0 = min cs.length size.toNat := ⟨_, rfl⟩
  have hst : (Value.int .i64 (min (cs.length : Int) size)) = .int .i64 (N0 : Int) := by congr 1; omega
  have hN : N0 ≤ cs.length := by omega
  rw [hst]
  have HN0 := Lib.hid hN0
  have hz2 := hb2.size
  clear hst hN0
  go_loopw [7] (fun x wr => ∃ n : Nat, x = .int .i64 (n : Int) ∧ FitI cs (size.toNat - 1) N0 n ∧ Below w2.heap.size w2 wr) (fun x _ => (intOf x).toNat)
  case atStart => exact ⟨N0, rfl, ⟨Nat.le_refl _, rfl⟩, Below.refl _ _⟩
  case round =>
    obtain ⟨n, rfl, hI, hbr⟩ := hrel
    rcases Nat.eq_zero_or_pos n with h0 | hpos
    · subst h0
      have hfit := fit_some h2 h255 HC.out (n := 0) (by rw [← HN0.out, hI.2]; rfl)
      have kU := hide (ref_Utf8 HC.out hs A c 0 wr (hr.below hbr) (Nat.zero_le _) hcap)
      have HF := Lib.hid hfit
      clear hfit hI
      go_wp2_with (go_at_call 40; refine (unhide kU).mono ?_; rintro e w3 ⟨rfl, hb3⟩)
      go_ret
      exact ⟨by rw [HF.out]; rfl, hb2.trans ((hbr.trans (hb3.mono hbr.size)).mono hz2)⟩
    · obtain ⟨m, rfl⟩ : ∃ m, n = m + 1 := ⟨n - 1, by omega⟩
      have hle := hI.1
      have kQ := squeeze_take HC.out hs A c (m + 1) wr (hr.below hbr) (by omega) hcap
      obtain ⟨C, hCC⟩ : ∃ C : ByteArray, C = ⟨(Ch.comp (cs.take (m + 1))).toArray⟩ := ⟨_, rfl⟩
      have hCs : C.size = (Ch.comp (cs.take (m + 1))).length := by rw [hCC, Lib.size_eq]
      rw [← hCC] at kQ
      have KQ := hide kQ
      by_cases hf : (Ch.comp (cs.take (m + 1))).length ≤ size.toNat - 1
      · have hfit := fit_some h2 h255 HC.out (n := m + 1) (by rw [← HN0.out, hI.hit hf])
        have kU := fun (W : World) (hW : Below wr.heap.size wr W) => ref_Utf8 HC.out hs A c (m + 1) W ((hr.below hbr).below hW) (by omega) hcap
        obtain ⟨T, hTT⟩ : ∃ T : ByteArray, T = ⟨(Ch.encs (cs.take (m + 1))).toArray⟩ := ⟨_, rfl⟩
        rw [← hTT] at hfit kU
        have KU := hide kU
        have hCi : ¬ size - 1 < (C.size : Int) := by omega
        have HF := Lib.hid hfit
        clear hfit hI kQ kU hTT hCC hCs hf
        go_wp2_with (first | (go_at_call 35; refine (unhide KQ).mono ?_; rintro e w3 ⟨rfl, hb3⟩) | (go_at_call 40; refine (unhide KU _ hb3).mono ?_; rintro e w4 ⟨rfl, hb4⟩))
        go_ret
        exact ⟨by rw [HF.out]; rfl, hb2.trans ((hbr.trans ((hb3.trans (hb4.mono hb3.size)).mono hbr.size)).mono hz2)⟩
      · have hCi : size - 1 < (C.size : Int) := by omega
        have hmiss := hide (hI.miss (by omega))
        clear hI kQ hCC hCs hf
        go_wp2_with (first | (go_at_call 35; refine (unhide KQ).mono ?_; rintro e w3 ⟨rfl, hb3⟩))
        go_roundw
        case rel => exact ⟨m, by go_num, unhide hmiss, hbr.trans (hb3.mono hbr.size)⟩
        case measure => simp [intOf]
set_option maxHeartbeats 1600000 in
set_option maxRecDepth 100000 in
theorem ref_Fit (s : ByteArray) (size : Int) (w : World) (hs : s.size ≤ 20000) :
    Calls Tryd.prog 20 #[.string s, .int .i64 size] w fun e w' => e = .returned (.string (fitS s size)) ∧ Below w.heap.size w w' := by
  cases hc : Ch.chars s.data.toList with
  | none =>
    have HF := Lib.hid (fit_none (size := size) hc)
    have kN := hide (ref_Characters_none s w (by omega) hc)
    clear hc
    go_enter Tryd.func20, Tryd.ntmps20
    go_wp2_with (first | (go_at_call 34; refine (unhide kN).mono ?_; rintro e w2 ⟨v, rfl, hb2⟩))
    go_ret
    exact ⟨by rw [HF.out]; rfl, hb2⟩
  | some cs =>
    by_cases h : size < 2 ∨ 255 < size
    · have HF := Lib.hid (fit_arg (s := s) h)
      have kS := hide (ref_Characters_some s w (by omega) hc)
      have HC := Lib.hid hc
      clear hc
      rcases h with h | h
      · have h3 : ¬ 2 ≤ size := by omega
        go_enter Tryd.func20, Tryd.ntmps20
        go_wp2_with (first | (go_at_call 34; refine (unhide kS).mono ?_; rintro e w2 ⟨A, c, rfl, hr, hcap, hb2⟩))
        go_ret
        exact ⟨by rw [HF.out]; rfl, hb2⟩
      · have h3 : 2 ≤ size := by omega
        go_enter Tryd.func20, Tryd.ntmps20
        go_wp2_with (first | (go_at_call 34; refine (unhide kS).mono ?_; rintro e w2 ⟨A, c, rfl, hr, hcap, hb2⟩))
        go_ret
        exact ⟨by rw [HF.out]; rfl, hb2⟩
    · exact ref_Fit_some s size w hs (by omega) (by omega) hc
end Go.Proofs.YtgejjnbgeiappaaDoor
