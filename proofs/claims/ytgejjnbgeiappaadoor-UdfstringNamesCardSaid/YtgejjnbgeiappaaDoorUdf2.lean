/-
  udfstring.Expand: the text with a compressed Unicode.
-/
import Derived.Test.YtgejjnbgeiappaaDoorUdf1
import Derived.Test.YtgejjnbgeiappaaDoorBytes
namespace Go.Proofs.YtgejjnbgeiappaaDoor
open Go.RowKit Go.Proofs.YtgejjnbgeiappaaDoorW.PrintWords

theorem udf_character (n : Int) (w : World) : Calls Tryd.prog 36 #[.int .i32 n] w fun e w' => e = .returned (.bool (chI n)) ∧ w = w' := by
  have H : Hid (chI n = decide (32 ≤ n ∧ n ≤ 65533 ∧ (n < 55296 ∨ 57343 < n))) := Lib.hid rfl
  generalize chI n = b at *
  go_enter Tryd.func36, Tryd.ntmps36
  go_wp2
  all_goals go_ret
  all_goals (refine ⟨ret_bool ?_, rfl⟩; rw [H.out, Bool.eq_iff_iff]; simp; try omega)
theorem udf_character_t {n : Int} (h : chI n = true) (w : World) : Calls Tryd.prog 36 #[.int .i32 n] w fun e w' => e = .returned (.bool true) ∧ w = w' :=
  (udf_character n w).mono fun _ _ hh => by rw [h] at hh; exact hh
theorem udf_character_f {n : Int} (h : chI n = false) (w : World) : Calls Tryd.prog 36 #[.int .i32 n] w fun e w' => e = .returned (.bool false) ∧ w = w' :=
  (udf_character n w).mono fun _ _ hh => by rw [h] at hh; exact hh

/-- The builder that Expand fills with characters. -/
def FillI (w : World) (cs : List Nat) (wr : World) : Prop :=
  Lib.IsBuilderF 50 5 w.heap.size w.heap.size (Lib.byteCells (Ch.encs cs)) wr ∧ Below w.heap.size w wr ∧ w.heap.size < wr.heap.size
theorem FillI.start (w : World) : FillI w [] (w.alloc (.cells #[.pointer none, .slice none 0 0] 50)) := by
  refine ⟨?_, (Below.refl _ _).alloc (Nat.le_refl _) _, by simp⟩
  have := Lib.IsBuilderF.of (Lib.fresh_isBuilder 50 5 w)
  simpa [Ch.encs, Lib.byteCells] using this

theorem fill_len (cs : List Nat) (h : cs.length ≤ 65536) : (Lib.byteCells (Ch.encs cs)).length + 4 ≤ 140737488355328 := by
  rw [Lib.byteCells_length]
  have := Ch.encs_length_le cs
  omega
theorem FillI.below {w wr w1 : World} {cs : List Nat} (h : FillI w cs wr) (hb : Below wr.heap.size wr w1) : FillI w cs w1 :=
  ⟨builder_below h.1 hb, h.2.1.trans (hb.mono h.2.1.size), Nat.lt_of_lt_of_le h.2.2 hb.size⟩
/-- One character more. -/
theorem FillI.write {w wr : World} {cs : List Nat} (h : FillI w cs wr) (hl : cs.length ≤ 65536) {c : Nat} (hc : Ch.isCh c = true) :
    Calls Tryd.prog 37 #[.pointer (some ⟨w.heap.size, 0, none⟩), .int .i32 (c : Int)] wr fun e w' => ∃ v, e = .returned v ∧ FillI w (cs ++ [c]) w' := by
  have hb := Ch.isCh_iff.1 hc
  refine (Tryd.Builder_WriteRune_k w.heap.size w.heap.size _ (c : Int) (by omega) (by omega) wr h.1 (fill_len cs hl) (Nat.le_of_lt h.2.2)).mono fun e w' hh => ?_
  obtain ⟨he, h1, b1, _⟩ := hh
  refine ⟨_, he, ?_, h.2.1.trans b1, Nat.lt_of_lt_of_le h.2.2 b1.size⟩
  rw [Ch.encs_append, Lib.byteCells_append, Ch.encs_cons, Ch.encs_nil, List.append_nil, ← runeCells_enc hc]
  exact Or.inr h1
theorem FillI.done {w wr : World} {cs : List Nat} (h : FillI w cs wr) :
    Calls Tryd.prog 38 #[.pointer (some ⟨w.heap.size, 0, none⟩)] wr fun e w' => e = .returned (.string ⟨(Ch.encs cs).toArray⟩) ∧ Below w.heap.size w w' :=
  (Tryd.Builder_String_any_k w.heap.size w.heap.size (Ch.encs cs) wr h.1 (Nat.le_of_lt h.2.2)).mono fun _ _ hh => ⟨hh.1, h.2.1.trans hh.2.2.1⟩

def expS (s : ByteArray) : ByteArray := ⟨(Ch.expand s.data.toList).1.toArray⟩
def expE (s : ByteArray) : Int := (Ch.expand s.data.toList).2

theorem ext_one {s : ByteArray} {b : UInt8} {t : List UInt8} (hd : s.data.toList = b :: t) {k : Nat} (hk : k < t.length) : (s.extract (k + 1) (k + 1 + 1)).data.toList = [t[k]] := by
  rw [Lib.extract_data, hd, List.drop_succ_cons, show k + 1 + 1 - (k + 1) = 1 from by omega, List.drop_eq_getElem_cons hk]
  rfl

theorem exp8_take {t : List UInt8} {k : Nat} (hk : k < t.length) : (t.take (k + 1)).map (·.toNat) = (t.take k).map (·.toNat) ++ [t[k].toNat] := by
  rw [List.take_succ_eq_append_getElem hk, List.map_append]
  rfl
theorem exp8_all {t : List UInt8} {k : Nat} (ha : (t.take k).all (fun x => Ch.isCh x.toNat) = true) (hk : k < t.length) (hc : Ch.isCh t[k].toNat = true) : (t.take (k + 1)).all (fun x => Ch.isCh x.toNat) = true := by
  rw [List.take_succ_eq_append_getElem hk, List.all_append, ha]
  simp [hc]
theorem exp8_no {s : ByteArray} {t : List UInt8} (hd : s.data.toList = 8 :: t) {k : Nat} (hk : k < t.length) (hc : Ch.isCh t[k].toNat = false) : expS s = ⟨#[]⟩ ∧ expE s = 2 := by
  have hn : ¬ t.all (fun x => Ch.isCh x.toNat) = true := by
    intro h
    rw [List.all_eq_true] at h
    have := h t[k] (List.getElem_mem _)
    rw [hc] at this
    cases this
  unfold expS expE
  rw [hd]
  simp only [Ch.expand]
  rw [if_pos (by decide), if_neg hn]
  exact ⟨rfl, rfl⟩
theorem exp8_yes {s : ByteArray} {t : List UInt8} (hd : s.data.toList = 8 :: t) (ha : (t.take t.length).all (fun x => Ch.isCh x.toNat) = true) : expS s = ⟨(Ch.encs (t.map (·.toNat))).toArray⟩ ∧ expE s = 0 := by
  rw [List.take_length] at ha
  unfold expS expE
  rw [hd]
  simp only [Ch.expand]
  rw [if_pos (by decide), if_pos ha]
  exact ⟨rfl, rfl⟩
theorem head_byte {s : ByteArray} {b : UInt8} {t : List UInt8} (hd : s.data.toList = b :: t) (h : 0 < s.size) : ((s[0]'h).toNat : Int) = (b.toNat : Int) := by
  have h2 : s[0]'h = s.data.toList[0]'(by rw [← Lib.size_eq]; exact h) := rfl
  rw [h2]
  simp [hd]
theorem head_ne {s : ByteArray} {b : UInt8} {t : List UInt8} (hd : s.data.toList = b :: t) : s.toList.isEmpty = false := by
  rw [Lib.toList_data, hd]; rfl

set_option maxHeartbeats 1600000 in
set_option maxRecDepth 100000 in
theorem udf_Expand_8 (s : ByteArray) (w : World) (hs : s.size ≤ 65536) (t : List UInt8) (hd : s.data.toList = 8 :: t) :
    Calls Tryd.prog 13 #[.string s] w fun e w' => e = .returned (.tuple #[.string (expS s), .int .i64 (expE s)]) ∧ Below w.heap.size w w' := by
  have hst := FillI.start w
  have hz : s.size = t.length + 1 := by rw [Lib.size_eq, hd]; rfl
  have hpos : 0 < s.size := by omega
  have h0 : ((s[0]'hpos).toNat : Int) = 8 := head_byte hd hpos
  have hne := head_ne hd
  have Hz := Lib.hid hz
  have Hd := Lib.hid hd
  clear hz hd
  go_enter Tryd.func13, Tryd.ntmps13
  go_wp2_with fail
  go_loopw [6] (fun i wr => ∃ k : Nat, k ≤ t.length ∧ i = .int .i64 ((k : Int) + 1) ∧ FillI w ((t.take k).map (·.toNat)) wr ∧ (t.take k).all (fun x => Ch.isCh x.toNat) = true) (fun i _ => s.size - (intOf i).toNat)
  case atStart => exact ⟨0, Nat.zero_le _, rfl, by simpa using hst, by simp⟩
  case round =>
    obtain ⟨k, hk, rfl, hI, ha⟩ := hrel
    clear hst
    have Ha := Lib.hid ha
    clear ha
    by_cases hlt : k < t.length
    · have hlt2 : (k : Int) + 1 < (s.size : Int) := by rw [Hz.out]; omega
      have hk1 : k < s.size := by omega
      have hmn : min (k + 1 + 1) s.size - (k + 1) = 1 := by omega
      have hex := ext_one Hd.out hlt
      obtain ⟨y, hy⟩ : ∃ y, y = t[k] := ⟨_, rfl⟩
      have Hy := Lib.hid hy
      rw [← hy] at hex
      clear hy
      have Hex := Lib.hid hex
      clear hex
      have hyl : (y.toNat : Int) < 256 := by have := y.toNat_lt; omega
      have hyl0 : (0 : Int) ≤ (y.toNat : Int) := by omega
      go_wp2_with (refine wpList_bytes _ rfl (.tmp 53) 9 48 5 rfl Tryd.underlying9 Tryd.underlying48 Tryd.underlying5 _ rfl ?_; intro w2 cap hb2 hz2 hcap hcell; have hc0 : w2.cell? ⟨wr.heap.size, 0, none⟩ = some (.int .u8 (y.toNat : Int)) := (hcell 0 (by rw [Lib.size_eq, Hex.out]; exact Nat.zero_lt_one)).trans (by rw [Hex.out]; rfl); clear hcell)
      have hI2 := hI.below hb2
      have HI := Lib.hid hI
      clear hI
      cases hc : Ch.isCh y.toNat with
      | false =>
        have kF := hide (udf_character_f (n := (y.toNat : Int)) (by rw [chI_nat]; exact hc))
        have Hr := Lib.hid (exp8_no Hd.out hlt (by rw [← Hy.out]; exact hc))
        have Hb := Lib.hid hI2.2.1
        clear hc hI2
        refine wp_loop_rounds 2 ?_
        rw [rounds_succ]
        go_wp2_with fail
        rw [rounds_succ]
        go_wp2_with (go_at_call 36; refine (unhide kF _).mono ?_; rintro e w3 ⟨rfl, rfl⟩)
        go_ret2
        rw [Hr.out.1, Hr.out.2]
        exact ⟨rfl, Hb.out⟩
      | true =>
        have kT := hide (udf_character_t (n := (y.toNat : Int)) (by rw [chI_nat]; exact hc))
        have cW := hide (hI2.write (by simp; omega) hc)
        have Hall := Lib.hid (exp8_all Ha.out hlt (by rw [← Hy.out]; exact hc))
        clear hc hI2
        refine wp_loop_rounds 2 ?_
        rw [rounds_succ]
        go_wp2_with fail
        rw [rounds_succ]
        go_wp2_with (first | (go_at_call 36; refine (unhide kT _).mono ?_; rintro e w3 ⟨rfl, rfl⟩) | (go_at_call 37; refine (unhide cW).mono ?_; rintro e w4 ⟨v, rfl, hI4⟩))
        go_roundw
        case rel => exact ⟨k + 1, by omega, by go_num, by rw [exp8_take hlt, ← Hy.out]; exact hI4, Hall.out⟩
        case measure => simp [intOf]; omega
    · obtain rfl : k = t.length := by omega
      have hge : ¬ ((t.length : Int) + 1 < (s.size : Int)) := by rw [Hz.out]; omega
      have cS := hide hI.done
      have Hr := Lib.hid (exp8_yes Hd.out Ha.out)
      clear hI
      go_wp2_with (go_at_call 38; refine (unhide cS).mono ?_; rintro e w4 ⟨rfl, g2⟩)
      go_ret2
      rw [Hr.out.1, Hr.out.2]
      exact ⟨rfl, g2⟩

theorem or_i32 (x y : Nat) (hx : x < 256) (hy : y < 256) : bits .or .i32 ((x : Int) * 256) (y : Int) = ((x * 256 + y : Nat) : Int) := by
  have e : x * 256 + y = x * 256 ||| y := by
    have := Nat.two_pow_add_eq_or_of_lt (i := 8) (b := y) hy x
    rw [Nat.mul_comm x 256]
    exact this
  have h1 : (BitVec.ofInt 32 ((x : Int) * 256)).toNat = x * 256 := by
    rw [show (x : Int) * 256 = ((x * 256 : Nat) : Int) from by omega, BitVec.ofInt_natCast, BitVec.toNat_ofNat]; exact Nat.mod_eq_of_lt (by omega)
  have h2 : (BitVec.ofInt 32 (y : Int)).toNat = y := by
    rw [BitVec.ofInt_natCast, BitVec.toNat_ofNat]; exact Nat.mod_eq_of_lt (by omega)
  show IntKind.i32.wrap ((BitVec.ofInt 32 ((x : Int) * 256) ||| BitVec.ofInt 32 (y : Int)).toNat : Int) = _
  rw [BitVec.toNat_or, h1, h2, ← e, IntKind.wrap_i32]
  omega
theorem pairs_step {t u : List UInt8} {a b : UInt8} {ds : List Nat} (h : Ch.pairs t = (Ch.pairs (a :: b :: u)).map (ds ++ ·)) (hc : Ch.isCh (a.toNat * 256 + b.toNat) = true) : Ch.pairs t = (Ch.pairs u).map ((ds ++ [a.toNat * 256 + b.toNat]) ++ ·) := by
  rw [h]
  conv => lhs; arg 2; unfold Ch.pairs
  rw [if_pos hc, Option.map_map]
  congr 1
  funext x
  simp
theorem pairs_no {t u : List UInt8} {a b : UInt8} {ds : List Nat} (h : Ch.pairs t = (Ch.pairs (a :: b :: u)).map (ds ++ ·)) (hc : Ch.isCh (a.toNat * 256 + b.toNat) = false) : Ch.pairs t = none := by
  rw [h]
  conv => lhs; arg 2; unfold Ch.pairs
  rw [if_neg (by simp [hc])]
  rfl
theorem exp16 {s : ByteArray} {t : List UInt8} (hd : s.data.toList = 16 :: t) (hl : t.length % 2 = 0) :
    (Ch.pairs t = none → expS s = ⟨#[]⟩ ∧ expE s = 2) ∧ ∀ ds, Ch.pairs t = some ds → expS s = ⟨(Ch.encs ds).toArray⟩ ∧ expE s = 0 := by
  unfold expS expE
  rw [hd]
  simp only [Ch.expand]
  rw [if_neg (by decide), if_pos (by decide), if_neg (by omega)]
  refine ⟨fun h => by rw [h]; exact ⟨rfl, rfl⟩, fun ds h => by rw [h]; exact ⟨rfl, rfl⟩⟩
theorem ext_two {s : ByteArray} {c a b : UInt8} {t u : List UInt8} {j : Nat} (hd : s.data.toList = c :: t) (hu : t.drop j = a :: b :: u) : (s.extract (j + 1) (j + 1 + 2)).data.toList = [a, b] := by
  rw [Lib.extract_data, hd, List.drop_succ_cons, hu, show j + 1 + 2 - (j + 1) = 2 from by omega]
  rfl
theorem drop_two {t u : List UInt8} {a b : UInt8} {j : Nat} (hu : t.drop j = a :: b :: u) : t.drop (j + 2) = u := by
  rw [← List.drop_drop, hu]; rfl

set_option maxHeartbeats 1600000 in
set_option maxRecDepth 100000 in
theorem udf_Expand_16 (s : ByteArray) (w : World) (hs : s.size ≤ 65536) (t : List UInt8) (hd : s.data.toList = 16 :: t) (hev : t.length % 2 = 0) :
    Calls Tryd.prog 13 #[.string s] w fun e w' => e = .returned (.tuple #[.string (expS s), .int .i64 (expE s)]) ∧ Below w.heap.size w w' := by
  have hst := FillI.start w
  have hz : s.size = t.length + 1 := by rw [Lib.size_eq, hd]; rfl
  have hpos : 0 < s.size := by omega
  have h0 : ((s[0]'hpos).toNat : Int) = 16 := head_byte hd hpos
  have hne := head_ne hd
  have hodd : ((s.size : Int) % 2 == 0) = false := by rw [beq_eq_false_iff_ne]; omega
  have Hx := Lib.hid (exp16 hd hev)
  have Hz := Lib.hid hz
  have Hd := Lib.hid hd
  have Hev := Lib.hid hev
  clear hz hd hev
  go_enter Tryd.func13, Tryd.ntmps13
  go_wp2_with fail
  go_loopw [6] (fun i wr => ∃ (k : Nat) (ds : List Nat), 2 * k ≤ t.length ∧ i = .int .i64 (2 * (k : Int) + 1) ∧ FillI w ds wr ∧ ds.length = k ∧ Ch.pairs t = (Ch.pairs (t.drop (2 * k))).map (ds ++ ·)) (fun i _ => s.size - (intOf i).toNat)
  case atStart => exact ⟨0, [], Nat.zero_le _, rfl, hst, rfl, by simp⟩
  case round =>
    obtain ⟨k, ds, hk, rfl, hI, hdl, hp⟩ := hrel
    clear hst
    have Hp := Lib.hid hp
    have Hdl := Lib.hid hdl
    clear hp hdl
    by_cases hlt : 2 * k < t.length
    · have hlt2 : 2 * (k : Int) + 1 < (s.size : Int) := by rw [Hz.out]; omega
      have hk1 : 2 * k < s.size := by rw [Hz.out]; omega
      have hmn : min (2 * k + 1 + 2) s.size - (2 * k + 1) = 2 := by have := Hz.out; have := Hev.out; omega
      obtain ⟨a, b, u, hu⟩ : ∃ a b u, t.drop (2 * k) = a :: b :: u := by
        have hl : (t.drop (2 * k)).length = t.length - 2 * k := List.length_drop ..
        have := Hev.out
        match hx : t.drop (2 * k), hl with
        | [], hl => simp at hl; omega
        | [_], hl => simp at hl; omega
        | a :: b :: u, _ => exact ⟨a, b, u, rfl⟩
      have hex := ext_two Hd.out hu
      have Hu := Lib.hid hu
      have Hex := Lib.hid hex
      clear hex hu
      have ha0 : (0 : Int) ≤ (a.toNat : Int) := by omega
      have ha1 : (a.toNat : Int) < 256 := by have := a.toNat_lt; omega
      have hb0 : (0 : Int) ≤ (b.toNat : Int) := by omega
      have hb1 : (b.toNat : Int) < 256 := by have := b.toNat_lt; omega
      obtain ⟨X, hX⟩ : ∃ X : Nat, X = a.toNat * 256 + b.toNat := ⟨_, rfl⟩
      have hbits := or_i32 a.toNat b.toNat a.toNat_lt b.toNat_lt
      rw [← hX] at hbits
      have HX := Lib.hid hX
      clear hX
      go_wp2_with (refine wpList_bytes _ rfl (.tmp 53) 9 48 5 rfl Tryd.underlying9 Tryd.underlying48 Tryd.underlying5 _ rfl ?_; intro w2 cap hb2 hz2 hcap hcell; have hc0 : w2.cell? ⟨wr.heap.size, 0, none⟩ = some (.int .u8 (a.toNat : Int)) := (hcell 0 (by rw [Lib.size_eq, Hex.out]; exact Nat.zero_lt_two)).trans (by rw [Hex.out]; rfl); have hc1 : w2.cell? ⟨wr.heap.size, 1, none⟩ = some (.int .u8 (b.toNat : Int)) := (hcell 1 (by rw [Lib.size_eq, Hex.out]; exact Nat.one_lt_two)).trans (by rw [Hex.out]; rfl); clear hcell)
      have hI2 := hI.below hb2
      have HI := Lib.hid hI
      clear hI
      cases hc : Ch.isCh X with
      | false =>
        have kF := hide (udf_character_f (n := (X : Int)) (by rw [chI_nat]; exact hc))
        have Hr := Lib.hid (Hx.out.1 (pairs_no (a := a) (b := b) (by rw [← Hu.out]; exact Hp.out) (by rw [← HX.out]; exact hc)))
        have Hb := Lib.hid hI2.2.1
        clear hc hI2
        refine wp_loop_rounds 3 ?_
        rw [rounds_succ]
        go_wp2_with fail
        rw [rounds_succ]
        go_wp2_with fail
        rw [rounds_succ]
        go_wp2_with (go_at_call 36; refine (unhide kF _).mono ?_; rintro e w3 ⟨rfl, rfl⟩)
        go_ret2
        rw [Hr.out.1, Hr.out.2]
        exact ⟨rfl, Hb.out⟩
      | true =>
        have kT := hide (udf_character_t (n := (X : Int)) (by rw [chI_nat]; exact hc))
        have cW := hide (hI2.write (by rw [Hdl.out]; omega) hc)
        have Hps := Lib.hid (pairs_step (a := a) (b := b) (by rw [← Hu.out]; exact Hp.out) (by rw [← HX.out]; exact hc))
        clear hc hI2
        refine wp_loop_rounds 3 ?_
        rw [rounds_succ]
        go_wp2_with fail
        rw [rounds_succ]
        go_wp2_with fail
        rw [rounds_succ]
        go_wp2_with (first | (go_at_call 36; refine (unhide kT _).mono ?_; rintro e w3 ⟨rfl, rfl⟩) | (go_at_call 37; refine (unhide cW).mono ?_; rintro e w4 ⟨v, rfl, hI4⟩))
        go_roundw
        case rel => exact ⟨k + 1, ds ++ [X], by have := Hev.out; omega, by go_num, hI4, by rw [List.length_append, Hdl.out]; rfl, by rw [HX.out, show 2 * (k + 1) = 2 * k + 2 from by omega, drop_two Hu.out]; exact Hps.out⟩
        case measure => simp [intOf]; omega
    · have hge : ¬ (2 * (k : Int) + 1 < (s.size : Int)) := by rw [Hz.out]; omega
      have cS := hide hI.done
      have Hr := Lib.hid (Hx.out.2 ds (by rw [Hp.out, List.drop_of_length_le (by omega)]; simp [Ch.pairs]))
      clear hI
      go_wp2_with (go_at_call 38; refine (unhide cS).mono ?_; rintro e w4 ⟨rfl, g2⟩)
      go_ret2
      rw [Hr.out.1, Hr.out.2]
      exact ⟨rfl, g2⟩

theorem exp_bad {s : ByteArray} {b : UInt8} {t : List UInt8} (hd : s.data.toList = b :: t) (h8 : b.toNat ≠ 8) (h : b.toNat = 16 → t.length % 2 = 1) : expS s = ⟨#[]⟩ ∧ expE s = 3 := by
  unfold expS expE
  rw [hd]
  simp only [Ch.expand]
  rw [if_neg h8]
  by_cases h16 : b.toNat = 16
  · rw [if_pos h16, if_pos (h h16)]; exact ⟨rfl, rfl⟩
  · rw [if_neg h16]; exact ⟨rfl, rfl⟩
set_option maxHeartbeats 1600000 in
set_option maxRecDepth 100000 in
theorem udf_Expand (s : ByteArray) (w : World) (hs : s.size ≤ 65536) :
    Calls Tryd.prog 13 #[.string s] w fun e w' => e = .returned (.tuple #[.string (expS s), .int .i64 (expE s)]) ∧ Below w.heap.size w w' := by
  cases hd : s.data.toList with
  | nil =>
    have hr : expS s = ⟨#[]⟩ ∧ expE s = 0 := by unfold expS expE; rw [hd]; exact ⟨rfl, rfl⟩
    have hne : s.toList = [] := by rw [Lib.toList_data, hd]
    have hne2 : s.toList.isEmpty = true := by rw [hne]; rfl
    have Hr := Lib.hid hr
    clear hd hr hne
    go_enter Tryd.func13, Tryd.ntmps13
    go_wp2_with fail
    go_ret2
    rw [Hr.out.1, Hr.out.2]
    exact ⟨rfl, Below.refl _ _⟩
  | cons b t =>
    by_cases h8 : b.toNat = 8
    · obtain rfl : b = 8 := UInt8.toNat_inj.1 h8
      exact udf_Expand_8 s w hs t hd
    · by_cases h16 : b.toNat = 16 ∧ t.length % 2 = 0
      · obtain rfl : b = 16 := UInt8.toNat_inj.1 h16.1
        exact udf_Expand_16 s w hs t hd h16.2
      · have hr := exp_bad hd h8 (by omega)
        have hz : s.size = t.length + 1 := by rw [Lib.size_eq, hd]; rfl
        have hpos : 0 < s.size := by omega
        have h0 := head_byte hd hpos
        have hne := head_ne hd
        have q8 : ((b.toNat : Int) == 8) = false := by rw [beq_eq_false_iff_ne]; omega
        have p8 : ¬ (b.toNat : Int) = 8 := by omega
        have Hr := Lib.hid hr
        by_cases g16 : b.toNat = 16
        · have ho : t.length % 2 = 1 := by omega
          obtain rfl : b = 16 := UInt8.toNat_inj.1 g16
          have hodd : ((s.size : Int) % 2 == 0) = true := by rw [beq_iff_eq]; omega
          have h0' : ((s[0]'hpos).toNat : Int) = 16 := h0
          clear hd hr hz h16 ho h0 q8 p8 h8 g16
          go_enter Tryd.func13, Tryd.ntmps13
          go_wp2_with fail
          go_ret2
          rw [Hr.out.1, Hr.out.2]
          exact ⟨rfl, Below.refl _ _⟩
        · have p16 : ¬ (b.toNat : Int) = 16 := by omega
          rw [← h0] at p8 p16
          clear hd hr hz h16 h0 q8 h8 g16
          go_enter Tryd.func13, Tryd.ntmps13
          go_wp2_with fail
          go_ret2
          rw [Hr.out.1, Hr.out.2]
          exact ⟨rfl, Below.refl _ _⟩
end Go.Proofs.YtgejjnbgeiappaaDoor
