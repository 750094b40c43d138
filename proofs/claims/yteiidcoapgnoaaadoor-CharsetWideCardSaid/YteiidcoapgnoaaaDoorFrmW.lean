/-
  charset.FromUcs2: the string of UCS-2.
-/
import Derived.Test.YteiidcoapgnoaaaDoorCs2
import Derived.Test.YteiidcoapgnoaaaDoorWide17
namespace Go.Proofs.YteiidcoapgnoaaaDoor
open Go.RowKit Go.Proofs.YteiidcoapgnoaaaDoorW.PrintWords

/-- The builder that Expand fills with characters. -/
def FillI (w : World) (cs : List Nat) (wr : World) : Prop :=
  Lib.IsBuilderF 49 5 w.heap.size w.heap.size (Lib.byteCells (Ch.encs cs)) wr ∧ Below w.heap.size w wr ∧ w.heap.size < wr.heap.size
theorem FillI.start (w : World) : FillI w [] (w.alloc (.cells #[.pointer none, .slice none 0 0] 49)) := by
  refine ⟨?_, (Below.refl _ _).alloc (Nat.le_refl _) _, by simp⟩
  have := Lib.IsBuilderF.of (Lib.fresh_isBuilder 49 5 w)
  simpa [Ch.encs, Lib.byteCells] using this

theorem fill_len (cs : List Nat) (h : cs.length ≤ 65536) : (Lib.byteCells (Ch.encs cs)).length + 4 ≤ 140737488355328 := by
  rw [Lib.byteCells_length]
  have := Ch.encs_length_le cs
  omega
theorem FillI.below {w wr w1 : World} {cs : List Nat} (h : FillI w cs wr) (hb : Below wr.heap.size wr w1) : FillI w cs w1 :=
  ⟨builder_below h.1 hb, h.2.1.trans (hb.mono h.2.1.size), Nat.lt_of_lt_of_le h.2.2 hb.size⟩
/-- One character more. -/
theorem FillI.write {w wr : World} {cs : List Nat} (h : FillI w cs wr) (hl : cs.length ≤ 65536) {c : Nat} (hc : Ch.isCh c = true) :
    Calls Tryd.prog 43 #[.pointer (some ⟨w.heap.size, 0, none⟩), .int .i32 (c : Int)] wr fun e w' => ∃ v, e = .returned v ∧ FillI w (cs ++ [c]) w' := by
  have hb := Ch.isCh_iff.1 hc
  refine (Tryd.Builder_WriteRune_k w.heap.size w.heap.size _ (c : Int) (by omega) (by omega) wr h.1 (fill_len cs hl) (Nat.le_of_lt h.2.2)).mono fun e w' hh => ?_
  obtain ⟨he, h1, b1, _⟩ := hh
  refine ⟨_, he, ?_, h.2.1.trans b1, Nat.lt_of_lt_of_le h.2.2 b1.size⟩
  rw [Ch.encs_append, Lib.byteCells_append, Ch.encs_cons, Ch.encs_nil, List.append_nil, ← runeCells_enc hc]
  exact Or.inr h1
theorem FillI.done {w wr : World} {cs : List Nat} (h : FillI w cs wr) :
    Calls Tryd.prog 44 #[.pointer (some ⟨w.heap.size, 0, none⟩)] wr fun e w' => e = .returned (.string ⟨(Ch.encs cs).toArray⟩) ∧ Below w.heap.size w w' :=
  (Tryd.Builder_String_any_k w.heap.size w.heap.size (Ch.encs cs) wr h.1 (Nat.le_of_lt h.2.2)).mono fun _ _ hh => ⟨hh.1, h.2.1.trans hh.2.2.1⟩

theorem FillI.drew {w wr : World} {cs : List Nat} (h : FillI w cs wr) : FillI w cs wr.drew := h.below (Below.refl _ _).drew
theorem or_i64 (x y : Nat) (hx : x < 256) (hy : y < 256) : bits .or .i64 ((x : Int) * 256) (y : Int) = ((x * 256 + y : Nat) : Int) := by
  have e : x * 256 + y = x * 256 ||| y := by
    have := Nat.two_pow_add_eq_or_of_lt (i := 8) (b := y) hy x
    rw [Nat.mul_comm x 256]
    exact this
  have h1 : (BitVec.ofInt 64 ((x : Int) * 256)).toNat = x * 256 := by
    rw [show (x : Int) * 256 = ((x * 256 : Nat) : Int) from by omega, BitVec.ofInt_natCast, BitVec.toNat_ofNat]; exact Nat.mod_eq_of_lt (by omega)
  have h2 : (BitVec.ofInt 64 (y : Int)).toNat = y := by
    rw [BitVec.ofInt_natCast, BitVec.toNat_ofNat]; exact Nat.mod_eq_of_lt (by omega)
  show IntKind.i64.wrap ((BitVec.ofInt 64 ((x : Int) * 256) ||| BitVec.ofInt 64 (y : Int)).toNat : Int) = _
  rw [BitVec.toNat_or, h1, h2, ← e, IntWalk.i64_in _ (by omega)]
theorem pairs_step {t u : List UInt8} {a b : UInt8} {ds : List Nat} (h : Ch.pairs t = (Ch.pairs (a :: b :: u)).map (ds ++ ·)) (hc : Ch.isCh (a.toNat * 256 + b.toNat) = true) : Ch.pairs t = (Ch.pairs u).map ((ds ++ [a.toNat * 256 + b.toNat]) ++ ·) := by
  rw [h]
  conv => lhs; arg 2; unfold Ch.pairs
  rw [if_pos hc, Option.map_map]
  congr 1
  funext x
  simp
theorem pairs_no {t u : List UInt8} {a b : UInt8} {ds : List Nat} (h : Ch.pairs t = (Ch.pairs (a :: b :: u)).map (ds ++ ·)) (hc : Ch.isCh (a.toNat * 256 + b.toNat) = false) : Ch.pairs t = none := by
  rw [h]
  conv => lhs; arg 2; unfold Ch.pairs
  rw [if_neg (by simp [hc])]
  rfl
theorem drop_two {t u : List UInt8} {a b : UInt8} {j : Nat} (hu : t.drop j = a :: b :: u) : t.drop (j + 2) = u := by
  rw [← List.drop_drop, hu]; rfl


set_option maxHeartbeats 1600000 in
set_option maxRecDepth 100000 in
theorem udf_FromUcs2 (s : ByteArray) (w : World) :
    Calls Tryd.prog 29 #[.string s] w fun e w' => e = .returned (.tuple #[.string (frmS s), .int .i64 (frmE s)]) ∧ Below w.heap.size w w' := by
  by_cases h1 : 65536 < s.size
  · obtain ⟨r1, r2⟩ := frm_big h1
    rw [r1, r2]
    clear r1 r2
    go_enter Tryd.func29, Tryd.ntmps29
    go_wp2
    go_ret2
    exact ⟨rfl, Below.refl _ _⟩
  · have hs : s.size ≤ 65536 := by omega
    by_cases h2 : s.size % 2 = 1
    · obtain ⟨r1, r2⟩ := frm_odd hs h2
      rw [r1, r2]
      have hodd : (((s.size : Int) % 2) != 0) = true := by rw [bne_iff_ne]; omega
      clear r1 r2 h2
      go_enter Tryd.func29, Tryd.ntmps29
      go_wp2
      go_ret2
      exact ⟨rfl, Below.refl _ _⟩
    · have h3 : s.size % 2 = 0 := by omega
      have hodd : (((s.size : Int) % 2) != 0) = false := by rw [bne_eq_false_iff_eq]; omega
      have hno := fun h => frm_none hs h3 h
      have hyes := fun cs h => frm_some (cs := cs) hs h3 h
      have hst := FillI.start w
      have Hno := Lib.hid hno
      have Hyes := Lib.hid hyes
      have Hsz := Lib.hid (Lib.size_eq s)
      have Hev := Lib.hid h3
      clear hno hyes h2 h3
      go_enter Tryd.func29, Tryd.ntmps29
      go_wp2_with fail
      go_loopw [5] (fun i wr => ∃ (j : Nat) (ds : List Nat), j ≤ s.size ∧ j % 2 = 0 ∧ i = .int .i64 (j : Int) ∧ FillI w ds wr ∧ ds.length ≤ j ∧ Ch.pairs s.data.toList = (Ch.pairs (s.data.toList.drop j)).map (ds ++ ·)) (fun i _ => s.size - (intOf i).toNat)
      case atStart => exact ⟨0, [], Nat.zero_le _, rfl, rfl, hst, Nat.zero_le _, by simp⟩
      case round =>
        obtain ⟨j, ds, hk, hj2, rfl, hI, hdl, hp⟩ := hrel
        clear hst
        have Hp := Lib.hid hp
        have Hj2 := Lib.hid hj2
        clear hp hj2
        by_cases hlt : j < s.size
        · have hlt2 : (j : Int) < (s.size : Int) := by omega
          have hlt3 : j + 1 < s.size := by have := Hev.out; have := Hj2.out; omega
          have z1 : (0 : Int) ≤ (j : Int) + 1 := by omega
          have z2 : (j : Int) + 1 < (s.size : Int) := by omega
          have z3 : ((j : Int) + 1).toNat = j + 1 := by omega
          obtain ⟨a, ha⟩ : ∃ a, a = s[j] := ⟨_, rfl⟩
          obtain ⟨b, hb⟩ : ∃ b, b = s[j + 1] := ⟨_, rfl⟩
          have hu : s.data.toList.drop j = a :: b :: s.data.toList.drop (j + 2) := by
            rw [ha, hb, List.drop_eq_getElem_cons (show j < s.data.toList.length by rw [← Hsz.out]; exact hlt), List.drop_eq_getElem_cons (show j + 1 < s.data.toList.length by rw [← Hsz.out]; exact hlt3)]
            rfl
          have Hu := Lib.hid hu
          clear hu
          have ha0 : (0 : Int) ≤ (a.toNat : Int) := by omega
          have ha1 : (a.toNat : Int) < 256 := by have := a.toNat_lt; omega
          have hb0 : (0 : Int) ≤ (b.toNat : Int) := by omega
          have hb1 : (b.toNat : Int) < 256 := by have := b.toNat_lt; omega
          have va : ((s[j]'hlt).toNat : Int) = (a.toNat : Int) := by rw [ha]
          have vb : ((s[j + 1]'hlt3).toNat : Int) = (b.toNat : Int) := by rw [hb]
          clear ha hb
          obtain ⟨X, hX⟩ : ∃ X : Nat, X = a.toNat * 256 + b.toNat := ⟨_, rfl⟩
          have hbits := or_i64 a.toNat b.toNat a.toNat_lt b.toNat_lt
          rw [← hX] at hbits
          have HX := Lib.hid hX
          clear hX
          go_wp2_with fail
          go_region
          have hI2 := hI.drew
          have HI := Lib.hid hI
          clear hI
          cases hc : Ch.isCh X with
          | false =>
            have kF := hide (cs_character_f (n := (X : Int)) (by rw [chI_nat]; exact hc))
            have Hr := Lib.hid (Hno.out (pairs_no (a := a) (b := b) (by rw [← Hu.out]; exact Hp.out) (by rw [← HX.out]; exact hc)))
            have Hb := Lib.hid hI2.2.1
            clear hc hI2
            go_wp2_with (go_at_call 41; refine (unhide kF _).mono ?_; rintro e w3 ⟨rfl, rfl⟩)
            go_ret2
            rw [Hr.out.1, Hr.out.2]
            exact ⟨rfl, Hb.out⟩
          | true =>
            have kT := hide (cs_character_t (n := (X : Int)) (by rw [chI_nat]; exact hc))
            have cW := hide (hI2.write (by omega) hc)
            have Hps := Lib.hid (pairs_step (a := a) (b := b) (by rw [← Hu.out]; exact Hp.out) (by rw [← HX.out]; exact hc))
            clear hc hI2
            have hX1 : (X : Int) ≤ 65535 := by rw [HX.out]; omega
            go_wp2_with (first | (go_at_call 41; refine (unhide kT _).mono ?_; rintro e w3 ⟨rfl, rfl⟩) | (go_at_call 43; refine (unhide cW).mono ?_; rintro e w4 ⟨v, rfl, hI4⟩))
            go_roundw
            case rel => exact ⟨j + 2, ds ++ [X], by omega, by have := Hj2.out; omega, by go_num, hI4, by rw [List.length_append]; simp only [List.length_cons, List.length_nil]; omega, by rw [HX.out]; exact Hps.out⟩
            case measure => simp [intOf]; omega
        · obtain rfl : j = s.size := by omega
          have cS := hide hI.done
          have Hr := Lib.hid (Hyes.out ds (by rw [Hp.out, List.drop_of_length_le (by rw [Hsz.out]; exact Nat.le_refl _)]; simp [Ch.pairs]))
          clear hI
          go_wp2_with (go_at_call 44; refine (unhide cS).mono ?_; rintro e w4 ⟨rfl, g2⟩)
          go_ret2
          rw [Hr.out.1, Hr.out.2]
          exact ⟨rfl, g2⟩
end Go.Proofs.YteiidcoapgnoaaaDoor
