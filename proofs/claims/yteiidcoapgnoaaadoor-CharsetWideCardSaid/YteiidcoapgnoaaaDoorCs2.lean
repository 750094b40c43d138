/-
  charset.Text: the text with some characters.
-/
import Derived.Test.YteiidcoapgnoaaaDoorCs1
import Derived.Test.YteiidcoapgnoaaaDoorWRest
import Derived.Lib.OthersKept
namespace Go.Proofs.YteiidcoapgnoaaaDoor
open Go.RowKit Go.Proofs.YteiidcoapgnoaaaDoorW.PrintWords

theorem runeCells_enc {c : Nat} (h : Ch.isCh c = true) : Lib.runeCells (c : Int) = Lib.byteCells (Ch.enc c) := by
  have hc := Ch.isCh_iff.1 h
  unfold Lib.runeCells Lib.byteCells Ch.enc
  by_cases h0 : c < 128
  · rw [if_pos h0, Lib.encodeRuneZ_one (by omega) (by omega)]
    simp only [List.map_cons, List.map_nil]
    rw [Ch.ofNat_toNat (by omega)]
  · rw [if_neg h0]
    by_cases h1 : c < 2048
    · rw [if_pos h1, Lib.encodeRuneZ_two (by omega) (by omega)]
      simp only [List.map_cons, List.map_nil]
      rw [Ch.ofNat_toNat (by omega), Ch.ofNat_toNat (by omega), show 192 + (c : Int) / 64 = ((192 + c / 64 : Nat) : Int) from by omega, show 128 + (c : Int) % 64 = ((128 + c % 64 : Nat) : Int) from by omega]
    · rw [if_neg h1, Lib.encodeRuneZ_three (by omega)]
      simp only [List.map_cons, List.map_nil]
      rw [Ch.ofNat_toNat (by omega), Ch.ofNat_toNat (by omega), Ch.ofNat_toNat (by omega), show 224 + (c : Int) / 4096 = ((224 + c / 4096 : Nat) : Int) from by omega, show 128 + (c : Int) / 64 % 64 = ((128 + c / 64 % 64 : Nat) : Int) from by omega, show 128 + (c : Int) % 64 = ((128 + c % 64 : Nat) : Int) from by omega]

/-- A row of ints that is read, in words that the walk has no rule on. -/
structure Row (w : World) (A : Option Addr) (xs : List Int) : Prop where
  reads : ReadsInt w .i64 A xs.length xs
theorem Row.below {w w1 : World} {A : Option Addr} {xs : List Int} (h : Row w A xs) (hb : Below w.heap.size w w1) : Row w1 A xs := ⟨h.reads.below hb⟩
theorem Row.at_ {w : World} {A : Option Addr} {xs : List Int} (h : Row w A xs) {k : Nat} (hk : k < xs.length) : ∃ ad, A = some ad ∧ w.cell? (ad.add k) = some (.int .i64 (xs.getD k 0)) := by
  obtain ⟨ad, e, hc⟩ := h.reads.2.2 (by omega)
  exact ⟨ad, e, hc k hk⟩
theorem Row.take {w : World} {A : Option Addr} {xs : List Int} (h : Row w A xs) (n : Nat) (hn : n ≤ xs.length) : Row w A (xs.take n) := by
  have := h.reads.take_ n hn
  refine ⟨?_⟩
  rw [List.length_take, Nat.min_eq_left hn]
  exact this

def textE (xs : List Int) : Int := if xs.all chI = true then 0 else 2
def textS (xs : List Int) : List UInt8 := if xs.all chI = true then Ch.encs (xs.map Int.toNat) else []
/-- The builder that Text fills. -/
def TextI (w : World) (xs : List Int) (k : Nat) (wr : World) : Prop :=
  Lib.IsBuilderF 49 5 w.heap.size w.heap.size (Lib.byteCells (Ch.encs ((xs.take k).map Int.toNat))) wr ∧ (xs.take k).all chI = true ∧ Below w.heap.size w wr ∧ w.heap.size < wr.heap.size

theorem TextI.start (w : World) (xs : List Int) : TextI w xs 0 (w.alloc (.cells #[.pointer none, .slice none 0 0] 49)) := by
  refine ⟨?_, by simp, (Below.refl _ _).alloc (Nat.le_refl _) _, by simp⟩
  have := Lib.IsBuilderF.of (Lib.fresh_isBuilder 49 5 w)
  simpa [Ch.encs, Lib.byteCells] using this
theorem text_len (xs : List Int) (k : Nat) (hk : k ≤ 21845) : (Lib.byteCells (Ch.encs ((xs.take k).map Int.toNat))).length + 4 ≤ 140737488355328 := by
  rw [Lib.byteCells_length]
  have := Ch.encs_length_le ((xs.take k).map Int.toNat)
  simp only [List.length_map, List.length_take] at this
  omega
theorem TextI.step {w wr w1 : World} {xs : List Int} {k : Nat} (hI : TextI w xs k wr) (hk : k < xs.length) (hc : chI (xs.getD k 0) = true)
    (h1 : Lib.BuilderAtF 49 5 w.heap.size w.heap.size (.pointer (some ⟨w.heap.size, 0, none⟩)) (Lib.byteCells (Ch.encs ((xs.take k).map Int.toNat)) ++ Lib.runeCells (xs.getD k 0)) w1) (b1 : Below w.heap.size wr w1) : TextI w xs (k + 1) w1 := by
  obtain ⟨_, ha, hb, hz⟩ := hI
  have hx : xs.getD k 0 = xs[k] := by rw [List.getD_eq_getElem?_getD, List.getElem?_eq_getElem hk]; rfl
  rw [hx] at hc h1
  have hn := of_decide_eq_true (show decide _ = true from hc)
  refine ⟨?_, ?_, hb.trans b1, Nat.lt_of_lt_of_le hz b1.size⟩
  · have e : Lib.runeCells xs[k] = Lib.byteCells (Ch.enc xs[k].toNat) := by
      have hi : Ch.isCh xs[k].toNat = true := Ch.isCh_iff.2 (by omega)
      rw [← runeCells_enc hi, Int.toNat_of_nonneg (by omega)]
    rw [List.take_succ_eq_append_getElem hk, List.map_append, Ch.encs_append, Lib.byteCells_append, List.map_cons, List.map_nil, Ch.encs_cons, Ch.encs_nil, List.append_nil, ← e]
    exact Or.inr h1
  · rw [List.take_succ_eq_append_getElem hk, List.all_append, ha]
    simp [hc]
theorem TextI.bad {w wr : World} {xs : List Int} {k : Nat} (hk : k < xs.length) (hc : chI (xs.getD k 0) = false) : textE xs = 2 ∧ textS xs = [] ∧ (TextI w xs k wr → Below w.heap.size w wr) := by
  have hx : xs.getD k 0 = xs[k] := by rw [List.getD_eq_getElem?_getD, List.getElem?_eq_getElem hk]; rfl
  rw [hx] at hc
  have hn : ¬ xs.all chI = true := by
    intro h
    rw [List.all_eq_true] at h
    have := h xs[k] (List.getElem_mem _)
    rw [hc] at this
    cases this
  exact ⟨by unfold textE; rw [if_neg hn], by unfold textS; rw [if_neg hn], fun h => h.2.2.1⟩
theorem TextI.good {w wr : World} {xs : List Int} (hI : TextI w xs xs.length wr) : textE xs = 0 ∧ textS xs = Ch.encs (xs.map Int.toNat) ∧ Lib.IsBuilderF 49 5 w.heap.size w.heap.size (Lib.byteCells (textS xs)) wr := by
  obtain ⟨h, ha, hb, hz⟩ := hI
  rw [List.take_length] at h ha
  have e : textS xs = Ch.encs (xs.map Int.toNat) := by unfold textS; rw [if_pos ha]
  exact ⟨by unfold textE; rw [if_pos ha], e, by rw [e]; exact h⟩

set_option maxHeartbeats 1600000 in
set_option maxRecDepth 100000 in
theorem cs_Text (A : Option Addr) (c : Nat) (xs : List Int) (w : World) (hr : Row w A xs) (hl : xs.length ≤ 21845) :
    Calls Tryd.prog 14 #[.slice A xs.length c] w fun e w' => e = .returned (.tuple #[.string ⟨(textS xs).toArray⟩, .int .i64 (textE xs)]) ∧ Below w.heap.size w w' := by
  have hst := TextI.start w xs
  go_enter Tryd.func14, Tryd.ntmps14
  go_wp2_with fail
  go_loopw [12] (fun i wr => ∃ k : Nat, k ≤ xs.length ∧ i = .int .i64 (k : Int) ∧ TextI w xs k wr) (fun i _ => xs.length - (intOf i).toNat)
  case atStart => exact ⟨0, Nat.zero_le _, rfl, hst⟩
  case round =>
    obtain ⟨k, hk, rfl, hI⟩ := hrel
    clear hst
    by_cases hlt : k < xs.length
    · obtain ⟨ad, rfl, hcell⟩ := (hr.below hI.2.2.1).at_ hlt
      cases hc : chI (xs.getD k 0) with
      | false =>
        obtain ⟨t1, t2, t3⟩ := TextI.bad (w := w) (wr := wr) hlt hc
        have T1 := Lib.hid t1
        have T2 := Lib.hid t2
        have Hb := Lib.hid (t3 hI)
        clear t1 t2 t3
        have kF := hide (cs_character_f hc)
        have Hc := Lib.hid hc
        have HI := Lib.hid hI
        clear hc hI
        generalize xs.getD k 0 = x at *
        go_wp2_with (go_at_call 41; refine (unhide kF _).mono ?_; rintro e w3 ⟨rfl, rfl⟩)
        go_ret2
        rw [T1.out, T2.out]
        exact ⟨rfl, Hb.out⟩
      | true =>
        have kT := hide (cs_character_t hc)
        have hn := of_decide_eq_true (show decide _ = true from hc)
        have hx0 := hn.1
        have hx1 := hn.2.1
        have cW := hide (Tryd.Builder_WriteRune_k w.heap.size w.heap.size _ (xs.getD k 0) (by omega) (by omega) wr hI.1 (text_len xs k (by omega)) (Nat.le_of_lt hI.2.2.2))
        have hS := hide (fun (w1 : World) => TextI.step (w1 := w1) hI hlt hc)
        have Hn := Lib.hid hn
        have Hc := Lib.hid hc
        have HI := Lib.hid hI
        clear hc hI hn
        generalize xs.getD k 0 = x at *
        go_wp2_with (first | (go_at_call 41; refine (unhide kT _).mono ?_; rintro e w3 ⟨rfl, rfl⟩) | (go_at_call 43; refine (unhide cW).mono ?_; rintro e w4 ⟨rfl, g1, g2, g3⟩))
        go_roundw
        case rel => exact ⟨k + 1, by omega, by go_num, unhide hS _ g1 g2⟩
        case measure => simp [intOf]; omega
    · obtain rfl : k = xs.length := by omega
      obtain ⟨t1, t2, t3⟩ := hI.good
      have T1 := Lib.hid t1
      have cS := hide (Tryd.Builder_String_any_k w.heap.size w.heap.size (textS xs) wr t3 (Nat.le_of_lt hI.2.2.2))
      have Hb := Lib.hid hI.2.2.1
      clear t1 t2 t3 hI
      go_wp2_with (go_at_call 44; refine (unhide cS).mono ?_; rintro e w4 ⟨rfl, g1, g2, g3⟩)
      go_ret2
      rw [T1.out]
      exact ⟨rfl, Hb.out.trans g2⟩
end Go.Proofs.YteiidcoapgnoaaaDoor
