/-
  charset.character and charset.Characters: what they return.
-/
import Derived.Test.YteiidcoapgnoaaaDoorWords
namespace Go.Proofs.YteiidcoapgnoaaaDoor
open Go.RowKit

theorem cs_character (n : Int) (w : World) : Calls Tryd.prog 41 #[.int .i64 n] w fun e w' => e = .returned (.bool (chI n)) ∧ w = w' := by
  have H : Hid (chI n = decide (32 ≤ n ∧ n ≤ 65533 ∧ (n < 55296 ∨ 57343 < n))) := Lib.hid rfl
  generalize chI n = b at *
  go_enter Tryd.func41, Tryd.ntmps41
  go_wp2
  all_goals go_ret
  all_goals (refine ⟨ret_bool ?_, rfl⟩; rw [H.out, Bool.eq_iff_iff]; simp; try omega)
theorem cs_character_t {n : Int} (h : chI n = true) (w : World) : Calls Tryd.prog 41 #[.int .i64 n] w fun e w' => e = .returned (.bool true) ∧ w = w' :=
  (cs_character n w).mono fun _ _ hh => by rw [h] at hh; exact hh
theorem cs_character_f {n : Int} (h : chI n = false) (w : World) : Calls Tryd.prog 41 #[.int .i64 n] w fun e w' => e = .returned (.bool false) ∧ w = w' :=
  (cs_character n w).mono fun _ _ hh => by rw [h] at hh; exact hh

/-- What Characters leaves: the error, or a row of its own that holds the characters. -/
def CharsP (l : List UInt8) (w : World) (e : Ending) (w' : World) : Prop :=
  Below w.heap.size w w' ∧ ((Ch.chars l = none ∧ e = .returned (.tuple #[.slice none 0 0, .int .i64 3])) ∨
    ∃ cs v, Ch.chars l = some cs ∧ e = .returned (.tuple #[v, .int .i64 0]) ∧ w'.ownsRow w.heap.size 3 1 v cs.length (ints cs))
/-- The state of its loop: what is left, what is done. -/
def CharsI (l : List UInt8) (w : World) (t : ByteArray) (v : Value) (wr : World) : Prop :=
  ∃ done : List Nat, Ch.chars l = (Ch.chars t.data.toList).map (done ++ ·) ∧ t.size + done.length ≤ l.length ∧ wr.ownsRow w.heap.size 3 1 v done.length (ints done) ∧ Below w.heap.size w wr

theorem CharsI.step {l : List UInt8} {w w1 : World} {t : ByteArray} {v1 : Value} {done : List Nat} {c k : Nat} (hch : Ch.chars l = (Ch.chars t.data.toList).map (done ++ ·)) (hsz : t.size + done.length ≤ l.length)
    (hd : Ch.dec t.data.toList = some (c, k)) (hbel : Below w.heap.size w w1) (hown : w1.ownsRow w.heap.size 3 1 v1 (done.length + 1) (ints done ++ [.int .i64 (c : Int)])) : CharsI l w (t.extract k t.size) v1 w1 := by
  obtain ⟨_, hk, he⟩ := Ch.dec_some hd
  have hp := Ch.enc_pos c
  have hl := congrArg List.length he
  simp only [List.length_append, List.length_drop] at hl
  have hsl := Lib.size_eq t
  refine ⟨done ++ [c], ?_, ?_, by simpa [ints] using hown, hbel⟩
  · rw [hch, Lib.extract_to_end, Ch.chars_some hd, Option.map_map]
    congr 1
    funext x
    simp
  · rw [Lib.size_eq, Lib.extract_to_end, List.length_drop, List.length_append]
    simp only [List.length_cons, List.length_nil]
    omega

set_option maxHeartbeats 1600000 in
set_option maxRecDepth 100000 in
theorem cs_Characters (s : ByteArray) (w : World) (hT : Tabs w) (hs : s.size ≤ 65536) :
    Calls Tryd.prog 12 #[.string s] w (CharsP s.data.toList w) := by
  obtain ⟨i0, hi, hz0, hz1, hz2⟩ := info_parts intInfo
  have hmx : s.size ≤ maxLen := by unfold maxLen; omega
  go_enter Tryd.func12, Tryd.ntmps12
  go_wp2_with (at_make; refine wpList_make_own _ rfl _ _ 22 rfl w.heap.size 3 i0 _ 1 Tryd.underlying22 hi hz0 hz1 _ _ _ s.size rfl rfl rfl (by rw [hz2]; omega) hmx (Nat.le_refl _) ?_; intro w1 hown1 hgrow1)
  clear hmx
  have hb1 : Below w.heap.size w w1 := (Below.refl _ _).grown hgrow1 (Nat.le_refl _) (fun k hk => by cases hk)
  obtain ⟨v1, hv1⟩ : ∃ v1 : Value, v1 = .slice (some ⟨w.heap.size, 0, none⟩) 0 s.size := ⟨_, rfl⟩
  rw [← hv1] at hown1 ⊢
  clear hv1
  have hst : CharsI s.data.toList w s v1 w1 := ⟨[], by simp, by rw [Lib.size_eq]; simp, hown1, hb1⟩
  clear hown1 hgrow1 hb1
  go_loopw [0, 4] (fun x v wr => ∃ t : ByteArray, x = .string t ∧ CharsI s.data.toList w t v wr) (fun x _ _ => match x with | .string t => t.size | _ => 0)
  case atStart => exact ⟨s, rfl, hst⟩
  case round =>
    obtain ⟨t, rfl, hI⟩ := hrel
    clear hst
    obtain ⟨done, hch, hsz, hown, hbel⟩ := hI
    have hdl : done.length ≤ 65536 := by have := Lib.size_eq s; omega
    have Hch := Lib.hid hch
    clear hch
    by_cases ht : t.data.toList = []
    · have hz : ¬ (0 : Int) < (t.size : Int) := by rw [Lib.size_eq, ht]; simp
      have Ht := Lib.hid ht
      clear ht
      go_wp2
      go_ret2
      exact ⟨hbel, .inr ⟨done, _, by rw [Hch.out, Ht.out, Ch.chars_nil]; simp, rfl, hown⟩⟩
    · have hz : (0 : Int) < (t.size : Int) := by
        rw [Lib.size_eq]
        have : t.data.toList.length ≠ 0 := fun e => ht (List.eq_nil_of_length_eq_zero e)
        omega
      obtain ⟨⟨c, k⟩, hd⟩ : ∃ d, Lib.decodeGo t = d := ⟨_, rfl⟩
      obtain ⟨b1, b2, b3⟩ := dec_bounds t ht hd
      have cD := Tryd.utf8_DecodeRuneInString t wr (tabs_below hT (Nat.le_refl _) hbel)
      rw [hd] at cD
      have cD := hide cD
      have hc0 : (0 : Int) ≤ (c : Int) := by omega
      have hc1 : (c : Int) ≤ 1114111 := by omega
      cases ho : Ch.okDec (c, k) with
      | false =>
        have hno : Ch.chars t.data.toList = none := Ch.chars_none ht (dec_no ht hd ho)
        have Hno := Lib.hid hno
        have Ht := Lib.hid ht
        have Hd := Lib.hid hd
        have Ho := Lib.hid ho
        clear hno ht hd ho
        cases hc : chI (c : Int) with
        | false =>
          have kF := hide (cs_character_f hc)
          have Hc := Lib.hid hc
          clear hc
          go_wp2_with (first | (go_at_call 40; refine (unhide cD).mono ?_; rintro e w2 ⟨rfl, hb2⟩) | (go_at_call 41; refine (unhide kF _).mono ?_; rintro e w3 ⟨rfl, rfl⟩))
          go_ret2
          exact ⟨hbel.trans (hb2.mono hbel.size), .inl ⟨by rw [Hch.out, Hno.out]; rfl, rfl⟩⟩
        | true =>
          have kT := hide (cs_character_t hc)
          have hcc : c = 65533 ∧ k = 1 := by
            apply Classical.byContradiction
            intro hn
            have h2 : Ch.okDec (c, k) = true := Ch.okDec_iff.2 ⟨by rw [← chI_nat]; exact hc, hn⟩
            rw [Ho.out] at h2
            cases h2
          have q1 : ((c : Int) == 65533) = true := by rw [beq_iff_eq]; omega
          have q2 : ((k : Int) == 1) = true := by rw [beq_iff_eq]; omega
          have Hcc := Lib.hid hcc
          have Hc := Lib.hid hc
          clear hc hcc
          go_wp2_with (first | (go_at_call 40; refine (unhide cD).mono ?_; rintro e w2 ⟨rfl, hb2⟩) | (go_at_call 41; refine (unhide kT _).mono ?_; rintro e w3 ⟨rfl, rfl⟩))
          go_ret2
          exact ⟨hbel.trans (hb2.mono hbel.size), .inl ⟨by rw [Hch.out, Hno.out]; rfl, rfl⟩⟩
      | true =>
        have hdec := dec_yes ht hd ho
        obtain ⟨hch, hnn⟩ := Ch.okDec_iff.1 ho
        have kT := hide (cs_character_t (by rw [chI_nat]; exact hch))
        have hkt : k ≤ t.size := by
          obtain ⟨_, hk, he⟩ := Ch.dec_some hdec
          have := congrArg List.length he
          simp only [List.length_append, List.length_drop] at this
          rw [Lib.size_eq]; omega
        have Hdec := Lib.hid hdec
        have Ht := Lib.hid ht
        have Hd := Lib.hid hd
        have Ho := Lib.hid ho
        have Hnn := Lib.hid hnn
        have Hic := Lib.hid hch
        clear hdec ht hd ho hnn hch
        by_cases q : c = 65533
        · have q1 : ((c : Int) == 65533) = true := by rw [beq_iff_eq]; omega
          have q2 : ((k : Int) == 1) = false := by rw [beq_eq_false_iff_ne]; intro h; exact Hnn.out ⟨q, by omega⟩
          have Q := Lib.hid q
          clear q
          go_wp2_with (first | (go_at_call 40; refine (unhide cD).mono ?_; rintro e w2 ⟨rfl, hb2⟩) | (go_at_call 41; refine (unhide kT _).mono ?_; rintro e w3 ⟨rfl, rfl⟩) | (at_builtin; refine wpList_append_own _ rfl (.tmp 33) (.tmp 36) 22 rfl w.heap.size 3 i0 (.int .i64 0) 1 8 Tryd.underlying22 hi hz0 hz1 hz2 rfl (by decide) _ _ _ rfl ((owns_below hown hb2 (Nat.le_refl _)).alloc _) ⟨w2.heap.size, 0, none⟩ 1 1 [.int .i64 (c : Int)] rfl rfl (cell_one_new _ _ _) one_oneCell (by unfold maxLen; omega) (by omega) (by have := hbel.size; have := hb2.size; simp; omega) ?_; intro v' w4 hown' hgrow' _))
          have hB4 : Below w.heap.size w w4 := ((hbel.trans (hb2.mono hbel.size)).alloc (by have := hbel.size; have := hb2.size; omega) _).grown hgrow' (by have := hbel.size; have := hb2.size; simp; omega) (fun x hx => ((owns_below hown hb2 (Nat.le_refl _)).lt x hx).1)
          go_roundw
          case rel => exact ⟨_, rfl, CharsI.step Hch.out hsz Hdec.out hB4 hown'⟩
          case measure => simp [ByteArray.size_extract]; omega
        · have q1 : ((c : Int) == 65533) = false := by rw [beq_eq_false_iff_ne]; omega
          have Q := Lib.hid q
          clear q
          go_wp2_with (first | (go_at_call 40; refine (unhide cD).mono ?_; rintro e w2 ⟨rfl, hb2⟩) | (go_at_call 41; refine (unhide kT _).mono ?_; rintro e w3 ⟨rfl, rfl⟩) | (at_builtin; refine wpList_append_own _ rfl (.tmp 33) (.tmp 36) 22 rfl w.heap.size 3 i0 (.int .i64 0) 1 8 Tryd.underlying22 hi hz0 hz1 hz2 rfl (by decide) _ _ _ rfl ((owns_below hown hb2 (Nat.le_refl _)).alloc _) ⟨w2.heap.size, 0, none⟩ 1 1 [.int .i64 (c : Int)] rfl rfl (cell_one_new _ _ _) one_oneCell (by unfold maxLen; omega) (by omega) (by have := hbel.size; have := hb2.size; simp; omega) ?_; intro v' w4 hown' hgrow' _))
          have hB4 : Below w.heap.size w w4 := ((hbel.trans (hb2.mono hbel.size)).alloc (by have := hbel.size; have := hb2.size; omega) _).grown hgrow' (by have := hbel.size; have := hb2.size; simp; omega) (fun x hx => ((owns_below hown hb2 (Nat.le_refl _)).lt x hx).1)
          go_roundw
          case rel => exact ⟨_, rfl, CharsI.step Hch.out hsz Hdec.out hB4 hown'⟩
          case measure => simp [ByteArray.size_extract]; omega
end Go.Proofs.YteiidcoapgnoaaaDoor
