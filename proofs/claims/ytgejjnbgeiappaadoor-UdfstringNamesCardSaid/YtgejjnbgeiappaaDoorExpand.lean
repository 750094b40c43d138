/-
  What the printed reference functions Utf8 and Expand of layer 32 compute.
-/
import Derived.Test.YtgejjnbgeiappaaDoorPExpandx
import Derived.Test.YtgejjnbgeiappaaDoorSqueeze
namespace Go.Proofs.YtgejjnbgeiappaaDoor
open Go.RowKit Go.Proofs.YtgejjnbgeiappaaDoorW.PrintWords Go.Proofs.YtgejjnbgeiappaaDoor.PExpand

theorem encI {c : Nat} (hc : c ≤ 65535) : (if (c : Int) < 128 then [(c : Int) % 256] else if (c : Int) < 2048 then [(wrap64 (192 + (wrap64 (Int.tdiv (c : Int) 64)))) % 256, (wrap64 (128 + (Int.tmod (c : Int) 64))) % 256]
    else [(wrap64 (224 + (wrap64 (Int.tdiv (c : Int) 4096)))) % 256, (wrap64 (128 + (Int.tmod (wrap64 (Int.tdiv (c : Int) 64)) 64))) % 256, (wrap64 (128 + (Int.tmod (c : Int) 64))) % 256]).map (fun x => UInt8.ofNat x.toNat) = Ch.enc c := by
  have e1 : Int.tdiv (c : Int) 64 = ((c / 64 : Nat) : Int) := tdiv_nat (a := c) (b := 64)
  have e2 : Int.tmod (c : Int) 64 = ((c % 64 : Nat) : Int) := tmod_nat (a := c) (b := 64)
  have e3 : Int.tdiv (c : Int) 4096 = ((c / 4096 : Nat) : Int) := tdiv_nat (a := c) (b := 4096)
  have e4 : Int.tmod ((c / 64 : Nat) : Int) 64 = ((c / 64 % 64 : Nat) : Int) := tmod_nat (a := c / 64) (b := 64)
  unfold Ch.enc
  by_cases h0 : c < 128
  · rw [if_pos (by omega), if_pos h0]
    simp only [List.map_cons, List.map_nil]
    rw [show ((c : Int) % 256).toNat = c from by omega]
  · rw [if_neg (by omega), if_neg h0, e1, e2, e3, w64 (n := ((c / 64 : Nat) : Int)) (by omega) (by omega), w64 (n := ((c / 4096 : Nat) : Int)) (by omega) (by omega), e4,
      w64 (n := 192 + ((c / 64 : Nat) : Int)) (by omega) (by omega), w64 (n := 128 + ((c % 64 : Nat) : Int)) (by omega) (by omega), w64 (n := 224 + ((c / 4096 : Nat) : Int)) (by omega) (by omega), w64 (n := 128 + ((c / 64 % 64 : Nat) : Int)) (by omega) (by omega)]
    by_cases h1 : c < 2048
    · rw [if_pos (by omega), if_pos h1]
      simp only [List.map_cons, List.map_nil]
      rw [show ((192 + ((c / 64 : Nat) : Int)) % 256).toNat = 192 + c / 64 from by omega, show ((128 + ((c % 64 : Nat) : Int)) % 256).toNat = 128 + c % 64 from by omega]
    · rw [if_neg (by omega), if_neg h1]
      simp only [List.map_cons, List.map_nil]
      rw [show ((224 + ((c / 4096 : Nat) : Int)) % 256).toNat = 224 + c / 4096 from by omega, show ((128 + ((c / 64 % 64 : Nat) : Int)) % 256).toNat = 128 + c / 64 % 64 from by omega, show ((128 + ((c % 64 : Nat) : Int)) % 256).toNat = 128 + c % 64 from by omega]

theorem utf8_loop (cs : List Nat) (hc : ∀ c ∈ cs, c ≤ 65535) (hl : cs.length ≤ 100000) : ∀ (m i : Nat) (acc : List Int), i + m = cs.length → acc.length ≤ 3 * i →
    Ev (fun k => masterdiscref32_Utf8.l0 k (nat2int cs) acc (i : Int)) ⟨((acc.map fun x => UInt8.ofNat x.toNat) ++ Ch.encs (cs.drop i)).toArray⟩
  | 0, i, acc, hi, ha => by
    refine Ev.step (f := fun _ => some _) (fun k => ?_) (Ev.now _)
    simp only [masterdiscref32_Utf8.l0]
    rw [if_neg (by rw [nat2int_length]; omega), List.drop_of_length_le (by omega)]
    congr 1
    simp [strOfNums, Ch.encs]
  | m + 1, i, acc, hi, ha => by
    have hil : i < cs.length := by omega
    have hci := hc (cs[i]'hil) (List.getElem_mem _)
    have hE := encI hci
    obtain ⟨E, hEE⟩ : ∃ E, E = (if ((cs[i]'hil : Nat) : Int) < 128 then [((cs[i]'hil : Nat) : Int) % 256] else if ((cs[i]'hil : Nat) : Int) < 2048 then [(wrap64 (192 + (wrap64 (Int.tdiv ((cs[i]'hil : Nat) : Int) 64)))) % 256, (wrap64 (128 + (Int.tmod ((cs[i]'hil : Nat) : Int) 64))) % 256]
      else [(wrap64 (224 + (wrap64 (Int.tdiv ((cs[i]'hil : Nat) : Int) 4096)))) % 256, (wrap64 (128 + (Int.tmod (wrap64 (Int.tdiv ((cs[i]'hil : Nat) : Int) 64)) 64))) % 256, (wrap64 (128 + (Int.tmod ((cs[i]'hil : Nat) : Int) 64))) % 256]) := ⟨_, rfl⟩
    rw [← hEE] at hE
    have hEl : E.length ≤ 3 := by
      rw [← List.length_map (f := fun x : Int => UInt8.ofNat x.toNat), hE]; exact Ch.enc_le _
    have ih := utf8_loop cs hc hl m (i + 1) (acc ++ E) (by omega) (by rw [List.length_append]; omega)
    refine Ev.step (fun k => ?_) (f := fun k => masterdiscref32_Utf8.l0 k (nat2int cs) (acc ++ E) ((i + 1 : Nat) : Int)) ?_
    · simp only [masterdiscref32_Utf8.l0]
      rw [if_pos (by rw [nat2int_length]; omega), if_pos (by omega), rd_nat cs i hil, w64 (n := (i : Int) + 1) (by omega) (by omega)]
      by_cases h0 : ((cs[i]'hil : Nat) : Int) < 128
      · rw [if_pos h0] at hEE ⊢
        rw [if_pos (by omega), hEE]; rfl
      · rw [if_neg h0] at hEE ⊢
        by_cases h1 : ((cs[i]'hil : Nat) : Int) < 2048
        · rw [if_pos h1] at hEE ⊢
          simp only [Option.bind_some]
          rw [if_pos (by simp only [List.length_cons, List.length_nil]; omega), hEE]; rfl
        · rw [if_neg h1] at hEE ⊢
          simp only [Option.bind_some]
          rw [if_pos (by simp only [List.length_cons, List.length_nil]; omega), hEE]; rfl
    · have e : ((acc.map fun x => UInt8.ofNat x.toNat) ++ Ch.encs (cs.drop i)) = ((acc ++ E).map fun x => UInt8.ofNat x.toNat) ++ Ch.encs (cs.drop (i + 1)) := by
        rw [List.drop_eq_getElem_cons hil, Ch.encs_cons, List.map_append, hE, List.append_assoc]
      rw [e]; exact ih
/-- 'Utf8' is the text of characters. -/
theorem ref32_Utf8 (cs : List Nat) (hc : ∀ c ∈ cs, c ≤ 65535) (hl : cs.length ≤ 100000) : Ev (fun k => masterdiscref32_Utf8.f k (nat2int cs)) ⟨(Ch.encs cs).toArray⟩ := by
  have := utf8_loop cs hc hl cs.length 0 [] (by omega) (by simp)
  rw [List.map_nil, List.nil_append, List.drop_zero] at this
  refine Ev.congr (fun k => ?_) this
  rfl
theorem ref32_character (n : Int) : masterdiscref32_character.f n = some (chI n) := by
  unfold masterdiscref32_character.f chI
  split
  · split
    · split
      · congr 1; symm; rw [decide_eq_true_eq]; omega
      · congr 1; rw [Bool.eq_iff_iff]; simp; omega
    · congr 1; symm; rw [decide_eq_false_iff_not]; omega
  · congr 1; symm; rw [decide_eq_false_iff_not]; omega

theorem bt_drop {s : ByteArray} {i : Nat} {b : UInt8} {t : List UInt8} (h : s.data.toList.drop i = b :: t) : bt s (i : Int) = (b.toNat : Int) := by
  rw [bt_list, Int.toNat_natCast]
  have := congrArg (·[0]?) h
  simp only [List.getElem?_drop, List.getElem?_cons_zero, Nat.add_zero] at this
  rw [List.getD_eq_getElem?_getD, this]
  rfl
theorem drop_step {s : ByteArray} {i : Nat} {b : UInt8} {t : List UInt8} (h : s.data.toList.drop i = b :: t) : s.data.toList.drop (i + 1) = t ∧ i < s.size := by
  constructor
  · rw [← List.drop_drop, h]; rfl
  · have := congrArg List.length h
    simp only [List.length_drop, List.length_cons] at this
    rw [Lib.size_eq]; omega
theorem expand_end (s : ByteArray) (z : Int) (cs : List Nat) (i : Nat) (hi : s.size ≤ i) (hc : ∀ c ∈ cs, c ≤ 65535) (hl : cs.length ≤ 100000) :
    Ev (fun k => masterdiscref32_Expand.l0 k s z (nat2int cs) (i : Int)) (⟨(Ch.encs cs).toArray⟩, 0) := by
  refine Ev.step (fun k => by simp only [masterdiscref32_Expand.l0]; rw [if_neg (by omega)]) ?_
  exact Ev.bind (ref32_Utf8 cs hc hl) (Ev.now _)
theorem expand_one (s : ByteArray) (hs : s.size ≤ 65536) : ∀ (t : List UInt8) (i : Nat) (cs : List Nat), s.data.toList.drop i = t → i + t.length = s.size → cs.length ≤ i → (∀ c ∈ cs, c ≤ 65535) →
    Ev (fun k => masterdiscref32_Expand.l0 k s 1 (nat2int cs) (i : Int)) (if t.all (fun x => Ch.isCh x.toNat) = true then (⟨(Ch.encs (cs ++ t.map (·.toNat))).toArray⟩, 0) else (⟨#[]⟩, 2))
  | [], i, cs, ht, hi, hl, hc => by
    simp only [List.length_nil] at hi
    have := expand_end s 1 cs i (by omega) hc (by omega)
    simpa using this
  | b :: t, i, cs, ht, hi, hl, hc => by
    have hb := b.toNat_lt
    obtain ⟨h1, h2⟩ := drop_step ht
    refine Ev.step (fun k => by
      simp only [masterdiscref32_Expand.l0]
      rw [if_pos (by omega), if_pos (by omega), if_neg (by decide), bt_drop ht, w64 (n := (b.toNat : Int)) (by omega) (by omega), w64 (n := (i : Int) + 1) (by omega) (by omega), ref32_character, chI_nat]) ?_
    cases hcb : Ch.isCh b.toNat with
    | false =>
      rw [List.all_cons, hcb]
      exact Ev.congr (fun k => by simp) (Ev.now _)
    | true =>
      have ih := expand_one s hs t (i + 1) (cs ++ [b.toNat]) h1 (by simp only [List.length_cons] at hi; omega) (by simp; omega) (fun c h => by
        rcases List.mem_append.1 h with h | h
        · exact hc c h
        · simp at h; omega)
      rw [List.all_cons, hcb]
      refine Ev.congr (fun k => ?_) (f := fun k => masterdiscref32_Expand.l0 k s 1 (nat2int (cs ++ [b.toNat])) ((i + 1 : Nat) : Int)) ?_
      · simp only [Option.bind_some, if_true]
        rw [if_pos (by rw [nat2int_length]; omega)]
        simp [nat2int]
      · simpa using ih
theorem expand_two (s : ByteArray) (hs : s.size ≤ 65536) : ∀ (n : Nat) (t : List UInt8) (i : Nat) (cs : List Nat), t.length = 2 * n → s.data.toList.drop i = t → i + t.length = s.size → cs.length ≤ i → (∀ c ∈ cs, c ≤ 65535) →
    Ev (fun k => masterdiscref32_Expand.l0 k s 2 (nat2int cs) (i : Int)) (match Ch.pairs t with | some ds => (⟨(Ch.encs (cs ++ ds)).toArray⟩, 0) | none => (⟨#[]⟩, 2))
  | 0, t, i, cs, hn, ht, hi, hl, hc => by
    obtain rfl : t = [] := List.eq_nil_of_length_eq_zero (by omega)
    simp only [List.length_nil] at hi
    have := expand_end s 2 cs i (by omega) hc (by omega)
    simpa [Ch.pairs] using this
  | n + 1, a :: b :: t, i, cs, hn, ht, hi, hl, hc => by
    have ha := a.toNat_lt
    have hb := b.toNat_lt
    obtain ⟨h1, h2⟩ := drop_step ht
    obtain ⟨h3, h4⟩ := drop_step h1
    have e1 := bt_drop h1
    simp only [List.length_cons] at hi hn
    refine Ev.step (fun k => by
      simp only [masterdiscref32_Expand.l0]
      rw [if_pos (by omega), if_pos (by omega), if_pos trivial, w64 (n := (i : Int) + 1) (by omega) (by omega), if_pos (by omega), if_pos (by omega), bt_drop ht, show ((i : Int) + 1) = ((i + 1 : Nat) : Int) from rfl, e1,
        w64 (n := (a.toNat : Int)) (by omega) (by omega), w64 (n := (b.toNat : Int)) (by omega) (by omega), w64 (n := 256 * (a.toNat : Int)) (by omega) (by omega), w64 (n := 256 * (a.toNat : Int) + (b.toNat : Int)) (by omega) (by omega), w64 (n := (i : Int) + 2) (by omega) (by omega),
        show 256 * (a.toNat : Int) + (b.toNat : Int) = ((a.toNat * 256 + b.toNat : Nat) : Int) from by omega, ref32_character, chI_nat]) ?_
    unfold Ch.pairs
    cases hcb : Ch.isCh (a.toNat * 256 + b.toNat) with
    | false => exact Ev.congr (fun k => by simp) (Ev.now _)
    | true =>
      have ih := expand_two s hs n t (i + 2) (cs ++ [a.toNat * 256 + b.toNat]) (by omega) h3 (by omega) (by simp; omega) (fun c h => by
        rcases List.mem_append.1 h with h | h
        · exact hc c h
        · simp at h; omega)
      refine Ev.congr (fun k => ?_) (f := fun k => masterdiscref32_Expand.l0 k s 2 (nat2int (cs ++ [a.toNat * 256 + b.toNat])) ((i + 2 : Nat) : Int)) ?_
      · simp only [Option.bind_some, if_true]
        rw [if_pos (by rw [nat2int_length]; omega)]
        simp [nat2int]
      · cases hx : Ch.pairs t with
        | none => rw [hx] at ih; simpa using ih
        | some ds => rw [hx] at ih; simpa using ih
  | n + 1, [], i, cs, hn, _, _, _, _ => by simp at hn
  | n + 1, [_], i, cs, hn, _, _, _, _ => by simp at hn; omega
/-- 'Expand' is the definition's. -/
theorem ref32_Expand (s : ByteArray) (hs : s.size ≤ 65536) : Ev (fun k => masterdiscref32_Expand.f k s) (⟨(Ch.expand s.data.toList).1.toArray⟩, (Ch.expand s.data.toList).2) := by
  cases hl : s.data.toList with
  | nil =>
    refine Ev.congr (f := fun _ => some (⟨#[]⟩, 0)) (fun k => ?_) (Ev.now _)
    unfold masterdiscref32_Expand.f
    rw [if_neg (by omega), if_pos (by rw [Lib.toList_data, hl])]
  | cons b t =>
    have hd0 : s.data.toList.drop 0 = b :: t := by rw [List.drop_zero, hl]
    obtain ⟨h1, h2⟩ := drop_step hd0
    have hb := b.toNat_lt
    have e0 : bt s 0 = (b.toNat : Int) := bt_drop hd0
    have hlen : s.size = t.length + 1 := by rw [Lib.size_eq, hl]; rfl
    have hne : ¬ s.toList = [] := by rw [Lib.toList_data, hl]; simp
    simp only [Ch.expand]
    by_cases h8 : b.toNat = 8
    · rw [if_pos h8]
      have hx := expand_one s hs t 1 [] h1 (by omega) (by simp) (by simp)
      refine Ev.congr (f := fun k => masterdiscref32_Expand.j0 k s 1 false) (fun k => ?_) ?_
      · unfold masterdiscref32_Expand.f
        rw [if_neg (by omega), if_neg hne, if_pos (by omega), e0, h8, if_pos (by decide), w64 (n := ((8 : Nat) : Int)) (by decide) (by decide), show Int.tdiv ((8 : Nat) : Int) 8 = 1 from rfl, w64 (n := 1) (by decide) (by decide), if_neg (by decide),
          w64 (n := (s.size : Int) - 1) (by omega) (by omega)]
        congr 1
        rw [Int.tmod_one]; rfl
      · refine Ev.step (fun k => by simp only [masterdiscref32_Expand.j0]; rw [if_neg (by decide)]) ?_
        by_cases ha : t.all (fun x => Ch.isCh x.toNat) = true
        · rw [if_pos ha] at hx ⊢
          simpa [nat2int] using hx
        · rw [if_neg ha] at hx ⊢
          simpa [nat2int] using hx
    · rw [if_neg h8]
      by_cases h16 : b.toNat = 16
      · rw [if_pos h16]
        have hm : Int.tmod ((s.size : Int) - 1) 2 = ((t.length % 2 : Nat) : Int) := by
          rw [show ((s.size : Int) - 1) = (t.length : Int) from by omega]; exact tmod_nat (a := t.length) (b := 2)
        refine Ev.congr (f := fun k => masterdiscref32_Expand.j0 k s 2 (((t.length % 2 : Nat) : Int) != 0)) (fun k => ?_) ?_
        · unfold masterdiscref32_Expand.f
          rw [if_neg (by omega), if_neg hne, if_pos (by omega), e0, h16, if_neg (by decide), if_pos (by decide), w64 (n := ((16 : Nat) : Int)) (by decide) (by decide), show Int.tdiv ((16 : Nat) : Int) 8 = 2 from rfl, w64 (n := 2) (by decide) (by decide), if_neg (by decide),
            w64 (n := (s.size : Int) - 1) (by omega) (by omega), hm]
        · by_cases ho : t.length % 2 = 1
          · rw [if_pos ho, ho]
            refine Ev.step (f := fun _ => some (⟨#[]⟩, 3)) (fun k => ?_) (Ev.now _)
            simp only [masterdiscref32_Expand.j0]
            rw [if_pos (by decide)]
          · rw [if_neg ho, show t.length % 2 = 0 from by omega]
            have hx := expand_two s hs (t.length / 2) t 1 [] (by omega) h1 (by omega) (by simp) (by simp)
            refine Ev.step (fun k => by simp only [masterdiscref32_Expand.j0]; rw [if_neg (by decide)]) ?_
            cases hp : Ch.pairs t with
            | none => rw [hp] at hx; simpa [nat2int] using hx
            | some ds => rw [hp] at hx; simpa [nat2int] using hx
      · rw [if_neg h16]
        refine Ev.congr (f := fun k => masterdiscref32_Expand.j0 k s (wrap64 (Int.tdiv (wrap64 (b.toNat : Int)) 8)) true) (fun k => ?_) ?_
        · unfold masterdiscref32_Expand.f
          rw [if_neg (by omega), if_neg hne, if_pos (by omega), e0, if_neg (by omega), if_neg (by omega)]
        · refine Ev.step (f := fun _ => some (⟨#[]⟩, 3)) (fun k => ?_) (Ev.now _)
          simp only [masterdiscref32_Expand.j0]
          rw [if_pos trivial]
end Go.Proofs.YtgejjnbgeiappaaDoor
