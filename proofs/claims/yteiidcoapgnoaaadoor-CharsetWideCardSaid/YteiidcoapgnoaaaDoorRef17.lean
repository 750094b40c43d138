/-
  What the printed reference functions of layer 17 compute, in plain words: Characters returns the characters of a text.
-/
import Derived.Test.YteiidcoapgnoaaaDoorPCharactersx
import Derived.Test.YteiidcoapgnoaaaDoorFirst
import Derived.Test.YteiidcoapgnoaaaDoorWords
namespace Go.Proofs.YteiidcoapgnoaaaDoor
open Go.RowKit Go.Proofs.YteiidcoapgnoaaaDoorW.PrintWords Go.Proofs.YteiidcoapgnoaaaDoor.PCharacters

theorem bt_list (s : ByteArray) (i : Int) : bt s i = ((s.data.toList.getD i.toNat 0).toNat : Int) := by
  unfold bt
  split
  next h =>
    have h' : i.toNat < s.data.toList.length := by rw [← Lib.size_eq]; exact h
    rw [List.getD_eq_getElem?_getD, List.getElem?_eq_getElem h']
    rfl
  next h =>
    have h' : s.data.toList.length ≤ i.toNat := by rw [← Lib.size_eq]; omega
    rw [List.getD_eq_getElem?_getD, List.getElem?_eq_none h']
    rfl
theorem w64 {n : Int} (h1 : -9223372036854775808 ≤ n) (h2 : n ≤ 9223372036854775807) : wrap64 n = n := IntWalk.wrap64_in n ⟨h1, h2⟩
theorem tdiv_nat {a b : Nat} : Int.tdiv (a : Int) (b : Int) = ((a / b : Nat) : Int) := (Int.ofNat_tdiv a b).symm
theorem tmod_nat {a b : Nat} : Int.tmod (a : Int) (b : Int) = ((a % b : Nat) : Int) := (Int.ofNat_tmod a b).symm
theorem str_nums {xs : List Int} {l : List UInt8} (h : (xs.map fun n => UInt8.ofNat n.toNat) = l) : strOfNums xs = ⟨l.toArray⟩ := by
  subst h; rfl

theorem ref17_Character (n : Int) : masterdiscref17_Character.f n = some (chI n) := by
  unfold masterdiscref17_Character.f chI
  split
  · split
    · split
      · congr 1; symm; rw [decide_eq_true_eq]; omega
      · congr 1; rw [Bool.eq_iff_iff]; simp; omega
    · congr 1; symm; rw [decide_eq_false_iff_not]; omega
  · congr 1; symm; rw [decide_eq_false_iff_not]; omega

theorem ref17_encode (n : Nat) (h : n ≤ 65535) : masterdiscref17_encode.f (n : Int) = some ⟨(Ch.enc n).toArray⟩ := by
  unfold masterdiscref17_encode.f Ch.enc
  by_cases h0 : n < 128
  · rw [if_pos (by omega), if_pos h0]
    congr 1
    apply str_nums
    simp only [List.map_cons, List.map_nil]
    rw [show ((n : Int) % 256).toNat = n from by omega]
  · rw [if_neg (by omega), if_neg h0]
    have e1 : Int.tdiv (n : Int) 64 = ((n / 64 : Nat) : Int) := tdiv_nat (a := n) (b := 64)
    have e2 : Int.tmod (n : Int) 64 = ((n % 64 : Nat) : Int) := tmod_nat (a := n) (b := 64)
    have e3 : Int.tdiv (n : Int) 4096 = ((n / 4096 : Nat) : Int) := tdiv_nat (a := n) (b := 4096)
    have e4 : Int.tmod ((n / 64 : Nat) : Int) 64 = ((n / 64 % 64 : Nat) : Int) := tmod_nat (a := n / 64) (b := 64)
    by_cases h1 : n < 2048
    · rw [if_pos (by omega), if_pos h1, e1, e2, w64 (n := ((n / 64 : Nat) : Int)) (by omega) (by omega), w64 (by omega) (by omega), w64 (by omega) (by omega)]
      congr 1
      apply str_nums
      simp only [List.map_cons, List.map_nil]
      rw [show ((192 + ((n / 64 : Nat) : Int)) % 256).toNat = 192 + n / 64 from by omega, show ((128 + ((n % 64 : Nat) : Int)) % 256).toNat = 128 + n % 64 from by omega]
    · rw [if_neg (by omega), if_neg h1, e1, e2, e3, w64 (n := ((n / 64 : Nat) : Int)) (by omega) (by omega), w64 (n := ((n / 4096 : Nat) : Int)) (by omega) (by omega), e4, w64 (by omega) (by omega), w64 (by omega) (by omega), w64 (by omega) (by omega)]
      congr 1
      apply str_nums
      simp only [List.map_cons, List.map_nil]
      rw [show ((224 + ((n / 4096 : Nat) : Int)) % 256).toNat = 224 + n / 4096 from by omega, show ((128 + ((n / 64 % 64 : Nat) : Int)) % 256).toNat = 128 + n / 64 % 64 from by omega, show ((128 + ((n % 64 : Nat) : Int)) % 256).toNat = 128 + n % 64 from by omega]

/-- One size: a decode of that size is found; else the next one is tried. -/
theorem first_hit (s : ByteArray) (j c : Nat) (hd : Ch.dec s.data.toList = some (c, j)) : Ev (fun k => masterdiscref17_first.j3 k s (j : Int) (c : Int)) ((c : Int), (j : Int)) := by
  obtain ⟨hv, hc, he, hj, _, _⟩ := Ch.dec_val hd
  have hb := Ch.isCh_iff.1 hc
  refine Ev.step (f := fun _ => some ((c : Int), (j : Int))) (fun k => ?_) (Ev.now _)
  simp only [masterdiscref17_first.j3]
  rw [ref17_Character, chI_nat, hc]
  simp only [Option.bind_some, if_true]
  rw [ref17_encode c (by omega)]
  simp only [Option.bind_some]
  have hs := Lib.size_eq s
  rw [if_pos (by omega), if_pos (by omega), if_pos]
  rw [Lib.toList_data, Lib.toList_data, Lib.extract_data]
  simp only [Int.toNat_natCast, List.drop_zero, Nat.sub_zero]
  exact he
theorem first_miss (s : ByteArray) (j : Nat) (n : Int) (hj : j ≤ s.size) (hj3 : j ≤ 3) (hd : ∀ c : Nat, n = (c : Int) → Ch.dec s.data.toList ≠ some (c, j)) {r : Int × Int}
    (h : Ev (fun k => masterdiscref17_first.l0 k s ((j : Int) + 1)) r) : Ev (fun k => masterdiscref17_first.j3 k s (j : Int) n) r := by
  refine Ev.step (fun k => ?_) h
  simp only [masterdiscref17_first.j3]
  rw [ref17_Character]
  simp only [Option.bind_some]
  have hw : wrap64 ((j : Int) + 1) = (j : Int) + 1 := w64 (by omega) (by omega)
  cases hc : chI n with
  | false => simp only [Bool.false_eq_true, if_false]; rw [hw]
  | true =>
    have hb := of_decide_eq_true (show decide _ = true from hc)
    obtain ⟨c, rfl⟩ : ∃ c : Nat, n = (c : Int) := ⟨n.toNat, by omega⟩
    simp only [if_true]
    rw [ref17_encode c (by omega)]
    simp only [Option.bind_some]
    have hs := Lib.size_eq s
    rw [if_pos (by omega), if_pos (by omega), if_neg, hw]
    intro he
    rw [Lib.toList_data, Lib.toList_data, Lib.extract_data] at he
    simp only [Int.toNat_natCast, List.drop_zero, Nat.sub_zero] at he
    rw [chI_nat] at hc
    exact hd c rfl (Ch.dec_of_hit hc he (by omega))

theorem first_j1 (s : ByteArray) (hs : 1 ≤ s.size) (j : Nat) (h1 : 1 ≤ j) (h3 : j ≤ 3) (hj : j ≤ s.size) {r : Int × Int}
    (h : Ev (fun k => masterdiscref17_first.j3 k s (j : Int) (Ch.val s.data.toList j)) r) : Ev (fun k => masterdiscref17_first.l0 k s (j : Int)) r := by
  have g0 : bt s 0 = ((s.data.toList.getD 0 0).toNat : Int) := bt_list s 0
  have g1 : bt s 1 = ((s.data.toList.getD 1 0).toNat : Int) := bt_list s 1
  have g2 : bt s 2 = ((s.data.toList.getD 2 0).toNat : Int) := bt_list s 2
  have l0 := (s.data.toList.getD 0 0).toNat_lt
  have l1 := (s.data.toList.getD 1 0).toNat_lt
  have l2 := (s.data.toList.getD 2 0).toNat_lt
  unfold Ch.val at h
  generalize (s.data.toList.getD 0 0).toNat = x0 at *
  generalize (s.data.toList.getD 1 0).toNat = x1 at *
  generalize (s.data.toList.getD 2 0).toNat = x2 at *
  refine Ev.step (f := fun k => masterdiscref17_first.j1 k s (j : Int) true) (fun k => ?_) ?_
  · simp only [masterdiscref17_first.l0]
    rw [if_pos (by omega), decide_eq_true (by omega)]
  by_cases e2 : j = 2
  · subst e2
    rw [if_neg (by decide), if_pos rfl] at h
    refine Ev.step (f := fun k => masterdiscref17_first.j2 k s 2 (((x0 : Int) - 192) * 64 + (x1 : Int) - 128)) (fun k => ?_) ?_
    · simp only [masterdiscref17_first.j1]
      rw [if_pos trivial, if_pos (by omega), if_pos (by decide), if_pos (by omega), g0, g1, w64 (n := (x0 : Int)) (by omega) (by omega), w64 (n := (x1 : Int)) (by omega) (by omega), w64 (n := (x0 : Int) - 192) (by omega) (by omega),
        w64 (n := ((x0 : Int) - 192) * 64) (by omega) (by omega), w64 (n := ((x0 : Int) - 192) * 64 + (x1 : Int)) (by omega) (by omega), w64 (by omega) (by omega)]
      rfl
    refine Ev.step (fun k => ?_) h
    simp only [masterdiscref17_first.j2]
    rw [if_neg (by decide)]
    rfl
  · refine Ev.step (f := fun k => masterdiscref17_first.j2 k s (j : Int) (x0 : Int)) (fun k => ?_) ?_
    · simp only [masterdiscref17_first.j1]
      rw [if_pos trivial, if_pos (by omega), if_neg (by omega), g0, w64 (n := (x0 : Int)) (by omega) (by omega)]
    by_cases e3 : j = 3
    · subst e3
      rw [if_neg (by decide), if_neg (by decide)] at h
      refine Ev.step (fun k => ?_) h
      simp only [masterdiscref17_first.j2]
      rw [if_pos (by decide), if_pos (by omega), if_pos (by omega), if_pos (by omega), g0, g1, g2, w64 (n := (x0 : Int)) (by omega) (by omega), w64 (n := (x1 : Int)) (by omega) (by omega), w64 (n := (x2 : Int)) (by omega) (by omega),
        w64 (n := (x0 : Int) - 224) (by omega) (by omega), w64 (n := ((x0 : Int) - 224) * 4096) (by omega) (by omega), w64 (n := (x1 : Int) - 128) (by omega) (by omega), w64 (n := ((x1 : Int) - 128) * 64) (by omega) (by omega),
        w64 (n := ((x0 : Int) - 224) * 4096 + ((x1 : Int) - 128) * 64) (by omega) (by omega), w64 (n := ((x0 : Int) - 224) * 4096 + ((x1 : Int) - 128) * 64 + (x2 : Int)) (by omega) (by omega), w64 (by omega) (by omega)]
    · have e1 : j = 1 := by omega
      subst e1
      rw [if_pos rfl] at h
      refine Ev.step (fun k => ?_) h
      simp only [masterdiscref17_first.j2]
      rw [if_neg (by decide)]
theorem first_end (s : ByteArray) (j : Nat) (hj : 3 < j ∨ s.size < j) (hj4 : j ≤ 4) : Ev (fun k => masterdiscref17_first.l0 k s (j : Int)) (0, 0) := by
  refine Ev.step (f := fun k => masterdiscref17_first.j1 k s (j : Int) false) (fun k => ?_) ?_
  · simp only [masterdiscref17_first.l0]
    split
    · rw [decide_eq_false (by omega)]
    · rfl
  · refine Ev.step (f := fun _ => some ((0 : Int), (0 : Int))) (fun k => ?_) (Ev.now _)
    simp only [masterdiscref17_first.j1]
    rw [if_neg (by decide)]
/-- 'first' is the decode. -/
theorem first_from (s : ByteArray) (hs : 1 ≤ s.size) : ∀ (d j : Nat), 1 ≤ j → j + d = 4 → (∀ c i, Ch.dec s.data.toList = some (c, i) → j ≤ i) →
    Ev (fun k => masterdiscref17_first.l0 k s (j : Int)) (match Ch.dec s.data.toList with | some (c, i) => ((c : Int), (i : Int)) | none => (0, 0))
  | 0, j, h1, h4, hm => by
    cases hd : Ch.dec s.data.toList with
    | none => exact first_end s j (by omega) (by omega)
    | some ci =>
      obtain ⟨c, i⟩ := ci
      have := hm c i hd
      have := (Ch.dec_val hd).2.2.2.2.2
      omega
  | d + 1, j, h1, h4, hm => by
    by_cases hj : j ≤ s.size
    · refine first_j1 s hs j h1 (by omega) hj ?_
      by_cases hc : ∃ c, Ch.dec s.data.toList = some (c, j)
      · obtain ⟨c, hd⟩ := hc
        rw [(Ch.dec_val hd).1, hd]
        exact first_hit s j c hd
      · refine first_miss s j _ hj (by omega) (fun c _ e => hc ⟨c, e⟩) ?_
        have := first_from s hs d (j + 1) (by omega) (by omega) (fun c i e => by
          have := hm c i e
          rcases Nat.lt_or_ge j i with h | h
          · exact h
          · obtain rfl : i = j := by omega
            exact absurd ⟨c, e⟩ hc)
        exact this
    · cases hd : Ch.dec s.data.toList with
      | none => exact first_end s j (by omega) (by omega)
      | some ci =>
        obtain ⟨c, i⟩ := ci
        have h1 := hm c i hd
        have h2 := (Ch.dec_val hd).2.2.2.1
        rw [← Lib.size_eq] at h2
        omega
theorem ref17_first (s : ByteArray) (hs : s.data.toList ≠ []) : Ev (fun k => masterdiscref17_first.f k s) (match Ch.dec s.data.toList with | some (c, i) => ((c : Int), (i : Int)) | none => (0, 0)) := by
  have h1 : 1 ≤ s.size := by
    rw [Lib.size_eq]
    have : s.data.toList.length ≠ 0 := fun e => hs (List.eq_nil_of_length_eq_zero e)
    omega
  exact first_from s h1 3 1 (by omega) (by omega) (fun c i e => (Ch.dec_val e).2.2.2.2.1)

/-- Characters, from where it stands. -/
theorem ref17_loop : ∀ (n : Nat) (s : ByteArray) (done : List Nat), s.size ≤ n → s.size + done.length ≤ 65536 →
    Ev (fun k => masterdiscref17_Characters.l0 k s (done.map fun (c : Nat) => (c : Int))) (match Ch.chars s.data.toList with | some cs => ((done ++ cs).map fun (c : Nat) => (c : Int), 0) | none => ([], 3))
  | n, s, done, hn, hl => by
    by_cases hs : s.data.toList = []
    · rw [hs, Ch.chars_nil]
      refine Ev.step (f := fun _ => some (done.map fun (c : Nat) => (c : Int), (0 : Int))) (fun k => ?_) (by simpa using Ev.now _)
      simp only [masterdiscref17_Characters.l0]
      rw [if_neg]
      rw [Lib.size_eq, hs]
      simp
    · have h1 : 1 ≤ s.size := by
        rw [Lib.size_eq]
        have : s.data.toList.length ≠ 0 := fun e => hs (List.eq_nil_of_length_eq_zero e)
        omega
      refine Ev.step (fun k => by simp only [masterdiscref17_Characters.l0]; rw [if_pos (by omega)]) ?_
      refine Ev.bind (ref17_first s hs) ?_
      cases hd : Ch.dec s.data.toList with
      | none =>
        rw [Ch.chars_none hs hd]
        exact Ev.congr (fun k => by simp only [if_true]) (Ev.now _)
      | some ci =>
        obtain ⟨c, i⟩ := ci
        obtain ⟨_, _, _, h5, h6, h7⟩ := Ch.dec_val hd
        rw [← Lib.size_eq] at h5
        match n, hn with
        | 0, hn => omega
        | n + 1, hn =>
          have hsz : (s.extract i s.size).size = s.size - i := by rw [Lib.size_eq, Lib.extract_to_end, List.length_drop, ← Lib.size_eq]
          have ih := ref17_loop n (s.extract i s.size) (done ++ [c]) (by omega) (by rw [hsz, List.length_append]; simp only [List.length_cons, List.length_nil]; omega)
          rw [Lib.extract_to_end] at ih
          rw [Ch.chars_some hd]
          refine Ev.congr (fun k => ?_) (r := _) (f := fun k => masterdiscref17_Characters.l0 k (s.extract i s.size) ((done ++ [c]).map fun (c : Nat) => (c : Int))) ?_
          · simp only
            rw [if_neg (by omega), if_pos (by rw [List.length_map]; omega), if_pos (by omega), if_pos (by omega)]
            simp only [Int.toNat_natCast, List.map_append, List.map_cons, List.map_nil]
          · cases hx : Ch.chars (s.data.toList.drop i) with
            | none => rw [hx] at ih; exact ih
            | some cs => rw [hx] at ih; simpa using ih
/-- The characters as numbers, and the error. -/
def charsO (l : List UInt8) : List Int × Int := match Ch.chars l with | some cs => (cs.map fun (c : Nat) => (c : Int), 0) | none => ([], 3)
theorem ref17_Characters (s : ByteArray) (h : s.size ≤ 65536) : Ev (fun k => masterdiscref17_Characters.f k s) (charsO s.data.toList) := by
  refine Ev.congr (f := fun k => masterdiscref17_Characters.l0 k s []) (fun k => ?_) ?_
  · unfold masterdiscref17_Characters.f
    rw [if_neg (by omega)]
  · have := ref17_loop s.size s [] (Nat.le_refl _) (by simpa using h)
    unfold charsO
    simpa using this
theorem ref17_Characters_big (s : ByteArray) (h : 65536 < s.size) (k : Nat) : masterdiscref17_Characters.f k s = some ([], 7) := by
  unfold masterdiscref17_Characters.f
  rw [if_pos (by omega)]
end Go.Proofs.YteiidcoapgnoaaaDoor
