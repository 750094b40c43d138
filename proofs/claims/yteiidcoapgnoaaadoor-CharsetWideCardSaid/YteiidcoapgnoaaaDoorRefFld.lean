/-
  What the printed reference functions Repeat, Field, Trim, DCharacters and ACharacters of layer 17 compute.
-/
import Derived.Test.YteiidcoapgnoaaaDoorPFieldx
import Derived.Test.YteiidcoapgnoaaaDoorPTrimx
import Derived.Test.YteiidcoapgnoaaaDoorPDCharactersx
import Derived.Test.YteiidcoapgnoaaaDoorPACharactersx
import Derived.Test.YteiidcoapgnoaaaDoorRefTxt
import Derived.Test.YteiidcoapgnoaaaDoorSets
import Derived.Lib.Bytealg
namespace Go.Proofs.YteiidcoapgnoaaaDoor
open Go.RowKit Go.Proofs.YteiidcoapgnoaaaDoorW.PrintWords

/-- A string some times. -/
def repN (l : List UInt8) : Nat → List UInt8
  | 0 => []
  | n + 1 => l ++ repN l n
theorem repN_snoc (l : List UInt8) : ∀ n, repN l (n + 1) = repN l n ++ l
  | 0 => by simp [repN]
  | n + 1 => by
    show l ++ repN l (n + 1) = (l ++ repN l n) ++ l
    rw [repN_snoc l n, List.append_assoc]
theorem repN_len (l : List UInt8) : ∀ n, (repN l n).length = n * l.length
  | 0 => by simp [repN]
  | n + 1 => by
    show (l ++ repN l n).length = _
    rw [List.length_append, repN_len l n, Nat.add_mul, Nat.one_mul, Nat.add_comm]
theorem repN_one (b : UInt8) : ∀ n, repN [b] n = List.replicate n b
  | 0 => rfl
  | n + 1 => by
    show [b] ++ repN [b] n = _
    rw [repN_one b n]; rfl
theorem repeat_loop (s : ByteArray) (hs : s.size ≤ 2) (n : Nat) (hn : n ≤ 100000) : ∀ (m i : Nat) (acc : List Int), i + m = n → acc.length ≤ 2 * i → acc.map (fun x => UInt8.ofNat x.toNat) = repN s.data.toList i →
    Ev (fun k => PField.masterdiscref17_Repeat.l0 k s (n : Int) acc (i : Int)) ⟨(repN s.data.toList n).toArray⟩
  | 0, i, acc, hi, ha, he => by
    obtain rfl : i = n := by omega
    refine Ev.step (f := fun _ => some _) (fun k => ?_) (Ev.now _)
    simp only [PField.masterdiscref17_Repeat.l0]
    rw [if_neg (by omega), str_nums he]
  | m + 1, i, acc, hi, ha, he => by
    have ih := repeat_loop s hs n hn m (i + 1) (acc ++ bytesOf s) (by omega) (by rw [List.length_append, bytesOf_len]; omega) (by rw [List.map_append, he, bytesOf_map, repN_snoc])
    refine Ev.step (fun k => ?_) ih
    simp only [PField.masterdiscref17_Repeat.l0]
    rw [if_pos (by omega), if_pos (by omega), w64 (n := (i : Int) + 1) (by omega) (by omega)]
    rfl
theorem ref17_Repeat (s : ByteArray) (hs : s.size ≤ 2) (n : Nat) (hn : n ≤ 100000) : Ev (fun k => PField.masterdiscref17_Repeat.f k s (n : Int)) ⟨(repN s.data.toList n).toArray⟩ :=
  repeat_loop s hs n hn n 0 [] (by omega) (by simp) rfl
theorem ref_Repeat (s : ByteArray) (hs : s.size ≤ 2) (n : Int) (h0 : 0 ≤ n) (hn : n ≤ 100000) (w : World) :
    Calls Tryd.prog 54 #[.string s, .int .i64 n] w fun e w' => e = .returned (.string ⟨(repN s.data.toList n.toNat).toArray⟩) ∧ Below w.heap.size w w' := by
  obtain ⟨m, rfl⟩ := Int.eq_ofNat_of_zero_le h0
  obtain ⟨k, hk⟩ := (ref17_Repeat s hs m (by omega)).rounds
  exact PField.masterdiscref17_Repeat.calls k s (m : Int) _ w hk

theorem ref17_Field (s : ByteArray) (n : Int) : Ev (fun k => PField.masterdiscref17_Field.f k s n) (fldS s n, fldE s n) := by
  by_cases h1 : 65536 < s.size
  · have e1 : fldS s n = ⟨#[]⟩ := by unfold fldS; rw [if_pos h1]
    have e2 : fldE s n = 7 := by unfold fldE; rw [if_pos h1]
    rw [e1, e2]
    refine Ev.congr (f := fun _ => some _) (fun k => ?_) (Ev.now _)
    unfold PField.masterdiscref17_Field.f
    rw [if_pos (by omega)]
  · by_cases h2 : n < 0 ∨ 65536 < n
    · have e1 : fldS s n = ⟨#[]⟩ := by unfold fldS; rw [if_neg h1, if_pos h2]
      have e2 : fldE s n = 2 := by unfold fldE; rw [if_neg h1, if_pos h2]
      rw [e1, e2]
      refine Ev.congr (f := fun k => PField.masterdiscref17_Field.j0 k s n true) (fun k => ?_) ?_
      · unfold PField.masterdiscref17_Field.f
        rw [if_neg (by omega)]
        by_cases h3 : n < 0
        · rw [if_pos h3]
        · rw [if_neg h3, decide_eq_true (by omega)]
      · refine Ev.step (f := fun _ => some _) (fun k => ?_) (Ev.now _)
        simp only [PField.masterdiscref17_Field.j0]
        rw [if_pos trivial]
    · have hf : ∀ k, PField.masterdiscref17_Field.f k s n = PField.masterdiscref17_Field.j0 k s n false := by
        intro k
        unfold PField.masterdiscref17_Field.f
        rw [if_neg (by omega), if_neg (by omega), decide_eq_false (by omega)]
      refine Ev.congr hf ?_
      by_cases h4 : n < (s.size : Int)
      · have e1 : fldS s n = ⟨#[]⟩ := by unfold fldS; rw [if_neg h1, if_neg h2, if_pos h4]
        have e2 : fldE s n = 12 := by unfold fldE; rw [if_neg h1, if_neg h2, if_pos h4]
        rw [e1, e2]
        refine Ev.step (f := fun _ => some _) (fun k => ?_) (Ev.now _)
        simp only [PField.masterdiscref17_Field.j0]
        rw [if_neg (by simp), if_pos (by omega)]
      · have e1 : fldS s n = s ++ repS 32 (n - (s.size : Int)).toNat := by unfold fldS; rw [if_neg h1, if_neg h2, if_neg h4]
        have e2 : fldE s n = 0 := by unfold fldE; rw [if_neg h1, if_neg h2, if_neg h4]
        rw [e1, e2]
        have hR := ref17_Repeat ⟨#[32]⟩ (by decide) (n - (s.size : Int)).toNat (by omega)
        rw [show (⟨#[32]⟩ : ByteArray).data.toList = [32] from rfl, repN_one, Int.toNat_of_nonneg (by omega)] at hR
        refine Ev.step (fun k => by
          simp only [PField.masterdiscref17_Field.j0]
          rw [if_neg (by simp), if_neg (by omega), w64 (n := n - (s.size : Int)) (by omega) (by omega)]) ?_
        refine Ev.bind hR ?_
        refine Ev.congr (fun k => ?_) (Ev.now _)
        have hz : (⟨(List.replicate (n - (s.size : Int)).toNat (32 : UInt8)).toArray⟩ : ByteArray).size = (n - (s.size : Int)).toNat := repS_size 32 _
        rw [if_pos (by rw [hz]; omega)]
        rfl
theorem ref_Field (s : ByteArray) (n : Int) (w : World) :
    Calls Tryd.prog 24 #[.string s, .int .i64 n] w fun e w' => e = .returned (.tuple #[.string (fldS s n), .int .i64 (fldE s n)]) ∧ Below w.heap.size w w' := by
  obtain ⟨k, hk⟩ := (ref17_Field s n).rounds
  exact PField.masterdiscref17_Field.calls k s n _ _ w hk

theorem trim_loop : ∀ (n : Nat) (s : ByteArray), s.size = n → s.size ≤ 65536 → Ev (fun k => PTrim.masterdiscref17_Trim.l0 k s) ⟨(Lib.trimRightB s.data.toList 32).toArray⟩
  | 0, s, hn, hs => by
    have hl : s.data.toList = [] := List.eq_nil_of_length_eq_zero (by rw [← Lib.size_eq]; exact hn)
    refine Ev.step (f := fun _ => some s) (fun k => ?_) ?_
    · simp only [PTrim.masterdiscref17_Trim.l0]
      rw [if_neg (by omega)]
    · have e : s = ⟨(Lib.trimRightB s.data.toList 32).toArray⟩ := by
        rw [hl]
        obtain ⟨⟨l⟩⟩ := s
        simp only at hl
        subst hl
        rfl
      rw [← e]
      exact Ev.now _
  | n + 1, s, hn, hs => by
    obtain ⟨a, b, hab⟩ : ∃ a b, s.data.toList = a ++ [b] := by
      have hne : s.data.toList ≠ [] := fun e => by rw [Lib.size_eq, e] at hn; simp at hn
      exact ⟨_, _, (List.dropLast_concat_getLast hne).symm⟩
    have hal : a.length = n := by
      have := congrArg List.length hab
      rw [← Lib.size_eq, List.length_append, List.length_singleton] at this
      omega
    have hbt : bt s ((n : Nat) : Int) = (b.toNat : Int) := by
      rw [bt_list, Int.toNat_natCast, hab, List.getD_eq_getElem?_getD, List.getElem?_append_right (by omega), hal, Nat.sub_self]
      rfl
    have hb := b.toNat_lt
    rw [hab, Ch.trimR_snoc]
    by_cases h32 : b = 32
    · rw [if_pos h32]
      have hx : (s.extract 0 n).data.toList = a := by
        rw [Lib.extract_data, hab, List.drop_zero, Nat.sub_zero, ← hal, List.take_left]
      have ih := trim_loop n (s.extract 0 n) (by rw [Lib.size_eq, hx]; exact hal) (by rw [Lib.size_eq, hx]; omega)
      rw [hx] at ih
      refine Ev.step (fun k => ?_) ih
      simp only [PTrim.masterdiscref17_Trim.l0]
      rw [if_pos (by omega), w64 (n := (s.size : Int) - 1) (by omega) (by omega), if_pos (by omega), if_pos (by omega), show (s.size : Int) - 1 = ((n : Nat) : Int) from by omega, hbt, if_pos (by rw [h32]; rfl), if_pos (by omega)]
      rfl
    · rw [if_neg h32]
      refine Ev.step (f := fun _ => some s) (fun k => ?_) ?_
      · simp only [PTrim.masterdiscref17_Trim.l0]
        rw [if_pos (by omega), w64 (n := (s.size : Int) - 1) (by omega) (by omega), if_pos (by omega), if_pos (by omega), show (s.size : Int) - 1 = ((n : Nat) : Int) from by omega, hbt, if_neg]
        intro e
        exact h32 (UInt8.toNat_inj.1 (by show b.toNat = 32; omega))
      · have e : s = ⟨(a ++ [b]).toArray⟩ := by rw [← hab]
        rw [← e]
        exact Ev.now _
theorem ref17_Trim (s : ByteArray) : Ev (fun k => PTrim.masterdiscref17_Trim.f k s) (trmS s) := by
  unfold trmS
  by_cases h1 : 65536 < s.size
  · rw [if_pos h1]
    refine Ev.congr (f := fun _ => some _) (fun k => ?_) (Ev.now _)
    unfold PTrim.masterdiscref17_Trim.f
    rw [if_pos (by omega)]
  · rw [if_neg h1]
    refine Ev.congr (fun k => ?_) (trim_loop s.size s rfl (by omega))
    unfold PTrim.masterdiscref17_Trim.f
    rw [if_neg (by omega)]
theorem ref_Trim (s : ByteArray) (w : World) :
    Calls Tryd.prog 26 #[.string s] w fun e w' => e = .returned (.string (trmS s)) ∧ Drawn0 w w' := by
  obtain ⟨k, hk⟩ := (ref17_Trim s).rounds
  exact PTrim.masterdiscref17_Trim.calls k s _ w hk

theorem ref17_D (b : UInt8) : PDCharacters.masterdiscref17_D.f (b.toNat : Int) = some (dB b) := by
  have hr : dB b = (decide ((65 : Int) ≤ (b.toNat : Int)) && decide ((b.toNat : Int) ≤ 90) || (decide ((48 : Int) ≤ (b.toNat : Int)) && decide ((b.toNat : Int) ≤ 57) || ((b.toNat : Int) == 95))) := by
    unfold dB
    rw [Bool.eq_iff_iff]
    simp only [decide_eq_true_eq, Bool.or_eq_true, Bool.and_eq_true, beq_iff_eq]
    omega
  rw [hr]
  unfold PDCharacters.masterdiscref17_D.f
  generalize (b.toNat : Int) = n
  by_cases h1 : n ≥ 65
  · rw [if_pos h1, decide_eq_true (show (65 : Int) ≤ n from h1)]
    by_cases h2 : n ≤ 90
    · rw [if_pos h2, decide_eq_true h2]; rfl
    · rw [if_neg h2, decide_eq_false h2, if_pos (by omega), if_neg (by omega), decide_eq_true (show (48 : Int) ≤ n by omega), decide_eq_false (show ¬ n ≤ 57 by omega)]; rfl
  · rw [if_neg h1, decide_eq_false (show ¬ (65 : Int) ≤ n from h1)]
    by_cases h3 : n ≥ 48
    · rw [if_pos h3, decide_eq_true (show (48 : Int) ≤ n from h3)]
      by_cases h4 : n ≤ 57
      · rw [if_pos h4, decide_eq_true h4]; rfl
      · rw [if_neg h4, decide_eq_false h4]; rfl
    · rw [if_neg h3, decide_eq_false (show ¬ (48 : Int) ≤ n from h3)]; rfl

theorem bt_get {s : ByteArray} {i : Nat} (h : i < s.data.toList.length) : bt s (i : Int) = (s.data.toList[i].toNat : Int) := by
  rw [bt_list, Int.toNat_natCast, List.getD_eq_getElem?_getD, List.getElem?_eq_getElem h]
  rfl
theorem all_no {p : UInt8 → Bool} {l : List UInt8} {i : Nat} (h : i < l.length) (hp : p l[i] = false) : l.all p = false := by
  cases e : l.all p
  · rfl
  · have := List.all_eq_true.1 e l[i] (List.getElem_mem h)
    rw [hp] at this
    cases this
theorem all_next {p : UInt8 → Bool} {l : List UInt8} {i : Nat} (h : i < l.length) (ha : (l.take i).all p = true) (hp : p l[i] = true) : (l.take (i + 1)).all p = true := by
  rw [List.take_succ_eq_append_getElem h, List.all_append, ha]
  simp [hp]
theorem dch_loop (s : ByteArray) (hs : s.size ≤ 9223372036854775807) : ∀ (m i : Nat), (i + m = s.size ∨ i + m = 65537) → i + m ≤ s.size → i + m ≤ 65537 → (s.data.toList.take i).all dB = true →
    Ev (fun k => PDCharacters.masterdiscref17_DCharacters.l0 k s (i : Int)) (allB dB s)
  | 0, i, hm, h1, h2, ha => by
    have hsz := Lib.size_eq s
    have hr : allB dB s = decide ((s.size : Int) ≤ 65536) := by
      unfold allB
      by_cases hb : s.size ≤ 65536
      · rw [decide_eq_true hb, Bool.true_and, decide_eq_true (by omega)]
        have : s.data.toList.take i = s.data.toList := List.take_of_length_le (by omega)
        rw [this] at ha
        exact ha
      · rw [decide_eq_false hb, Bool.false_and, decide_eq_false (by omega)]
    rw [hr]
    refine Ev.step (f := fun k => PDCharacters.masterdiscref17_DCharacters.j1 k s (i : Int) false) (fun k => ?_) ?_
    · simp only [PDCharacters.masterdiscref17_DCharacters.l0]
      by_cases h3 : (i : Int) < (s.size : Int)
      · rw [if_pos h3, decide_eq_false (by omega)]
      · rw [if_neg h3]
    · refine Ev.step (f := fun _ => some _) (fun k => ?_) (Ev.now _)
      simp only [PDCharacters.masterdiscref17_DCharacters.j1]
      rw [if_neg (by simp)]
  | m + 1, i, hm, h1, h2, ha => by
    have hsz := Lib.size_eq s
    have hi : i < s.data.toList.length := by omega
    refine Ev.step (f := fun k => PDCharacters.masterdiscref17_DCharacters.j1 k s (i : Int) true) (fun k => ?_) ?_
    · simp only [PDCharacters.masterdiscref17_DCharacters.l0]
      rw [if_pos (by omega), decide_eq_true (by omega)]
    · refine Ev.step (fun k => by
        simp only [PDCharacters.masterdiscref17_DCharacters.j1]
        rw [if_pos trivial, if_pos (by omega), if_pos (by omega), bt_get hi, ref17_D]) ?_
      cases hd : dB s.data.toList[i] with
      | true =>
        have ih := dch_loop s hs m (i + 1) (by omega) (by omega) (by omega) (all_next hi ha hd)
        refine Ev.congr (fun k => ?_) ih
        simp only [Option.bind_some, if_true]
        rw [w64 (n := (i : Int) + 1) (by omega) (by omega)]
        rfl
      | false =>
        have hr : allB dB s = false := by unfold allB; rw [all_no hi hd, Bool.and_false]
        rw [hr]
        exact Ev.congr (fun k => by simp) (Ev.now _)
theorem ref17_DCharacters (s : ByteArray) (hs : s.size ≤ 9223372036854775807) : Ev (fun k => PDCharacters.masterdiscref17_DCharacters.f k s) (allB dB s) := by
  rcases Nat.lt_or_ge 65537 s.size with h | h
  · exact dch_loop s hs 65537 0 (by omega) (by omega) (by omega) rfl
  · exact dch_loop s hs s.size 0 (by omega) (by omega) (by omega) rfl
theorem ref_DCharacters (s : ByteArray) (hs : s.size ≤ 9223372036854775807) (w : World) :
    Calls Tryd.prog 18 #[.string s] w fun e w' => e = .returned (.bool (allB dB s)) ∧ Drawn0 w w' := by
  obtain ⟨k, hk⟩ := (ref17_DCharacters s hs).rounds
  exact PDCharacters.masterdiscref17_DCharacters.calls k s _ w hk

theorem among_loop (b : UInt8) (s : ByteArray) (hs : s.size ≤ 1000) : ∀ (m i : Nat), i + m = s.size → 
    Ev (fun k => PACharacters.masterdiscref17_among.l0 k (b.toNat : Int) s (i : Int)) ((s.data.toList.drop i).any fun x => x == b)
  | 0, i, hm => by
    have hsz := Lib.size_eq s
    rw [List.drop_of_length_le (by omega)]
    refine Ev.step (f := fun _ => some _) (fun k => ?_) (Ev.now _)
    simp only [PACharacters.masterdiscref17_among.l0]
    rw [if_neg (by omega)]
    rfl
  | m + 1, i, hm => by
    have hsz := Lib.size_eq s
    have hi : i < s.data.toList.length := by omega
    rw [List.drop_eq_getElem_cons hi, List.any_cons]
    by_cases hb : s.data.toList[i] = b
    · rw [beq_iff_eq.2 hb, Bool.true_or]
      refine Ev.step (f := fun _ => some _) (fun k => ?_) (Ev.now _)
      simp only [PACharacters.masterdiscref17_among.l0]
      rw [if_pos (by omega), if_pos (by omega), bt_get hi, if_pos (by rw [hb])]
    · rw [beq_eq_false_iff_ne.2 hb, Bool.false_or]
      refine Ev.step (fun k => ?_) (among_loop b s hs m (i + 1) (by omega))
      simp only [PACharacters.masterdiscref17_among.l0]
      rw [if_pos (by omega), if_pos (by omega), bt_get hi, if_neg (fun e => hb (UInt8.toNat_inj.1 (by omega))), w64 (n := (i : Int) + 1) (by omega) (by omega)]
      rfl
theorem ref17_among (b : UInt8) : Ev (fun k => PACharacters.masterdiscref17_among.f k (b.toNat : Int) ⟨#[32, 33, 34, 37, 38, 39, 40, 41, 42, 43, 44, 45, 46, 47, 58, 59, 60, 61, 62, 63]⟩) (aL.any fun x => x == b) :=
  among_loop b ⟨#[32, 33, 34, 37, 38, 39, 40, 41, 42, 43, 44, 45, 46, 47, 58, 59, 60, 61, 62, 63]⟩ (by decide) 20 0 (by decide)
theorem indexByte_any (b : UInt8) : ∀ l : List UInt8, decide (0 ≤ Lib.indexByte l b) = l.any fun x => x == b
  | [] => rfl
  | a :: l => by
    have ih := indexByte_any b l
    rw [List.any_cons, ← ih]
    have e : Lib.indexByte (a :: l) b = if a == b then 0 else if Lib.indexByte l b == -1 then -1 else Lib.indexByte l b + 1 := rfl
    rw [e]
    have hge := Lib.indexByte_ge l b
    cases hab : a == b with
    | true => rfl
    | false =>
      rw [Bool.false_or, if_neg (by simp)]
      by_cases h1 : Lib.indexByte l b = -1
      · rw [h1]; rfl
      · rw [if_neg (by rw [beq_iff_eq]; exact h1), decide_eq_true (by omega), decide_eq_true (by omega)]
theorem aB_any (b : UInt8) : aB b = aL.any fun x => x == b := indexByte_any b aL
theorem ach_loop (s : ByteArray) (hs : s.size ≤ 9223372036854775807) : ∀ (m i : Nat), (i + m = s.size ∨ i + m = 65537) → i + m ≤ s.size → i + m ≤ 65537 → (s.data.toList.take i).all (fun b => dB b || aB b) = true →
    Ev (fun k => PACharacters.masterdiscref17_ACharacters.l0 k s (i : Int)) (allB (fun b => dB b || aB b) s)
  | 0, i, hm, h1, h2, ha => by
    have hsz := Lib.size_eq s
    have hr : allB (fun b => dB b || aB b) s = decide ((s.size : Int) ≤ 65536) := by
      unfold allB
      by_cases hb : s.size ≤ 65536
      · rw [decide_eq_true hb, Bool.true_and, decide_eq_true (by omega)]
        have : s.data.toList.take i = s.data.toList := List.take_of_length_le (by omega)
        rw [this] at ha
        exact ha
      · rw [decide_eq_false hb, Bool.false_and, decide_eq_false (by omega)]
    rw [hr]
    refine Ev.step (f := fun k => PACharacters.masterdiscref17_ACharacters.j1 k s (i : Int) false) (fun k => ?_) ?_
    · simp only [PACharacters.masterdiscref17_ACharacters.l0]
      by_cases h3 : (i : Int) < (s.size : Int)
      · rw [if_pos h3, decide_eq_false (by omega)]
      · rw [if_neg h3]
    · refine Ev.step (f := fun _ => some _) (fun k => ?_) (Ev.now _)
      simp only [PACharacters.masterdiscref17_ACharacters.j1]
      rw [if_neg (by simp)]
  | m + 1, i, hm, h1, h2, ha => by
    have hsz := Lib.size_eq s
    have hi : i < s.data.toList.length := by omega
    refine Ev.step (f := fun k => PACharacters.masterdiscref17_ACharacters.j1 k s (i : Int) true) (fun k => ?_) ?_
    · simp only [PACharacters.masterdiscref17_ACharacters.l0]
      rw [if_pos (by omega), decide_eq_true (by omega)]
    · refine Ev.step (fun k => by
        simp only [PACharacters.masterdiscref17_ACharacters.j1]
        rw [if_pos trivial, if_pos (by omega), if_pos (by omega), bt_get hi, show PACharacters.masterdiscref17_D.f (s.data.toList[i].toNat : Int) = some (dB s.data.toList[i]) from ref17_D _]) ?_
      have ih : (dB s.data.toList[i] || aB s.data.toList[i]) = true → Ev (fun k => PACharacters.masterdiscref17_ACharacters.l0 k s (wrap64 ((i : Int) + 1))) (allB (fun b => dB b || aB b) s) := fun hp => by
        rw [w64 (n := (i : Int) + 1) (by omega) (by omega)]
        exact ach_loop s hs m (i + 1) (by omega) (by omega) (by omega) (all_next hi ha hp)
      cases hd : dB s.data.toList[i] with
      | true =>
        refine Ev.congr (fun k => ?_) (ih (by rw [hd]; rfl))
        simp only [Option.bind_some, if_true]
      | false =>
        refine Ev.congr (f := fun k => (PACharacters.masterdiscref17_among.f k (s.data.toList[i].toNat : Int) ⟨#[32, 33, 34, 37, 38, 39, 40, 41, 42, 43, 44, 45, 46, 47, 58, 59, 60, 61, 62, 63]⟩).bind fun t102 => if t102 = true then PACharacters.masterdiscref17_ACharacters.l0 k s (wrap64 ((i : Int) + 1)) else some false) (fun k => ?_) ?_
        · simp only [Option.bind_some]
          rw [if_neg (by simp)]
        · refine Ev.bind (ref17_among _) ?_
          rw [← aB_any]
          cases hb : aB s.data.toList[i] with
          | true =>
            refine Ev.congr (fun k => ?_) (ih (by rw [hb, Bool.or_true]))
            simp only [if_true]
          | false =>
            have hr : allB (fun b => dB b || aB b) s = false := by
              unfold allB
              rw [all_no (p := fun b => dB b || aB b) hi (by show (dB _ || aB _) = false; rw [hd, hb]; rfl), Bool.and_false]
            rw [hr]
            exact Ev.congr (fun k => by simp) (Ev.now _)
theorem ref17_ACharacters (s : ByteArray) (hs : s.size ≤ 9223372036854775807) : Ev (fun k => PACharacters.masterdiscref17_ACharacters.f k s) (allB (fun b => dB b || aB b) s) := by
  rcases Nat.lt_or_ge 65537 s.size with h | h
  · exact ach_loop s hs 65537 0 (by omega) (by omega) (by omega) rfl
  · exact ach_loop s hs s.size 0 (by omega) (by omega) (by omega) rfl
theorem ref_ACharacters (s : ByteArray) (hs : s.size ≤ 9223372036854775807) (w : World) :
    Calls Tryd.prog 20 #[.string s] w fun e w' => e = .returned (.bool (allB (fun b => dB b || aB b) s)) ∧ Drawn0 w w' := by
  obtain ⟨k, hk⟩ := (ref17_ACharacters s hs).rounds
  exact PACharacters.masterdiscref17_ACharacters.calls k s _ w hk
end Go.Proofs.YteiidcoapgnoaaaDoor
