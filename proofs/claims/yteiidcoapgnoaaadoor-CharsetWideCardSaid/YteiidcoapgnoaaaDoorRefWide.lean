/-
  What the printed reference functions Ucs2 and WideTrim of layer 17 compute.
-/
import Derived.Test.YteiidcoapgnoaaaDoorPUcs2x
import Derived.Test.YteiidcoapgnoaaaDoorPWideTrimx
import Derived.Test.YteiidcoapgnoaaaDoorRefTxt
namespace Go.Proofs.YteiidcoapgnoaaaDoor
open Go.RowKit Go.Proofs.YteiidcoapgnoaaaDoorW.PrintWords

theorem same_from : ∀ (k : Nat) (s : ByteArray) (a : List Int) (i : Int), PWideTrim.masterdiscref17_FromUcs2.l0 k s a i = PFromUcs2.masterdiscref17_FromUcs2.l0 k s a i
  | 0, s, a, i => rfl
  | k + 1, s, a, i => by
    simp only [PWideTrim.masterdiscref17_FromUcs2.l0, PFromUcs2.masterdiscref17_FromUcs2.l0]
    simp only [same_from k]
    rfl
theorem same_first : ∀ (k : Nat), (∀ (s : ByteArray) (i : Int), PUcs2.masterdiscref17_first.l0 k s i = PCharacters.masterdiscref17_first.l0 k s i) ∧ (∀ (s : ByteArray) (i : Int) b, PUcs2.masterdiscref17_first.j1 k s i b = PCharacters.masterdiscref17_first.j1 k s i b) ∧ (∀ (s : ByteArray) (i j : Int), PUcs2.masterdiscref17_first.j2 k s i j = PCharacters.masterdiscref17_first.j2 k s i j) ∧ (∀ (s : ByteArray) (i j : Int), PUcs2.masterdiscref17_first.j3 k s i j = PCharacters.masterdiscref17_first.j3 k s i j)
  | 0 => ⟨fun _ _ => by simp only [PUcs2.masterdiscref17_first.l0, PCharacters.masterdiscref17_first.l0], fun _ _ _ => by simp only [PUcs2.masterdiscref17_first.j1, PCharacters.masterdiscref17_first.j1], fun _ _ _ => by simp only [PUcs2.masterdiscref17_first.j2, PCharacters.masterdiscref17_first.j2], fun _ _ _ => by simp only [PUcs2.masterdiscref17_first.j3, PCharacters.masterdiscref17_first.j3]⟩
  | k + 1 => by
    obtain ⟨h0, h1, h2, h3⟩ := same_first k
    refine ⟨fun s i => ?_, fun s i b => ?_, fun s i j => ?_, fun s i j => ?_⟩
    · simp only [PUcs2.masterdiscref17_first.l0, PCharacters.masterdiscref17_first.l0, h1]
    · simp only [PUcs2.masterdiscref17_first.j1, PCharacters.masterdiscref17_first.j1, h2]
    · simp only [PUcs2.masterdiscref17_first.j2, PCharacters.masterdiscref17_first.j2, h3]
    · simp only [PUcs2.masterdiscref17_first.j3, PCharacters.masterdiscref17_first.j3, h0]
      rfl
theorem same_chars : ∀ (k : Nat) (s : ByteArray) (a : List Int), PUcs2.masterdiscref17_Characters.l0 k s a = PCharacters.masterdiscref17_Characters.l0 k s a
  | 0, s, a => rfl
  | k + 1, s, a => by
    have hf : PUcs2.masterdiscref17_first.f k s = PCharacters.masterdiscref17_first.f k s := (same_first k).1 s 1
    simp only [PUcs2.masterdiscref17_Characters.l0, PCharacters.masterdiscref17_Characters.l0, hf, same_chars k]
theorem same_Characters (k : Nat) (s : ByteArray) : PUcs2.masterdiscref17_Characters.f k s = PCharacters.masterdiscref17_Characters.f k s := by
  unfold PUcs2.masterdiscref17_Characters.f PCharacters.masterdiscref17_Characters.f
  rw [same_chars]
theorem same_FromUcs2 (k : Nat) (s : ByteArray) : PWideTrim.masterdiscref17_FromUcs2.f k s = PFromUcs2.masterdiscref17_FromUcs2.f k s := by
  unfold PWideTrim.masterdiscref17_FromUcs2.f PFromUcs2.masterdiscref17_FromUcs2.f
  rw [same_from]

theorem ucs_loop (cs : List Nat) (hc : ∀ c ∈ cs, c ≤ 65535) (hl : cs.length ≤ 100000) : ∀ (m i : Nat) (acc : List Int), i + m = cs.length → acc.length ≤ 2 * i → acc.map (fun x => UInt8.ofNat x.toNat) = Ch.ucs (cs.take i) →
    Ev (fun k => PUcs2.masterdiscref17_Ucs2.l0 k (nat2int cs) acc (i : Int)) (⟨(Ch.ucs cs).toArray⟩, 0)
  | 0, i, acc, hi, ha, he => by
    rw [List.take_of_length_le (by omega)] at he
    refine Ev.step (f := fun _ => some _) (fun k => ?_) (Ev.now _)
    simp only [PUcs2.masterdiscref17_Ucs2.l0]
    rw [if_neg (by rw [nat2int_length]; omega), str_nums he]
  | m + 1, i, acc, hi, ha, he => by
    have hil : i < cs.length := by omega
    have hci := hc (cs[i]'hil) (List.getElem_mem _)
    have hrd : rd (nat2int cs) (i : Int) = ((cs[i]'hil : Nat) : Int) := by
      rw [rd_at (xs := nat2int cs) (by rw [nat2int_length]; exact hil)]
      simp [nat2int]
    have e1 : Int.tdiv ((cs[i]'hil : Nat) : Int) 256 = ((cs[i]'hil / 256 : Nat) : Int) := tdiv_nat (a := cs[i]'hil) (b := 256)
    have e2 : Int.tmod ((cs[i]'hil : Nat) : Int) 256 = ((cs[i]'hil % 256 : Nat) : Int) := tmod_nat (a := cs[i]'hil) (b := 256)
    have ih := ucs_loop cs hc hl m (i + 1) (acc ++ [((cs[i]'hil / 256 : Nat) : Int), ((cs[i]'hil % 256 : Nat) : Int)]) (by omega) (by simp; omega)
      (by rw [List.map_append, he, List.take_succ_eq_append_getElem hil, Ch.ucs_append, Ch.ucs_one]; rfl)
    refine Ev.step (fun k => ?_) ih
    simp only [PUcs2.masterdiscref17_Ucs2.l0]
    rw [if_pos (by rw [nat2int_length]; omega), if_pos (by omega), hrd, e1, e2, w64 (n := ((cs[i]'hil / 256 : Nat) : Int)) (by omega) (by omega), w64 (n := (i : Int) + 1) (by omega) (by omega)]
    simp only [Option.bind_some]
    rw [if_pos (by simp only [List.length_cons, List.length_nil]; omega), show ((cs[i]'hil / 256 : Nat) : Int) % 256 = ((cs[i]'hil / 256 : Nat) : Int) from by omega, show ((cs[i]'hil % 256 : Nat) : Int) % 256 = ((cs[i]'hil % 256 : Nat) : Int) from by omega]
    rfl
theorem ref17_Ucs2 (s : ByteArray) : Ev (fun k => PUcs2.masterdiscref17_Ucs2.f k s) (ucsS s, ucsE s) := by
  have hf : ∀ k, PUcs2.masterdiscref17_Ucs2.f k s = (PCharacters.masterdiscref17_Characters.f k s).bind fun bt117 => (if bt117.2 = 0 then (PUcs2.masterdiscref17_Ucs2.l0 k bt117.1 ([] : List Int) 0) else (some ((⟨#[]⟩ : ByteArray), bt117.2))) := fun k => by
    unfold PUcs2.masterdiscref17_Ucs2.f
    rw [same_Characters]
  refine Ev.congr hf ?_
  by_cases h1 : 65536 < s.size
  · obtain ⟨e1, e2⟩ := ucs_big h1
    rw [e1, e2]
    refine Ev.bind (g := fun k => PCharacters.masterdiscref17_Characters.f k s) (Ev.congr (fun k => ref17_Characters_big s h1 k) (Ev.now _)) ?_
    exact Ev.congr (fun k => by simp only; rw [if_neg (by decide)]) (Ev.now _)
  · refine Ev.bind (ref17_Characters s (by omega)) ?_
    unfold charsO
    cases hc : Ch.chars s.data.toList with
    | none =>
      obtain ⟨e1, e2⟩ := ucs_none (by omega) hc
      rw [e1, e2]
      exact Ev.congr (fun k => by simp only; rw [if_neg (by decide)]) (Ev.now _)
    | some cs =>
      obtain ⟨e1, e2⟩ := ucs_some (by omega) hc
      rw [e1, e2]
      have hl := Ch.chars_length hc
      rw [← Lib.size_eq] at hl
      have hcc : ∀ c ∈ cs, c ≤ 65535 := fun c h => by
        have := Ch.isCh_iff.1 ((Ch.chars_iff.1 hc).1 c h)
        omega
      refine Ev.congr (fun k => ?_) (ucs_loop cs hcc (by omega) cs.length 0 [] (by omega) (by simp) rfl)
      simp only [if_true]
      rfl
theorem ref_Ucs2 (s : ByteArray) (w : World) :
    Calls Tryd.prog 28 #[.string s] w fun e w' => e = .returned (.tuple #[.string (ucsS s), .int .i64 (ucsE s)]) ∧ Below w.heap.size w w' := by
  obtain ⟨k, hk⟩ := (ref17_Ucs2 s).rounds
  exact PUcs2.masterdiscref17_Ucs2.calls k s _ _ w hk

theorem extract_take (s : ByteArray) (n : Nat) : s.extract 0 n = ⟨(s.data.toList.take n).toArray⟩ := by
  have : (s.extract 0 n).data.toList = s.data.toList.take n := by rw [Lib.extract_data, List.drop_zero, Nat.sub_zero]
  rw [← this]
theorem two_get (l : List UInt8) (m : Nat) (h : m + 2 ≤ l.length) : ((l.drop m).take 2 = [0, 32]) ↔ (l.getD m 0 = 0 ∧ l.getD (m + 1) 0 = 32) := by
  have h1 : l.drop m = l[m] :: l[m + 1] :: l.drop (m + 2) := by
    rw [List.drop_eq_getElem_cons (show m < l.length by omega), List.drop_eq_getElem_cons (show m + 1 < l.length by omega)]
  have g0 : l.getD m 0 = l[m] := by rw [List.getD_eq_getElem?_getD, List.getElem?_eq_getElem (show m < l.length by omega)]; rfl
  have g1 : l.getD (m + 1) 0 = l[m + 1] := by rw [List.getD_eq_getElem?_getD, List.getElem?_eq_getElem (show m + 1 < l.length by omega)]; rfl
  rw [g0, g1, h1]
  simp only [List.take_succ_cons, List.take_zero, List.cons.injEq, and_true]
def wtQ (l : List UInt8) (n : Nat) : Nat := if n % 2 = 0 then Ch.wtN l n else n
theorem wt_loop (s : ByteArray) (hs : s.size ≤ 65536) (n : Nat) : n ≤ s.size →
    Ev (fun k => PWideTrim.masterdiscref17_WideTrim.l0 k s (n : Int)) (frmS (s.extract 0 (wtQ s.data.toList n)), frmE (s.extract 0 (wtQ s.data.toList n))) := by
  induction n using Nat.strongRecOn with
  | ind n ih =>
    intro hn
    have hsz := Lib.size_eq s
    have em : Int.tmod (n : Int) 2 = ((n % 2 : Nat) : Int) := tmod_nat (a := n) (b := 2)
    have fin : ∀ q : Nat, Ev (fun k => (PWideTrim.masterdiscref17_FromUcs2.f k (s.extract 0 ((q : Nat) : Int).toNat)).bind fun bt => some (bt.1, bt.2)) (frmS (s.extract 0 q), frmE (s.extract 0 q)) := fun q => by
      rw [Int.toNat_natCast]
      refine Ev.bind (Ev.congr (fun k => same_FromUcs2 k _) (ref17_FromUcs2 (s.extract 0 q))) (Ev.now _)
    by_cases h2 : n % 2 = 0
    · have hq : wtQ s.data.toList n = Ch.wtN s.data.toList n := by unfold wtQ; rw [if_pos h2]
      rw [hq]
      match n, ih, hn, em, h2 with
      | 0, _, _, em, _ =>
        refine Ev.step (fun k => ?_) (fin 0)
        simp only [PWideTrim.masterdiscref17_WideTrim.l0]
        rw [em, if_pos (by decide), if_neg (by decide), if_pos (by decide), if_pos (by omega)]
      | m + 2, ih, hn, em, h2 =>
        have hp : (s.extract m (m + 2)).toList = [0, 32] ↔ (s.data.toList.getD m 0 = 0 ∧ s.data.toList.getD (m + 1) 0 = 32) := by
          rw [Lib.toList_data, Lib.extract_data, show m + 2 - m = 2 from by omega]
          exact two_get _ _ (by omega)
        have hl0 : ∀ k, PWideTrim.masterdiscref17_WideTrim.l0 (k + 1) s ((m + 2 : Nat) : Int) = if (s.extract m (m + 2)).toList = ([0, 32] : List UInt8) then PWideTrim.masterdiscref17_WideTrim.l0 k s (m : Int) else (PWideTrim.masterdiscref17_FromUcs2.f k (s.extract 0 ((m + 2 : Nat) : Int).toNat)).bind fun bt => some (bt.1, bt.2) := by
          intro k
          simp only [PWideTrim.masterdiscref17_WideTrim.l0]
          rw [em, if_pos (by omega), if_pos (by omega), w64 (n := ((m + 2 : Nat) : Int) - 2) (by omega) (by omega), show ((m + 2 : Nat) : Int) - 2 = ((m : Nat) : Int) from by omega, if_pos (by omega), if_pos (by omega), if_pos (by omega), Int.toNat_natCast, Int.toNat_natCast]
          rfl
        unfold Ch.wtN
        by_cases hh : s.data.toList.getD m 0 = 0 ∧ s.data.toList.getD (m + 1) 0 = 32
        · rw [if_pos hh]
          have h := ih m (by omega) (by omega)
          have hq' : wtQ s.data.toList m = Ch.wtN s.data.toList m := by unfold wtQ; rw [if_pos (by omega)]
          rw [hq'] at h
          exact Ev.step (fun k => by rw [hl0, if_pos (hp.2 hh)]) h
        · rw [if_neg hh]
          exact Ev.step (fun k => by rw [hl0, if_neg (fun e => hh (hp.1 e))]) (fin (m + 2))
    · have hq : wtQ s.data.toList n = n := by unfold wtQ; rw [if_neg h2]
      rw [hq]
      refine Ev.step (fun k => ?_) (fin n)
      simp only [PWideTrim.masterdiscref17_WideTrim.l0]
      rw [em, if_neg (by omega), if_pos (by omega), if_pos (by omega)]
theorem ref17_WideTrim (s : ByteArray) : Ev (fun k => PWideTrim.masterdiscref17_WideTrim.f k s) (wtrS s, wtrE s) := by
  by_cases h1 : 65536 < s.size
  · unfold wtrS wtrE
    rw [if_pos h1, if_pos h1]
    refine Ev.congr (f := fun _ => some _) (fun k => ?_) (Ev.now _)
    unfold PWideTrim.masterdiscref17_WideTrim.f
    rw [if_pos (by omega)]
  · have hsz := Lib.size_eq s
    have ht : ∀ q : Nat, q = Ch.wt0 s.data.toList → wtrT s = s.extract 0 (wtQ s.data.toList q) := by
      rintro q rfl
      rw [extract_take]
      rfl
    have key : ∀ q : Nat, q = Ch.wt0 s.data.toList → Ev (fun k => PWideTrim.masterdiscref17_WideTrim.j1 k s (q : Int)) (wtrS s, wtrE s) := by
      intro q hq
      have hle := Ch.wt0_le s.data.toList
      have h := wt_loop s (by omega) q (by omega)
      rw [← ht q hq] at h
      have e1 : wtrS s = frmS (wtrT s) := by unfold wtrS; rw [if_neg h1]
      have e2 : wtrE s = frmE (wtrT s) := by unfold wtrE; rw [if_neg h1]
      rw [e1, e2]
      exact Ev.step (fun k => by simp only [PWideTrim.masterdiscref17_WideTrim.j1]) h
    by_cases h2 : s.size % 2 = 1
    · have hb : bt s (((s.size - 1 : Nat)) : Int) = ((s.data.toList.getD (s.data.toList.length - 1) 0).toNat : Int) := by rw [bt_list, Int.toNat_natCast, hsz]
      have hf : ∀ k, PWideTrim.masterdiscref17_WideTrim.f k s = PWideTrim.masterdiscref17_WideTrim.j0 k s (s.size : Int) (((s.data.toList.getD (s.data.toList.length - 1) 0).toNat : Int) == 0) := by
        intro k
        unfold PWideTrim.masterdiscref17_WideTrim.f
        rw [if_neg (by omega), if_pos (by omega), w64 (n := (s.size : Int) - 1) (by omega) (by omega), if_pos (by omega), if_pos (by omega), show (s.size : Int) - 1 = ((s.size - 1 : Nat) : Int) from by omega, hb]
      refine Ev.congr hf ?_
      by_cases h3 : s.data.toList.getD (s.data.toList.length - 1) 0 = 0
      · have hq : s.size - 1 = Ch.wt0 s.data.toList := by unfold Ch.wt0; rw [if_pos ⟨by omega, h3⟩, hsz]
        refine Ev.step (fun k => ?_) (key _ hq)
        simp only [PWideTrim.masterdiscref17_WideTrim.j0]
        rw [if_pos (by rw [h3]; rfl), w64 (n := (s.size : Int) - 1) (by omega) (by omega), show (s.size : Int) - 1 = ((s.size - 1 : Nat) : Int) from by omega]
      · have hq : s.size = Ch.wt0 s.data.toList := by unfold Ch.wt0; rw [if_neg (fun h => h3 h.2), hsz]
        refine Ev.step (fun k => ?_) (key _ hq)
        simp only [PWideTrim.masterdiscref17_WideTrim.j0]
        rw [if_neg]
        intro e
        apply h3
        apply UInt8.toNat_inj.1
        have := beq_iff_eq.1 e
        show _ = 0
        omega
    · have hq : s.size = Ch.wt0 s.data.toList := by unfold Ch.wt0; rw [if_neg (fun h => h2 (by omega)), hsz]
      refine Ev.congr (f := fun k => PWideTrim.masterdiscref17_WideTrim.j0 k s (s.size : Int) false) (fun k => ?_) ?_
      · unfold PWideTrim.masterdiscref17_WideTrim.f
        rw [if_neg (by omega), if_neg (by omega)]
      · refine Ev.step (fun k => ?_) (key _ hq)
        simp only [PWideTrim.masterdiscref17_WideTrim.j0]
        rw [if_neg (by simp)]
theorem ref_WideTrim (s : ByteArray) (w : World) :
    Calls Tryd.prog 34 #[.string s] w fun e w' => e = .returned (.tuple #[.string (wtrS s), .int .i64 (wtrE s)]) ∧ Below w.heap.size w w' := by
  obtain ⟨k, hk⟩ := (ref17_WideTrim s).rounds
  exact PWideTrim.masterdiscref17_WideTrim.calls k s _ _ w hk
end Go.Proofs.YteiidcoapgnoaaaDoor
