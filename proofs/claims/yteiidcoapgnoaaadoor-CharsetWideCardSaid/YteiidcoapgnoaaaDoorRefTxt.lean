/-
  What the printed reference functions Text and FromUcs2 of layer 17 compute.
-/
import Derived.Test.YteiidcoapgnoaaaDoorPTextx
import Derived.Test.YteiidcoapgnoaaaDoorPFromUcs2x
import Derived.Test.YteiidcoapgnoaaaDoorRef17
import Derived.Test.YteiidcoapgnoaaaDoorCs2
import Derived.Test.YteiidcoapgnoaaaDoorWide17
namespace Go.Proofs.YteiidcoapgnoaaaDoor
open Go.RowKit Go.Proofs.YteiidcoapgnoaaaDoorW.PrintWords

theorem bytesOf_map (s : ByteArray) : (bytesOf s).map (fun x => UInt8.ofNat x.toNat) = s.data.toList := by
  unfold bytesOf
  rw [List.map_map]
  conv => rhs; rw [← List.map_id s.data.toList]
  apply List.map_congr_left
  intro b _
  show UInt8.ofNat ((b.toNat : Int)).toNat = b
  rw [Int.toNat_natCast]
  exact UInt8.ofNat_toNat
theorem bytesOf_len (s : ByteArray) : (bytesOf s).length = s.size := by unfold bytesOf; rw [List.length_map, Lib.size_eq]
theorem rd_at {xs : List Int} {i : Nat} (h : i < xs.length) : rd xs (i : Int) = xs[i] := by
  unfold rd
  rw [Int.toNat_natCast, List.getD_eq_getElem?_getD, List.getElem?_eq_getElem h]
  rfl

theorem text_loop (xs : List Int) (hl : xs.length ≤ 21845) : ∀ (m i : Nat) (acc : List Int), i + m = xs.length → acc.length ≤ 3 * i → (xs.take i).all chI = true →
    acc.map (fun x => UInt8.ofNat x.toNat) = Ch.encs ((xs.take i).map Int.toNat) →
    Ev (fun k => PText.masterdiscref17_Text.l0 k xs acc (i : Int)) (⟨(textS xs).toArray⟩, textE xs)
  | 0, i, acc, hi, ha, hc, he => by
    have hx : xs.take i = xs := List.take_of_length_le (by omega)
    rw [hx] at hc he
    have h1 : textS xs = Ch.encs (xs.map Int.toNat) := by unfold textS; rw [if_pos hc]
    have h2 : textE xs = 0 := by unfold textE; rw [if_pos hc]
    rw [h1, h2]
    refine Ev.step (f := fun _ => some _) (fun k => ?_) (Ev.now _)
    simp only [PText.masterdiscref17_Text.l0]
    rw [if_neg (by omega), str_nums he]
  | m + 1, i, acc, hi, ha, hc, he => by
    have hil : i < xs.length := by omega
    refine Ev.step (fun k => by
      simp only [PText.masterdiscref17_Text.l0]
      rw [if_pos (by omega), if_pos (by omega), rd_at hil, show PText.masterdiscref17_Character.f xs[i] = some (chI xs[i]) from ref17_Character _]) ?_
    cases hx : chI xs[i] with
    | false =>
      have hn : ¬ xs.all chI = true := by
        intro h
        rw [List.all_eq_true] at h
        have := h xs[i] (List.getElem_mem _)
        rw [hx] at this
        cases this
      have h1 : textS xs = [] := by unfold textS; rw [if_neg hn]
      have h2 : textE xs = 2 := by unfold textE; rw [if_neg hn]
      rw [h1, h2]
      exact Ev.congr (fun k => by simp) (Ev.now _)
    | true =>
      have hb := of_decide_eq_true (show decide _ = true from hx)
      obtain ⟨c, hcn⟩ : ∃ c : Nat, xs[i] = (c : Int) := ⟨xs[i].toNat, by omega⟩
      have hci : Ch.isCh c = true := by rw [← chI_nat, ← hcn]; exact hx
      have hcb := Ch.isCh_iff.1 hci
      have e1 : PText.masterdiscref17_encode.f xs[i] = some ⟨(Ch.enc c).toArray⟩ := by rw [hcn]; exact ref17_encode c (by omega)
      have hsz : (⟨(Ch.enc c).toArray⟩ : ByteArray).size ≤ 3 := by rw [Lib.size_eq]; exact Ch.enc_le c
      have ih := text_loop xs hl m (i + 1) (acc ++ bytesOf ⟨(Ch.enc c).toArray⟩) (by omega) (by rw [List.length_append, bytesOf_len]; omega)
        (by rw [List.take_succ_eq_append_getElem hil, List.all_append, hc]; simp [hx])
        (by rw [List.map_append, he, bytesOf_map, List.take_succ_eq_append_getElem hil, List.map_append, Ch.encs_append, List.map_cons, List.map_nil, hcn, Int.toNat_natCast, Ch.encs_cons, Ch.encs_nil, List.append_nil])
      refine Ev.congr (fun k => ?_) ih
      simp only [Option.bind_some, if_true, e1]
      rw [if_pos (by omega), w64 (n := (i : Int) + 1) (by omega) (by omega)]
      rfl
theorem ref17_Text (xs : List Int) (hl : xs.length ≤ 21845) : Ev (fun k => PText.masterdiscref17_Text.f k xs) (⟨(textS xs).toArray⟩, textE xs) := by
  have := text_loop xs hl xs.length 0 [] (by omega) (by simp) (by simp) (by simp [Ch.encs])
  refine Ev.congr (fun k => ?_) this
  unfold PText.masterdiscref17_Text.f
  rw [if_neg (by omega)]
  rfl
theorem ref_Text (A : Option Addr) (c : Nat) (xs : List Int) (w : World) (hr : Row w A xs) (hcap : xs.length ≤ c) (hl : xs.length ≤ 21845) :
    Calls Tryd.prog 15 #[.slice A xs.length c] w fun e w' => e = .returned (.tuple #[.string ⟨(textS xs).toArray⟩, .int .i64 (textE xs)]) ∧ Below w.heap.size w w' := by
  obtain ⟨k, hk⟩ := (ref17_Text xs hl).rounds
  exact PText.masterdiscref17_Text.calls k A c xs _ _ w (Kd.C_of_reads (enc := Value.int .i64) (d := (0 : Int)) hr.reads) hcap hk

theorem bt_drop {s : ByteArray} {i : Nat} {b : UInt8} {t : List UInt8} (h : s.data.toList.drop i = b :: t) : bt s (i : Int) = (b.toNat : Int) := by
  rw [bt_list, Int.toNat_natCast]
  have := congrArg (·[0]?) h
  simp only [List.getElem?_drop, List.getElem?_cons_zero, Nat.add_zero] at this
  rw [List.getD_eq_getElem?_getD, this]
  rfl
theorem drop_step {s : ByteArray} {i : Nat} {b : UInt8} {t : List UInt8} (h : s.data.toList.drop i = b :: t) : s.data.toList.drop (i + 1) = t ∧ i < s.size := by
  constructor
  · rw [← List.drop_drop, h]; rfl
  · have := congrArg List.length h
    simp only [List.length_drop, List.length_cons] at this
    rw [Lib.size_eq]; omega
theorem from_loop (s : ByteArray) (hs : s.size ≤ 65536) : ∀ (n : Nat) (t : List UInt8) (i : Nat) (cs : List Nat) (acc : List Int), t.length = 2 * n → s.data.toList.drop i = t → i + t.length = s.size → acc.length ≤ 3 * i →
    acc.map (fun x => UInt8.ofNat x.toNat) = Ch.encs cs →
    Ev (fun k => PFromUcs2.masterdiscref17_FromUcs2.l0 k s acc (i : Int)) (match Ch.pairs t with | some ds => (⟨(Ch.encs (cs ++ ds)).toArray⟩, 0) | none => (⟨#[]⟩, 2))
  | 0, t, i, cs, acc, hn, ht, hi, hl, he => by
    obtain rfl : t = [] := List.eq_nil_of_length_eq_zero (by omega)
    simp only [List.length_nil] at hi
    refine Ev.step (f := fun _ => some _) (fun k => ?_) (Ev.now _)
    simp only [PFromUcs2.masterdiscref17_FromUcs2.l0]
    rw [if_neg (by omega), str_nums he]
    simp [Ch.pairs]
  | n + 1, a :: b :: t, i, cs, acc, hn, ht, hi, hl, he => by
    have ha := a.toNat_lt
    have hb := b.toNat_lt
    obtain ⟨h1, h2⟩ := drop_step ht
    obtain ⟨h3, h4⟩ := drop_step h1
    have e1 := bt_drop h1
    simp only [List.length_cons] at hi hn
    refine Ev.step (fun k => by
      simp only [PFromUcs2.masterdiscref17_FromUcs2.l0]
      rw [if_pos (by omega), if_pos (by omega), w64 (n := (i : Int) + 1) (by omega) (by omega), if_pos (by omega), if_pos (by omega), bt_drop ht, show ((i : Int) + 1) = ((i + 1 : Nat) : Int) from rfl, e1,
        w64 (n := (a.toNat : Int)) (by omega) (by omega), w64 (n := (b.toNat : Int)) (by omega) (by omega), w64 (n := (a.toNat : Int) * 256) (by omega) (by omega), w64 (n := (a.toNat : Int) * 256 + (b.toNat : Int)) (by omega) (by omega), w64 (n := (i : Int) + 2) (by omega) (by omega),
        show (a.toNat : Int) * 256 + (b.toNat : Int) = ((a.toNat * 256 + b.toNat : Nat) : Int) from by omega, show PFromUcs2.masterdiscref17_Character.f ((a.toNat * 256 + b.toNat : Nat) : Int) = some (chI ((a.toNat * 256 + b.toNat : Nat) : Int)) from ref17_Character _, chI_nat]) ?_
    unfold Ch.pairs
    cases hcb : Ch.isCh (a.toNat * 256 + b.toNat) with
    | false => exact Ev.congr (fun k => by simp) (Ev.now _)
    | true =>
      have e2 : PFromUcs2.masterdiscref17_encode.f ((a.toNat * 256 + b.toNat : Nat) : Int) = some ⟨(Ch.enc (a.toNat * 256 + b.toNat)).toArray⟩ := ref17_encode _ (by omega)
      generalize a.toNat * 256 + b.toNat = c at *
      have hsz : (⟨(Ch.enc c).toArray⟩ : ByteArray).size ≤ 3 := by rw [Lib.size_eq]; exact Ch.enc_le c
      have ih := from_loop s hs n t (i + 2) (cs ++ [c]) (acc ++ bytesOf ⟨(Ch.enc c).toArray⟩) (by omega) h3 (by omega) (by rw [List.length_append, bytesOf_len]; omega)
        (by rw [List.map_append, he, bytesOf_map, Ch.encs_append, Ch.encs_cons, Ch.encs_nil, List.append_nil])
      refine Ev.congr (fun k => ?_) (f := fun k => PFromUcs2.masterdiscref17_FromUcs2.l0 k s (acc ++ bytesOf ⟨(Ch.enc c).toArray⟩) ((i + 2 : Nat) : Int)) ?_
      · simp only [Option.bind_some, if_true, e2]
        rw [if_pos (by omega)]
        rfl
      · cases hx : Ch.pairs t with
        | none => rw [hx] at ih; simpa using ih
        | some ds => rw [hx] at ih; simpa using ih
  | n + 1, [], i, cs, acc, hn, _, _, _, _ => by simp at hn
  | n + 1, [_], i, cs, acc, hn, _, _, _, _ => by simp at hn; omega
theorem ref17_FromUcs2 (s : ByteArray) : Ev (fun k => PFromUcs2.masterdiscref17_FromUcs2.f k s) (frmS s, frmE s) := by
  by_cases h1 : 65536 < s.size
  · obtain ⟨e1, e2⟩ := frm_big h1
    rw [e1, e2]
    refine Ev.congr (f := fun _ => some _) (fun k => ?_) (Ev.now _)
    unfold PFromUcs2.masterdiscref17_FromUcs2.f
    rw [if_pos (by omega)]
  · by_cases h2 : s.size % 2 = 1
    · obtain ⟨e1, e2⟩ := frm_odd (by omega) h2
      rw [e1, e2]
      refine Ev.congr (f := fun _ => some _) (fun k => ?_) (Ev.now _)
      unfold PFromUcs2.masterdiscref17_FromUcs2.f
      rw [if_neg (by omega), if_pos (by omega)]
    · have hsz := Lib.size_eq s
      have := from_loop s (by omega) (s.size / 2) s.data.toList 0 [] [] (by omega) (by simp) (by omega) (by simp) (by simp [Ch.encs])
      have hE : (match Ch.pairs s.data.toList with | some ds => ((⟨(Ch.encs ([] ++ ds)).toArray⟩ : ByteArray), (0 : Int)) | none => (⟨#[]⟩, 2)) = (frmS s, frmE s) := by
        cases hp : Ch.pairs s.data.toList with
        | none =>
          obtain ⟨e1, e2⟩ := frm_none (by omega) (by omega) hp
          rw [e1, e2]
        | some ds =>
          obtain ⟨e1, e2⟩ := frm_some (by omega) (by omega) hp
          rw [e1, e2]
          rfl
      rw [← hE]
      refine Ev.congr (fun k => ?_) this
      unfold PFromUcs2.masterdiscref17_FromUcs2.f
      rw [if_neg (by omega), if_neg (by omega)]
      rfl
theorem ref_FromUcs2 (s : ByteArray) (w : World) :
    Calls Tryd.prog 30 #[.string s] w fun e w' => e = .returned (.tuple #[.string (frmS s), .int .i64 (frmE s)]) ∧ Below w.heap.size w w' := by
  obtain ⟨k, hk⟩ := (ref17_FromUcs2 s).rounds
  exact PFromUcs2.masterdiscref17_FromUcs2.calls k s _ _ w hk
end Go.Proofs.YteiidcoapgnoaaaDoor
