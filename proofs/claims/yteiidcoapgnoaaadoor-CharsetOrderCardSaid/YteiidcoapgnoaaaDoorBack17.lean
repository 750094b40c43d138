/-
  The plain laws of chapter 17: what is written is read back, in order, in capitals.
-/
import Derived.Test.YteiidcoapgnoaaaDoorWfd
import Derived.Test.YteiidcoapgnoaaaDoorWtr
import Derived.Test.YteiidcoapgnoaaaDoorUpr
import Derived.Test.YteiidcoapgnoaaaDoorOrd
import Derived.Test.YteiidcoapgnoaaaDoorChr17
namespace Go.Proofs.YteiidcoapgnoaaaDoor
open Go.RowKit

theorem str_back {s : ByteArray} {l : List UInt8} (h : s.data.toList = l) : (⟨l.toArray⟩ : ByteArray) = s := by subst h; rfl
theorem nat2int_chI {cs : List Nat} (h : ∀ c ∈ cs, Ch.isCh c = true) : (nat2int cs).all chI = true := by
  rw [List.all_eq_true]
  intro x hx
  obtain ⟨c, hc, rfl⟩ := List.mem_map.1 hx
  rw [chI_nat]
  exact h c hc
theorem nat2int_back (cs : List Nat) : (nat2int cs).map Int.toNat = cs := by
  unfold nat2int
  rw [List.map_map]
  conv => rhs; rw [← List.map_id cs]
  apply List.map_congr_left
  intro c _
  exact Int.toNat_natCast c
/-- A text has its characters, and they have the text; so with UCS-2. -/
theorem txt_back {s : ByteArray} {cs : List Nat} (hs : s.size ≤ 300) (hc : Ch.chars s.data.toList = some cs) :
    textE (nat2int cs) = 0 ∧ (⟨(textS (nat2int cs)).toArray⟩ : ByteArray) = s ∧ ucsE s = 0 ∧ (ucsS s).size = 2 * cs.length ∧ frmE (ucsS s) = 0 ∧ frmS (ucsS s) = s := by
  obtain ⟨hi, he⟩ := Ch.chars_iff.1 hc
  have hl := Ch.chars_length hc
  rw [← Lib.size_eq] at hl
  have hall := nat2int_chI hi
  obtain ⟨u1, u2⟩ := ucs_some (by omega) hc
  have hz : (ucsS s).size = 2 * cs.length := by rw [u1, Lib.size_eq]; exact Ch.ucs_length cs
  have hp : Ch.pairs (ucsS s).data.toList = some cs := by rw [u1]; exact Ch.pairs_ucs cs hi
  obtain ⟨f1, f2⟩ := frm_some (by omega) (by omega) hp
  refine ⟨by unfold textE; rw [if_pos hall], ?_, u2, hz, f2, ?_⟩
  · unfold textS
    rw [if_pos hall, nat2int_back]
    exact str_back he
  · rw [f1]
    exact str_back he
/-- UCS-2 that is read is what the text is written as. -/
theorem frm_back {u : ByteArray} (hs : u.size ≤ 300) (he : frmE u = 0) : ucsE (frmS u) = 0 ∧ ucsS (frmS u) = u := by
  by_cases ho : u.size % 2 = 1
  · rw [(frm_odd (by omega) ho).2] at he; cases he
  · cases hp : Ch.pairs u.data.toList with
    | none => rw [(frm_none (by omega) (by omega) hp).2] at he; cases he
    | some ds =>
      obtain ⟨hi, hu⟩ := Ch.pairs_iff.1 hp
      obtain ⟨f1, f2⟩ := frm_some (by omega) (by omega) hp
      have hl : u.size = 2 * ds.length := by rw [Lib.size_eq, hu]; exact Ch.ucs_length ds
      have hz : (frmS u).size ≤ 65536 := by
        rw [f1, Lib.size_eq]
        have := Ch.encs_length_le ds
        show (Ch.encs ds).length ≤ _
        omega
      have hc : Ch.chars (frmS u).data.toList = some ds := by rw [f1]; exact Ch.chars_complete ds hi
      obtain ⟨u1, u2⟩ := ucs_some hz hc
      exact ⟨u2, by rw [u1]; exact str_back hu⟩
/-- Capitals: as long, and nothing changes twice. -/
theorem upr_twice {s : ByteArray} (hs : s.size ≤ 300) : (uprS s).size = s.size ∧ uprS (uprS s) = uprS s ∧ (chrE (uprS s) == 0) = (chrE s == 0) := by
  have h1 : uprS s = ⟨(s.data.toList.map Ch.upB).toArray⟩ := by unfold uprS; rw [if_neg (by omega)]
  have hz : (uprS s).size = s.size := by rw [h1, Lib.size_eq, Lib.size_eq]; exact List.length_map ..
  have h2 : uprS (uprS s) = ⟨((uprS s).data.toList.map Ch.upB).toArray⟩ := by unfold uprS; rw [if_neg (by unfold uprS at hz; omega)]
  refine ⟨hz, ?_, ?_⟩
  · rw [h2, h1]
    show (⟨((s.data.toList.map Ch.upB).map Ch.upB).toArray⟩ : ByteArray) = _
    rw [Ch.upL_twice]
  · have hd : (uprS s).data.toList = s.data.toList.map Ch.upB := by rw [h1]
    have hu := Ch.chars_up s.data.toList
    unfold chrE
    rw [hz, hd, if_neg (by omega), if_neg (by omega)]
    cases h3 : Ch.chars s.data.toList with
    | none =>
      rw [h3] at hu
      cases h4 : Ch.chars (s.data.toList.map Ch.upB) with
      | none => rfl
      | some _ => rw [h4] at hu; cases hu
    | some _ =>
      rw [h3] at hu
      cases h4 : Ch.chars (s.data.toList.map Ch.upB) with
      | none => rw [h4] at hu; cases hu
      | some _ => rfl
theorem d_upper {s : ByteArray} (hs : s.size ≤ 300) (hd : allB dB s = true) : allB (fun b => dB b || aB b) s = true ∧ uprS s = s := by
  unfold allB at hd ⊢
  rw [decide_eq_true (by omega), Bool.true_and] at hd ⊢
  rw [List.all_eq_true] at hd
  refine ⟨by rw [List.all_eq_true]; intro b hb; rw [hd b hb]; rfl, ?_⟩
  unfold uprS
  rw [if_neg (by omega)]
  apply str_back
  conv => lhs; rw [← List.map_id s.data.toList]
  apply List.map_congr_left
  intro b hb
  have h := of_decide_eq_true (show decide _ = true from hd b hb)
  unfold Ch.upB
  rw [if_neg (by omega)]
  rfl
/-- Texts are in the order of their characters and of their UCS-2. -/
theorem ord_back {s t : ByteArray} {cs ds : List Nat} (hs : s.size ≤ 300) (ht : t.size ≤ 300) (hc : Ch.chars s.data.toList = some cs) (hd : Ch.chars t.data.toList = some ds) :
    Lib.compareBytes s.data.toList t.data.toList = Ch.cmpN cs ds ∧ Lib.compareBytes (ucsS s).data.toList (ucsS t).data.toList = Ch.cmpN cs ds ∧ ucsE s = 0 ∧ ucsE t = 0 := by
  obtain ⟨hi, he⟩ := Ch.chars_iff.1 hc
  obtain ⟨hj, hf⟩ := Ch.chars_iff.1 hd
  obtain ⟨u1, u2⟩ := ucs_some (s := s) (by omega) hc
  obtain ⟨v1, v2⟩ := ucs_some (s := t) (by omega) hd
  refine ⟨by rw [he, hf]; exact Ch.encs_order cs ds hi hj, ?_, u2, v2⟩
  rw [u1, v1]
  exact Ch.ucs_order cs ds hi hj

theorem pre_append (a b : ByteArray) : Lib.hasPrefix (a ++ b).data.toList a.data.toList = true := by
  have e : (a ++ b).data.toList = a.data.toList ++ b.data.toList := by simp [ByteArray.data_append]
  unfold Lib.hasPrefix
  rw [e, List.isPrefixOf_iff_prefix]
  exact List.prefix_append _ _
theorem app_list (a b : ByteArray) : (a ++ b).data.toList = a.data.toList ++ b.data.toList := by simp [ByteArray.data_append]
/-- A field that is filled: its length, what it begins with, and what trimming gives. -/
theorem fld_back {s : ByteArray} {n : Int} (hs : s.size ≤ 200) (h1 : (s.size : Int) ≤ n) (h2 : n ≤ 1000) :
    fldE s n = 0 ∧ ((fldS s n).size : Int) = n ∧ Lib.hasPrefix (fldS s n).data.toList s.data.toList = true ∧
    (⟨(Lib.trimRightB ((fldS s n).extract s.size (fldS s n).size).data.toList 32).toArray⟩ : ByteArray) = ⟨#[]⟩ ∧ trmS (fldS s n) = ⟨(Lib.trimRightB s.data.toList 32).toArray⟩ := by
  have e1 : fldS s n = s ++ repS 32 (n - (s.size : Int)).toNat := by unfold fldS; rw [if_neg (by omega), if_neg (by omega), if_neg (by omega)]
  have hz : (fldS s n).size = s.size + (n - (s.size : Int)).toNat := by rw [e1, ByteArray.size_append, repS_size]
  refine ⟨by unfold fldE; rw [if_neg (by omega), if_neg (by omega), if_neg (by omega)], by rw [hz]; omega, by rw [e1]; exact pre_append _ _, ?_, ?_⟩
  · rw [Lib.extract_to_end, e1, app_list, Lib.size_eq, List.drop_left]
    have := Ch.trimR_rep [] 32 (n - ((s.data.toList.length : Nat) : Int)).toNat
    rw [List.nil_append] at this
    show (⟨(Lib.trimRightB (List.replicate _ 32) 32).toArray⟩ : ByteArray) = _
    rw [this]
    rfl
  · unfold trmS
    rw [if_neg (by omega), e1, app_list]
    show (⟨(Lib.trimRightB (s.data.toList ++ List.replicate _ 32) 32).toArray⟩ : ByteArray) = _
    rw [Ch.trimR_rep]
/-- A field in UCS-2 that is filled. -/
theorem wfd_back {s : ByteArray} {m : Nat} (hs : s.size ≤ 200) (he : ucsE s = 0) (hm : (ucsS s).size + m ≤ 1000) :
    (wfdS s (((ucsS s).size + m : Nat) : Int)).size = (ucsS s).size + m ∧ Lib.hasPrefix (wfdS s (((ucsS s).size + m : Nat) : Int)).data.toList (ucsS s).data.toList = true ∧
    wtrE (wfdS s (((ucsS s).size + m : Nat) : Int)) = 0 ∧ wtrS (wfdS s (((ucsS s).size + m : Nat) : Int)) = ⟨(Lib.trimRightB s.data.toList 32).toArray⟩ := by
  have e1 := (wfd_ok (s := s) (m := m) he (by omega)).1
  cases hc : Ch.chars s.data.toList with
  | none => rw [(ucs_none (by omega) hc).2] at he; cases he
  | some cs =>
    obtain ⟨hi, hse⟩ := Ch.chars_iff.1 hc
    have hl := Ch.chars_length hc
    rw [← Lib.size_eq] at hl
    obtain ⟨u1, _⟩ := ucs_some (by omega) hc
    have hz : (wfdS s (((ucsS s).size + m : Nat) : Int)).size = (ucsS s).size + m := by
      rw [e1, ByteArray.size_append, ByteArray.size_append, bS_size, repS_size]; omega
    have hlist : (wfdS s (((ucsS s).size + m : Nat) : Int)).data.toList = Ch.ucs (cs ++ List.replicate (m / 2) 32) ++ List.replicate (m % 2) 0 := by
      rw [e1, app_list, app_list, u1, Ch.ucs_append]
      rfl
    have hi2 : ∀ c ∈ cs ++ List.replicate (m / 2) 32, Ch.isCh c = true := by
      intro c hc
      rcases List.mem_append.1 hc with hc | hc
      · exact hi c hc
      · rw [(List.mem_replicate.1 hc).2]; rfl
    have hi3 : ∀ c ∈ cs ++ List.replicate (m / 2) 32, c ≤ 65535 := fun c hc => by
      have := Ch.isCh_iff.1 (hi2 c hc); omega
    have hw : (wtrT (wfdS s (((ucsS s).size + m : Nat) : Int))).data.toList = Ch.ucs (Ch.trC (cs ++ List.replicate (m / 2) 32)) := by
      show Ch.wtL _ = _
      rw [hlist]
      exact Ch.wtL_ucs _ hi3 _ (by omega)
    have hp : Ch.pairs (wtrT (wfdS s (((ucsS s).size + m : Nat) : Int))).data.toList = some (Ch.trC (cs ++ List.replicate (m / 2) 32)) := by
      rw [hw]
      exact Ch.pairs_ucs _ fun c hc => hi2 c (Ch.trC_mem hc)
    have hwz : (wtrT (wfdS s (((ucsS s).size + m : Nat) : Int))).size ≤ 1000 ∧ (wtrT (wfdS s (((ucsS s).size + m : Nat) : Int))).size % 2 = 0 := by
      constructor
      · rw [Lib.size_eq]
        show (List.take _ _).length ≤ 1000
        rw [List.length_take]
        have : (wfdS s (((ucsS s).size + m : Nat) : Int)).data.toList.length ≤ 1000 := by rw [← Lib.size_eq, hz]; exact hm
        omega
      · rw [Lib.size_eq, hw, Ch.ucs_length]; omega
    obtain ⟨f1, f2⟩ := frm_some (by omega) hwz.2 hp
    refine ⟨hz, ?_, ?_, ?_⟩
    · rw [e1, ByteArray.append_assoc]
      exact pre_append _ _
    · unfold wtrE
      rw [if_neg (by omega), f2]
    · unfold wtrS
      rw [if_neg (by omega), f1, Ch.wide_back cs (m / 2) hi, ← hse]
end Go.Proofs.YteiidcoapgnoaaaDoor
