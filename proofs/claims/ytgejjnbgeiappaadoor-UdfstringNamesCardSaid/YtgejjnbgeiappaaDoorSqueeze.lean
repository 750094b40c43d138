/-
  What the printed reference functions Bytes, Reverse, Repeat of layer 1 and squeeze of layer 32 compute.
-/
import Derived.Test.YtgejjnbgeiappaaDoorPsqueezex
import Derived.Test.YtgejjnbgeiappaaDoorPRepeatx
import Derived.Test.YtgejjnbgeiappaaDoorComp
import Derived.Test.YtgejjnbgeiappaaDoorRef17
namespace Go.Proofs.YtgejjnbgeiappaaDoor
open Go.RowKit Go.Proofs.YtgejjnbgeiappaaDoorW.PrintWords

theorem rd_nat (cs : List Nat) (k : Nat) (h : k < cs.length) : rd (nat2int cs) (k : Int) = ((cs[k]'h : Nat) : Int) := by
  unfold rd nat2int
  rw [Int.toNat_natCast, List.getD_eq_getElem?_getD, List.getElem?_map, List.getElem?_eq_getElem h]
  rfl

/-- The bytes of a number, the least one first. -/
def lebytes : Nat → Nat → List UInt8
  | 0, _ => []
  | m + 1, n => UInt8.ofNat (n % 256) :: lebytes m (n / 256)
theorem lebytes_length : ∀ m n, (lebytes m n).length = m
  | 0, _ => rfl
  | m + 1, n => by simp [lebytes, lebytes_length m]

section
open Go.Proofs.YtgejjnbgeiappaaDoor.Psqueeze
theorem bytes_loop : ∀ (m n i : Nat) (acc : List Int), n ≤ 9223372036854775807 → i + m ≤ 1000 → acc.length = i →
    Ev (fun k => masterdiscref01_Bytes.l0 k (n : Int) ((i + m : Nat) : Int) acc (i : Int)) ⟨((acc.map fun x => UInt8.ofNat x.toNat) ++ lebytes m n).toArray⟩
  | 0, n, i, acc, hn, hi, ha => by
    refine Ev.step (f := fun _ => some _) (fun k => ?_) (Ev.now _)
    simp only [masterdiscref01_Bytes.l0]
    rw [if_neg (by omega)]
    congr 1
    simp [strOfNums, lebytes]
  | m + 1, n, i, acc, hn, hi, ha => by
    have ih := bytes_loop m (n / 256) (i + 1) (acc ++ [((n % 256 : Nat) : Int)]) (by omega) (by omega) (by simp [ha])
    refine Ev.step (fun k => ?_) (f := fun k => masterdiscref01_Bytes.l0 k ((n / 256 : Nat) : Int) ((i + 1 + m : Nat) : Int) (acc ++ [((n % 256 : Nat) : Int)]) ((i + 1 : Nat) : Int)) ?_
    · simp only [masterdiscref01_Bytes.l0]
      have e1 : Int.tdiv (n : Int) 256 = ((n / 256 : Nat) : Int) := tdiv_nat (a := n) (b := 256)
      have e2 : Int.tmod (n : Int) 256 = ((n % 256 : Nat) : Int) := tmod_nat (a := n) (b := 256)
      rw [if_pos (by omega), if_pos (by omega), e1, e2, w64 (by omega) (by omega), w64 (by omega) (by omega), show ((n % 256 : Nat) : Int) % 256 = ((n % 256 : Nat) : Int) from by omega, show i + (m + 1) = i + 1 + m from by omega]
      rfl
    · have e : ((acc.map fun x => UInt8.ofNat x.toNat) ++ lebytes (m + 1) n) = ((acc ++ [((n % 256 : Nat) : Int)]).map fun x => UInt8.ofNat x.toNat) ++ lebytes m (n / 256) := by
        rw [List.map_append, List.map_cons, List.map_nil, Int.toNat_natCast, List.append_assoc]
        rfl
      rw [e]; exact ih
theorem ref01_Bytes (n m : Nat) (hn : n ≤ 9223372036854775807) (hm : m ≤ 1000) : Ev (fun k => masterdiscref01_Bytes.f k (n : Int) (m : Int)) ⟨(lebytes m n).toArray⟩ := by
  have := bytes_loop m n 0 [] hn (by omega) rfl
  refine Ev.congr (fun k => ?_) this
  simp [masterdiscref01_Bytes.f]

theorem reverse_loop (s : ByteArray) (hs : s.size ≤ 1000) : ∀ (i : Nat) (acc : List Int), i ≤ s.size → acc.length + i = s.size →
    Ev (fun k => masterdiscref01_Reverse.l0 k s acc ((i : Int) - 1)) ⟨((acc.map fun x => UInt8.ofNat x.toNat) ++ (s.data.toList.take i).reverse).toArray⟩
  | 0, acc, hi, ha => by
    refine Ev.step (f := fun _ => some _) (fun k => ?_) (Ev.now _)
    simp only [masterdiscref01_Reverse.l0]
    rw [if_neg (by omega)]
    congr 1
    simp [strOfNums]
  | i + 1, acc, hi, ha => by
    have hil : i < s.data.toList.length := by rw [← Lib.size_eq]; omega
    have ih := reverse_loop s hs i (acc ++ [((s.data.toList[i]'hil).toNat : Int)]) (by omega) (by simp; omega)
    refine Ev.step (fun k => ?_) (f := fun k => masterdiscref01_Reverse.l0 k s (acc ++ [((s.data.toList[i]'hil).toNat : Int)]) ((i : Int) - 1)) ?_
    · simp only [masterdiscref01_Reverse.l0]
      have e0 : (((i + 1 : Nat) : Int) - 1) = (i : Int) := by omega
      rw [e0, if_pos (by omega), if_pos (by omega), if_pos (by omega), if_pos (by omega), w64 (by omega) (by omega), bt_list, Int.toNat_natCast, List.getD_eq_getElem?_getD, List.getElem?_eq_getElem hil]
      rfl
    · have e : ((acc.map fun x => UInt8.ofNat x.toNat) ++ (s.data.toList.take (i + 1)).reverse) = ((acc ++ [((s.data.toList[i]'hil).toNat : Int)]).map fun x => UInt8.ofNat x.toNat) ++ (s.data.toList.take i).reverse := by
        rw [List.take_succ_eq_append_getElem hil]
        simp
      rw [e]; exact ih
theorem ref01_Reverse (l : List UInt8) (hl : l.length ≤ 1000) : Ev (fun k => masterdiscref01_Reverse.f k ⟨l.toArray⟩) ⟨l.reverse.toArray⟩ := by
  have hs : (⟨l.toArray⟩ : ByteArray).size = l.length := by rw [Lib.size_eq]
  have := reverse_loop ⟨l.toArray⟩ (by omega) l.length [] (by omega) (by simp [hs])
  refine Ev.congr (fun k => ?_) (f := fun k => masterdiscref01_Reverse.l0 k ⟨l.toArray⟩ [] ((l.length : Int) - 1)) (by simpa using this)
  unfold masterdiscref01_Reverse.f
  rw [hs, w64 (by omega) (by omega)]

/-- The bytes of a character, of one width. -/
def wbytes (size c : Nat) : List UInt8 := (lebytes size c).reverse
theorem squeeze_l1 (cs : List Nat) (size : Nat) (h1 : size = 1 ∨ size = 2) (hc : ∀ c ∈ cs, c ≤ 65535) (hl : cs.length ≤ 100000) : ∀ (m i : Nat) (out : List UInt8), i + m = cs.length → out.length ≤ 2 * i + 1 →
    Ev (fun k => masterdiscref32_squeeze.l1 k (nat2int cs) (size : Int) ⟨out.toArray⟩ (i : Int)) ⟨(out ++ (cs.drop i).flatMap (wbytes size)).toArray⟩
  | 0, i, out, hi, ho => by
    refine Ev.step (f := fun _ => some _) (fun k => ?_) (Ev.now _)
    simp only [masterdiscref32_squeeze.l1]
    rw [if_neg (by rw [nat2int_length]; omega), List.drop_of_length_le (by omega)]
    simp
  | m + 1, i, out, hi, ho => by
    have hil : i < cs.length := by omega
    have hci := hc (cs[i]'hil) (List.getElem_mem _)
    have hwl : (wbytes size cs[i]).length = size := by simp [wbytes, lebytes_length]
    have ih := squeeze_l1 cs size h1 hc hl m (i + 1) (out ++ wbytes size (cs[i]'hil)) (by omega) (by rw [List.length_append, hwl]; omega)
    refine Ev.step (fun k => by simp only [masterdiscref32_squeeze.l1]; rw [if_pos (by rw [nat2int_length]; omega), if_pos (by omega), rd_nat cs i hil]) ?_
    refine Ev.bind (ref01_Bytes (cs[i]'hil) size (by omega) (by omega)) ?_
    refine Ev.bind (ref01_Reverse _ (by rw [lebytes_length]; omega)) ?_
    have s1 : (⟨out.toArray⟩ : ByteArray).size = out.length := by rw [Lib.size_eq]
    have s2 : (⟨(lebytes size cs[i]).reverse.toArray⟩ : ByteArray).size = size := by rw [Lib.size_eq]; simp [lebytes_length]
    refine Ev.congr (fun k => ?_) (f := fun k => masterdiscref32_squeeze.l1 k (nat2int cs) (size : Int) ⟨(out ++ wbytes size (cs[i]'hil)).toArray⟩ ((i + 1 : Nat) : Int)) ?_
    · rw [if_pos (by omega), w64 (by omega) (by omega)]
      congr 1
    · rw [List.drop_eq_getElem_cons hil, List.flatMap_cons, ← List.append_assoc]
      exact ih
theorem squeeze_l0 (cs : List Nat) (hc : ∀ c ∈ cs, c ≤ 65535) (hl : cs.length ≤ 100000) : ∀ (m i w : Nat), i + m = cs.length → (w = if Ch.isNarrow (cs.take i) = true then 1 else 2) →
    Ev (fun k => masterdiscref32_squeeze.l0 k (nat2int cs) (w : Int) (i : Int)) ⟨(UInt8.ofNat (8 * (if Ch.isNarrow cs = true then 1 else 2)) :: cs.flatMap (wbytes (if Ch.isNarrow cs = true then 1 else 2))).toArray⟩
  | 0, i, w, hi, hw => by
    have hi' : i = cs.length := by omega
    subst hi'
    rw [List.take_length] at hw
    have hw2 : w = 1 ∨ w = 2 := by rw [hw]; split <;> simp
    have := squeeze_l1 cs w hw2 hc hl cs.length 0 [UInt8.ofNat (8 * w)] (by omega) (by simp)
    rw [← hw]
    refine Ev.step (fun k => ?_) (f := fun k => masterdiscref32_squeeze.l1 k (nat2int cs) (w : Int) ⟨[UInt8.ofNat (8 * w)].toArray⟩ ((0 : Nat) : Int)) (by simpa using this)
    simp only [masterdiscref32_squeeze.l0]
    rw [if_neg (by rw [nat2int_length]; omega), w64 (by omega) (by omega), show (8 * (w : Int)) % 256 = ((8 * w : Nat) : Int) from by omega]
    congr 1
  | m + 1, i, w, hi, hw => by
    have hil : i < cs.length := by omega
    have hci := hc (cs[i]'hil) (List.getElem_mem _)
    have hsn : Ch.isNarrow (cs.take (i + 1)) = (Ch.isNarrow (cs.take i) && decide (cs[i]'hil ≤ 255)) := by
      unfold Ch.isNarrow
      rw [List.take_succ_eq_append_getElem hil, List.all_append]
      simp only [List.all_cons, List.all_nil, Bool.and_true]
    by_cases hb : cs[i]'hil > 255
    · refine Ev.step (fun k => ?_) (squeeze_l0 cs hc hl m (i + 1) 2 (by omega) (by rw [hsn, decide_eq_false (by omega)]; simp))
      simp only [masterdiscref32_squeeze.l0]
      rw [if_pos (by rw [nat2int_length]; omega), if_pos (by omega), rd_nat cs i hil, if_pos (by omega), w64 (by omega) (by omega)]
      rfl
    · refine Ev.step (fun k => ?_) (squeeze_l0 cs hc hl m (i + 1) w (by omega) (by rw [hsn, decide_eq_true (by omega), Bool.and_true]; exact hw))
      simp only [masterdiscref32_squeeze.l0]
      rw [if_pos (by rw [nat2int_length]; omega), if_pos (by omega), rd_nat cs i hil, if_neg (by omega), w64 (by omega) (by omega)]
      rfl
theorem wbytes_one (cs : List Nat) (h : ∀ c ∈ cs, c ≤ 255) : cs.flatMap (wbytes 1) = cs.map UInt8.ofNat := by
  induction cs with
  | nil => rfl
  | cons c cs ih =>
    have hc := h c (by simp)
    rw [List.flatMap_cons, List.map_cons, ih fun x hx => h x (List.mem_cons_of_mem _ hx)]
    simp [wbytes, lebytes, Nat.mod_eq_of_lt (show c < 256 from by omega)]
theorem wbytes_two (cs : List Nat) (h : ∀ c ∈ cs, c ≤ 65535) : cs.flatMap (wbytes 2) = Ch.ucs cs := by
  induction cs with
  | nil => rfl
  | cons c cs ih =>
    have hc := h c (by simp)
    rw [List.flatMap_cons, Ch.ucs_cons, ih fun x hx => h x (List.mem_cons_of_mem _ hx)]
    simp [wbytes, lebytes, Nat.mod_eq_of_lt (show c / 256 < 256 from by omega)]
theorem comp_wbytes (cs : List Nat) (hc : ∀ c ∈ cs, c ≤ 65535) (hn : cs ≠ []) : Ch.comp cs = UInt8.ofNat (8 * (if Ch.isNarrow cs = true then 1 else 2)) :: cs.flatMap (wbytes (if Ch.isNarrow cs = true then 1 else 2)) := by
  unfold Ch.comp
  rw [if_neg hn]
  by_cases h : Ch.isNarrow cs = true
  · rw [if_pos h, if_pos h, wbytes_one cs (Ch.isNarrow_iff.1 h)]; rfl
  · rw [if_neg h, if_neg h, wbytes_two cs hc]; rfl
/-- 'squeeze' is the compressed Unicode. -/
theorem ref32_squeeze (cs : List Nat) (hc : ∀ c ∈ cs, c ≤ 65535) (hl : cs.length ≤ 100000) : Ev (fun k => masterdiscref32_squeeze.f k (nat2int cs)) ⟨(Ch.comp cs).toArray⟩ := by
  by_cases hn : cs = []
  · subst hn
    exact Ev.congr (fun k => by simp [masterdiscref32_squeeze.f, nat2int, Ch.comp]) (Ev.now _)
  · rw [comp_wbytes cs hc hn]
    refine Ev.congr (fun k => ?_) (squeeze_l0 cs hc hl cs.length 0 1 (by omega) (by simp [Ch.isNarrow]))
    unfold masterdiscref32_squeeze.f
    rw [if_neg]
    · rfl
    · rw [nat2int_length]
      intro h
      exact hn (List.eq_nil_of_length_eq_zero (by omega))
end

section
open Go.Proofs.YtgejjnbgeiappaaDoor.PRepeat
theorem repeat_loop (b : UInt8) (n : Nat) (hn : n ≤ 100000) : ∀ (m i : Nat) (acc : List Int), i + m = n → acc.length = i →
    Ev (fun k => masterdiscref01_Repeat.l0 k (b.toNat : Int) (n : Int) acc (i : Int)) ⟨((acc.map fun x => UInt8.ofNat x.toNat) ++ List.replicate m b).toArray⟩
  | 0, i, acc, hi, ha => by
    refine Ev.step (f := fun _ => some _) (fun k => ?_) (Ev.now _)
    simp only [masterdiscref01_Repeat.l0]
    rw [if_neg (by omega)]
    congr 1
    simp [strOfNums]
  | m + 1, i, acc, hi, ha => by
    have ih := repeat_loop b n hn m (i + 1) (acc ++ [(b.toNat : Int)]) (by omega) (by simp [ha])
    refine Ev.step (fun k => ?_) (f := fun k => masterdiscref01_Repeat.l0 k (b.toNat : Int) (n : Int) (acc ++ [(b.toNat : Int)]) ((i + 1 : Nat) : Int)) ?_
    · simp only [masterdiscref01_Repeat.l0]
      rw [if_pos (by omega), if_pos (by omega), w64 (by omega) (by omega)]
      rfl
    · have e : ((acc.map fun x => UInt8.ofNat x.toNat) ++ List.replicate (m + 1) b) = ((acc ++ [(b.toNat : Int)]).map fun x => UInt8.ofNat x.toNat) ++ List.replicate m b := by
        simp [List.replicate_succ]
      rw [e]; exact ih
theorem ref01_Repeat (b : UInt8) (n : Nat) (hn : n ≤ 100000) : Ev (fun k => masterdiscref01_Repeat.f k (b.toNat : Int) (n : Int)) ⟨(List.replicate n b).toArray⟩ := by
  have := repeat_loop b n hn n 0 [] (by omega) rfl
  rw [List.map_nil, List.nil_append] at this
  refine Ev.congr (fun k => ?_) this
  simp [masterdiscref01_Repeat.f]
end
end Go.Proofs.YtgejjnbgeiappaaDoor
