/-
  charset.WideTrim: what is read of a field in UCS-2.
-/
import Derived.Test.YteiidcoapgnoaaaDoorFrmW
import Derived.Test.YteiidcoapgnoaaaDoorRefWide
namespace Go.Proofs.YteiidcoapgnoaaaDoor
open Go.RowKit Go.Proofs.YteiidcoapgnoaaaDoorW.PrintWords

theorem suf_take {l : List UInt8} {j : Nat} (h : j ≤ l.length) (h2 : 2 ≤ j) : Lib.hasSuffix (l.take j) [0, 32] = true ↔ (l.getD (j - 2) 0 = 0 ∧ l.getD (j - 1) 0 = 32) := by
  rw [← Lib.hasSuffix_of_drop, List.length_take, Nat.min_eq_left h]
  have e : (l.take j).drop (j - [(0 : UInt8), 32].length) = (l.drop (j - 2)).take 2 := by
    show (l.take j).drop (j - 2) = _
    rw [List.drop_take, show j - (j - 2) = 2 from by omega]
  rw [e]
  have := two_get l (j - 2) (by omega)
  rw [show j - 2 + 1 = j - 1 from by omega] at this
  rw [← this]
  simp
  omega
/-- What stands in the loop: a part of the string at whose end the trimming still goes on. -/
def WtI (s t : ByteArray) : Prop := ∃ j, j ≤ s.data.toList.length ∧ t.data.toList = s.data.toList.take j ∧ wtQ s.data.toList j = Ch.wtM s.data.toList ∧ s.data.toList.length ≤ 65536
theorem WtI.len {s t : ByteArray} {j : Nat} (hj : j ≤ s.data.toList.length) (h : t.data.toList = s.data.toList.take j) : t.size = j := by
  rw [Lib.size_eq, h, List.length_take, Nat.min_eq_left hj]
theorem WtI.size {s t : ByteArray} (h : WtI s t) : t.size ≤ 65536 := by
  obtain ⟨j, hj, ht, _, hl⟩ := h
  rw [WtI.len hj ht]; omega
theorem WtI.done_odd {s t : ByteArray} (h : WtI s t) (ho : t.size % 2 = 1) : wtrS s = frmS t ∧ wtrE s = frmE t := by
  obtain ⟨j, hj, ht, hq, hl⟩ := h
  rw [WtI.len hj ht] at ho
  have hq2 : wtQ s.data.toList j = j := by unfold wtQ; rw [if_neg (by omega)]
  rw [hq2] at hq
  have e : wtrT s = t := by
    unfold wtrT Ch.wtL
    rw [← hq, ← ht]
  have hs : ¬ 65536 < s.size := by rw [Lib.size_eq]; omega
  unfold wtrS wtrE
  rw [if_neg hs, if_neg hs, e]
  exact ⟨rfl, rfl⟩
theorem WtI.done_even {s t : ByteArray} (h : WtI s t) (ho : t.size % 2 = 0) (hx : Lib.hasSuffix t.data.toList [0, 32] = false) : wtrS s = frmS t ∧ wtrE s = frmE t := by
  obtain ⟨j, hj, ht, hq, hl⟩ := h
  rw [WtI.len hj ht] at ho
  have hq2 : wtQ s.data.toList j = j := by
    unfold wtQ; rw [if_pos ho]
    match j, hj, ht, ho with
    | 0, _, _, _ => rfl
    | 1, _, _, ho => omega
    | j + 2, hj, ht, ho =>
      unfold Ch.wtN
      rw [if_neg]
      intro hh
      have := (suf_take hj (by omega)).2 hh
      rw [← ht, hx] at this
      cases this
  rw [hq2] at hq
  have e : wtrT s = t := by
    unfold wtrT Ch.wtL
    rw [← hq, ← ht]
  have hs : ¬ 65536 < s.size := by rw [Lib.size_eq]; omega
  unfold wtrS wtrE
  rw [if_neg hs, if_neg hs, e]
  exact ⟨rfl, rfl⟩
theorem WtI.next {s t : ByteArray} (h : WtI s t) (ho : t.size % 2 = 0) (hx : Lib.hasSuffix t.data.toList [0, 32] = true) : 2 ≤ t.size ∧ WtI s (t.extract 0 (t.size - 2)) := by
  obtain ⟨j, hj, ht, hq, hl⟩ := h
  have hz := WtI.len hj ht
  rw [hz] at ho ⊢
  have h2 : 2 ≤ j := by
    rw [← Lib.hasSuffix_of_drop, ht, List.length_take, Nat.min_eq_left hj] at hx
    simp at hx
    exact hx.1
  refine ⟨h2, j - 2, by omega, ?_, ?_, hl⟩
  · rw [Lib.extract_data, List.drop_zero, Nat.sub_zero, ht, List.take_take, Nat.min_eq_left (by omega)]
  · rw [ht] at hx
    have hh := (suf_take hj h2).1 hx
    obtain ⟨i, rfl⟩ : ∃ i, j = i + 2 := ⟨j - 2, by omega⟩
    rw [Nat.add_sub_cancel, show i + 2 - 1 = i + 1 from rfl] at hh
    rw [← hq]
    unfold wtQ
    rw [if_pos (by omega), if_pos ho, Nat.add_sub_cancel]
    conv => rhs; unfold Ch.wtN
    rw [if_pos hh]
theorem WtI.start {s t : ByteArray} (hs : s.size ≤ 65536) (ht : t.data.toList = s.data.toList.take (Ch.wt0 s.data.toList)) : WtI s t :=
  ⟨Ch.wt0 s.data.toList, Ch.wt0_le _, ht, rfl, by rw [← Lib.size_eq]; exact hs⟩

set_option maxHeartbeats 1600000 in
set_option maxRecDepth 100000 in
theorem udf_WideTrim (s : ByteArray) (w : World) :
    Calls Tryd.prog 33 #[.string s] w fun e w' => e = .returned (.tuple #[.string (wtrS s), .int .i64 (wtrE s)]) ∧ Below w.heap.size w w' := by
  by_cases h1 : 65536 < s.size
  · have r1 : wtrS s = ⟨#[]⟩ := by unfold wtrS; rw [if_pos h1]
    have r2 : wtrE s = 7 := by unfold wtrE; rw [if_pos h1]
    rw [r1, r2]
    clear r1 r2
    go_enter Tryd.func33, Tryd.ntmps33
    go_wp2
    go_ret2
    exact ⟨rfl, Below.refl _ _⟩
  · have hs : s.size ≤ 65536 := by omega
    have hsz := Lib.size_eq s
    by_cases h2 : s.size % 2 = 1
    · have q0 : (((s.size : Int) % 2) != 0) = true := by rw [bne_iff_ne]; omega
      have p0 : 0 < s.size := by omega
      have z1 : (0 : Int) ≤ (s.size : Int) - 1 := by omega
      have z2 : (s.size : Int) - 1 < (s.size : Int) := by omega
      have z3 : ((s.size : Int) - 1).toNat = s.size - 1 := by omega
      have z4 : s.size - 1 < s.size := by omega
      have hlast : s[s.size - 1] = s.data.toList.getD (s.data.toList.length - 1) 0 := by
        rw [List.getD_eq_getElem?_getD, ← hsz, List.getElem?_eq_getElem (by rw [← hsz]; exact z4)]
        rfl
      by_cases h3 : s.data.toList.getD (s.data.toList.length - 1) 0 = 0
      · have hst : WtI s (s.extract 0 (s.size - 1)) := WtI.start hs (by
          rw [Lib.extract_data, List.drop_zero, Nat.sub_zero]
          congr 1
          unfold Ch.wt0
          rw [if_pos ⟨by omega, h3⟩, hsz])
        have va : ((s[s.size - 1]'z4).toNat : Int) = 0 := by rw [hlast, h3]; rfl
        have Hsz := Lib.hid hsz
        clear hsz h3 hlast h2
        go_enter Tryd.func33, Tryd.ntmps33
        go_wp2_with fail
        go_loopw [0] (fun x wr => ∃ t : ByteArray, x = .string t ∧ wr = w ∧ WtI s t) (fun x _ => match x with | .string t => t.size | _ => 0)
        case atStart => exact ⟨_, rfl, rfl, hst⟩
        case round =>
          obtain ⟨t, rfl, rfl, hI⟩ := hrel
          clear hst
          have htz := hI.size
          have hHS := Tryd.strings_HasSuffix t ⟨#[0, 32]⟩ wr (by omega)
          rw [show (⟨#[0, 32]⟩ : ByteArray).data.toList = [0, 32] from rfl] at hHS
          have kHS := hide hHS
          by_cases hj : t.size % 2 = 0
          · have q1 : ((t.size : Int) % 2 == 0) = true := by rw [beq_iff_eq]; omega
            cases hx : Lib.hasSuffix t.data.toList [0, 32] with
            | true =>
              obtain ⟨h2, hn⟩ := hI.next hj hx
              have z1 : (2 : Int) ≤ (t.size : Int) := by omega
              have z2 : (0 : Int) ≤ (t.size : Int) - 2 := by omega
              have z3 : (t.size : Int) - 2 ≤ (t.size : Int) := by omega
              have z4 : ((t.size : Int) - 2).toNat = t.size - 2 := by omega
              rw [hx] at kHS
              have HI := Lib.hid hI
              have Hn := Lib.hid hn
              have Hj := Lib.hid hj
              clear hI hn hj hx hHS
              go_wp2_with (go_at_call 55; refine (unhide kHS).mono ?_; rintro e w3 ⟨rfl, rfl⟩)
              go_roundw
              case rel => exact ⟨_, rfl, by first | rfl | trivial, Hn.out⟩
              case measure => simp [ByteArray.size_extract]; omega
            | false =>
              have hd := hI.done_even hj hx
              rw [hx] at kHS
              have kF := hide (fun w => udf_FromUcs2 t w)
              have Hd := Lib.hid hd
              have Hj := Lib.hid hj
              clear hI hd hj hx hHS
              go_wp2_with (first | (go_at_call 55; refine (unhide kHS).mono ?_; rintro e w3 ⟨rfl, rfl⟩) | (go_at_call 29; refine (unhide kF _).mono ?_; rintro e w4 ⟨rfl, hb4⟩))
              go_ret2
              rw [Hd.out.1, Hd.out.2]
              exact ⟨rfl, hb4⟩
          · have hd := hI.done_odd (by omega)
            have q1 : ((t.size : Int) % 2 == 0) = false := by rw [beq_eq_false_iff_ne]; omega
            have kF := hide (fun w => udf_FromUcs2 t w)
            have Hd := Lib.hid hd
            have Hj := Lib.hid hj
            clear hI hd hj hHS
            go_wp2_with (first | (go_at_call 55; refine (unhide kHS).mono ?_; rintro e w3 ⟨rfl, rfl⟩) | (go_at_call 29; refine (unhide kF _).mono ?_; rintro e w4 ⟨rfl, hb4⟩))
            go_ret2
            rw [Hd.out.1, Hd.out.2]
            exact ⟨rfl, hb4⟩
      · have hst : WtI s s := WtI.start hs (by
          unfold Ch.wt0
          rw [if_neg (fun h => h3 h.2), List.take_length])
        obtain ⟨y, hy⟩ : ∃ y : Int, y = ((s[s.size - 1]'z4).toNat : Int) := ⟨_, rfl⟩
        have va := hy.symm
        have hy0 : (y == 0) = false := by
          rw [beq_eq_false_iff_ne, hy, hlast]
          intro e
          exact h3 (UInt8.toNat_inj.1 (by show _ = 0; omega))
        have Hsz := Lib.hid hsz
        clear hsz h3 hlast h2 hy
        go_enter Tryd.func33, Tryd.ntmps33
        go_wp2_with fail
        go_loopw [0] (fun x wr => ∃ t : ByteArray, x = .string t ∧ wr = w ∧ WtI s t) (fun x _ => match x with | .string t => t.size | _ => 0)
        case atStart => exact ⟨_, rfl, rfl, hst⟩
        case round =>
          obtain ⟨t, rfl, rfl, hI⟩ := hrel
          clear hst
          have htz := hI.size
          have hHS := Tryd.strings_HasSuffix t ⟨#[0, 32]⟩ wr (by omega)
          rw [show (⟨#[0, 32]⟩ : ByteArray).data.toList = [0, 32] from rfl] at hHS
          have kHS := hide hHS
          by_cases hj : t.size % 2 = 0
          · have q1 : ((t.size : Int) % 2 == 0) = true := by rw [beq_iff_eq]; omega
            cases hx : Lib.hasSuffix t.data.toList [0, 32] with
            | true =>
              obtain ⟨h2, hn⟩ := hI.next hj hx
              have z1 : (2 : Int) ≤ (t.size : Int) := by omega
              have z2 : (0 : Int) ≤ (t.size : Int) - 2 := by omega
              have z3 : (t.size : Int) - 2 ≤ (t.size : Int) := by omega
              have z4 : ((t.size : Int) - 2).toNat = t.size - 2 := by omega
              rw [hx] at kHS
              have HI := Lib.hid hI
              have Hn := Lib.hid hn
              have Hj := Lib.hid hj
              clear hI hn hj hx hHS
              go_wp2_with (go_at_call 55; refine (unhide kHS).mono ?_; rintro e w3 ⟨rfl, rfl⟩)
              go_roundw
              case rel => exact ⟨_, rfl, by first | rfl | trivial, Hn.out⟩
              case measure => simp [ByteArray.size_extract]; omega
            | false =>
              have hd := hI.done_even hj hx
              rw [hx] at kHS
              have kF := hide (fun w => udf_FromUcs2 t w)
              have Hd := Lib.hid hd
              have Hj := Lib.hid hj
              clear hI hd hj hx hHS
              go_wp2_with (first | (go_at_call 55; refine (unhide kHS).mono ?_; rintro e w3 ⟨rfl, rfl⟩) | (go_at_call 29; refine (unhide kF _).mono ?_; rintro e w4 ⟨rfl, hb4⟩))
              go_ret2
              rw [Hd.out.1, Hd.out.2]
              exact ⟨rfl, hb4⟩
          · have hd := hI.done_odd (by omega)
            have q1 : ((t.size : Int) % 2 == 0) = false := by rw [beq_eq_false_iff_ne]; omega
            have kF := hide (fun w => udf_FromUcs2 t w)
            have Hd := Lib.hid hd
            have Hj := Lib.hid hj
            clear hI hd hj hHS
            go_wp2_with (first | (go_at_call 55; refine (unhide kHS).mono ?_; rintro e w3 ⟨rfl, rfl⟩) | (go_at_call 29; refine (unhide kF _).mono ?_; rintro e w4 ⟨rfl, hb4⟩))
            go_ret2
            rw [Hd.out.1, Hd.out.2]
            exact ⟨rfl, hb4⟩
    · have q0 : (((s.size : Int) % 2) != 0) = false := by rw [bne_eq_false_iff_eq]; omega
      have hst : WtI s s := WtI.start hs (by
        unfold Ch.wt0
        rw [if_neg (fun h => h2 (by omega)), List.take_length])
      have Hsz := Lib.hid hsz
      clear hsz h2
      go_enter Tryd.func33, Tryd.ntmps33
      go_wp2_with fail
      go_loopw [0] (fun x wr => ∃ t : ByteArray, x = .string t ∧ wr = w ∧ WtI s t) (fun x _ => match x with | .string t => t.size | _ => 0)
      case atStart => exact ⟨_, rfl, rfl, hst⟩
      case round =>
        obtain ⟨t, rfl, rfl, hI⟩ := hrel
        clear hst
        have htz := hI.size
        have hHS := Tryd.strings_HasSuffix t ⟨#[0, 32]⟩ wr (by omega)
        rw [show (⟨#[0, 32]⟩ : ByteArray).data.toList = [0, 32] from rfl] at hHS
        have kHS := hide hHS
        by_cases hj : t.size % 2 = 0
        · have q1 : ((t.size : Int) % 2 == 0) = true := by rw [beq_iff_eq]; omega
          cases hx : Lib.hasSuffix t.data.toList [0, 32] with
          | true =>
            obtain ⟨h2, hn⟩ := hI.next hj hx
            have z1 : (2 : Int) ≤ (t.size : Int) := by omega
            have z2 : (0 : Int) ≤ (t.size : Int) - 2 := by omega
            have z3 : (t.size : Int) - 2 ≤ (t.size : Int) := by omega
            have z4 : ((t.size : Int) - 2).toNat = t.size - 2 := by omega
            rw [hx] at kHS
            have HI := Lib.hid hI
            have Hn := Lib.hid hn
            have Hj := Lib.hid hj
            clear hI hn hj hx hHS
            go_wp2_with (go_at_call 55; refine (unhide kHS).mono ?_; rintro e w3 ⟨rfl, rfl⟩)
            go_roundw
            case rel => exact ⟨_, rfl, by first | rfl | trivial, Hn.out⟩
            case measure => simp [ByteArray.size_extract]; omega
          | false =>
            have hd := hI.done_even hj hx
            rw [hx] at kHS
            have kF := hide (fun w => udf_FromUcs2 t w)
            have Hd := Lib.hid hd
            have Hj := Lib.hid hj
            clear hI hd hj hx hHS
            go_wp2_with (first | (go_at_call 55; refine (unhide kHS).mono ?_; rintro e w3 ⟨rfl, rfl⟩) | (go_at_call 29; refine (unhide kF _).mono ?_; rintro e w4 ⟨rfl, hb4⟩))
            go_ret2
            rw [Hd.out.1, Hd.out.2]
            exact ⟨rfl, hb4⟩
        · have hd := hI.done_odd (by omega)
          have q1 : ((t.size : Int) % 2 == 0) = false := by rw [beq_eq_false_iff_ne]; omega
          have kF := hide (fun w => udf_FromUcs2 t w)
          have Hd := Lib.hid hd
          have Hj := Lib.hid hj
          clear hI hd hj hHS
          go_wp2_with (first | (go_at_call 55; refine (unhide kHS).mono ?_; rintro e w3 ⟨rfl, rfl⟩) | (go_at_call 29; refine (unhide kF _).mono ?_; rintro e w4 ⟨rfl, hb4⟩))
          go_ret2
          rw [Hd.out.1, Hd.out.2]
          exact ⟨rfl, hb4⟩
end Go.Proofs.YteiidcoapgnoaaaDoor
