/-
  slices.Equal and slices.Compare at rows of ints; rows that a call lays itself.
-/
import Derived.Test.YteiidcoapgnoaaaDoorCs2
import Derived.Test.YteiidcoapgnoaaaDoorOrd
namespace Go.Proofs.YteiidcoapgnoaaaDoor
open Go.RowKit Go.Proofs.YteiidcoapgnoaaaDoorW.PrintWords

theorem row_none (w : World) : Row w none [] := ⟨⟨rfl, by simp, fun h => absurd h (by simp)⟩⟩
theorem row_three (w : World) (a b c : Int) (t : TypeId) : Row (w.alloc (.cells #[.int .i64 a, .int .i64 b, .int .i64 c] t)) (some ⟨w.heap.size, 0, none⟩) [a, b, c] := by
  refine ⟨⟨rfl, by simp, fun _ => ⟨_, rfl, fun j hj => ?_⟩⟩⟩
  match j, hj with
  | 0, _ => simp [Addr.add]
  | 1, _ => simp [Addr.add]
  | 2, _ => simp [Addr.add]
theorem take_one {xs ys : List Int} {k : Nat} (h : xs.take k = ys.take k) (h1 : k < xs.length) (h2 : k < ys.length) (he : xs.getD k 0 = ys.getD k 0) : xs.take (k + 1) = ys.take (k + 1) := by
  rw [List.getD_eq_getElem?_getD, List.getD_eq_getElem?_getD, List.getElem?_eq_getElem h1, List.getElem?_eq_getElem h2] at he
  rw [List.take_succ_eq_append_getElem h1, List.take_succ_eq_append_getElem h2, h]
  have : xs[k] = ys[k] := he
  rw [this]
theorem beq_no {xs ys : List Int} {k : Nat} (h : xs.getD k 0 ≠ ys.getD k 0) : (xs == ys) = false := by
  rw [beq_eq_false_iff_ne]
  rintro rfl
  exact h rfl
set_option maxHeartbeats 1600000 in
set_option maxRecDepth 100000 in
theorem eq_rows (A B : Option Addr) (c d : Nat) (xs ys : List Int) (w : World) (hx : Row w A xs) (hy : Row w B ys) (hl1 : xs.length ≤ 100000) (hl2 : ys.length ≤ 100000) :
    Calls Tryd.prog 16 #[.slice A xs.length c, .slice B ys.length d] w fun e w' => e = .returned (.bool (xs == ys)) ∧ Below w.heap.size w w' := by
  by_cases hnm : xs.length = ys.length
  · have hst : Hid (xs.take 0 = ys.take 0) := Lib.hid rfl
    have Hnm := Lib.hid hnm
    rw [← hnm]
    clear hnm hl2
    go_enter Tryd.func16, Tryd.ntmps16
    go_wp2_with fail
    go_loopw [13] (fun x wr => ∃ k : Nat, k ≤ xs.length ∧ x = .int .i64 (k : Int) ∧ Hid (xs.take k = ys.take k) ∧ Below w.heap.size w wr) (fun x _ => xs.length - (intOf x).toNat)
    case atStart => exact ⟨0, Nat.zero_le _, rfl, hst, Below.refl _ _⟩
    case round =>
      obtain ⟨k, hk, rfl, ht, hb⟩ := hrel
      clear hst
      by_cases hlt : k < xs.length
      · obtain ⟨a1, rfl, hc1⟩ := (hx.below hb).at_ hlt
        obtain ⟨a2, rfl, hc2⟩ := (hy.below hb).at_ (k := k) (by rw [← Hnm.out]; exact hlt)
        have Hnx := hide (fun he => take_one ht.out hlt (by rw [← Hnm.out]; exact hlt) he)
        have Hno := hide (beq_no (xs := xs) (ys := ys) (k := k))
        generalize xs.getD k 0 = x at *
        generalize ys.getD k 0 = y at *
        by_cases hxy : x = y
        · have Hn := Lib.hid (unhide Hnx hxy)
          subst hxy
          go_wp2_with fail
          go_region
          go_wp2
          go_roundw
          case rel => exact ⟨k + 1, by omega, by go_num, Hn, hb.drew⟩
          case measure => simp [intOf]; omega
        · have Hn := Lib.hid (unhide Hno hxy)
          go_wp2_with fail
          go_region
          go_wp2
          go_ret
          exact ⟨ret_bool Hn.out.symm, hb.drew⟩
      · obtain rfl : k = xs.length := by omega
        have Hn := Lib.hid (show (xs == ys) = true by
          have := ht.out
          rw [List.take_length, Hnm.out, List.take_length] at this
          rw [beq_iff_eq]; exact this)
        clear ht
        go_wp2
        go_ret
        exact ⟨ret_bool Hn.out.symm, hb⟩
  · have hne : (xs == ys) = false := by
      rw [beq_eq_false_iff_ne]
      rintro rfl
      exact hnm rfl
    rw [hne]
    exact (Tryd.slices_Equal_int_lens A B xs.length c ys.length d w hnm).mono fun e w' h => ⟨h.1, by rw [h.2]; exact Below.refl _ _⟩

theorem nat_at {cs : List Nat} {k : Nat} (h : k < cs.length) : (nat2int cs).getD k 0 = ((cs[k] : Nat) : Int) := by
  rw [List.getD_eq_getElem?_getD]
  simp [nat2int, h]
theorem cmp_drop {cs ds : List Nat} {k : Nat} (h1 : k < cs.length) (h2 : k < ds.length) : Ch.cmpN (cs.drop k) (ds.drop k) = if cs[k] < ds[k] then -1 else if ds[k] < cs[k] then 1 else Ch.cmpN (cs.drop (k + 1)) (ds.drop (k + 1)) := by
  rw [List.drop_eq_getElem_cons h1, List.drop_eq_getElem_cons h2]
  rfl
set_option maxHeartbeats 1600000 in
set_option maxRecDepth 100000 in
theorem cmp_rows (A B : Option Addr) (c d : Nat) (cs ds : List Nat) (w : World) (hx : Row w A (nat2int cs)) (hy : Row w B (nat2int ds)) (hl1 : cs.length ≤ 100000) :
    Calls Tryd.prog 39 #[.slice A cs.length c, .slice B ds.length d] w fun e w' => e = .returned (.int .i64 (Ch.cmpN cs ds)) ∧ Below w.heap.size w w' := by
  have hst : Hid (Ch.cmpN cs ds = Ch.cmpN (cs.drop 0) (ds.drop 0)) := Lib.hid rfl
  go_enter Tryd.func39, Tryd.ntmps39
  go_wp2_with fail
  go_loopw [11] (fun x wr => ∃ k : Nat, k ≤ cs.length ∧ k ≤ ds.length ∧ x = .int .i64 (k : Int) ∧ Hid (Ch.cmpN cs ds = Ch.cmpN (cs.drop k) (ds.drop k)) ∧ Below w.heap.size w wr) (fun x _ => cs.length - (intOf x).toNat)
  case atStart => exact ⟨0, Nat.zero_le _, Nat.zero_le _, rfl, hst, Below.refl _ _⟩
  case round =>
    obtain ⟨k, hk, hk2, rfl, ht, hb⟩ := hrel
    clear hst
    by_cases hlt : k < cs.length
    · obtain ⟨a1, rfl, hc1⟩ := (hx.below hb).at_ (k := k) (by rw [nat2int_length]; exact hlt)
      rw [nat_at hlt] at hc1
      by_cases hlt2 : k < ds.length
      · obtain ⟨a2, rfl, hc2⟩ := (hy.below hb).at_ (k := k) (by rw [nat2int_length]; exact hlt2)
        rw [nat_at hlt2] at hc2
        have Hnx := Lib.hid (ht.out.trans (cmp_drop hlt hlt2))
        generalize cs[k] = x at *
        generalize ds[k] = y at *
        have kC := Tryd.cmp_Compare_int (x : Int) (y : Int)
        clear ht
        by_cases h1 : x < y
        · have Hn := Lib.hid (show Ch.cmpN cs ds = -1 by rw [Hnx.out, if_pos h1])
          rw [show Lib.compareInt (x : Int) (y : Int) = -1 by unfold Lib.compareInt; rw [if_pos (by omega)]] at kC
          have KC := hide kC
          clear kC Hnx
          go_wp2_with (go_at_call 62; refine (unhide KC _).mono ?_; rintro e w3 ⟨rfl, rfl⟩)
          go_ret
          exact ⟨ret_int Hn.out.symm, hb⟩
        · by_cases h2 : y < x
          · have Hn := Lib.hid (show Ch.cmpN cs ds = 1 by rw [Hnx.out, if_neg h1, if_pos h2])
            rw [show Lib.compareInt (x : Int) (y : Int) = 1 by unfold Lib.compareInt; rw [if_neg (by omega), if_pos (by omega)]] at kC
            have KC := hide kC
            clear kC Hnx
            go_wp2_with (go_at_call 62; refine (unhide KC _).mono ?_; rintro e w3 ⟨rfl, rfl⟩)
            go_ret
            exact ⟨ret_int Hn.out.symm, hb⟩
          · have Hn := Lib.hid (show Ch.cmpN cs ds = Ch.cmpN (cs.drop (k + 1)) (ds.drop (k + 1)) by rw [Hnx.out, if_neg h1, if_neg h2])
            rw [show Lib.compareInt (x : Int) (y : Int) = 0 by unfold Lib.compareInt; rw [if_neg (by omega), if_neg (by omega)]] at kC
            have KC := hide kC
            clear kC Hnx
            go_wp2_with (go_at_call 62; refine (unhide KC _).mono ?_; rintro e w3 ⟨rfl, rfl⟩)
            go_roundw
            case rel => exact ⟨k + 1, by omega, by omega, by go_num, Hn, hb⟩
            case measure => simp [intOf]; omega
      · obtain rfl : k = ds.length := by omega
        have Hn := Lib.hid (show Ch.cmpN cs ds = 1 by
          rw [ht.out, List.drop_length, List.drop_eq_getElem_cons hlt]; rfl)
        clear ht
        go_wp2
        go_ret
        exact ⟨ret_int Hn.out.symm, hb⟩
    · obtain rfl : k = cs.length := by omega
      by_cases hlt2 : cs.length < ds.length
      · have Hn := Lib.hid (show Ch.cmpN cs ds = -1 by
          rw [ht.out, List.drop_length, List.drop_eq_getElem_cons hlt2]; rfl)
        clear ht
        go_wp2
        go_ret
        exact ⟨ret_int Hn.out.symm, hb⟩
      · have Hn := Lib.hid (show Ch.cmpN cs ds = 0 by
          rw [ht.out, List.drop_length, List.drop_of_length_le (by omega)]; rfl)
        clear ht
        go_wp2
        go_ret
        exact ⟨ret_int Hn.out.symm, hb⟩
end Go.Proofs.YteiidcoapgnoaaaDoor
