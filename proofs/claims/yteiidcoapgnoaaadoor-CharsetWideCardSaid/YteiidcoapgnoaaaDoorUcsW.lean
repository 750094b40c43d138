/-
  charset.Ucs2: UCS-2 of a string.
-/
import Derived.Test.YteiidcoapgnoaaaDoorWide17
import Derived.Test.YteiidcoapgnoaaaDoorChars2
import Derived.Test.YteiidcoapgnoaaaDoorWRest
import Derived.WalkSmall
namespace Go.Proofs.YteiidcoapgnoaaaDoor
open Go.RowKit Go.Proofs.YteiidcoapgnoaaaDoorW.PrintWords

/-- Bytes as numbers in a row. -/
def bys (l : List UInt8) : List Value := l.map fun b => Value.int .u8 (b.toNat : Int)
theorem bys_nums (l : List UInt8) : bys l = nums .u8 (l.map fun b => (b.toNat : Int)) := by unfold bys nums; rw [List.map_map]; rfl
theorem bys_back (l : List UInt8) : strOfNums (l.map fun b => (b.toNat : Int)) = ⟨l.toArray⟩ := by
  unfold strOfNums
  congr 2
  rw [List.map_map]
  conv => rhs; rw [← List.map_id l]
  apply List.map_congr_left
  intro b _
  show UInt8.ofNat ((b.toNat : Int)).toNat = b
  rw [Int.toNat_natCast]
  exact UInt8.ofNat_toNat

theorem bys_step (cs : List Nat) {x : Nat} (hx : x ≤ 65535) : bys (Ch.ucs cs) ++ [.int .u8 ((x : Int) / 256), .int .u8 ((x : Int) % 256)] = bys (Ch.ucs (cs ++ [x])) := by
  rw [Ch.ucs_append, Ch.ucs_one]
  unfold bys
  rw [List.map_append, List.map_cons, List.map_cons, List.map_nil, Ch.ofNat_toNat (by omega), Ch.ofNat_toNat (by omega)]
  rfl
theorem two_oneCell {k : IntKind} {n m : Int} : ∀ u ∈ [Value.int k n, .int k m], u.oneCell' = true := by
  intro u hu
  simp only [List.mem_cons, List.not_mem_nil, or_false] at hu
  rcases hu with rfl | rfl <;> rfl
theorem cs_Characters_big (s : ByteArray) (w : World) (hs : 65536 < s.size) :
    Calls Tryd.prog 12 #[.string s] w fun e w' => e = .returned (.tuple #[.slice none 0 0, .int .i64 7]) ∧ Below w.heap.size w w' := by
  go_enter Tryd.func12, Tryd.ntmps12
  go_wp2
  go_ret2
  exact ⟨rfl, Below.refl _ _⟩

set_option maxHeartbeats 1600000 in
set_option maxRecDepth 100000 in
theorem udf_Ucs2 (s : ByteArray) (w : World) (hT : Tabs w) :
    Calls Tryd.prog 27 #[.string s] w fun e w' => e = .returned (.tuple #[.string (ucsS s), .int .i64 (ucsE s)]) ∧ Below w.heap.size w w' := by
  by_cases h1 : 65536 < s.size
  · obtain ⟨r1, r2⟩ := ucs_big h1
    rw [r1, r2]
    have kB := hide (cs_Characters_big s w h1)
    clear r1 r2
    go_enter Tryd.func27, Tryd.ntmps27
    go_wp2_with (go_at_call 12; refine (unhide kB).mono ?_; rintro e w2 ⟨rfl, hb2⟩)
    go_ret2
    exact ⟨rfl, hb2⟩
  · have hs : s.size ≤ 65536 := by omega
    cases hc : Ch.chars s.data.toList with
    | none =>
      have kN := hide (cs_Characters_none s w hT hs hc)
      obtain ⟨r1, r2⟩ := ucs_none hs hc
      rw [r1, r2]
      clear hc r1 r2
      go_enter Tryd.func27, Tryd.ntmps27
      go_wp2_with (go_at_call 12; refine (unhide kN).mono ?_; rintro e w2 ⟨rfl, hb2⟩)
      go_ret2
      exact ⟨rfl, hb2⟩
    | some cs =>
      obtain ⟨i0, hi, hz0, hz1, hz2⟩ := info_parts byteInfo
      have kS := hide (cs_Characters_some s w hT hs hc)
      obtain ⟨r1, r2⟩ := ucs_some hs hc
      rw [r1, r2]
      have hl := Ch.chars_length hc
      rw [← Lib.size_eq] at hl
      have hcl : cs.length ≤ 65536 := by omega
      have hcc : ∀ c ∈ cs, c ≤ 65535 := fun c h => by
        have := Ch.isCh_iff.1 ((Ch.chars_iff.1 hc).1 c h)
        omega
      have Hcc := Lib.hid hcc
      clear hc r1 r2 hcc hl
      go_enter Tryd.func27, Tryd.ntmps27
      go_wp2_with (first | (go_at_call 12; refine (unhide kS).mono ?_; rintro e w2 ⟨A, c, rfl, hr, hcap, -, hb2⟩) | (at_make; refine wpList_make_own _ rfl _ _ 47 rfl w2.heap.size 5 i0 _ 1 Tryd.underlying47 hi hz0 hz1 _ _ _ (2 * cs.length) rfl rfl (by omega) (by rw [hz2]; omega) (by unfold maxLen; omega) (Nat.le_refl _) ?_; intro w3 hown3 hgrow3))
      have hb3 : Below w2.heap.size w2 w3 := (Below.refl _ _).grown hgrow3 (Nat.le_refl _) (fun k hk => by cases hk)
      obtain ⟨v3, hv3⟩ : ∃ v3 : Value, v3 = .slice (some ⟨w2.heap.size, 0, none⟩) 0 (2 * cs.length) := ⟨_, rfl⟩
      rw [← hv3] at hown3 ⊢
      clear hv3 hgrow3
      have hst : w3.ownsRow w2.heap.size 5 1 v3 (2 * 0) (bys (Ch.ucs (cs.take 0))) ∧ Below w2.heap.size w2 w3 := ⟨hown3, hb3⟩
      clear hown3 hb3
      go_loopw [23, 6] (fun x v wr => ∃ k : Nat, k ≤ cs.length ∧ x = .int .i64 (k : Int) ∧ wr.ownsRow w2.heap.size 5 1 v (2 * k) (bys (Ch.ucs (cs.take k))) ∧ Below w2.heap.size w2 wr) (fun x _ _ => cs.length - (intOf x).toNat)
      case atStart => exact ⟨0, Nat.zero_le _, rfl, hst⟩
      case round =>
        obtain ⟨k, hk, rfl, hown, hbel⟩ := hrel
        clear hst
        by_cases hlt : k < cs.length
        · obtain ⟨ad, rfl, hcell⟩ := (hr.below hbel).at_ (k := k) (by rw [nat2int_length]; exact hlt)
          obtain ⟨x, hx⟩ : ∃ x, x = cs[k] := ⟨_, rfl⟩
          have hg : (nat2int cs).getD k 0 = (x : Int) := by
            rw [hx, List.getD_eq_getElem?_getD]
            simp [nat2int, hlt]
          rw [hg] at hcell
          have htk : cs.take (k + 1) = cs.take k ++ [x] := by rw [hx, List.take_succ_eq_append_getElem hlt]
          have hxl : x ≤ 65535 := by rw [hx]; exact Hcc.out _ (List.getElem_mem _)
          have Htk := Lib.hid htk
          clear htk hg hx
          go_wp2_with (at_builtin; refine wpList_append_own _ rfl (.tmp 27) (.tmp 33) 47 rfl w2.heap.size 5 i0 (.int .u8 0) 1 1 Tryd.underlying47 hi hz0 hz1 hz2 rfl (by decide) _ _ _ rfl (hown.alloc _) ⟨wr.heap.size, 0, none⟩ 2 2 [.int .u8 ((x : Int) / 256), .int .u8 ((x : Int) % 256)] rfl rfl (cell_two_new _ _ _ _) two_oneCell (by unfold maxLen; omega) (by omega) (by have := hbel.size; simp; omega) ?_; intro v' w4 hown' hgrow' _)
          have hB4 : Below w2.heap.size w2 w4 := (hbel.alloc hbel.size _).grown hgrow' (by have := hbel.size; simp; omega) (fun y hy => (hown.lt y hy).1)
          rw [bys_step _ hxl, ← Htk.out] at hown'
          go_roundw
          case rel => exact ⟨k + 1, by omega, by go_num, hown', hB4⟩
          case measure => simp [intOf]; omega
        · obtain rfl : k = cs.length := by omega
          rw [List.take_length] at hown
          rw [bys_nums] at hown
          have hrun := own_string (P := Tryd.prog) (src := 47) (dst := 9) (e := 5) Tryd.underlying47 Tryd.underlying5 Tryd.underlying9 hown
          rw [bys_back] at hrun
          clear hown
          go_wp2
          go_ret2
          exact ⟨rfl, hb2.trans (hbel.mono hb2.size)⟩
end Go.Proofs.YteiidcoapgnoaaaDoor
