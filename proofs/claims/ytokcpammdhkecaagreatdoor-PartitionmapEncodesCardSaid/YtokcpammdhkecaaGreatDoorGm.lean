/-
  Texts of this claim, joined in one file: each begins with its own sentence.
-/
import Derived.Test.YtokcpammdhkecaaGreatDoorGn
/-
  The reference's Bytes, Repeat and Pad.
-/
namespace Go.Proofs.YtokcpammdhkecaaGreatDoor
open Go.RowKit

def bytV (l : List UInt8) : List Value := l.map fun b => .int .u8 (b.toNat : Int)
/-- A row of bytes of the call's own. -/
structure BRow (w wr : World) (v : Value) (l : List UInt8) : Prop where
  low : Below w.heap.size w wr
  own : wr.ownsRow w.heap.size 5 1 v l.length (bytV l)
  form : ∃ g cap, v = .slice (some ⟨g, 0, none⟩) l.length cap
theorem brow_start (w : World) : BRow w (w.alloc (.cells #[] 5)) (.slice (some ⟨w.heap.size, 0, none⟩) 0 0) [] :=
  ⟨(Below.refl _ _).alloc (Nat.le_refl _) _, ⟨rfl, .inr ⟨w.heap.size, 0, #[], rfl, Nat.le_refl _, heap_new w _, Nat.le_refl _, Nat.zero_le _, rfl, rfl⟩⟩, _, _, rfl⟩
theorem BRow.next {w wr w1 w2 : World} {v v2 : Value} {l : List UInt8} {b : UInt8} {x : Int} (h : BRow w wr v l) (hb1 : Below wr.heap.size wr w1) (hg : w1.grownBy w2 v.ownBlock) (hx : x = (b.toNat : Int))
    (hown : w2.ownsRow w.heap.size 5 1 v2 (l.length + 1) (bytV l ++ [.int .u8 x])) : BRow w w2 v2 (l ++ [b]) := by
  have L1 := h.low.trans (hb1.mono h.low.size)
  subst hx
  have e : bytV (l ++ [b]) = bytV l ++ [.int .u8 (b.toNat : Int)] := by simp [bytV]
  obtain ⟨g, cap, hv, _⟩ := hown.form (by omega)
  refine ⟨L1.grown hg L1.size (fun k hk => (h.own.lt k hk).1), ?_, g, cap, ?_⟩
  · rw [List.length_append, e]; exact hown
  · rw [List.length_append]; exact hv
theorem BRow.conv {w wr : World} {v : Value} {l : List UInt8} (h : BRow w wr v l) : (convert 113 9 v).run Tryz.prog wr = .ok (.string ⟨l.toArray⟩) wr := by
  have ho := h.own
  obtain ⟨g, cap, rfl⟩ := h.form
  refine run_convert_bytes_back (P := Tryz.prog) (w := wr) 113 9 5 ⟨g, 0, none⟩ cap l Tryz.underlying113 Tryz.underlying5 Tryz.underlying9 (fun j hj => ?_)
  refine ho.cells (g := g) rfl j _ ?_
  unfold bytV
  rw [List.getElem?_map, List.getElem?_eq_getElem hj]
  rfl
set_option maxHeartbeats 3200000 in
set_option maxRecDepth 100000 in
theorem rf_Repeat (n : Nat) (hn : n ≤ 1000) (w : World) : Calls Tryz.prog 91 #[.int .u8 0, .int .i64 (n : Int)] w fun e w' => e = .returned (.string (zS n)) ∧ Below w.heap.size w w' := by
  obtain ⟨i0, hi, hz0, hz1, hz2⟩ := info_parts byteInfo
  have Hst := Lib.hid (brow_start w)
  go_enter Tryz.func91, Tryz.ntmps91
  go_wp2_with fail
  go_loopw [5, 6] (fun o x wr => ∃ i : Nat, i ≤ n ∧ x = .int .i64 (i : Int) ∧ Hid (BRow w wr o (List.replicate i 0))) (fun _ x _ => n - (intOf x).toNat)
  case atStart => exact ⟨0, Nat.zero_le _, rfl, Hst⟩
  case round =>
    obtain ⟨i, hin, rfl, hB⟩ := hrel
    clear Hst
    by_cases hlt : i < n
    · have hown := hB.out.own
      rw [List.length_replicate] at hown
      have hlo := hB.out.low.size
      go_wp2_with (at_builtin; refine wpList_append_any _ rfl (.tmp 13) (.tmp 15) 113 rfl w.heap.size 5 i0 (.int .u8 0) 1 1 Tryz.underlying113 hi hz0 hz1 hz2 rfl (by decide) u5 i _ rfl (hown.alloc _) _ _ 1 1 [.int .u8 0] rfl (reads_one _ _ _ _ rfl) (list_map_int _ _) (by unfold maxLen; omega) (by omega) (by simp; omega) ?_; intro v2 w2 hown2 hgrow2 _)
      go_roundw
      case rel =>
        refine ⟨i + 1, by omega, by go_num, Lib.hid ?_⟩
        rw [List.replicate_succ']
        exact hB.out.next (b := 0) ((Below.refl _ _).alloc (Nat.le_refl _) _) hgrow2 rfl (by rw [List.length_replicate]; exact hown2)
      case measure => simp [intOf]; omega
    · obtain rfl : i = n := by omega
      have hcv := hB.out.conv
      have hL := Lib.hid hB.out.low
      go_wp2_with fail
      go_ret
      exact ⟨rfl, hL.out⟩
theorem leL_take (m k i : Nat) (h : i < k) : (leL m k).take (i + 1) = (leL m k).take i ++ [UInt8.ofNat (m / 256 ^ i % 256)] := by
  have hl : i < (leL m k).length := by rw [leL_length]; exact h
  have := leL_at k m i h
  rw [List.getD_eq_getElem?_getD, List.getElem?_eq_getElem hl] at this
  rw [List.take_succ_eq_append_getElem hl]
  congr 1
  exact congrArg (fun x => [x]) this
set_option maxHeartbeats 3200000 in
set_option maxRecDepth 100000 in
theorem rf_Bytes (m k : Nat) (hm : m ≤ 4611686018427387904) (hk : k ≤ 8) (w : World) : Calls Tryz.prog 60 #[.int .i64 (m : Int), .int .i64 (k : Int)] w fun e w' => e = .returned (.string (leS m k)) ∧ Below w.heap.size w w' := by
  obtain ⟨i0, hi, hz0, hz1, hz2⟩ := info_parts byteInfo
  have Hst := Lib.hid (brow_start w)
  go_enter Tryz.func60, Tryz.ntmps60
  go_wp2_with fail
  go_loopw [0, 5, 6] (fun z o x wr => ∃ i y : Nat, i ≤ k ∧ x = .int .i64 (i : Int) ∧ z = .int .i64 (y : Int) ∧ y ≤ 4611686018427387904 ∧ Hid (y = m / 256 ^ i) ∧ Hid (BRow w wr o ((leL m k).take i))) (fun _ _ x _ => k - (intOf x).toNat)
  case atStart => exact ⟨0, m, Nat.zero_le _, rfl, rfl, hm, Lib.hid (by simp), Hst⟩
  case round =>
    obtain ⟨i, y, hik, rfl, rfl, hy, hye, hB⟩ := hrel
    clear Hst
    by_cases hlt : i < k
    · have hown := hB.out.own
      have hll : ((leL m k).take i).length = i := by rw [List.length_take, leL_length]; omega
      rw [hll] at hown
      have hlo := hB.out.low.size
      have hN := Lib.hid (leL_take m k i hlt)
      have Hll := Lib.hid hll
      have hB2 : Hid (((y % 256 : Nat) : Int) = ((UInt8.ofNat (m / 256 ^ i % 256)).toNat : Int)) := Lib.hid (by
        rw [← hye.out]
        simp [UInt8.toNat_ofNat'])
      have hY2 : Hid (y / 256 = m / 256 ^ (i + 1)) := Lib.hid (by rw [hye.out, Nat.div_div_eq_div_mul, Nat.pow_succ])
      have t1 : Int.tmod (y : Int) 256 = ((y % 256 : Nat) : Int) := by rw [Int.tmod_eq_emod_of_nonneg (by omega)]; omega
      have t2 : (y : Int) % 256 = ((y % 256 : Nat) : Int) := by omega
      have t3 : Int.tdiv (y : Int) 256 = ((y / 256 : Nat) : Int) := by rw [Int.tdiv_eq_ediv_of_nonneg (by omega)]; omega
      have t4 : (y : Int) / 256 = ((y / 256 : Nat) : Int) := by omega
      have t5 : IntKind.u8.wrap ((y % 256 : Nat) : Int) = ((y % 256 : Nat) : Int) := by rw [IntKind.wrap_u8]; omega
      have t6 : IntKind.i64.wrap ((y / 256 : Nat) : Int) = ((y / 256 : Nat) : Int) := IntWalk.i64_in _ (by omega)
      have hyd : y / 256 ≤ 4611686018427387904 := by omega
      clear hll
      generalize y % 256 = r at *
      generalize y / 256 = q at *
      go_wp2_with (at_builtin; refine wpList_append_any _ rfl (.tmp 13) (.tmp 17) 113 rfl w.heap.size 5 i0 (.int .u8 0) 1 1 Tryz.underlying113 hi hz0 hz1 hz2 rfl (by decide) u5 i _ rfl (hown.alloc _) _ _ 1 1 [.int .u8 (r : Int)] rfl (reads_one _ _ _ _ rfl) (list_map_int _ _) (by unfold maxLen; omega) (by omega) (by simp; omega) ?_; intro v2 w2 hown2 hgrow2 _)
      go_roundw
      case rel =>
        refine ⟨i + 1, q, by omega, by go_num, rfl, hyd, hY2, Lib.hid ?_⟩
        rw [hN.out]
        exact hB.out.next ((Below.refl _ _).alloc (Nat.le_refl _) _) hgrow2 hB2.out (by rw [Hll.out]; exact hown2)
      case measure => simp [intOf]; omega
    · obtain rfl : i = k := by omega
      have hcv := hB.out.conv
      have hE : Hid ((⟨((leL m i).take i).toArray⟩ : ByteArray) = leS m i) := Lib.hid (by unfold leS; rw [List.take_of_length_le (by rw [leL_length]; exact Nat.le_refl _)])
      rw [hE.out] at hcv
      have hL := Lib.hid hB.out.low
      go_wp2_with fail
      go_ret
      exact ⟨rfl, hL.out⟩
set_option maxHeartbeats 1600000 in
set_option maxRecDepth 100000 in
theorem rf_Pad (s : ByteArray) (n : Nat) (hs : s.size ≤ n) (hn : n ≤ 1000) (w : World) : Calls Tryz.prog 63 #[.string s, .int .i64 (n : Int)] w fun e w' => e = .returned (.string (s ++ zS (n - s.size))) ∧ Below w.heap.size w w' := by
  have kR := rf_Repeat (n - s.size) (by omega) w
  have hz : (zS (n - s.size)).size = n - s.size := zS_size _
  rw [show ((n - s.size : Nat) : Int) = (n : Int) - (s.size : Int) from by omega] at kR
  generalize zS (n - s.size) = z at *
  have kR := hide kR
  have hz2 : z.size ≤ 1000 := by omega
  have hs2 : s.size ≤ 1000 := by omega
  have hw : IntKind.i64.wrap ((n : Int) - (s.size : Int)) = (n : Int) - (s.size : Int) := IntWalk.i64_in _ (by omega)
  clear hz
  go_enter Tryz.func63, Tryz.ntmps63
  go_wp2_with (go_at_call 91; refine (unhide kR).mono ?_; rintro e w2 ⟨rfl, hb2⟩)
  go_ret
  exact ⟨rfl, hb2⟩
theorem ref_zeros (n : Int) (h0 : 0 ≤ n) (h : n ≤ 1000) (w : World) : Calls Tryz.prog 91 #[.int .u8 0, .int .i64 n] w fun e w' => e = .returned (.string (zS n.toNat)) ∧ Below w.heap.size w w' := by
  obtain ⟨m, rfl⟩ := Int.eq_ofNat_of_zero_le h0
  exact rf_Repeat m (by omega) w
end Go.Proofs.YtokcpammdhkecaaGreatDoor

/-
  The reference's printable and Entity: what they give at each string.
-/
namespace Go.Proofs.YtokcpammdhkecaaGreatDoor
open Go.RowKit

set_option maxHeartbeats 1600000 in
set_option maxRecDepth 100000 in
theorem ref_printable (s : ByteArray) (w : World) (hs : s.size ≤ 1000) :
    Calls Tryz.prog 90 #[.string s] w fun e w' => e = .returned (.bool (prL s.data.toList)) ∧ w' = w := by
  go_enter Tryz.func90, Tryz.ntmps90
  go_wp2
  go_loopw [3] (fun x wr => ∃ j : Nat, j ≤ s.size ∧ x = .int .i64 (j : Int) ∧ wr = w ∧ Hid (prL (s.data.toList.take j) = true)) (fun x _ => s.size - (intOf x).toNat)
  case atStart => exact ⟨0, Nat.zero_le _, rfl, rfl, Lib.hid rfl⟩
  case round =>
    obtain ⟨j, hj, rfl, rfl, hp⟩ := hrel
    by_cases hjn : j < s.size
    · have hjl : j < s.data.toList.length := by rw [← Lib.size_eq]; exact hjn
      have htk : prL (s.data.toList.take (j + 1)) = prB s.data.toList[j] := by
        rw [← List.take_append_getElem hjl]
        have := hp.out
        unfold prL at this ⊢
        rw [List.all_append, this]
        simp
      have v : ((s[j]'hjn).toNat : Int) = (s.data.toList[j].toNat : Int) := rfl
      generalize hb : s.data.toList[j] = b at v htk
      by_cases h1 : 32 ≤ b.toNat
      · by_cases h2 : b.toNat ≤ 126
        · have hpb : prB b = true := by unfold prB; rw [decide_eq_true_eq]; exact ⟨h1, h2⟩
          rw [hpb] at htk
          have Ht := Lib.hid htk
          have g1 : ¬ (b.toNat : Int) < 32 := by omega
          have g2 : ¬ (126 : Int) < (b.toNat : Int) := by omega
          clear htk hb hpb hjl hp h1 h2
          go_wp2
          go_roundw
          case rel => exact ⟨j + 1, by omega, by first | rfl | (congr 1; done) | (congr 1; omega), by first | rfl | trivial, Ht⟩
          case measure => simp [intOf]; omega
        · have hpb : prB b = false := by unfold prB; rw [decide_eq_false_iff_not]; intro h; exact h2 h.2
          have hall : prL s.data.toList = false := by
            cases e : prL s.data.toList
            · rfl
            · exfalso
              have := List.all_eq_true.1 e s.data.toList[j] (List.getElem_mem hjl)
              rw [hb, hpb] at this
              cases this
          have Ht := Lib.hid hall
          have g1 : ¬ (b.toNat : Int) < 32 := by omega
          have g2 : (126 : Int) < (b.toNat : Int) := by omega
          clear htk hb hpb hjl hp h1 h2 hall
          go_wp2
          go_ret
          exact ⟨ret_bool Ht.out.symm, by first | rfl | trivial⟩
      · have hpb : prB b = false := by unfold prB; rw [decide_eq_false_iff_not]; intro h; exact h1 h.1
        have hall : prL s.data.toList = false := by
          cases e : prL s.data.toList
          · rfl
          · exfalso
            have := List.all_eq_true.1 e s.data.toList[j] (List.getElem_mem hjl)
            rw [hb, hpb] at this
            cases this
        have Ht := Lib.hid hall
        have g1 : (b.toNat : Int) < 32 := by omega
        clear htk hb hpb hjl hp h1 hall
        go_wp2
        go_ret
        exact ⟨ret_bool Ht.out.symm, by first | rfl | trivial⟩
    · have hge : s.size ≤ j := by omega
      have Hl := Lib.hid (show prL s.data.toList = true by
        have := hp.out
        rwa [List.take_of_length_le (by rw [← Lib.size_eq]; exact hge)] at this)
      clear hp
      go_wp2
      go_ret
      exact ⟨ret_bool Hl.out.symm, by first | rfl | trivial⟩

set_option maxHeartbeats 1600000 in
set_option maxRecDepth 100000 in
theorem ref_Entity (i s : ByteArray) (w : World) (hi : i.size ≤ 60) (hs : s.size ≤ 60) :
    Calls Tryz.prog 61 #[.string i, .string s] w fun e w' => e = .returned (.tuple #[.string (entS i s), .int .i64 (entE i s)]) ∧ Below w.heap.size w w' := by
  have kP := ref_printable i w (by omega)
  cases hp : prS i with
  | false =>
    have ho : entO i s = false := by unfold entO; rw [hp]; rfl
    have r1 : entS i s = ⟨#[]⟩ := by unfold entS; rw [ho]; rfl
    have r2 : entE i s = 1 := by unfold entE; rw [ho]; rfl
    rw [r1, r2]
    by_cases h1 : 1 ≤ i.size
    · by_cases h2 : i.size ≤ 23
      · have hl : prL i.data.toList = false := by
          unfold prS at hp
          rw [decide_eq_true h1, decide_eq_true h2] at hp
          exact hp
        rw [hl] at kP
        have KP := hide kP
        clear r1 r2 ho hp kP hl
        go_enter Tryz.func61, Tryz.ntmps61
        go_wp2_with (go_at_call 90; refine (unhide KP).mono ?_; rintro e w1 ⟨rfl, rfl⟩)
        go_ret2
        exact ⟨rfl, Below.refl _ _⟩
      · have h2' : 23 < i.size := by omega
        clear r1 r2 ho hp kP
        go_enter Tryz.func61, Tryz.ntmps61
        go_wp2
        go_ret2
        exact ⟨rfl, Below.refl _ _⟩
    · have h1' : i.size < 1 := by omega
      clear r1 r2 ho hp kP
      go_enter Tryz.func61, Tryz.ntmps61
      go_wp2
      go_ret2
      exact ⟨rfl, Below.refl _ _⟩
  | true =>
    obtain ⟨hi1, hi2, hpl⟩ := prS_size hp
    rw [hpl] at kP
    have KP := hide kP
    clear kP hpl
    by_cases h8 : s.size ≤ 8
    · have ho : entO i s = true := by unfold entO; rw [hp, decide_eq_true h8]; rfl
      obtain ⟨Z1, hZ1⟩ : ∃ Z, Z = zS (23 - i.size) := ⟨_, rfl⟩
      obtain ⟨Z2, hZ2⟩ : ∃ Z, Z = zS (8 - s.size) := ⟨_, rfl⟩
      have r1 : entS i s = ⟨#[0]⟩ ++ i ++ Z1 ++ s ++ Z2 := by unfold entS; rw [ho, hZ1, hZ2]; rfl
      have r2 : entE i s = 0 := by unfold entE; rw [ho]; rfl
      rw [r1, r2]
      have z1 : Z1.size ≤ 23 := by rw [hZ1, zS_size]; omega
      have z2 : Z2.size ≤ 8 := by rw [hZ2, zS_size]; omega
      have kZ1 := fun w => ref_zeros (23 - (i.size : Int)) (by omega) (by omega) w
      have kZ2 := fun w => ref_zeros (8 - (s.size : Int)) (by omega) (by omega) w
      rw [show (23 - (i.size : Int)).toNat = 23 - i.size by omega, ← hZ1] at kZ1
      rw [show (8 - (s.size : Int)).toNat = 8 - s.size by omega, ← hZ2] at kZ2
      have KZ1 := hide kZ1
      have KZ2 := hide kZ2
      clear kZ1 kZ2 r1 r2 ho hp hZ1 hZ2
      have hz0 : (⟨#[0]⟩ : ByteArray).size = 1 := rfl
      go_enter Tryz.func61, Tryz.ntmps61
      go_wp2_with fail
      refine (unhide KP).mono ?_
      rintro e w1 ⟨rfl, rfl⟩
      have hw1 : IntKind.i64.wrap (23 - (i.size : Int)) = 23 - (i.size : Int) := IntWalk.i64_in _ (by omega)
      have hw2 : IntKind.i64.wrap (8 - (s.size : Int)) = 8 - (s.size : Int) := IntWalk.i64_in _ (by omega)
      go_wp2_with fail
      refine (unhide KZ1 _).mono ?_
      rintro e w2 ⟨rfl, hb2⟩
      go_wp2_with fail
      refine (unhide KZ2 _).mono ?_
      rintro e w3 ⟨rfl, hb3⟩
      go_wp2_with fail
      go_ret2
      exact ⟨rfl, hb2.trans (hb3.mono hb2.size)⟩
    · have ho : entO i s = false := by unfold entO; rw [hp, decide_eq_false h8]; rfl
      have r1 : entS i s = ⟨#[]⟩ := by unfold entS; rw [ho]; rfl
      have r2 : entE i s = 1 := by unfold entE; rw [ho]; rfl
      rw [r1, r2]
      have h8' : 8 < s.size := by omega
      clear r1 r2 ho hp
      go_enter Tryz.func61, Tryz.ntmps61
      go_wp2_with fail
      refine (unhide KP).mono ?_
      rintro e w1 ⟨rfl, rfl⟩
      go_wp2_with fail
      go_ret2
      exact ⟨rfl, Below.refl _ _⟩
end Go.Proofs.YtokcpammdhkecaaGreatDoor
