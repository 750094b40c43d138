/-
  The reference's decode and Decode give what the program's give.
-/
import Derived.Test.YtokcpammdhkecaaGreatDoorGs
import Derived.Test.YtokcpammdhkecaaGreatDoorGt
import Derived.Test.YtokcpammdhkecaaGreatDoorRpe37k
namespace Go.Proofs.YtokcpammdhkecaaGreatDoor
open Go.RowKit

theorem rd42 (s : ByteArray) : rdN s 42 1 = by0 s 42 := by
  have : rdN s 42 1 = 0 + (s.data.toList.getD (42 + 0) 0).toNat * 256 ^ 0 := rfl
  rw [this]
  simp [by0]
theorem rf_decode (s : ByteArray) (w : World) (hl : s.size ≤ 1000) (h0 : 1 ≤ s.size) : Calls Tryz.prog 38 #[.string s] w fun e w' => (rdrR s).Rs w w' e := by
  have kP := rf_ParseEntity
  unfold rdrR
  split
  · rename_i hk
    split
    · exact rcd_phys s w hl h0 hk ‹_›
    · exact rcd_size1 s w hl h0 hk ‹_›
  · rename_i hk1
    split
    · rename_i hk
      split
      · rename_i hz
        split
        · rename_i he
          unfold dcdE
          split
          · rename_i m1
            exact rcd_virt s w hl h0 kP hk hz he m1 (id_ne m1 id_SV) (id_ne m1 id_MV)
          · rename_i m1
            have m1 := Bool.eq_false_iff.2 m1
            split
            · rename_i m2
              have m3 := id_ne m2 id_MS
              rw [rd42]
              split
              · rename_i hp
                split
                · rename_i hc
                  exact rcd_spar s w hl h0 kP hk hz he m1 m2 m3 hp hc
                · rename_i hc
                  by_cases hlo : by0 s 42 < 1
                  · exact rcd_count0 s w hl h0 kP hk hz he m1 m2 m3 hp hlo
                  · exact rcd_count5 s w hl h0 kP hk hz he m1 m2 m3 hp (by omega)
              · exact rcd_packet s w hl h0 kP hk hz he m1 m2 m3 ‹_›
            · rename_i m2
              have m2 := Bool.eq_false_iff.2 m2
              split
              · exact rcd_meta s w hl h0 kP hk hz he m1 m2 ‹_›
              · rename_i m3
                exact rcd_none s w hl h0 kP hk hz he m1 m2 (Bool.eq_false_iff.2 m3)
        · exact rcd_ent s w hl h0 kP hk hz ‹_›
      · exact rcd_size2 s w hl h0 hk ‹_›
    · exact rcd_kind s w hl h0 ⟨hk1, ‹_›⟩

/-! The first bytes of a string. -/
theorem ex_size {s : ByteArray} {n : Nat} (h : n ≤ s.size) : (s.extract 0 n).size = n := by rw [ByteArray.size_extract]; omega
theorem ex_get {s : ByteArray} {n i : Nat} (hi : i < n) : (s.extract 0 n).data.toList.getD i 0 = s.data.toList.getD i 0 := by
  rw [Lib.extract_data, List.drop_zero, Nat.sub_zero, List.getD_eq_getElem?_getD, List.getElem?_take_of_lt hi, ← List.getD_eq_getElem?_getD]
theorem ex_rd {s : ByteArray} {n p k : Nat} (h : p + k ≤ n) : rdN (s.extract 0 n) p k = rdN s p k := rdP_congr k (fun i hi => by rw [ex_get (by omega)])
theorem ex_by {s : ByteArray} {n i : Nat} (h : i < n) : by0 (s.extract 0 n) i = by0 s i := by unfold by0; rw [ex_get h]
theorem ex_ex {s : ByteArray} {n a b : Nat} (h : b ≤ n) : (s.extract 0 n).extract a b = s.extract a b := by
  apply ByteArray.ext
  apply Array.ext'
  rw [Lib.extract_data, Lib.extract_data, Lib.extract_data, List.drop_zero, Nat.sub_zero, List.drop_take, List.take_take, Nat.min_eq_left (by omega)]
theorem sp_ex {s : ByteArray} {n k : Nat} (hk : k ≤ 4) (hn : n = 64) : spX (s.extract 0 n) k = spX s k := by
  unfold spX
  refine List.map_congr_left fun i hi => ?_
  have := List.mem_range.1 hi
  rw [ex_rd (by omega)]
theorem dcdE_ex {s : ByteArray} : dcdE (s.extract 0 64) = dcdE s := by
  unfold dcdE
  rw [ex_ex (by decide), ex_rd (by decide), ex_rd (p := 40) (k := 2) (by decide), ex_rd (p := 42) (by decide), ex_rd (p := 40) (k := 4) (by decide), ex_rd (p := 44) (by decide), ex_rd (p := 48) (by decide)]
  by_cases hc : 1 ≤ rdN s 42 1 ∧ rdN s 42 1 ≤ 4
  · simp only [if_pos hc, sp_ex hc.2 rfl]
  · simp only [if_neg hc]
theorem rdr_eq {s : ByteArray} (h2 : 2 ≤ s.size) (h1 : by0 s 1 ≤ s.size) : rdrR (s.extract 0 (max 2 (by0 s 1))) = dcdR s := by
  generalize hn : max 2 (by0 s 1) = n
  have hns : n ≤ s.size := by omega
  have hx : (s.extract 0 n).size = n := ex_size hns
  unfold rdrR dcdR
  rw [if_neg (by omega : ¬ s.size < 2), if_neg (by omega : ¬ s.size < by0 s 1), ex_by (by omega), hx]
  by_cases hk : by0 s 0 = 1
  · rw [if_pos hk, if_pos hk]
    by_cases h6 : by0 s 1 = 6
    · rw [if_pos h6, if_pos (by omega), ex_rd (by omega)]
    · rw [if_neg h6, if_neg (by omega)]
  · rw [if_neg hk, if_neg hk]
    by_cases hk2 : by0 s 0 = 2
    · rw [if_pos hk2, if_pos hk2]
      by_cases h64 : by0 s 1 = 64
      · obtain rfl : n = 64 := by omega
        rw [if_pos h64, if_pos rfl, ex_ex (by decide), dcdE_ex]
      · rw [if_neg h64, if_neg (by omega)]
    · rw [if_neg hk2, if_neg hk2]
theorem dcdR_N {s : ByteArray} {d : DR} (hd : d = dcdR s) (h : d.E = 0) : d.N = ((max 2 (by0 s 1) : Nat) : Int) := by
  unfold dcdR dcdE at hd
  repeat' split at hd
  all_goals subst hd
  all_goals first
    | exact absurd h (by decide)
    | (show (6 : Int) = _; omega)
    | (show (64 : Int) = _; omega)
theorem max_i64 (b : Nat) (ats : Array TypeId) (ty : TypeId) : Builtin.max_ ats ty #[.int .i64 2, .int .i64 (b : Int)] = pure (.int .i64 ((max 2 b : Nat) : Int)) := by
  simp only [Builtin.max_, List.foldlM_cons, List.foldlM_nil, Builtin.max2, gt_iff_lt]
  have : (if (2 : Int) < (b : Int) then (b : Int) else 2) = ((max 2 b : Nat) : Int) := by split <;> omega
  rw [this]
  rfl
theorem ox_empty (w : World) : Ox w (w.alloc (.cells #[] 65)) (.slice (some ⟨w.heap.size, 0, none⟩) 0 0) [] :=
  ⟨(Below.refl _ _).alloc (Nat.le_refl _) _, ⟨rfl, .inr ⟨w.heap.size, 0, #[], rfl, Nat.le_refl _, heap_new w _, Nat.le_refl _, Nat.zero_le _, rfl, rfl⟩⟩, by simp, by simp, by simp⟩
set_option maxHeartbeats 6400000 in
set_option maxRecDepth 100000 in
theorem rf_Decode (s : ByteArray) (c : Int) (w : World) (hl : s.size ≤ 1000) :
    Calls Tryz.prog 20 #[.string s, .int .i64 c] w (fun e w' => DcsIs (dcsE s c) (dcsM s c) w w' e) := by
  by_cases hn : c < 0
  · obtain ⟨e1, e2⟩ := dcs_neg (s := s) hn
    rw [e1, e2]
    clear e1 e2
    go_enter Tryz.func20, Tryz.ntmps20
    go_wp2_with fail
    go_ret2
    exact dcs_nil rfl rfl (Below.refl _ _)
  · by_cases hb : 4 < c
    · obtain ⟨e1, e2⟩ := dcs_big (s := s) hb
      rw [e1, e2]
      clear e1 e2
      go_enter Tryz.func20, Tryz.ntmps20
      go_wp2_with fail
      go_ret2
      exact dcs_nil rfl rfl (Below.refl _ _)
    · obtain ⟨cnt, rfl⟩ : ∃ cnt : Nat, c = (cnt : Int) := ⟨c.toNat, by omega⟩
      have hc4 : cnt ≤ 4 := by omega
      clear hn hb
      have HE := Lib.hid (dcs_in (s := s) hc4)
      have Hst := Lib.hid (dn_start s cnt)
      have Ost := Lib.hid (ox_empty w)
      go_enter Tryz.func20, Tryz.ntmps20
      go_wp2_with fail
      go_loopw [0, 6, 7] (fun d o x wr => ∃ j : Nat, ∃ sj ps, j ≤ cnt ∧ x = .int .i64 (j : Int) ∧ d = .string sj ∧ sj.size ≤ 1000 ∧ Hid (Dn s cnt j sj ps) ∧ Ox w wr o ps) (fun _ _ x _ => cnt - (intOf x).toNat)
      case atStart => exact ⟨0, s, [], Nat.zero_le _, rfl, rfl, hl, Hst, Ost.out⟩
      case round =>
        obtain ⟨j, sj, ps, hj, rfl, rfl, hsj, hD, hO⟩ := hrel
        clear Hst Ost
        have hpl : ps.length ≤ 4 := by have := hD.out.1; omega
        by_cases hlt : j < cnt
        · by_cases hsz : sj.size < 2
          · have hd0 : dcdR sj = dNo 10 := by unfold dcdR; rw [if_pos hsz]
            have HF := Lib.hid (HE.out.trans (hD.out.fail hlt rfl (by rw [hd0]; decide)))
            have HM := Lib.hid (dcsM_no (s := s) (c := (cnt : Int)) (by rw [HF.out, hd0]; decide))
            have HL := Lib.hid hO.low
            have Hd0 := Lib.hid hd0
            have hg : (sj.size : Int) < 2 := by omega
            clear hd0 hO
            go_wp2_with fail
            go_ret2
            exact dcs_nil (by rw [HF.out, Hd0.out]; rfl) HM.out HL.out
          · have hq1 := by0_at sj 1
            have hb1 := by0_lt sj 1
            by_cases hby : sj.size < by0 sj 1
            · have hd0 : dcdR sj = dNo 10 := by unfold dcdR; rw [if_neg hsz, if_pos hby]
              have HF := Lib.hid (HE.out.trans (hD.out.fail hlt rfl (by rw [hd0]; decide)))
              have HM := Lib.hid (dcsM_no (s := s) (c := (cnt : Int)) (by rw [HF.out, hd0]; decide))
              have HL := Lib.hid hO.low
              have Hd0 := Lib.hid hd0
              clear hd0 hO
              generalize by0 sj 1 = b1 at *
              have hw1 : IntKind.i64.wrap (b1 : Int) = (b1 : Int) := IntWalk.i64_in _ (by omega)
              have hg : ¬ (sj.size : Int) < 2 := by omega
              have hg1 : (1 : Int) < (sj.size : Int) := by omega
              have hg2 : (sj.size : Int) < (b1 : Int) := by omega
              go_wp2_with fail
              go_ret2
              exact dcs_nil (by rw [HF.out, Hd0.out]; rfl) HM.out HL.out
            · have kD := rf_decode (sj.extract 0 (max 2 (by0 sj 1))) wr (by rw [ex_size (by omega)]; omega) (by rw [ex_size (by omega)]; omega)
              rw [rdr_eq (by omega) (by omega)] at kD
              have hMx := max_i64 (by0 sj 1)
              obtain ⟨d, hd⟩ : ∃ d, d = dcdR sj := ⟨_, rfl⟩
              rw [← hd] at kD
              obtain ⟨m, hm⟩ : ∃ m, m = max 2 (by0 sj 1) := ⟨_, rfl⟩
              have hmN : d.E = 0 → d.N = (m : Int) := fun h => by rw [hm]; exact dcdR_N hd h
              rw [← hm] at kD hMx
              have hm2 : 2 ≤ m := by omega
              have hms : m ≤ sj.size := by omega
              clear hm
              generalize by0 sj 1 = b1 at *
              have hw1 : IntKind.i64.wrap (b1 : Int) = (b1 : Int) := IntWalk.i64_in _ (by omega)
              have hg : ¬ (sj.size : Int) < 2 := by omega
              have hg1 : (1 : Int) < (sj.size : Int) := by omega
              have hg2 : ¬ (sj.size : Int) < (b1 : Int) := by omega
              have hI1 : (m : Int) ≤ (sj.size : Int) := by omega
              have hI0 : (0 : Int) ≤ (m : Int) := by omega
              by_cases hE : d.E = 0
              · obtain ⟨_, hx, hf, hm', hb⟩ := dcdR_ok hd hE
                have HN := hide (fun (p : PM) (hp : p.what = d.what) => hD.out.next hlt hd hE hp)
                rw [hmN hE, Int.toNat_natCast] at HN
                clear hd hmN
                obtain ⟨E, N, k, n, xs, f, mm, b⟩ := d
                simp only at hE hx hf hm' hb
                subst hE
                have kD := hide kD
                have hO2 := hide (fun (w2 : World) (hb2 : Below wr.heap.size wr w2) => owns_below hO.own hb2 (Nat.le_refl _))
                have hws := hO.low.size
                have Hx := Lib.hid hx
                have Hf := Lib.hid hf
                have HHm := Lib.hid hm'
                have Hbb := Lib.hid hb
                have HO := Lib.hid hO
                clear hx hf hm' hb hO
                obtain ⟨i0, hi, hz0, hz1, hz2⟩ := info_parts pmInfo
                go_wp2_with (first
                  | (go_at_call 38; refine (unhide kD).mono ?_; rintro e w2 ⟨A, c, rfl, hrow, hA, hb2⟩; have hown2 := unhide hO2 w2 hb2; have hw2 := hb2.size; have Hrow := Lib.hid hrow; have HA := Lib.hid hA; clear hrow hA)
                  | (at_builtin; refine wpList_append_any _ rfl (.tmp 46) (.tmp 48) 22 rfl w.heap.size 65 i0 _ 6 64 Tryz.underlying22 hi hz0 hz1 hz2 rfl (by decide) _ ps.length _ rfl ((hown2.alloc _).alloc _) _ _ 1 1 (PM.cells ⟨k, n, A, c, xs, f, mm, b⟩).toList rfl (reads_new _ _ _ _ (by simp) rfl) (pm_one _) (by unfold maxLen; omega) (by omega) (by simp; omega) ?_; intro v4 w4 hown4 hgrow4 hob4))
                go_roundw
                case rel =>
                  refine ⟨j + 1, sj.extract m sj.size, ps ++ [⟨k, n, A, c, xs, f, mm, b⟩], by omega, by go_num, rfl, by rw [ByteArray.size_extract]; omega, Lib.hid (unhide HN ⟨k, n, A, c, xs, f, mm, b⟩ rfl), ?_⟩
                  exact HO.out.next hb2 Hrow.out HA.out Hx.out Hf.out HHm.out Hbb.out (((Below.refl w2.heap.size w2).alloc (Nat.le_refl _) _).alloc (by simp) _) hgrow4 hown4 hob4
                case measure => simp [intOf]; omega
              · have HF := Lib.hid (HE.out.trans (hD.out.fail hlt hd hE))
                have HM := Lib.hid (dcsM_no (s := s) (c := (cnt : Int)) (by rw [HF.out]; exact hE))
                clear hmN hd
                obtain ⟨E, N, k, n, xs, f, mm, b⟩ := d
                simp only at hE
                have kD := hide kD
                have hq : (E == 0) = false := by rw [beq_eq_false_iff_ne]; exact hE
                have hq2 : (E != 0) = true := by rw [bne_iff_ne]; exact hE
                have HL := Lib.hid hO.low
                clear hE hO
                go_wp2_with (go_at_call 38; refine (unhide kD).mono ?_; rintro e w2 ⟨A, c, rfl, hrow, hA, hb2⟩; have HB2 := Lib.hid (HL.out.trans (hb2.mono HL.out.size)); have hw2 := HB2.out.size; clear hrow hA hb2)
                go_ret2
                exact dcs_nil (by rw [HF.out]; rfl) HM.out (HB2.out.alloc hw2 _)
        · obtain rfl : j = cnt := by omega
          obtain ⟨A, c, rfl, hP⟩ := hO.row
          have hd := hD.out.done
          have HL := Lib.hid hO.low
          have HP := Lib.hid hP
          clear hO hP
          by_cases hz : sj.size = 0
          · have hne : sj.toList.isEmpty = true := by
              rw [Lib.toList_data, List.isEmpty_iff]
              exact List.eq_nil_of_length_eq_zero (by rw [← Lib.size_eq]; exact hz)
            have hne2 : sj.toList = [] := List.isEmpty_iff.1 hne
            rw [if_pos hz] at hd
            have h0 := HE.out.trans hd.1
            have HR := Lib.hid (show dcsE s (j : Int) = 0 ∧ ps.map PM.what = (dcsM s (j : Int)).map DR.what from ⟨h0, by rw [dcsM_ok h0]; exact hd.2⟩)
            clear hd hz h0
            go_wp2_with fail
            go_ret2
            exact ⟨A, c, ps, by rw [HR.out.1]; rfl, HP.out, HR.out.2, hpl, HL.out⟩
          · have hne : sj.toList.isEmpty = false := by
              rw [Lib.toList_data, Bool.eq_false_iff, ne_eq, List.isEmpty_iff]
              intro e
              apply hz
              rw [Lib.size_eq, e]
              rfl
            have hne2 : ¬ sj.toList = [] := fun e => by rw [e] at hne; cases hne
            rw [if_neg hz] at hd
            have h0 := HE.out.trans hd.1
            have HR := Lib.hid (show dcsE s (j : Int) = 10 ∧ dcsM s (j : Int) = [] from ⟨h0, dcsM_no (by rw [h0]; decide)⟩)
            clear hd hz h0
            go_wp2_with fail
            go_ret2
            exact dcs_nil (by rw [HR.out.1]; rfl) HR.out.2 HL.out
end Go.Proofs.YtokcpammdhkecaaGreatDoor
