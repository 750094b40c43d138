/-
  The reference's FewMaps, word, Map and Valid.
-/
import Derived.Test.YtokcpammdhkecaaGreatDoorGl
namespace Go.Proofs.YtokcpammdhkecaaGreatDoor
open Go.RowKit

def fewB (ps : List PM) : Bool := ps.all (fun p => decide (p.xs.length ≤ 8)) && decide (ps.length ≤ 8)
set_option maxHeartbeats 1600000 in
set_option maxRecDepth 100000 in
theorem rf_FewMaps (A : Option Addr) (c : Nat) (ps : List PM) (w : World) (hr : PRow w A ps) (hl : ps.length ≤ 9223372036854775807) :
    Calls Tryz.prog 16 #[.slice A ps.length c] w fun e w' => e = .returned (.bool (fewB ps)) ∧ w' = w := by
  obtain ⟨R, hR⟩ : ∃ R, R = fewB ps := ⟨_, rfl⟩
  rw [← hR]
  have HR := Lib.hid hR
  clear hR
  have hst : Hid ((ps.take 0).all (fun p => decide (p.xs.length ≤ 8)) = true) := Lib.hid rfl
  go_enter Tryz.func16, Tryz.ntmps16
  go_wp2_with fail
  go_loopw [3] (fun x wr => ∃ k : Nat, k ≤ ps.length ∧ x = .int .i64 (k : Int) ∧ Hid ((ps.take k).all (fun p => decide (p.xs.length ≤ 8)) = true) ∧ wr = w) (fun x _ => ps.length - (intOf x).toNat)
  case atStart => exact ⟨0, Nat.zero_le _, rfl, hst, rfl⟩
  case round =>
    obtain ⟨k, hk, rfl, ht, rfl⟩ := hrel
    clear hst
    by_cases hlt : k < ps.length
    · obtain ⟨a1, rfl, -, -, c2, -⟩ := hr.at_ hlt
      have hxl := hr.len ps[k] (List.getElem_mem hlt)
      by_cases h8 : ps[k].xs.length ≤ 8
      · have Hn := Lib.hid (pall_take (p := fun p => decide (p.xs.length ≤ 8)) ht.out hlt (decide_eq_true h8))
        generalize ps[k] = p at *
        go_wp2
        go_roundw
        case rel => exact ⟨k + 1, by omega, by go_num, Hn, by first | rfl | trivial⟩
        case measure => simp [intOf]; omega
      · have Hn := Lib.hid (pall_fail (p := fun p => decide (p.xs.length ≤ 8)) hlt (decide_eq_false h8))
        have h9 : 8 < ps[k].xs.length := by omega
        clear h8
        generalize ps[k] = p at *
        go_wp2
        go_ret
        exact ⟨ret_bool (by rw [HR.out]; unfold fewB; rw [Hn.out]; rfl), by first | rfl | trivial⟩
    · obtain rfl : k = ps.length := by omega
      have Hn := Lib.hid (show ps.all (fun p => decide (p.xs.length ≤ 8)) = true by have := ht.out; rwa [List.take_length] at this)
      clear ht
      go_wp2
      all_goals go_ret
      all_goals (refine ⟨ret_bool ?_, by first | rfl | trivial⟩; rw [HR.out]; unfold fewB; rw [Hn.out, Bool.true_and, Bool.eq_iff_iff]; simp; try omega)
theorem rf_word (n : Int) (w : World) : Calls Tryz.prog 89 #[.int .i64 n] w fun e w' => e = .returned (.bool (wordB n)) ∧ w' = w := by
  have H : Hid (wordB n = decide (0 ≤ n ∧ n < 4294967296)) := Lib.hid rfl
  generalize wordB n = b at *
  go_enter Tryz.func89, Tryz.ntmps89
  go_wp2
  all_goals go_ret
  all_goals (refine ⟨ret_bool ?_, rfl⟩; rw [H.out, Bool.eq_iff_iff]; simp; try omega)
theorem pmV_range {p : PM} (h : ¬ (0 ≤ p.k ∧ p.k ≤ 3 ∧ 0 ≤ p.n ∧ p.n ≤ 65535)) : pmV p = false := by
  unfold pmV; rw [decide_eq_false h, Bool.false_and, Bool.false_and, Bool.false_and]
theorem pmV_words {p : PM} (h : p.xs.all wordB = false) : pmV p = false := by
  unfold pmV; rw [List.all_append, h, Bool.false_and, Bool.and_false]
theorem pmV_len {p : PM} (h : ¬ (if p.k = 2 then 1 ≤ p.xs.length ∧ p.xs.length ≤ 4 else p.xs.length = 0)) : pmV p = false := by
  unfold pmV
  have : (if p.k = 2 then decide (1 ≤ p.xs.length ∧ p.xs.length ≤ 4) else decide (p.xs.length = 0)) = false := by
    split
    · rename_i e; rw [if_pos e] at h; exact decide_eq_false h
    · rename_i e; rw [if_neg e] at h; exact decide_eq_false h
  rw [this, Bool.and_false, Bool.false_and, Bool.false_and]
/-- The rest of a map's test, where its numbers, its tables' number and its tables are in order. -/
theorem pmV_rest {p : PM} (h1 : 0 ≤ p.k ∧ p.k ≤ 3 ∧ 0 ≤ p.n ∧ p.n ≤ 65535) (h2 : if p.k = 2 then 1 ≤ p.xs.length ∧ p.xs.length ≤ 4 else p.xs.length = 0) (h3 : p.xs.all wordB = true) :
    pmV p = if p.k = 3 then (wordB p.f && (wordB p.m && wordB p.b)) else decide (p.f = 0 ∧ p.m = 0 ∧ p.b = 0) := by
  unfold pmV
  have e2 : (if p.k = 2 then decide (1 ≤ p.xs.length ∧ p.xs.length ≤ 4) else decide (p.xs.length = 0)) = true := by
    split
    · rename_i e; rw [if_pos e] at h2; exact decide_eq_true h2
    · rename_i e; rw [if_neg e] at h2; exact decide_eq_true h2
  rw [decide_eq_true h1, e2, List.all_append, h3]
  simp only [Bool.true_and, List.all_cons, List.all_nil, Bool.and_true]
  by_cases h : p.k = 3
  · rw [if_pos h, decide_eq_true h, Bool.true_or, Bool.true_and]
  · rw [if_neg h, decide_eq_false h, Bool.false_or]
    by_cases hz : p.f = 0 ∧ p.m = 0 ∧ p.b = 0
    · rw [decide_eq_true hz, Bool.true_and, hz.1, hz.2.1, hz.2.2]; rfl
    · rw [decide_eq_false hz, Bool.false_and]
set_option maxHeartbeats 3200000 in
set_option maxRecDepth 100000 in
theorem rf_Map_no (k n : Int) (A : Option Addr) (c : Nat) (xs : List Int) (f m b : Int) (w : World) (h : ¬ (0 ≤ k ∧ k ≤ 3 ∧ 0 ≤ n ∧ n ≤ 65535)) :
    Calls Tryz.prog 59 #[.agg #[.int .i64 k, .int .i64 n, .slice A xs.length c, .int .i64 f, .int .i64 m, .int .i64 b]] w fun e w' => e = .returned (.bool false) ∧ Below w.heap.size w w' := by
  by_cases h1 : 0 ≤ k
  · by_cases h2 : k ≤ 3
    · by_cases h3 : 0 ≤ n
      · have h4 : 65535 < n := by omega
        clear h
        go_enter Tryz.func59, Tryz.ntmps59
        go_wp2
        go_ret
        exact ⟨rfl, (Below.refl _ _).alloc (Nat.le_refl _) _⟩
      · have h4 : n < 0 := by omega
        clear h
        go_enter Tryz.func59, Tryz.ntmps59
        go_wp2
        go_ret
        exact ⟨rfl, (Below.refl _ _).alloc (Nat.le_refl _) _⟩
    · have h4 : 3 < k := by omega
      clear h
      go_enter Tryz.func59, Tryz.ntmps59
      go_wp2
      go_ret
      exact ⟨rfl, (Below.refl _ _).alloc (Nat.le_refl _) _⟩
  · have h4 : k < 0 := by omega
    clear h
    go_enter Tryz.func59, Tryz.ntmps59
    go_wp2
    go_ret
    exact ⟨rfl, (Below.refl _ _).alloc (Nat.le_refl _) _⟩
set_option maxHeartbeats 6400000 in
set_option maxRecDepth 100000 in
theorem rf_Map (p : PM) (w : World) (hw : p.Wf w) (hl : p.xs.length ≤ 9223372036854775807) : Calls Tryz.prog 59 #[p.val] w fun e w' => e = .returned (.bool (pmV p)) ∧ Below w.heap.size w w' := by
  by_cases hok : 0 ≤ p.k ∧ p.k ≤ 3 ∧ 0 ≤ p.n ∧ p.n ≤ 65535
  · have hx := pmV_words (p := p)
    have hn := pmV_len (p := p)
    have hy := pmV_rest hok
    have hro := hw.row
    obtain ⟨R, hR⟩ : ∃ R, R = pmV p := ⟨_, rfl⟩
    rw [← hR] at hx hn hy ⊢
    clear hR hw
    obtain ⟨k, n, A, c, xs, f, m, b⟩ := p
    simp only [PM.val, PM.cells] at *
    obtain ⟨h1, h2, h3, h4⟩ := hok
    have Hx := hide hx
    have Hn := hide hn
    have Hy := hide hy
    clear hx hn hy
    have kW := hide (fun n w => rf_word n w)
    have bw : Below w.heap.size w (w.alloc (.cells #[.int .i64 k, .int .i64 n, .slice A xs.length c, .int .i64 f, .int .i64 m, .int .i64 b] 65)) := (Below.refl _ _).alloc (Nat.le_refl _) _
    have hr1 := hro.below bw
    have hst : Hid ((xs.take 0).all wordB = true) := Lib.hid rfl
    clear hro
    go_enter Tryz.func59, Tryz.ntmps59
    go_wp2_with fail
    have hbx := heap_new w (.cells #[.int .i64 k, .int .i64 n, .slice A xs.length c, .int .i64 f, .int .i64 m, .int .i64 b] 65)
    generalize w.alloc _ = w1 at *
    have x0 := cell_block hbx 0 _ rfl
    have x2 := cell_block hbx 2 _ rfl
    have x3 := cell_block hbx 3 _ rfl
    have x4 := cell_block hbx 4 _ rfl
    have x5 := cell_block hbx 5 _ rfl
    clear hbx
    go_loopw [3] (fun x wr => ∃ j : Nat, j ≤ xs.length ∧ x = .int .i64 (j : Int) ∧ Hid ((xs.take j).all wordB = true) ∧ wr = w1) (fun x _ => xs.length - (intOf x).toNat)
    case atStart => exact ⟨0, Nat.zero_le _, rfl, hst, rfl⟩
    case round =>
      obtain ⟨j, hj, rfl, ht, rfl⟩ := hrel
      clear hst
      by_cases hlt : j < xs.length
      · obtain ⟨a1, rfl, c1⟩ := hr1.at_ hlt
        cases hp : wordB (xs.getD j 0) with
        | true =>
          have HN := Lib.hid (all_take ht.out hlt hp)
          have kN := unhide kW (xs.getD j 0) wr
          rw [hp] at kN
          have kN := hide kN
          clear hp
          generalize xs.getD j 0 = y at *
          go_wp2_with (go_at_call 89; refine (unhide kN).mono ?_; rintro e wn ⟨rfl, hn⟩; have hn := hn.symm; subst hn)
          go_roundw
          case rel => exact ⟨j + 1, by omega, by go_num, HN, by first | rfl | trivial⟩
          case measure => simp [intOf]; omega
        | false =>
          have HN := Lib.hid (unhide Hx (all_fail hlt hp))
          have kN := unhide kW (xs.getD j 0) wr
          rw [hp] at kN
          have kN := hide kN
          clear hp
          generalize xs.getD j 0 = y at *
          go_wp2_with (go_at_call 89; refine (unhide kN).mono ?_; rintro e wn ⟨rfl, hn⟩; have hn := hn.symm; subst hn)
          go_ret
          exact ⟨ret_bool HN.out.symm, bw⟩
      · obtain rfl : j = xs.length := by omega
        have HA : Hid (xs.all wordB = true) := Lib.hid (by have := ht.out; rwa [List.take_length] at this)
        clear ht
        by_cases hlen : (if k = 2 then 1 ≤ xs.length ∧ xs.length ≤ 4 else xs.length = 0)
        · have hy := unhide Hy hlen HA.out
          by_cases q3 : k = 3
          · subst q3
            rw [if_neg (by decide)] at hlen
            rw [if_pos rfl] at hy
            have HY := Lib.hid hy
            have kf := hide (fun w => unhide kW f w)
            have km := hide (fun w => unhide kW m w)
            have kb := hide (fun w => unhide kW b w)
            clear hy kW
            generalize wordB f = qf at *
            generalize wordB m = qm at *
            generalize wordB b = qb at *
            have hz : ¬ 0 < xs.length := by omega
            clear hlen
            go_wp2_with (go_at_call 89; (first | (with_reducible refine (unhide kf _).mono ?_) | (with_reducible refine (unhide km _).mono ?_) | (with_reducible refine (unhide kb _).mono ?_)); rintro e wn ⟨rfl, hn⟩; have hn := hn.symm; subst hn)
            all_goals go_ret
            all_goals exact ⟨ret_bool (by rw [HY.out]; simp_all), bw⟩
          · rw [if_neg q3] at hy
            have HY := Lib.hid hy
            clear hy
            have q3' : (k == 3) = false := by rw [beq_eq_false_iff_ne]; exact q3
            by_cases q2 : k = 2
            · subst q2
              rw [if_pos rfl] at hlen
              obtain ⟨l1, l4⟩ := hlen
              go_wp2_with fail
              all_goals go_ret
              all_goals exact ⟨ret_bool (by rw [HY.out, Bool.eq_iff_iff]; simp_all), bw⟩
            · rw [if_neg q2] at hlen
              have q2' : (k == 2) = false := by rw [beq_eq_false_iff_ne]; exact q2
              have hz : ¬ 0 < xs.length := by omega
              clear hlen
              go_wp2_with fail
              all_goals go_ret
              all_goals exact ⟨ret_bool (by rw [HY.out, Bool.eq_iff_iff]; simp_all), bw⟩
        · have hf := Lib.hid (unhide Hn hlen)
          by_cases q2 : k = 2
          · subst q2
            rw [if_pos rfl] at hlen
            by_cases l1 : xs.length < 1
            · clear hlen
              go_wp2_with fail
              go_ret
              exact ⟨ret_bool hf.out.symm, bw⟩
            · have l4 : 4 < xs.length := by omega
              clear hlen
              go_wp2_with fail
              go_ret
              exact ⟨ret_bool hf.out.symm, bw⟩
          · rw [if_neg q2] at hlen
            have q2' : (k == 2) = false := by rw [beq_eq_false_iff_ne]; exact q2
            have hz : 0 < xs.length := by omega
            clear hlen
            go_wp2_with fail
            go_ret
            exact ⟨ret_bool hf.out.symm, bw⟩
  · rw [pmV_range hok]
    exact rf_Map_no p.k p.n p.A p.c p.xs p.f p.m p.b w hok
set_option maxHeartbeats 1600000 in
set_option maxRecDepth 100000 in
theorem rf_Valid (A : Option Addr) (c : Nat) (ps : List PM) (w : World) (hr : PRow w A ps) (hl : ps.length ≤ 9223372036854775807) :
    Calls Tryz.prog 35 #[.slice A ps.length c] w fun e w' => e = .returned (.bool (pmA ps)) ∧ Below w.heap.size w w' := by
  obtain ⟨R, hR⟩ : ∃ R, R = pmA ps := ⟨_, rfl⟩
  rw [← hR]
  have HR := Lib.hid hR
  clear hR
  have hst : Hid ((ps.take 0).all pmV = true) := Lib.hid rfl
  go_enter Tryz.func35, Tryz.ntmps35
  go_wp2_with fail
  go_loopw [3] (fun x wr => ∃ k : Nat, k ≤ ps.length ∧ x = .int .i64 (k : Int) ∧ Hid ((ps.take k).all pmV = true) ∧ Below w.heap.size w wr) (fun x _ => ps.length - (intOf x).toNat)
  case atStart => exact ⟨0, Nat.zero_le _, rfl, hst, Below.refl _ _⟩
  case round =>
    obtain ⟨k, hk, rfl, ht, hb⟩ := hrel
    clear hst
    by_cases hlt : k < ps.length
    · have hr1 := hr.below hb
      obtain ⟨a1, rfl, c0, c1, c2, c3, c4, c5⟩ := hr1.at_ hlt
      have kN := rf_Map ps[k] wr (hr1.wf ps[k] (List.getElem_mem hlt)) (hr1.len ps[k] (List.getElem_mem hlt))
      simp only [PM.val, PM.cells] at kN
      cases hp : pmV ps[k] with
      | true =>
        have Hn := Lib.hid (pall_take ht.out hlt hp)
        rw [hp] at kN
        have kN := hide kN
        clear hp hr1
        generalize ps[k] = p at *
        go_wp2_with (go_at_call 59; refine (unhide kN).mono ?_; rintro e w2 ⟨rfl, hb2⟩)
        go_roundw
        case rel => exact ⟨k + 1, by omega, by go_num, Hn, hb.trans (hb2.mono hb.size)⟩
        case measure => simp [intOf]; omega
      | false =>
        have Hn := Lib.hid (pall_fail hlt hp)
        rw [hp] at kN
        have kN := hide kN
        clear hp hr1
        generalize ps[k] = p at *
        go_wp2_with (go_at_call 59; refine (unhide kN).mono ?_; rintro e w2 ⟨rfl, hb2⟩)
        go_ret
        exact ⟨ret_bool (by rw [HR.out]; unfold pmA; rw [Hn.out, Bool.and_false]), hb.trans (hb2.mono hb.size)⟩
    · obtain rfl : k = ps.length := by omega
      have Hn := Lib.hid (show ps.all pmV = true by have := ht.out; rwa [List.take_length] at this)
      clear ht
      go_wp2
      all_goals go_ret
      all_goals (refine ⟨ret_bool ?_, hb⟩; rw [HR.out]; unfold pmA; rw [Hn.out, Bool.and_true, Bool.eq_iff_iff]; simp; try omega)
end Go.Proofs.YtokcpammdhkecaaGreatDoor
