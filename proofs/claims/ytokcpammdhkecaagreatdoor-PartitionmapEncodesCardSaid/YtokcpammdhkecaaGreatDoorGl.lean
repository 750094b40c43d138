/-
  Texts of this claim, joined in one file: each begins with its own sentence.
-/
import Derived.Test.YtokcpammdhkecaaGreatDoorGk
import Derived.Test.YtokcpammdhkecaaGreatDoorGg
import Derived.Test.YtokcpammdhkecaaGreatDoorGd
/-
  partitionmap.Kind: the kind of volume of a list of maps.
-/
namespace Go.Proofs.YtokcpammdhkecaaGreatDoor
open Go.RowKit

/-- 'x.Number != l[0].Number'. -/
theorem kd_num (p : PM) (g : Nat) (A : Option Addr) (c : Nat) (ps : List PM) (h0 : 0 < ps.length) (w : World) (hr : PRow w A ps) (hg : w.cell? ⟨g, 0, none⟩ = some (.slice A ps.length c)) :
    Calls Tryz.prog 43 #[p.val, .pointer (some ⟨g, 0, none⟩)] w fun e w' => e = .returned (.bool (p.n != ps[0].n)) ∧ Below w.heap.size w w' := by
  obtain ⟨k, n, A1, c1, xs, f, m, b⟩ := p
  have bw : ∀ o : Obj, Below w.heap.size w (w.alloc o) := fun o => (Below.refl _ _).alloc (Nat.le_refl _) _
  simp only [PM.val, PM.cells]
  obtain ⟨a1, rfl, -, c1', -⟩ := (hr.below (bw (.cells #[.int .i64 k, .int .i64 n, .slice A1 xs.length c1, .int .i64 f, .int .i64 m, .int .i64 b] 65))).at_ (k := 0) h0
  have hglt := cell_lt hg
  have hg2 : (w.alloc (.cells #[.int .i64 k, .int .i64 n, .slice A1 xs.length c1, .int .i64 f, .int .i64 m, .int .i64 b] 65)).cell? ⟨g, 0, none⟩ = some (.slice (some a1) ps.length c) := ((bw _).cell (p := ⟨g, 0, none⟩) hglt).trans hg
  have Hb := hide bw
  have e0 : a1.add (0 * 6) = a1 := rfl
  rw [e0] at c1'
  clear e0
  have c1 := c1'
  generalize ps[0].n = n0 at *
  clear hr hg bw c1'
  have h0' : (0 : Int) < (ps.length : Int) := by omega
  go_enter Tryz.func43, Tryz.ntmps43
  go_wp2_with fail
  go_quiet (fail)
  go_wp2_with fail
  go_ret
  exact ⟨rfl, below_drewN (unhide Hb _) _⟩

def pnB (ps : List PM) (p : PM) : Bool := match ps with | [] => true | q :: _ => p.n == q.n
theorem pnB_eq {ps : List PM} (h0 : 0 < ps.length) (p : PM) : pnB ps p = (p.n == ps[0].n) := by
  match ps, h0 with
  | q :: _, _ => rfl
set_option maxHeartbeats 1600000 in
set_option maxRecDepth 100000 in
theorem ix_num (A : Option Addr) (c g : Nat) (ps : List PM) (w : World) (hr : PRow w A ps) (hl : ps.length ≤ 100000) (hg : w.cell? ⟨g, 0, none⟩ = some (.slice A ps.length c)) :
    Calls Tryz.prog 69 #[.slice A ps.length c, .func (.func 43) #[] #[.pointer (some ⟨g, 0, none⟩)]] w fun e w' => (∃ j : Int, e = .returned (.int .i64 j) ∧ -1 ≤ j ∧ decide (0 ≤ j) = !ps.all (pnB ps)) ∧ Below w.heap.size w w' := by
  go_enter Tryz.func69, Tryz.ntmps69
  go_wp2_with fail
  have hst : Hid ((ps.take 0).all (pnB ps) = true) := Lib.hid rfl
  have Hg := Lib.hid hg
  clear hg
  go_loopw [8] (fun x wr => ∃ k : Nat, k ≤ ps.length ∧ x = .int .i64 (k : Int) ∧ Hid ((ps.take k).all (pnB ps) = true) ∧ Below w.heap.size w wr) (fun x _ => ps.length - (intOf x).toNat)
  case atStart => exact ⟨0, Nat.zero_le _, rfl, hst, Below.refl _ _⟩
  case round =>
    obtain ⟨k, hk, rfl, ht, hb⟩ := hrel
    clear hst
    by_cases hlt : k < ps.length
    · have hr1 := hr.below hb
      have kN := kd_num ps[k] g A c ps (by omega) wr hr1 ((hb.cell (p := ⟨g, 0, none⟩) (cell_lt Hg.out)).trans Hg.out)
      obtain ⟨a1, rfl, c0, c1, c2, c3, c4, c5⟩ := hr1.at_ hlt
      have hpn := pnB_eq (ps := ps) (by omega) ps[k]
      simp only [PM.val, PM.cells] at kN
      cases hp : pnB ps ps[k] with
      | true =>
        have Hn := Lib.hid (pall_take ht.out hlt hp)
        have e1 : (ps[k].n != ps[0].n) = false := by rw [hpn] at hp; simp [bne, hp]
        rw [e1] at kN
        have kN := hide kN
        clear hp hpn e1
        generalize ps[k] = p at *
        go_wp2_with (go_at_call 43; refine (unhide kN).mono ?_; rintro e w2 ⟨rfl, hb2⟩)
        go_roundw
        case rel => exact ⟨k + 1, by omega, by go_num, Hn, hb.trans (hb2.mono hb.size)⟩
        case measure => simp [intOf]; omega
      | false =>
        have Hn := Lib.hid (pall_fail hlt hp)
        have e1 : (ps[k].n != ps[0].n) = true := by rw [hpn] at hp; simp [bne, hp]
        rw [e1] at kN
        have kN := hide kN
        clear hp hpn e1
        generalize ps[k] = p at *
        go_wp2_with (go_at_call 43; refine (unhide kN).mono ?_; rintro e w2 ⟨rfl, hb2⟩)
        go_ret
        exact ⟨⟨_, rfl, by omega, by rw [Hn.out, decide_eq_true (by omega)]; rfl⟩, hb.trans (hb2.mono hb.size)⟩
    · obtain rfl : k = ps.length := by omega
      have Hn := Lib.hid (show ps.all (pnB ps) = true by have := ht.out; rwa [List.take_length] at this)
      clear ht
      go_wp2
      go_ret
      exact ⟨⟨_, rfl, by omega, by rw [Hn.out]; rfl⟩, hb⟩
theorem cf_num (A : Option Addr) (c g : Nat) (ps : List PM) (w : World) (hr : PRow w A ps) (hl : ps.length ≤ 100000) (hg : w.cell? ⟨g, 0, none⟩ = some (.slice A ps.length c)) :
    Calls Tryz.prog 42 #[.slice A ps.length c, .func (.func 43) #[] #[.pointer (some ⟨g, 0, none⟩)]] w fun e w' => e = .returned (.bool (!ps.all (pnB ps))) ∧ Below w.heap.size w w' := by
  have kI := hide (ix_num A c g ps w hr hl hg)
  clear hr hg
  generalize (!ps.all (pnB ps)) = b at *
  go_enter Tryz.func42, Tryz.ntmps42
  go_wp2_with (go_at_call 69; refine (unhide kI).mono ?_; rintro e w2 ⟨⟨j, rfl, hj, hb⟩, hB⟩)
  go_ret
  exact ⟨rfl, hB⟩

theorem kd_eqk (p : PM) (k2 : Int) (w : World) : Calls Tryz.prog 45 #[p.val, .int .i64 k2] w fun e w' => e = .returned (.bool (p.k == k2)) ∧ Below w.heap.size w w' := by
  obtain ⟨k, n, A1, c1, xs, f, m, b⟩ := p
  have Hb := hide (fun o : Obj => (Below.refl w.heap.size w).alloc (Nat.le_refl _) o)
  simp only [PM.val, PM.cells]
  go_enter Tryz.func45, Tryz.ntmps45
  go_wp2_with fail
  go_ret
  exact ⟨rfl, unhide Hb _⟩
/-- The kinds of the maps are these. -/
def ksB (ps : List PM) (ks : List Int) : Bool := ps.map PM.k == ks
theorem ks_take {ps : List PM} {ks : List Int} {k : Nat} (h : (ps.take k).map PM.k = ks.take k) (h1 : k < ps.length) (h2 : k < ks.length) (he : ps[k].k = ks.getD k 0) : (ps.take (k + 1)).map PM.k = ks.take (k + 1) := by
  rw [List.take_succ_eq_append_getElem h1, List.take_succ_eq_append_getElem h2, List.map_append, h, ← getD_int h2, ← he]
  rfl
theorem ks_fail {ps : List PM} {ks : List Int} {k : Nat} (h1 : k < ps.length) (h2 : k < ks.length) (he : ¬ ps[k].k = ks.getD k 0) : ksB ps ks = false := by
  unfold ksB
  rw [beq_eq_false_iff_ne]
  intro e
  subst e
  apply he
  rw [getD_int h2, List.getElem_map]
theorem ks_len {ps : List PM} {ks : List Int} (h : ps.length ≠ ks.length) : ksB ps ks = false := by
  unfold ksB
  rw [beq_eq_false_iff_ne]
  intro e
  subst e
  simp at h
set_option maxHeartbeats 1600000 in
set_option maxRecDepth 100000 in
theorem sl_EqualFunc (A B : Option Addr) (c d : Nat) (ps : List PM) (ks : List Int) (w : World) (hr : PRow w A ps) (hk : Row w B ks) (hl : ps.length ≤ 100000) :
    Calls Tryz.prog 44 #[.slice A ps.length c, .slice B ks.length d, .func (.func 45) #[] #[]] w fun e w' => e = .returned (.bool (ksB ps ks)) ∧ Below w.heap.size w w' := by
  obtain ⟨R, hR⟩ : ∃ R, R = ksB ps ks := ⟨_, rfl⟩
  rw [← hR]
  by_cases hlen : ps.length = ks.length
  · have HR := Lib.hid hR
    have Hlen := Lib.hid hlen
    rw [← hlen]
    clear hR hlen
    have hst : Hid ((ps.take 0).map PM.k = ks.take 0) := Lib.hid (by simp)
    go_enter Tryz.func44, Tryz.ntmps44
    go_wp2_with fail
    go_loopw [17] (fun x wr => ∃ k : Nat, k ≤ ps.length ∧ x = .int .i64 (k : Int) ∧ Hid ((ps.take k).map PM.k = ks.take k) ∧ Below w.heap.size w wr) (fun x _ => ps.length - (intOf x).toNat)
    case atStart => exact ⟨0, Nat.zero_le _, rfl, hst, Below.refl _ _⟩
    case round =>
      obtain ⟨k, hk1, rfl, ht, hb⟩ := hrel
      clear hst
      by_cases hlt : k < ps.length
      · have hlt2 : k < ks.length := by have := Hlen.out; omega
        obtain ⟨a1, rfl, c0, c1, c2, c3, c4, c5⟩ := (hr.below hb).at_ hlt
        have ba : ∀ o : Obj, Below wr.heap.size wr (wr.alloc o) := fun o => (Below.refl _ _).alloc (Nat.le_refl _) _
        obtain ⟨b1, rfl, hd⟩ := (hk.below hb).at_ hlt2
        have hd2 : ∀ o : Obj, (wr.alloc o).cell? (b1.add k) = some (.int .i64 (ks.getD k 0)) := fun o => ((ba o).cell (addr_lt hd)).trans hd
        have Hba := hide ba
        have kN := hide (fun w => kd_eqk ps[k] (ks.getD k 0) w)
        cases he : (ps[k].k == ks.getD k 0) with
        | true =>
          have Hn := Lib.hid (ks_take ht.out hlt hlt2 (eq_of_beq he))
          rw [he] at kN
          simp only [PM.val, PM.cells] at kN
          clear he ht hd ba
          generalize ps[k] = p at *
          generalize ks.getD k 0 = y at *
          go_wp2_with (go_at_call 45; refine (unhide kN _).mono ?_; rintro e w2 ⟨rfl, hb2⟩)
          go_roundw
          case rel => exact ⟨k + 1, by omega, by go_num, Hn, hb.trans ((unhide Hba _).trans (hb2.mono (unhide Hba _).size) |>.mono hb.size)⟩
          case measure => simp [intOf]; omega
        | false =>
          have Hn := Lib.hid (ks_fail hlt hlt2 (fun e => by rw [e, beq_self_eq_true] at he; cases he))
          rw [he] at kN
          simp only [PM.val, PM.cells] at kN
          clear he ht hd ba
          generalize ps[k] = p at *
          generalize ks.getD k 0 = y at *
          go_wp2_with (go_at_call 45; refine (unhide kN _).mono ?_; rintro e w2 ⟨rfl, hb2⟩)
          go_ret
          exact ⟨ret_bool (by rw [HR.out, Hn.out]), hb.trans ((unhide Hba _).trans (hb2.mono (unhide Hba _).size) |>.mono hb.size)⟩
      · obtain rfl : k = ps.length := by omega
        have Hn : Hid (ksB ps ks = true) := Lib.hid (by
          have := ht.out
          rw [List.take_length, Hlen.out, List.take_length] at this
          unfold ksB
          rw [this, beq_self_eq_true])
        clear ht
        go_wp2
        go_ret
        exact ⟨ret_bool (by rw [HR.out, Hn.out]), hb⟩
  · rw [ks_len hlen] at hR
    subst hR
    have q : ((ps.length : Int) == (ks.length : Int)) = false := by rw [beq_eq_false_iff_ne]; omega
    have q2 : ((ps.length : Int) != (ks.length : Int)) = true := by rw [bne_iff_ne]; omega
    have q3 : ¬ (ps.length : Int) = (ks.length : Int) := by omega
    clear hr hk
    go_enter Tryz.func44, Tryz.ntmps44
    go_wp2_with fail
    go_ret
    exact ⟨rfl, Below.refl _ _⟩
end Go.Proofs.YtokcpammdhkecaaGreatDoor

/-
  partitionmap.Kind, whole.
-/
namespace Go.Proofs.YtokcpammdhkecaaGreatDoor
open Go.RowKit

/-- What Kind gives. -/
def pmK (ps : List PM) : Int :=
  if pmA ps = true ∧ ps.all (pnB ps) = true then
    (if ksB ps [0] = true then 0 else if ksB ps [0, 1] = true then 1 else if ksB ps [2] = true then 2 else if ksB ps [0, 3] = true then 3 else -1)
  else -1
/-- The step of a range changes no cell. -/
theorem It.cell {wr w2 : World} {b r : Nat} {es : Array MapEntry} {clock : Nat} {seen : Array Nat} (h : It wr b r es clock seen) (hg : wr.grownBy w2 (some r)) {ad : Addr} {v : Value} (hc : wr.cell? ad = some v) : w2.cell? ad = some v := by
  have hlt := addr_lt hc
  have hne : ad.block ≠ r := by
    intro e
    obtain ⟨c0, _, hi⟩ := h.it
    unfold World.cell? at hc
    rw [e, hi] at hc
    cases hc
  exact (World.cell?_of_block (hg.block ad.block hlt (fun q => hne (by injection q)))).trans hc
theorem Row.next {wr w2 : World} {b r : Nat} {es : Array MapEntry} {clock : Nat} {seen : Array Nat} {A : Option Addr} {xs : List Int} (h : Row wr A xs) (hi : It wr b r es clock seen) (hg : wr.grownBy w2 (some r)) : Row w2 A xs :=
  ⟨fun h0 => by
    obtain ⟨ad, e, hc⟩ := h.reads h0
    exact ⟨ad, e, fun j hj => hi.cell hg (hc j hj)⟩⟩
theorem PRow.next {wr w2 : World} {b r : Nat} {es : Array MapEntry} {clock : Nat} {seen : Array Nat} {A : Option Addr} {ps : List PM} (h : PRow wr A ps) (hi : It wr b r es clock seen) (hg : wr.grownBy w2 (some r)) : PRow w2 A ps :=
  ⟨fun h0 => by
    obtain ⟨ad, e, hc⟩ := h.reads h0
    exact ⟨ad, e, fun j hj i v hv => hi.cell hg (hc j hj i v hv)⟩, fun p hp => ⟨(h.wf p hp).row.next hi hg, (h.wf p hp).f, (h.wf p hp).m, (h.wf p hp).b⟩, h.len⟩
/-- In a world behind the call's own box and the map of kinds. -/
structure Kx (w wr : World) (A : Option Addr) (c : Nat) (ps : List PM) (g0 g1 g2 g3 : Nat) : Prop where
  low : Below w.heap.size w wr
  box : wr.cell? ⟨w.heap.size, 0, none⟩ = some (.slice A ps.length c)
  row : PRow wr A ps
  r0 : Row wr (some ⟨g0, 0, none⟩) [0]
  r1 : Row wr (some ⟨g1, 0, none⟩) [0, 1]
  r2 : Row wr (some ⟨g2, 0, none⟩) [2]
  r3 : Row wr (some ⟨g3, 0, none⟩) [0, 3]
theorem Kx.step {w wr w2 : World} {A : Option Addr} {c : Nat} {ps : List PM} {g0 g1 g2 g3 : Nat} (h : Kx w wr A c ps g0 g1 g2 g3) (hb : Below wr.heap.size wr w2) : Kx w w2 A c ps g0 g1 g2 g3 :=
  ⟨h.low.trans (hb.mono h.low.size), (hb.cell (addr_lt h.box)).trans h.box, h.row.below hb, h.r0.below hb, h.r1.below hb, h.r2.below hb, h.r3.below hb⟩
theorem Kx.next {w wr w2 : World} {A : Option Addr} {c : Nat} {ps : List PM} {B r g0 g1 g2 g3 : Nat} {seen : Array Nat} (h : Kx w wr A c ps g0 g1 g2 g3) (hi : It wr B r (kindsE g0 g1 g2 g3) 4 seen) (hr : w.heap.size ≤ r) (hg : wr.grownBy w2 (some r)) : Kx w w2 A c ps g0 g1 g2 g3 :=
  ⟨h.low.grown hg h.low.size (fun k hk => by injection hk with hk; omega), hi.cell hg h.box, h.row.next hi hg, h.r0.next hi hg, h.r1.next hi hg, h.r2.next hi hg, h.r3.next hi hg⟩
/-- What has come so far did not fit. -/
structure Kn (ps : List PM) (seen : Array Nat) : Prop where
  no0 : seen.contains 0 = true → ksB ps [0] = false
  no1 : seen.contains 1 = true → ksB ps [0, 1] = false
  no2 : seen.contains 2 = true → ksB ps [2] = false
  no3 : seen.contains 3 = true → ksB ps [0, 3] = false
theorem kd_old (g0 g1 g2 g3 : Nat) : ∀ x ∈ (kindsE g0 g1 g2 g3).toList, x.born < 4 := by
  intro x hx
  simp only [kindsE, List.mem_cons, List.not_mem_nil, or_false] at hx
  rcases hx with rfl | rfl | rfl | rfl
  · exact show 0 < 4 by decide
  · exact show 1 < 4 by decide
  · exact show 2 < 4 by decide
  · exact show 3 < 4 by decide
theorem kd_nodup (g0 g1 g2 g3 : Nat) : ((kindsE g0 g1 g2 g3).toList.map (·.born)).Nodup := by
  show [0, 1, 2, 3].Nodup
  decide
theorem kd_mem {g0 g1 g2 g3 : Nat} {e : MapEntry} (h : e ∈ (kindsE g0 g1 g2 g3).toList) :
    e = { key := .int .i64 0, val := .slice (some ⟨g0, 0, none⟩) 1 1, born := 0 } ∨ e = { key := .int .i64 1, val := .slice (some ⟨g1, 0, none⟩) 2 2, born := 1 } ∨
    e = { key := .int .i64 2, val := .slice (some ⟨g2, 0, none⟩) 1 1, born := 2 } ∨ e = { key := .int .i64 3, val := .slice (some ⟨g3, 0, none⟩) 2 2, born := 3 } := by
  simpa [kindsE] using h
theorem ks_only {ps : List PM} {a b : List Int} (h : ksB ps a = true) (hab : a ≠ b) : ksB ps b = false := by
  unfold ksB at h ⊢
  rw [beq_iff_eq] at h
  rw [beq_eq_false_iff_ne, h]
  exact hab
theorem pmK_0 {ps : List PM} (h : pmA ps = true ∧ ps.all (pnB ps) = true) (h0 : ksB ps [0] = true) : pmK ps = 0 := by
  unfold pmK; rw [if_pos h, if_pos h0]
theorem pmK_1 {ps : List PM} (h : pmA ps = true ∧ ps.all (pnB ps) = true) (h0 : ksB ps [0, 1] = true) : pmK ps = 1 := by
  unfold pmK; rw [if_pos h, if_neg (by rw [ks_only h0 (by decide)]; decide), if_pos h0]
theorem pmK_2 {ps : List PM} (h : pmA ps = true ∧ ps.all (pnB ps) = true) (h0 : ksB ps [2] = true) : pmK ps = 2 := by
  unfold pmK; rw [if_pos h, if_neg (by rw [ks_only h0 (by decide)]; decide), if_neg (by rw [ks_only h0 (by decide)]; decide), if_pos h0]
theorem pmK_3 {ps : List PM} (h : pmA ps = true ∧ ps.all (pnB ps) = true) (h0 : ksB ps [0, 3] = true) : pmK ps = 3 := by
  unfold pmK; rw [if_pos h, if_neg (by rw [ks_only h0 (by decide)]; decide), if_neg (by rw [ks_only h0 (by decide)]; decide), if_neg (by rw [ks_only h0 (by decide)]; decide), if_pos h0]
theorem pmK_no {ps : List PM} (h : ¬ (pmA ps = true ∧ ps.all (pnB ps) = true)) : pmK ps = -1 := by unfold pmK; rw [if_neg h]
theorem pmK_none {ps : List PM} (h0 : ksB ps [0] = false) (h1 : ksB ps [0, 1] = false) (h2 : ksB ps [2] = false) (h3 : ksB ps [0, 3] = false) : pmK ps = -1 := by
  unfold pmK
  rw [h0, h1, h2, h3]
  split <;> rfl
theorem seen_no {p : Prop} {seen : Array Nat} {i j : Nat} (h : seen.contains i = true → p) (hj : i = j → p) : (seen.push j).contains i = true → p := by
  intro hc
  by_cases e : i = j
  · exact hj e
  · refine h ?_
    rw [← hc]
    simp
    intro q
    exact absurd q e
theorem Kn.next {ps : List PM} {seen : Array Nat} (h : Kn ps seen) (j : Nat) (n0 : 0 = j → ksB ps [0] = false) (n1 : 1 = j → ksB ps [0, 1] = false) (n2 : 2 = j → ksB ps [2] = false) (n3 : 3 = j → ksB ps [0, 3] = false) : Kn ps (seen.push j) :=
  ⟨seen_no h.no0 n0, seen_no h.no1 n1, seen_no h.no2 n2, seen_no h.no3 n3⟩
theorem kn_none {ps : List PM} {seen : Array Nat} {g0 g1 g2 g3 : Nat} (h : Kn ps seen) (hall : ∀ x ∈ (kindsE g0 g1 g2 g3).toList, seen.contains x.born = true) : pmK ps = -1 :=
  pmK_none (h.no0 (hall { key := .int .i64 0, val := .slice (some ⟨g0, 0, none⟩) 1 1, born := 0 } (by simp [kindsE]))) (h.no1 (hall { key := .int .i64 1, val := .slice (some ⟨g1, 0, none⟩) 2 2, born := 1 } (by simp [kindsE])))
    (h.no2 (hall { key := .int .i64 2, val := .slice (some ⟨g2, 0, none⟩) 1 1, born := 2 } (by simp [kindsE]))) (h.no3 (hall { key := .int .i64 3, val := .slice (some ⟨g3, 0, none⟩) 2 2, born := 3 } (by simp [kindsE])))
set_option maxHeartbeats 3200000 in
set_option maxRecDepth 100000 in
theorem pm_Kind (A : Option Addr) (c : Nat) (ps : List PM) (w : World) (hr : PRow w A ps) (hl : ps.length ≤ 9223372036854775807) :
    Calls Tryz.prog 23 #[.slice A ps.length c] w fun e w' => e = .returned (.int .i64 (pmK ps)) ∧ Below w.heap.size w w' := by
  obtain ⟨R, hR⟩ : ∃ R, R = pmK ps := ⟨_, rfl⟩
  rw [← hR]
  have hB0 : Below w.heap.size w (w.alloc (.cells #[.slice A ps.length c] 22)) := (Below.refl _ _).alloc (Nat.le_refl _) _
  have kA := pm_all A c ps _ (hr.below hB0) hl
  have hbx : (w.alloc (.cells #[.slice A ps.length c] 22)).cell? ⟨w.heap.size, 0, none⟩ = some (.slice A ps.length c) := by simp
  have hlt0 : w.heap.size < (w.alloc (.cells #[.slice A ps.length c] 22)).heap.size := by simp
  cases ha : pmA ps with
  | false =>
    have HR := Lib.hid (hR.trans (pmK_no (fun h => by rw [ha] at h; cases h.1)))
    rw [ha] at kA
    have kA := hide kA
    have HB0 := hide hB0
    clear hR ha hr hB0 hbx hlt0
    go_enter Tryz.func23, Tryz.ntmps23
    go_wp2_with (go_at_call 33; refine (unhide kA).mono ?_; rintro e w2 ⟨rfl, hb2⟩)
    go_ret
    exact ⟨ret_int HR.out.symm, (unhide HB0).trans (hb2.mono (unhide HB0).size)⟩
  | true =>
    rw [ha] at kA
    have kA := hide kA
    have h4 : ps.length ≤ 4 := by
      unfold pmA at ha
      rw [Bool.and_eq_true, decide_eq_true_eq] at ha
      exact ha.1
    have kC := fun (w2 : World) (hb2 : Below _ (w.alloc (.cells #[.slice A ps.length c] 22)) w2) => cf_num A c w.heap.size ps w2 ((hr.below hB0).below hb2) (by omega) ((hb2.cell (p := ⟨w.heap.size, 0, none⟩) hlt0).trans hbx)
    cases hn : ps.all (pnB ps) with
    | false =>
      have HR := Lib.hid (hR.trans (pmK_no (fun h => by rw [hn] at h; cases h.2)))
      rw [hn] at kC
      have kC := hide kC
      have HB0 := hide hB0
      clear hR ha hn hr hB0 hbx hlt0
      go_enter Tryz.func23, Tryz.ntmps23
      go_wp2_with (first
        | (go_at_call 33; refine (unhide kA).mono ?_; rintro e w2 ⟨rfl, hb2⟩; have x0 : w2.cell? ⟨w.heap.size, 0, none⟩ = some (.slice A ps.length c) := ((bcell hb2).1 w.heap.size 0 (by simp)).trans (by simp))
        | (go_at_call 42; refine (unhide kC _ hb2).mono ?_; rintro e w3 ⟨rfl, hb3⟩))
      go_ret
      exact ⟨ret_int HR.out.symm, ((unhide HB0).trans (hb2.mono (unhide HB0).size)).trans (hb3.mono (((unhide HB0).trans (hb2.mono (unhide HB0).size))).size)⟩
    | true =>
      rw [hn] at kC
      have kC := hide kC
      have HB0 := hide hB0
      have HA := Lib.hid (show pmA ps = true ∧ ps.all (pnB ps) = true from ⟨ha, hn⟩)
      have HR := Lib.hid hR
      have Hr := hide (hr.below hB0)
      clear hR ha hn hB0 hbx hlt0 hr
      go_enter Tryz.func23, Tryz.ntmps23
      go_wp2_with (first
        | (go_at_call 33; refine (unhide kA).mono ?_; rintro e w2 ⟨rfl, hb2⟩; have x0 : w2.cell? ⟨w.heap.size, 0, none⟩ = some (.slice A ps.length c) := ((bcell hb2).1 w.heap.size 0 (by simp)).trans (by simp))
        | (go_at_call 42; refine (unhide kC _ hb2).mono ?_; rintro e w3 ⟨rfl, hb3⟩; have HB3 := hide (((unhide HB0).trans (hb2.mono (unhide HB0).size)).trans (hb3.mono (((unhide HB0).trans (hb2.mono (unhide HB0).size))).size)); have x3 : w3.cell? ⟨w.heap.size, 0, none⟩ = some (.slice A ps.length c) := (hb3.cell (addr_lt x0)).trans x0; have Hr3 := hide (((unhide Hr).below hb2).below hb3))
        | (go_at_call 40; refine (pm_kinds _).mono ?_; rintro e w4 ⟨B, g0, g1, g2, g3, rfl, hK, hb4⟩; have X4 : Kx w w4 A c ps g0 g1 g2 g3 := ⟨(unhide HB3).trans (hb4.mono (unhide HB3).size), (hb4.cell (addr_lt x3)).trans x3, (unhide Hr3).below hb4, hK.r0, hK.r1, hK.r2, hK.r3⟩)
        | (at_range; refine wpList_range_it _ rfl 73 (.tmp 13) rfl 3 25 Tryz.underlying73 B rfl (kindsE g0 g1 g2 g3) 4 hK.map ?_; intro w5 hIt0 hb5 hlt5; have X5 := X4.step hb5; have hrr := X4.low.size))
      clear x0 x3 hb2 hb3 hb4 hb5 hK X4 hlt5 HB3 Hr3 kA kC Hr HB0
      generalize w4.heap.size = r at *
      have Hn0 : Hid (Kn ps #[]) := Lib.hid ⟨fun h => by simp at h, fun h => by simp at h, fun h => by simp at h, fun h => by simp at h⟩
      go_frame
      go_loopw [15] (fun _ wr => ∃ seen, It wr B r (kindsE g0 g1 g2 g3) 4 seen ∧ Kx w wr A c ps g0 g1 g2 g3 ∧ Hid (Kn ps seen)) (fun _ wr => wr.rangeLeft B r)
      case atStart => exact ⟨#[], hIt0, X5, Hn0⟩
      case round =>
        obtain ⟨seen, hIt, hX, hN⟩ := hrel
        clear hIt0 X5 Hn0
        obtain ⟨q0, hq0⟩ : ∃ q, q = ksB ps [0] := ⟨_, rfl⟩
        obtain ⟨q1, hq1⟩ : ∃ q, q = ksB ps [0, 1] := ⟨_, rfl⟩
        obtain ⟨q2, hq2⟩ : ∃ q, q = ksB ps [2] := ⟨_, rfl⟩
        obtain ⟨q3, hq3⟩ : ∃ q, q = ksB ps [0, 3] := ⟨_, rfl⟩
        have Q0 := Lib.hid hq0
        have Q1 := Lib.hid hq1
        have Q2 := Lib.hid hq2
        have Q3 := Lib.hid hq3
        have kE0 : Hid (∀ w', Kx w w' A c ps g0 g1 g2 g3 → Calls Tryz.prog 44 #[.slice A ps.length c, .slice (some ⟨g0, 0, none⟩) 1 1, .func (.func 45) #[] #[]] w' fun e w'' => e = .returned (.bool q0) ∧ Below w'.heap.size w' w'') := fun w' h => by rw [hq0]; exact sl_EqualFunc A (some ⟨g0, 0, none⟩) c 1 ps [0] w' h.row h.r0 (by omega)
        have kE1 : Hid (∀ w', Kx w w' A c ps g0 g1 g2 g3 → Calls Tryz.prog 44 #[.slice A ps.length c, .slice (some ⟨g1, 0, none⟩) 2 2, .func (.func 45) #[] #[]] w' fun e w'' => e = .returned (.bool q1) ∧ Below w'.heap.size w' w'') := fun w' h => by rw [hq1]; exact sl_EqualFunc A (some ⟨g1, 0, none⟩) c 2 ps [0, 1] w' h.row h.r1 (by omega)
        have kE2 : Hid (∀ w', Kx w w' A c ps g0 g1 g2 g3 → Calls Tryz.prog 44 #[.slice A ps.length c, .slice (some ⟨g2, 0, none⟩) 1 1, .func (.func 45) #[] #[]] w' fun e w'' => e = .returned (.bool q2) ∧ Below w'.heap.size w' w'') := fun w' h => by rw [hq2]; exact sl_EqualFunc A (some ⟨g2, 0, none⟩) c 1 ps [2] w' h.row h.r2 (by omega)
        have kE3 : Hid (∀ w', Kx w w' A c ps g0 g1 g2 g3 → Calls Tryz.prog 44 #[.slice A ps.length c, .slice (some ⟨g3, 0, none⟩) 2 2, .func (.func 45) #[] #[]] w' fun e w'' => e = .returned (.bool q3) ∧ Below w'.heap.size w' w'') := fun w' h => by rw [hq3]; exact sl_EqualFunc A (some ⟨g3, 0, none⟩) c 2 ps [0, 3] w' h.row h.r3 (by omega)
        clear hq0 hq1 hq2 hq3
        go_wp2_with (first
          | (at_next; refine wpList_next_it _ rfl (.tmp 14) rfl B r rfl (kindsE g0 g1 g2 g3) 4 seen hIt (kd_old _ _ _ _) (kd_nodup _ _ _ _) ?_ ?_; (all_goals first | (intro e w2 he hs hIt2 hlt2 hg2 hsz2 hen; have X2 := hX.next hIt hrr hg2; have x2 := X2.box; rcases kd_mem he with rfl | rfl | rfl | rfl) | (intro hall; have Hall := hide hall; clear hall)))
          | (go_at_call 44; (first | (with_reducible refine (unhide kE0 _ X2).mono ?_) | (with_reducible refine (unhide kE1 _ X2).mono ?_) | (with_reducible refine (unhide kE2 _ X2).mono ?_) | (with_reducible refine (unhide kE3 _ X2).mono ?_)); rintro e w3 ⟨rfl, hb3⟩))
        · go_ret
          exact ⟨ret_int (by rw [HR.out]; exact (kn_none hN.out (unhide Hall)).symm), hX.low⟩
        · have hq := Lib.hid ‹q0 = true›
          go_ret
          exact ⟨ret_int (by rw [HR.out, pmK_0 HA.out (Q0.out.symm.trans hq.out)]), X2.low.trans (hb3.mono X2.low.size)⟩
        · have hq := ‹q0 = false›
          refine ⟨⟨_, hIt2.below hb3, X2.step hb3, Lib.hid (hN.out.next 0 (fun _ => Q0.out.symm.trans hq) (fun e => absurd e (by decide)) (fun e => absurd e (by decide)) (fun e => absurd e (by decide)))⟩, ?_⟩
          rw [(hIt2.below hb3).left_eq, ← hIt2.left_eq]
          exact hlt2
        · have hq := Lib.hid ‹q1 = true›
          go_ret
          exact ⟨ret_int (by rw [HR.out, pmK_1 HA.out (Q1.out.symm.trans hq.out)]), X2.low.trans (hb3.mono X2.low.size)⟩
        · have hq := ‹q1 = false›
          refine ⟨⟨_, hIt2.below hb3, X2.step hb3, Lib.hid (hN.out.next 1 (fun e => absurd e (by decide)) (fun _ => Q1.out.symm.trans hq) (fun e => absurd e (by decide)) (fun e => absurd e (by decide)))⟩, ?_⟩
          rw [(hIt2.below hb3).left_eq, ← hIt2.left_eq]
          exact hlt2
        · have hq := Lib.hid ‹q2 = true›
          go_ret
          exact ⟨ret_int (by rw [HR.out, pmK_2 HA.out (Q2.out.symm.trans hq.out)]), X2.low.trans (hb3.mono X2.low.size)⟩
        · have hq := ‹q2 = false›
          refine ⟨⟨_, hIt2.below hb3, X2.step hb3, Lib.hid (hN.out.next 2 (fun e => absurd e (by decide)) (fun e => absurd e (by decide)) (fun _ => Q2.out.symm.trans hq) (fun e => absurd e (by decide)))⟩, ?_⟩
          rw [(hIt2.below hb3).left_eq, ← hIt2.left_eq]
          exact hlt2
        · have hq := Lib.hid ‹q3 = true›
          go_ret
          exact ⟨ret_int (by rw [HR.out, pmK_3 HA.out (Q3.out.symm.trans hq.out)]), X2.low.trans (hb3.mono X2.low.size)⟩
        · have hq := ‹q3 = false›
          refine ⟨⟨_, hIt2.below hb3, X2.step hb3, Lib.hid (hN.out.next 3 (fun e => absurd e (by decide)) (fun e => absurd e (by decide)) (fun e => absurd e (by decide)) (fun _ => Q3.out.symm.trans hq))⟩, ?_⟩
          rw [(hIt2.below hb3).left_eq, ← hIt2.left_eq]
          exact hlt2
end Go.Proofs.YtokcpammdhkecaaGreatDoor

/-
  masterdisclaw37.awake returns true.
-/
namespace Go.Proofs.YtokcpammdhkecaaGreatDoor
open Go.RowKit

/-- A mapping's block, in a world behind the call's start. -/
structure Ay (w wr : World) (g : Nat) (C : Array Value) (A : Option Addr) (ps : List PM) : Prop where
  low : Below w.heap.size w wr
  bx : wr.heap[g]? = some (.cells C 29)
  row : PRow wr A ps
theorem heap_lt {w : World} {g : Nat} {o : Obj} (h : w.heap[g]? = some o) : g < w.heap.size := by
  rcases Nat.lt_or_ge g w.heap.size with hl | hg
  · exact hl
  · rw [Array.getElem?_eq_none hg] at h; cases h
theorem Ay.step {w wr w2 : World} {g : Nat} {C : Array Value} {A : Option Addr} {ps : List PM} (h : Ay w wr g C A ps) (hb : Below wr.heap.size wr w2) : Ay w w2 g C A ps :=
  ⟨h.low.trans (hb.mono h.low.size), (hb.block g (heap_lt h.bx)).trans h.bx, h.row.below hb⟩
theorem ay_start {w w1 : World} (low : Below w.heap.size w w1) (o : Obj) (C : Array Value) {A : Option Addr} {ps : List PM} (h : PRow w1 A ps) : Ay w ((w1.alloc o).alloc (.cells C 29)) (w1.heap.size + 1) C A ps ∧ Below w1.heap.size w1 ((w1.alloc o).alloc (.cells C 29)) := by
  have b2 : Below w1.heap.size w1 ((w1.alloc o).alloc (.cells C 29)) := ((Below.refl _ _).alloc (Nat.le_refl _) _).alloc (by simp) _
  refine ⟨⟨low.trans (b2.mono low.size), ?_, h.below b2⟩, b2⟩
  have := heap_new (w1.alloc o) (.cells C 29)
  simpa using this
theorem srow_one (w : World) (a b : Int) (t : TypeId) : SRow (w.alloc (.cells #[.int .i64 a, .int .i64 b] t)) (some ⟨w.heap.size, 0, none⟩) [(a, b)] :=
  ⟨fun _ => ⟨_, rfl, fun j hj => by
    match j, hj with
    | 0, _ => exact ⟨by simp [Addr.add], by simp [Addr.add]⟩⟩⟩
def awS : ByteArray := encS [⟨2, 0, none, 0, [66, 67], 0, 0, 0⟩]
theorem aw_v (A : Option Addr) (c : Nat) : pmA [⟨2, 0, A, c, [66, 67], 0, 0, 0⟩] = true := rfl
theorem aw_s (A : Option Addr) (c : Nat) : encS [⟨2, 0, A, c, [66, 67], 0, 0, 0⟩] = awS := by
  unfold awS encS
  rw [if_pos (aw_v A c), if_pos (aw_v none 0)]
  rfl
theorem aw_e (A : Option Addr) (c : Nat) : encE [⟨2, 0, A, c, [66, 67], 0, 0, 0⟩] = 0 := by unfold encE; rw [if_pos (aw_v A c)]
theorem aw_z : awS.size = 64 := by
  unfold awS encS
  rw [if_pos (aw_v none 0)]
  have := pmB_size (p := ⟨2, 0, none, 0, [66, 67], 0, 0, 0⟩) rfl
  show (ByteArray.size (⟨#[]⟩ ++ pmB _)) = 64
  rw [ByteArray.size_append, this]
  rfl
theorem aw_dE : dcsE awS 1 = 0 := by kernel_rfl
theorem aw_dM : (dcsM awS 1).map DR.what = [(2, 0, [66, 67], 0, 0, 0)] := by kernel_rfl
theorem aw_k (A : Option Addr) (c : Nat) : pmK [⟨2, 0, A, c, [66, 67], 0, 0, 0⟩] = 2 := by
  refine pmK_2 ⟨aw_v A c, rfl⟩ rfl
theorem aw_k0 : pmK [] = -1 := by kernel_rfl
theorem aw_1 : phV 257 100 5 = 262 ∧ phE 100 5 = 0 := by decide
theorem aw_2 : viV 257 100 [7, 4294967295] 0 = 264 ∧ viE 100 [7, 4294967295] 0 = 0 := by decide
theorem aw_3 : viV 257 100 [7, 4294967295] 1 = 0 ∧ viE 100 [7, 4294967295] 1 = 6 := by decide
theorem aw_4 : spV 257 100 [(8, 600)] 11 = 603 ∧ phE 100 11 = 0 := by decide
theorem aw_5 : spV 257 100 [(8, 600)] 16 = 273 ∧ phE 100 16 = 0 := by decide
theorem aw_sm : Sm 257 := ⟨by decide, by decide⟩

set_option maxHeartbeats 6400000 in
set_option maxRecDepth 100000 in
theorem awake37 (w : World) (mx : Int) (hm : w.cell? ⟨0, 0, none⟩ = some (.int .i64 mx)) : Calls Tryz.prog 9 #[] w fun e w' => e = .returned (.bool true) ∧ Below w.heap.size w w' := by
  have kD : Hid (∀ w', Below w.heap.size w w' → Calls Tryz.prog 19 #[.string awS, .int .i64 1] w' fun e w'' => DcsIs 0 (dcsM awS 1) w' w'' e) := fun w' hb => by
    have := pm_Decode awS 1 mx w' (by rw [aw_z]; decide) ((hb.cell (p := ⟨_, _, _⟩) (cell_lt hm)).trans hm)
    rwa [aw_dE] at this
  have HdM := Lib.hid aw_dM
  generalize dcsM awS 1 = dM at *
  have kS : Hid (∀ (A3 : Option Addr) (c3 : Nat) (A4 : Option Addr) (c4 : Nat) w', PRow w' A3 [⟨2, 0, A4, c4, [66, 67], 0, 0, 0⟩] → Calls Tryz.prog 17 #[.slice A3 1 c3] w' fun e w'' => e = .returned (.tuple #[.string awS, .int .i64 0]) ∧ Below w'.heap.size w' w'') := fun A3 c3 A4 c4 w' h => by
    have := pm_Encode A3 c3 _ w' h (show 1 ≤ 9223372036854775807 by decide)
    rw [aw_s, aw_e] at this
    exact this
  have kK : Hid (∀ (A3 : Option Addr) (c3 : Nat) (A4 : Option Addr) (c4 : Nat) w', PRow w' A3 [⟨2, 0, A4, c4, [66, 67], 0, 0, 0⟩] → Calls Tryz.prog 23 #[.slice A3 1 c3] w' fun e w'' => e = .returned (.int .i64 2) ∧ Below w'.heap.size w' w'') := fun A3 c3 A4 c4 w' h => by
    have := pm_Kind A3 c3 _ w' h (show 1 ≤ 9223372036854775807 by decide)
    rw [aw_k] at this
    exact this
  have kN : Hid (∀ w', Calls Tryz.prog 23 #[.slice none 0 0] w' fun e w'' => e = .returned (.int .i64 (-1)) ∧ Below w'.heap.size w' w'') := fun w' => by
    have := pm_Kind none 0 [] w' ⟨fun h => absurd h (by simp), by simp, by simp⟩ (by decide)
    rw [aw_k0] at this
    exact this
  have hz := aw_z
  have q64 : ((awS.size : Int) == 64) = true := by rw [hz]; rfl
  clear hz hm
  generalize awS = S at *
  have kT1 : Hid (∀ (A1 : Option Addr) (c1 : Nat) (v : Option Addr) w', PRow w' A1 [⟨0, 0, none, 0, [], 0, 0, 0⟩, ⟨1, 0, none, 0, [], 0, 0, 0⟩] → Calls Tryz.prog 12 #[.agg #[.slice A1 2 c1, .int .i64 257, .int .i64 100, .slice v 2 2, .slice none 0 0, .slice none 0 0, .slice none 0 0], .agg #[.int .i64 5, .int .i64 0]] w' fun e w'' => e = .returned (.tuple #[.int .i64 262, .int .i64 0]) ∧ Below w'.heap.size w' w'') := fun A1 c1 v w' h => by
    have := pm_Translate_0 A1 c1 _ 257 100 v 2 2 none 0 0 none 0 0 none 0 0 5 0 w' aw_sm (by decide) h (by decide) rfl
    rw [aw_1.1, aw_1.2] at this
    exact this
  have kT2 : Hid (∀ (A1 : Option Addr) (c1 : Nat) (v : Option Addr) w', PRow w' A1 [⟨0, 0, none, 0, [], 0, 0, 0⟩, ⟨1, 0, none, 0, [], 0, 0, 0⟩] → Row w' v [7, 4294967295] → Calls Tryz.prog 12 #[.agg #[.slice A1 2 c1, .int .i64 257, .int .i64 100, .slice v 2 2, .slice none 0 0, .slice none 0 0, .slice none 0 0], .agg #[.int .i64 0, .int .i64 1]] w' fun e w'' => e = .returned (.tuple #[.int .i64 264, .int .i64 0]) ∧ Below w'.heap.size w' w'') := fun A1 c1 v w' h hv => by
    have := pm_Translate_1 A1 c1 _ 257 100 v 2 [7, 4294967295] none 0 0 none 0 0 none 0 0 0 1 w' aw_sm (by decide) h (by decide) rfl hv
    rw [aw_2.1, aw_2.2] at this
    exact this
  have kT3 : Hid (∀ (A1 : Option Addr) (c1 : Nat) (v : Option Addr) w', PRow w' A1 [⟨0, 0, none, 0, [], 0, 0, 0⟩, ⟨1, 0, none, 0, [], 0, 0, 0⟩] → Row w' v [7, 4294967295] → Calls Tryz.prog 12 #[.agg #[.slice A1 2 c1, .int .i64 257, .int .i64 100, .slice v 2 2, .slice none 0 0, .slice none 0 0, .slice none 0 0], .agg #[.int .i64 1, .int .i64 1]] w' fun e w'' => e = .returned (.tuple #[.int .i64 0, .int .i64 6]) ∧ Below w'.heap.size w' w'') := fun A1 c1 v w' h hv => by
    have := pm_Translate_1 A1 c1 _ 257 100 v 2 [7, 4294967295] none 0 0 none 0 0 none 0 0 1 1 w' aw_sm (by decide) h (by decide) rfl hv
    rw [aw_3.1, aw_3.2] at this
    exact this
  have kT4 : Hid (∀ (A3 : Option Addr) (c3 : Nat) (A4 : Option Addr) (c4 : Nat) (v : Option Addr) w', PRow w' A3 [⟨2, 0, A4, c4, [66, 67], 0, 0, 0⟩] → SRow w' v [(8, 600)] → Calls Tryz.prog 12 #[.agg #[.slice A3 1 c3, .int .i64 257, .int .i64 100, .slice none 0 0, .slice v 1 1, .slice none 0 0, .slice none 0 0], .agg #[.int .i64 11, .int .i64 0]] w' fun e w'' => e = .returned (.tuple #[.int .i64 603, .int .i64 0]) ∧ Below w'.heap.size w' w'') := fun A3 c3 A4 c4 v w' h hv => by
    have := pm_Translate_2 A3 c3 _ 257 100 none 0 0 v 1 [(8, 600)] none 0 0 none 0 0 11 0 w' aw_sm (by decide) h (show 0 < 1 by decide) rfl hv (by intro s hs; rw [List.mem_singleton] at hs; subst hs; exact ⟨by decide, by decide⟩) (by decide)
    rw [aw_4.1, aw_4.2] at this
    exact this
  have kT5 : Hid (∀ (A3 : Option Addr) (c3 : Nat) (A4 : Option Addr) (c4 : Nat) (v : Option Addr) w', PRow w' A3 [⟨2, 0, A4, c4, [66, 67], 0, 0, 0⟩] → SRow w' v [(8, 600)] → Calls Tryz.prog 12 #[.agg #[.slice A3 1 c3, .int .i64 257, .int .i64 100, .slice none 0 0, .slice v 1 1, .slice none 0 0, .slice none 0 0], .agg #[.int .i64 16, .int .i64 0]] w' fun e w'' => e = .returned (.tuple #[.int .i64 273, .int .i64 0]) ∧ Below w'.heap.size w' w'') := fun A3 c3 A4 c4 v w' h hv => by
    have := pm_Translate_2 A3 c3 _ 257 100 none 0 0 v 1 [(8, 600)] none 0 0 none 0 0 16 0 w' aw_sm (by decide) h (show 0 < 1 by decide) rfl hv (by intro s hs; rw [List.mem_singleton] at hs; subst hs; exact ⟨by decide, by decide⟩) (by decide)
    rw [aw_5.1, aw_5.2] at this
    exact this
  go_enter Tryz.func9, Tryz.ntmps9
  go_wp2_with fail
  refine (pm_Maps_1 none 0 [] 0 0 0 _).mono ?_
  rintro e w1 ⟨A1, c1, rfl, hP1, -, hb1⟩
  go_wp2_with fail
  obtain ⟨Y2, hB2⟩ := ay_start hb1 (.cells #[.int .i64 7, .int .i64 4294967295] 3) #[.slice A1 2 c1, .int .i64 257, .int .i64 100, .slice (some ⟨w1.heap.size, 0, none⟩) 2 2, .slice none 0 0, .slice none 0 0, .slice none 0 0] hP1
  have V2 := (row_two w1 7 4294967295 3).below (((Below.refl _ _).alloc (Nat.le_refl _) (.cells #[.slice A1 2 c1, .int .i64 257, .int .i64 100, .slice (some ⟨w1.heap.size, 0, none⟩) 2 2, .slice none 0 0, .slice none 0 0, .slice none 0 0] 29)))
  generalize (w1.alloc _).alloc _ = w2 at *
  clear hP1 hb1
  refine (unhide kT1 A1 c1 _ w2 Y2.row).mono ?_
  rintro e w3 ⟨rfl, hb3⟩
  have Y3 := Y2.step hb3
  have V3 := V2.below hb3
  clear Y2 V2 hB2 hb3
  have m0 := cell_block Y3.bx 0 _ rfl
  have m1 := cell_block Y3.bx 1 _ rfl
  have m2 := cell_block Y3.bx 2 _ rfl
  have m3 := cell_block Y3.bx 3 _ rfl
  have m4 := cell_block Y3.bx 4 _ rfl
  have m5 := cell_block Y3.bx 5 _ rfl
  have m6 := cell_block Y3.bx 6 _ rfl
  go_wp2_with fail
  refine (unhide kT2 A1 c1 _ w3 Y3.row V3).mono ?_
  rintro e w4 ⟨rfl, hb4⟩
  have Y4 := Y3.step hb4
  have V4 := V3.below hb4
  clear Y3 V3 hb4 m0 m1 m2 m3 m4 m5 m6
  have m0 := cell_block Y4.bx 0 _ rfl
  have m1 := cell_block Y4.bx 1 _ rfl
  have m2 := cell_block Y4.bx 2 _ rfl
  have m3 := cell_block Y4.bx 3 _ rfl
  have m4 := cell_block Y4.bx 4 _ rfl
  have m5 := cell_block Y4.bx 5 _ rfl
  have m6 := cell_block Y4.bx 6 _ rfl
  go_wp2_with fail
  refine (unhide kT3 A1 c1 _ w4 Y4.row V4).mono ?_
  rintro e w5 ⟨rfl, hb5⟩
  have L5 := (Y4.step hb5).low
  clear Y4 V4 hb5 m0 m1 m2 m3 m4 m5 m6
  go_wp2_with fail
  have L5a := L5.alloc L5.size (.cells #[.int .i64 66, .int .i64 67] 3)
  refine (pm_Maps_2 (some ⟨w5.heap.size, 0, none⟩) 2 [66, 67] 0 0 0 _ (row_two w5 66 67 3) (by decide) (fun h => by cases h) (by decide)).mono ?_
  rintro e w6 ⟨A3, c3, A4, c4, rfl, hP6, -, hb6⟩
  have L6 := L5a.trans (hb6.mono L5a.size)
  clear hb6 L5a L5
  go_wp2_with fail
  obtain ⟨Y7, hB7⟩ := ay_start L6 (.cells #[.int .i64 8, .int .i64 600] 57) #[.slice A3 1 c3, .int .i64 257, .int .i64 100, .slice none 0 0, .slice (some ⟨w6.heap.size, 0, none⟩) 1 1, .slice none 0 0, .slice none 0 0] hP6
  have V7 := (srow_one w6 8 600 57).below (((Below.refl _ _).alloc (Nat.le_refl _) (.cells #[.slice A3 1 c3, .int .i64 257, .int .i64 100, .slice none 0 0, .slice (some ⟨w6.heap.size, 0, none⟩) 1 1, .slice none 0 0, .slice none 0 0] 29)))
  generalize (w6.alloc _).alloc _ = w7 at *
  clear hP6 L6
  refine (unhide kT4 A3 c3 A4 c4 _ w7 Y7.row V7).mono ?_
  rintro e w8 ⟨rfl, hb8⟩
  have Y8 := Y7.step hb8
  have V8 := V7.below hb8
  clear Y7 V7 hB7 hb8
  have m0 := cell_block Y8.bx 0 _ rfl
  have m1 := cell_block Y8.bx 1 _ rfl
  have m2 := cell_block Y8.bx 2 _ rfl
  have m3 := cell_block Y8.bx 3 _ rfl
  have m4 := cell_block Y8.bx 4 _ rfl
  have m5 := cell_block Y8.bx 5 _ rfl
  have m6 := cell_block Y8.bx 6 _ rfl
  go_wp2_with fail
  refine (unhide kT5 A3 c3 A4 c4 _ w8 Y8.row V8).mono ?_
  rintro e w9 ⟨rfl, hb9⟩
  have Y9 := Y8.step hb9
  clear Y8 V8 hb9 m0 m1 m2 m3 m4 m5 m6
  have m0 := cell_block Y9.bx 0 _ rfl
  go_wp2_with fail
  refine (unhide kS A3 c3 A4 c4 w9 Y9.row).mono ?_
  rintro e w10 ⟨rfl, hb10⟩
  have Y10 := Y9.step hb10
  clear Y9 hb10 m0
  go_wp2_with fail
  refine (unhide kD w10 Y10.low).mono ?_
  rintro e w11 ⟨A5, c5, qs, rfl, hP11, hq, hql, hb11⟩
  have Y11 := Y10.step hb11
  have kQ := hide (fun w' (h1 : PRow w' A5 qs) (h2 : PRow w' A3 [⟨2, 0, A4, c4, [66, 67], 0, 0, 0⟩]) => rf_SameMaps A5 A3 c5 c3 qs [⟨2, 0, A4, c4, [66, 67], 0, 0, 0⟩] w' h1 h2 (by rw [hq, HdM.out]; rfl) (by omega))
  have m0 := cell_block Y11.bx 0 _ rfl
  clear Y10 hb11 hq
  go_wp2_with fail
  refine (unhide kQ w11 hP11 Y11.row).mono ?_
  rintro e w12 ⟨rfl, hd12⟩
  have Y12 := Y11.step hd12.below
  have HP12 := hide hP11
  clear Y11 hd12 m0 hP11
  have m0 := cell_block Y12.bx 0 _ rfl
  go_wp2_with fail
  refine (unhide kK A3 c3 A4 c4 w12 Y12.row).mono ?_
  rintro e w13 ⟨rfl, hb13⟩
  have L13 := (Y12.step hb13).low
  clear Y12 hb13 m0
  go_wp2_with fail
  refine (unhide kN w13).mono ?_
  rintro e w14 ⟨rfl, hb14⟩
  go_wp2_with fail
  go_ret
  exact ⟨rfl, L13.trans (hb14.mono L13.size)⟩
end Go.Proofs.YtokcpammdhkecaaGreatDoor
