/-
  Texts of this claim, joined in one file: each begins with its own sentence.
-/
import Derived.Test.YtokcpammdhkecaaGreatDoorGc
/-
  The translator's methods: physical, virtual and sparable.
-/
namespace Go.Proofs.YtokcpammdhkecaaGreatDoor
open Go.RowKit

/-- A row of pairs of ints (spares). -/
structure SRow (w : World) (A : Option Addr) (ss : List (Int × Int)) : Prop where
  reads : 0 < ss.length → ∃ ad, A = some ad ∧ ∀ j (h : j < ss.length), w.cell? (ad.add (j * 2)) = some (.int .i64 (ss[j]).1) ∧ w.cell? ⟨(ad.add (j * 2)).block, (ad.add (j * 2)).off + 1, none⟩ = some (.int .i64 (ss[j]).2)
theorem SRow.below {w w1 : World} {A : Option Addr} {ss : List (Int × Int)} (h : SRow w A ss) (hb : Below w.heap.size w w1) : SRow w1 A ss :=
  ⟨fun h0 => by
    obtain ⟨ad, e, hc⟩ := h.reads h0
    exact ⟨ad, e, fun j hj => ⟨(hb.cell (addr_lt (hc j hj).1)).trans (hc j hj).1, (hb.cell (addr_lt (hc j hj).2)).trans (hc j hj).2⟩⟩⟩
theorem SRow.at_ {w : World} {A : Option Addr} {ss : List (Int × Int)} (h : SRow w A ss) {k : Nat} (hk : k < ss.length) : ∃ ad, A = some ad ∧
    w.cell? (ad.add (k * 2)) = some (.int .i64 (ss[k]).1) ∧ w.cell? ⟨(ad.add (k * 2)).block, (ad.add (k * 2)).off + 1, none⟩ = some (.int .i64 (ss[k]).2) := by
  obtain ⟨ad, e, hc⟩ := h.reads (by omega)
  exact ⟨ad, e, hc k hk⟩

/-- A mapping as a value: the slices' addresses, lengths and capacities, the partition. -/
structure MP where
  A0 : Option Addr
  n0 : Nat
  c0 : Nat
  st : Int
  ct : Int
  A1 : Option Addr
  n1 : Nat
  c1 : Nat
  A2 : Option Addr
  n2 : Nat
  c2 : Nat
  A3 : Option Addr
  n3 : Nat
  c3 : Nat
  A4 : Option Addr
  n4 : Nat
  c4 : Nat
def MP.cells (m : MP) : Array Value := #[.slice m.A0 m.n0 m.c0, .int .i64 m.st, .int .i64 m.ct, .slice m.A1 m.n1 m.c1, .slice m.A2 m.n2 m.c2, .slice m.A3 m.n3 m.c3, .slice m.A4 m.n4 m.c4]
/-- Numbers so small that nothing overflows. -/
def Sm (x : Int) : Prop := -1099511627776 ≤ x ∧ x ≤ 1099511627776
def phV (st ct b : Int) : Int := if b < 0 ∨ ct ≤ b then 0 else st + b
def phE (ct b : Int) : Int := if b < 0 ∨ ct ≤ b then 2 else 0

set_option maxHeartbeats 1600000 in
set_option maxRecDepth 100000 in
theorem tr_physical (m : MP) (b : Int) (w : World) (h1 : Sm m.st) (h2 : m.ct ≤ 1099511627776) :
    Calls Tryz.prog 28 #[.agg m.cells, .int .i64 b] w fun e w' => e = .returned (.tuple #[.int .i64 (phV m.st m.ct b), .int .i64 (phE m.ct b)]) ∧ Below w.heap.size w w' := by
  obtain ⟨h1a, h1b⟩ := h1
  obtain ⟨A0, n0, c0, st, ct, A1, n1, c1, A2, n2, c2, A3, n3, c3, A4, n4, c4⟩ := m
  simp only [MP.cells] at *
  by_cases hb : b < 0 ∨ ct ≤ b
  · have r1 : phV st ct b = 0 := by unfold phV; rw [if_pos hb]
    have r2 : phE ct b = 2 := by unfold phE; rw [if_pos hb]
    rw [r1, r2]
    clear r1 r2
    by_cases h0 : b < 0
    · clear hb
      go_enter Tryz.func28, Tryz.ntmps28
      go_wp2
      go_ret2
      exact ⟨rfl, (Below.refl _ _).alloc (Nat.le_refl _) _⟩
    · have h3 : ct ≤ b := by omega
      clear hb
      go_enter Tryz.func28, Tryz.ntmps28
      go_wp2
      go_ret2
      exact ⟨rfl, (Below.refl _ _).alloc (Nat.le_refl _) _⟩
  · have r1 : phV st ct b = st + b := by unfold phV; rw [if_neg hb]
    have r2 : phE ct b = 0 := by unfold phE; rw [if_neg hb]
    rw [r1, r2]
    have h0 : 0 ≤ b := by omega
    have h3 : b < ct := by omega
    clear hb r1 r2
    have hw : IntKind.i64.wrap (st + b) = st + b := IntWalk.i64_in _ (by omega)
    go_enter Tryz.func28, Tryz.ntmps28
    go_wp2
    go_ret2
    exact ⟨rfl, (Below.refl _ _).alloc (Nat.le_refl _) _⟩

/-- What the virtual translation gives. -/
def viV (st ct : Int) (vs : List Int) (b : Int) : Int := if b < 0 ∨ (vs.length : Int) ≤ b then 0 else if vs.getD b.toNat 0 = 4294967295 then 0 else phV st ct (vs.getD b.toNat 0)
def viE (ct : Int) (vs : List Int) (b : Int) : Int := if b < 0 ∨ (vs.length : Int) ≤ b then 2 else if vs.getD b.toNat 0 = 4294967295 then 6 else phE ct (vs.getD b.toNat 0)
set_option maxHeartbeats 1600000 in
set_option maxRecDepth 100000 in
theorem tr_virtual (A0 : Option Addr) (n0 c0 : Nat) (st ct : Int) (A1 : Option Addr) (c1 : Nat) (A2 : Option Addr) (n2 c2 : Nat) (A3 : Option Addr) (n3 c3 : Nat) (A4 : Option Addr) (n4 c4 : Nat) (vs : List Int) (b : Int) (w : World)
    (h1 : Sm st) (h2 : ct ≤ 1099511627776) (hv : Row w A1 vs) :
    Calls Tryz.prog 29 #[.agg (MP.cells ⟨A0, n0, c0, st, ct, A1, vs.length, c1, A2, n2, c2, A3, n3, c3, A4, n4, c4⟩), .int .i64 b] w fun e w' => e = .returned (.tuple #[.int .i64 (viV st ct vs b), .int .i64 (viE ct vs b)]) ∧ Below w.heap.size w w' := by
  have kP := hide (fun b w => tr_physical ⟨A0, n0, c0, st, ct, A1, vs.length, c1, A2, n2, c2, A3, n3, c3, A4, n4, c4⟩ b w h1 h2)
  simp only [MP.cells] at *
  have bw : ∀ o : Obj, Below w.heap.size w (w.alloc o) := fun o => (Below.refl _ _).alloc (Nat.le_refl _) _
  by_cases hb : b < 0 ∨ (vs.length : Int) ≤ b
  · have r1 : viV st ct vs b = 0 := by unfold viV; rw [if_pos hb]
    have r2 : viE ct vs b = 2 := by unfold viE; rw [if_pos hb]
    rw [r1, r2]
    clear r1 r2 kP
    by_cases h0 : b < 0
    · clear hb
      go_enter Tryz.func29, Tryz.ntmps29
      go_wp2
      go_ret2
      exact ⟨rfl, bw _⟩
    · have h3 : (vs.length : Int) ≤ b := by omega
      clear hb
      go_enter Tryz.func29, Tryz.ntmps29
      go_wp2
      go_ret2
      exact ⟨rfl, bw _⟩
  · obtain ⟨k, rfl⟩ : ∃ k : Nat, b = (k : Int) := ⟨b.toNat, by omega⟩
    have hk : k < vs.length := by omega
    have r1 : viV st ct vs (k : Int) = if vs.getD k 0 = 4294967295 then 0 else phV st ct (vs.getD k 0) := by unfold viV; rw [if_neg hb, Int.toNat_natCast]
    have r2 : viE ct vs (k : Int) = if vs.getD k 0 = 4294967295 then 6 else phE ct (vs.getD k 0) := by unfold viE; rw [if_neg hb, Int.toNat_natCast]
    rw [r1, r2]
    clear r1 r2 hb
    obtain ⟨ad, rfl, hc⟩ := (hv.below (bw (.cells #[.slice A0 n0 c0, .int .i64 st, .int .i64 ct, .slice A1 vs.length c1, .slice A2 n2 c2, .slice A3 n3 c3, .slice A4 n4 c4] 62))).at_ hk
    generalize vs.getD k 0 = x at *
    by_cases hx : x = 4294967295
    · subst hx
      rw [if_pos rfl, if_pos rfl]
      go_enter Tryz.func29, Tryz.ntmps29
      go_wp2
      go_ret2
      exact ⟨rfl, bw _⟩
    · rw [if_neg hx, if_neg hx]
      have q : (x == 4294967295) = false := by rw [beq_eq_false_iff_ne]; exact hx
      have hxx := Lib.hid hx
      clear hx
      have kX := hide (fun w => unhide kP x w)
      clear kP
      generalize phV st ct x = rv at *
      generalize phE ct x = re at *
      go_enter Tryz.func29, Tryz.ntmps29
      go_wp2_with fail
      go_region_with (go_at_call 28; refine (unhide kX _).mono ?_; rintro e w2 ⟨rfl, hb2⟩)
      all_goals
        go_wp2
        go_ret2
        exact ⟨rfl, (bw _).drew.trans (hb2.mono (bw _).size)⟩

/-- The first spare of a packet. -/
def spF (ss : List (Int × Int)) (b : Int) : Option (Int × Int) := ss.find? fun s => s.1 == b - b % 8
/-- What the sparable translation gives. -/
def spV (st ct : Int) (ss : List (Int × Int)) (b : Int) : Int := if b < 0 ∨ ct ≤ b then 0 else match spF ss b with | some s => s.2 + b % 8 | none => st + b
theorem sp_hit {ss : List (Int × Int)} {b : Int} {k : Nat} (h : (ss.take k).all (fun s => !(s.1 == b - b % 8)) = true) (hk : k < ss.length) (he : (ss[k]).1 = b - b % 8) : spF ss b = some ss[k] := by
  unfold spF
  have e : ss = ss.take k ++ ss[k] :: ss.drop (k + 1) := by rw [← List.drop_eq_getElem_cons hk, List.take_append_drop]
  conv => lhs; rw [e]
  rw [List.find?_append]
  have hn : (ss.take k).find? (fun s => s.1 == b - b % 8) = none := by
    rw [List.find?_eq_none]
    intro x hx
    have := List.all_eq_true.1 h x hx
    simpa using this
  rw [hn, Option.none_or, List.find?_cons_of_pos (by rw [beq_iff_eq]; exact he)]
theorem sp_none {ss : List (Int × Int)} {b : Int} (h : ss.all (fun s => !(s.1 == b - b % 8)) = true) : spF ss b = none := by
  unfold spF
  rw [List.find?_eq_none]
  intro x hx
  have := List.all_eq_true.1 h x hx
  simpa using this
theorem sp_take {ss : List (Int × Int)} {b : Int} {k : Nat} (h : (ss.take k).all (fun s => !(s.1 == b - b % 8)) = true) (hk : k < ss.length) (he : ¬ (ss[k]).1 = b - b % 8) : (ss.take (k + 1)).all (fun s => !(s.1 == b - b % 8)) = true := by
  rw [List.take_succ_eq_append_getElem hk, List.all_append, h]
  simp [he]
set_option maxHeartbeats 1600000 in
set_option maxRecDepth 100000 in
theorem tr_sparable (A0 : Option Addr) (n0 c0 : Nat) (st ct : Int) (A1 : Option Addr) (n1 c1 : Nat) (A2 : Option Addr) (c2 : Nat) (A3 : Option Addr) (n3 c3 : Nat) (A4 : Option Addr) (n4 c4 : Nat) (ss : List (Int × Int)) (b : Int) (w : World)
    (h1 : Sm st) (h2 : ct ≤ 1099511627776) (hv : SRow w A2 ss) (hs : ∀ s ∈ ss, Sm s.2) (hl : ss.length ≤ 1000) :
    Calls Tryz.prog 30 #[.agg (MP.cells ⟨A0, n0, c0, st, ct, A1, n1, c1, A2, ss.length, c2, A3, n3, c3, A4, n4, c4⟩), .int .i64 b] w fun e w' => e = .returned (.tuple #[.int .i64 (spV st ct ss b), .int .i64 (phE ct b)]) ∧ Below w.heap.size w w' := by
  have bw : ∀ o : Obj, Below w.heap.size w (w.alloc o) := fun o => (Below.refl _ _).alloc (Nat.le_refl _) _
  have kP := hide (fun w => tr_physical ⟨A0, n0, c0, st, ct, A1, n1, c1, A2, ss.length, c2, A3, n3, c3, A4, n4, c4⟩ b w h1 h2)
  simp only [MP.cells] at *
  by_cases hb : b < 0 ∨ ct ≤ b
  · have r1 : spV st ct ss b = 0 := by unfold spV; rw [if_pos hb]
    have r2 : phE ct b = 2 := by unfold phE; rw [if_pos hb]
    have r3 : phV st ct b = 0 := by unfold phV; rw [if_pos hb]
    rw [r1, r2]
    rw [r2, r3] at kP
    clear r1 r2 r3 hb
    go_enter Tryz.func30, Tryz.ntmps30
    go_wp2_with (go_at_call 28; refine (unhide kP _).mono ?_; rintro e w2 ⟨rfl, hb2⟩)
    go_ret2
    exact ⟨rfl, (bw _).trans (hb2.mono (bw _).size)⟩
  · have r1 : spV st ct ss b = match spF ss b with | some s => s.2 + b % 8 | none => st + b := by unfold spV; rw [if_neg hb]
    have r2 : phE ct b = 0 := by unfold phE; rw [if_neg hb]
    have r3 : phV st ct b = st + b := by unfold phV; rw [if_neg hb]
    obtain ⟨R, hR⟩ : ∃ R, R = spV st ct ss b := ⟨_, rfl⟩
    rw [← hR, r2]
    rw [r1] at hR
    have HR := Lib.hid hR
    clear hR
    rw [r2, r3] at kP
    have hb0 : 0 ≤ b := by omega
    have hb1 : b < ct := by omega
    clear r1 r2 r3 hb
    obtain ⟨h1a, h1b⟩ := h1
    have hw1 : IntKind.i64.wrap (b - b % 8) = b - b % 8 := IntWalk.i64_in _ (by omega)
    have Hs := Lib.hid hs
    clear hs
    go_enter Tryz.func30, Tryz.ntmps30
    go_wp2_with (go_at_call 28; refine (unhide kP _).mono ?_; rintro e w2 ⟨rfl, hb2⟩; have x4 : w2.cell? ⟨w.heap.size, 4, none⟩ = some (.slice A2 ss.length c2) := ((bcell hb2).1 w.heap.size 4 (by simp)).trans (by simp))
    have hB2 : Below w.heap.size w w2 := (bw _).trans (hb2.mono (bw _).size)
    have hst : Hid ((ss.take 0).all (fun s => !(s.1 == b - b % 8)) = true) := Lib.hid rfl
    go_loopw [23, 9] (fun x _ wr => ∃ k : Nat, k ≤ ss.length ∧ x = .int .i64 (k : Int) ∧ Hid ((ss.take k).all (fun s => !(s.1 == b - b % 8)) = true) ∧ Below w.heap.size w wr) (fun x _ _ => ss.length - (intOf x).toNat)
    case atStart => exact ⟨0, Nat.zero_le _, rfl, hst, hB2⟩
    case round =>
      obtain ⟨k, hk, rfl, ht, hbr⟩ := hrel
      clear hst
      by_cases hlt : k < ss.length
      · obtain ⟨a1, rfl, y0, y1⟩ := (hv.below hbr).at_ hlt
        have hsm := Hs.out ss[k] (List.getElem_mem hlt)
        by_cases he : (ss[k]).1 = b - b % 8
        · have hF := Lib.hid (sp_hit ht.out hlt he)
          generalize ss[k] = s at *
          obtain ⟨o, mp⟩ := s
          simp only at *
          obtain ⟨m1, m2⟩ := hsm
          have hw2 : IntKind.i64.wrap (mp + b % 8) = mp + b % 8 := IntWalk.i64_in _ (by omega)
          subst he
          clear ht
          go_wp2
          go_ret2
          rw [show R = mp + b % 8 from HR.out.trans (by rw [hF.out])]
          exact ⟨rfl, hbr.alloc hbr.size _⟩
        · have hN := Lib.hid (sp_take ht.out hlt he)
          generalize ss[k] = s at *
          obtain ⟨o, mp⟩ := s
          simp only at *
          have q : (o == b - b % 8) = false := by rw [beq_eq_false_iff_ne]; exact he
          clear ht he
          go_wp2
          go_roundw
          case rel => exact ⟨k + 1, by omega, by go_num, hN, hbr.alloc hbr.size _⟩
          case measure => simp [intOf]; omega
      · obtain rfl : k = ss.length := by omega
        have hF := Lib.hid (sp_none (b := b) (by have := ht.out; rwa [List.take_length] at this))
        clear ht
        go_wp2
        go_ret2
        rw [show R = st + b from HR.out.trans (by rw [hF.out])]
        exact ⟨rfl, hbr⟩
end Go.Proofs.YtokcpammdhkecaaGreatDoor

/-
  partitionmap.Translate at maps that are physical, virtual or sparable, and at no map.
-/
namespace Go.Proofs.YtokcpammdhkecaaGreatDoor
open Go.RowKit

def fnE : Array MapEntry := #[{ key := .int .i64 0, val := .func (.func 28) #[] #[], born := 0 }, { key := .int .i64 1, val := .func (.func 29) #[] #[], born := 1 },
  { key := .int .i64 2, val := .func (.func 30) #[] #[], born := 2 }, { key := .int .i64 3, val := .func (.func 31) #[] #[], born := 3 }]

set_option maxHeartbeats 1600000 in
set_option maxRecDepth 100000 in
theorem pm_Translate_arg (m : MP) (b p : Int) (w : World) (hp : p < 0 ∨ (m.n0 : Int) ≤ p) :
    Calls Tryz.prog 12 #[.agg m.cells, .agg #[.int .i64 b, .int .i64 p]] w fun e w' => e = .returned (.tuple #[.int .i64 0, .int .i64 1]) ∧ Below w.heap.size w w' := by
  obtain ⟨A0, n0, c0, st, ct, A1, n1, c1, A2, n2, c2, A3, n3, c3, A4, n4, c4⟩ := m
  simp only [MP.cells] at *
  have bb : ∀ o o' : Obj, Below w.heap.size w ((w.alloc o).alloc o') := fun o o' => ((Below.refl _ _).alloc (Nat.le_refl _) _).alloc (by simp) _
  by_cases h0 : p < 0
  · clear hp
    go_enter Tryz.func12, Tryz.ntmps12
    go_wp2
    go_ret2
    exact ⟨rfl, bb _ _⟩
  · have h1 : (n0 : Int) ≤ p := by omega
    clear hp
    go_enter Tryz.func12, Tryz.ntmps12
    go_wp2
    go_ret2
    exact ⟨rfl, bb _ _⟩

theorem mapAt_new' (w : World) (es : Array MapEntry) (clock : Nat) {g : Nat} (hg : g = w.heap.size) : MapAt (w.alloc (.map es clock)) g es clock := by subst hg; exact mapAt_new w es clock
theorem fn_nil (f : Fn) (w : World) : (binOp .eql 59 (.func f #[] #[]) .nilFunc).run Tryz.prog w = .ok (.bool false) w := by
  have h : (Op.equalIn Op.maxDepth 59 (.func f #[] #[]) .nilFunc).run Tryz.prog w = .ok false w := by
    show (Op.equalIn (9999 + 1) 59 (.func f #[] #[]) .nilFunc).run Tryz.prog w = .ok false w
    unfold Op.equalIn
    simp [run_underlying Tryz.underlying59]
  simp [binOp, Op.equal, h]
/-- What stands behind the making of the map of functions. -/
theorem fns_facts {w w1 w2 w3 w4 : World} {v0 v1 v2 v3 v4 v5 v6 b p : Value} {t t' : TypeId}
    (h1 : (((w.alloc (.cells #[v0, v1, v2, v3, v4, v5, v6] t)).alloc (.cells #[b, p] t')).alloc (.map #[] 0)).grownBy w1 (some (w.heap.size + 1 + 1)))
    (h2 : w1.grownBy w2 (some (w.heap.size + 1 + 1))) (h3 : w2.grownBy w3 (some (w.heap.size + 1 + 1))) (h4 : w3.grownBy w4 (some (w.heap.size + 1 + 1))) :
    w4.cell? ⟨w.heap.size, 0, none⟩ = some v0 ∧ w4.cell? ⟨w.heap.size, 1, none⟩ = some v1 ∧ w4.cell? ⟨w.heap.size, 2, none⟩ = some v2 ∧ w4.cell? ⟨w.heap.size, 3, none⟩ = some v3 ∧ w4.cell? ⟨w.heap.size, 4, none⟩ = some v4 ∧
    w4.cell? ⟨w.heap.size, 5, none⟩ = some v5 ∧ w4.cell? ⟨w.heap.size, 6, none⟩ = some v6 ∧ w4.cell? ⟨w.heap.size + 1, 0, none⟩ = some b ∧ w4.cell? ⟨w.heap.size + 1, 1, none⟩ = some p ∧ Below w.heap.size w w4 := by
  have s1 : (w.alloc (.cells #[v0, v1, v2, v3, v4, v5, v6] t)).heap.size = w.heap.size + 1 := by simp
  have s2 : ((w.alloc (.cells #[v0, v1, v2, v3, v4, v5, v6] t)).alloc (.cells #[b, p] t')).heap.size = w.heap.size + 1 + 1 := by simp
  have bb : Below w.heap.size w ((w.alloc (.cells #[v0, v1, v2, v3, v4, v5, v6] t)).alloc (.cells #[b, p] t')) := ((Below.refl _ _).alloc (Nat.le_refl _) _).alloc (by omega) _
  have c : ∀ o v, #[v0, v1, v2, v3, v4, v5, v6][o]? = some v → ((w.alloc (.cells #[v0, v1, v2, v3, v4, v5, v6] t)).alloc (.cells #[b, p] t')).cell? ⟨w.heap.size, o, none⟩ = some v := by
    intro o v hv
    rw [World.cell?_alloc_lt _ _ _ (by rw [s1]; exact Nat.lt_succ_self _)]
    simpa using hv
  have d : ∀ o v, #[b, p][o]? = some v → ((w.alloc (.cells #[v0, v1, v2, v3, v4, v5, v6] t)).alloc (.cells #[b, p] t')).cell? ⟨w.heap.size + 1, o, none⟩ = some v := by
    intro o v hv
    rw [← s1]
    simpa using hv
  generalize (w.alloc (.cells #[v0, v1, v2, v3, v4, v5, v6] t)).alloc (.cells #[b, p] t') = w0 at *
  have B0 : Below w0.heap.size w0 (w0.alloc (.map #[] 0)) := (Below.refl _ _).alloc (Nat.le_refl _) _
  have B1 := below_other B0 h1 (by omega) B0.size
  have B2 := below_other B1 h2 (by omega) B1.size
  have B3 := below_other B2 h3 (by omega) B2.size
  have B4 := below_other B3 h4 (by omega) B3.size
  obtain ⟨hcl, -⟩ := bcell B4
  have k1 : w.heap.size < w0.heap.size := by omega
  have k2 : w.heap.size + 1 < w0.heap.size := by omega
  exact ⟨(hcl _ 0 k1).trans (c 0 _ rfl), (hcl _ 1 k1).trans (c 1 _ rfl), (hcl _ 2 k1).trans (c 2 _ rfl), (hcl _ 3 k1).trans (c 3 _ rfl), (hcl _ 4 k1).trans (c 4 _ rfl), (hcl _ 5 k1).trans (c 5 _ rfl), (hcl _ 6 k1).trans (c 6 _ rfl),
    (hcl _ 0 k2).trans (d 0 _ rfl), (hcl _ 1 k2).trans (d 1 _ rfl), bb.trans (B4.mono bb.size)⟩

set_option maxHeartbeats 3200000 in
set_option maxRecDepth 100000 in
theorem pm_Translate_0 (A0 : Option Addr) (c0 : Nat) (ps : List PM) (st ct : Int) (A1 : Option Addr) (n1 c1 : Nat) (A2 : Option Addr) (n2 c2 : Nat) (A3 : Option Addr) (n3 c3 : Nat) (A4 : Option Addr) (n4 c4 : Nat) (b : Int) (p : Nat) (w : World)
    (h1 : Sm st) (h2 : ct ≤ 1099511627776) (hr : PRow w A0 ps) (hp : p < ps.length) (hk : ps[p].k = 0) :
    Calls Tryz.prog 12 #[.agg (MP.cells ⟨A0, ps.length, c0, st, ct, A1, n1, c1, A2, n2, c2, A3, n3, c3, A4, n4, c4⟩), .agg #[.int .i64 b, .int .i64 (p : Int)]] w
      fun e w' => e = .returned (.tuple #[.int .i64 (phV st ct b), .int .i64 (phE ct b)]) ∧ Below w.heap.size w w' := by
  have hmm := @run_makeMap Tryz.prog
  have hnf := fn_nil
  have kP := hide (fun w => tr_physical ⟨A0, ps.length, c0, st, ct, A1, n1, c1, A2, n2, c2, A3, n3, c3, A4, n4, c4⟩ b w h1 h2)
  simp only [MP.cells] at *
  generalize phV st ct b = rv at *
  generalize phE ct b = re at *
  go_enter Tryz.func12, Tryz.ntmps12
  go_wp2_with (first
    | (refine wpList_insert_int _ rfl 63 (.tmp 19) (.const (.int .i64 0)) (.func 28) rfl 3 59 Tryz.underlying63 Tryz.underlying3 (w.heap.size + 1 + 1) rfl #[] 0 (mapAt_new' _ _ _ (by simp)) 0 rfl (.func (.func 28) #[] #[]) rfl rfl ?_; intro w1 hm1 hg1)
    | (refine wpList_insert_int _ rfl 63 (.tmp 19) (.const (.int .i64 1)) (.func 29) rfl 3 59 Tryz.underlying63 Tryz.underlying3 (w.heap.size + 1 + 1) rfl _ _ hm1 1 rfl (.func (.func 29) #[] #[]) rfl rfl ?_; intro w2 hm2 hg2)
    | (refine wpList_insert_int _ rfl 63 (.tmp 19) (.const (.int .i64 2)) (.func 30) rfl 3 59 Tryz.underlying63 Tryz.underlying3 (w.heap.size + 1 + 1) rfl _ _ hm2 2 rfl (.func (.func 30) #[] #[]) rfl rfl ?_; intro w3 hm3 hg3)
    | (refine wpList_insert_int _ rfl 63 (.tmp 19) (.const (.int .i64 3)) (.func 31) rfl 3 59 Tryz.underlying63 Tryz.underlying3 (w.heap.size + 1 + 1) rfl _ _ hm3 3 rfl (.func (.func 31) #[] #[]) rfl rfl ?_; intro w4 hm4 hg4; obtain ⟨x0, x1, x2, x3, x4, x5, x6, y0, y1, hB4⟩ := fns_facts hg1 hg2 hg3 hg4; obtain ⟨ad, rfl, z0, -, -, -, -, -⟩ := (hr.below hB4).at_ hp; rw [hk] at z0; have hlk := run_lookup_int (P := Tryz.prog) Tryz.underlying63 Tryz.underlying3 hm4 0 0 (.func (.func 28) #[] #[]) rfl rfl))
  refine (unhide kP _).mono ?_
  rintro e w5 ⟨rfl, hb5⟩
  go_wp2_with fail
  go_ret2
  exact ⟨rfl, hB4.trans (hb5.mono hB4.size)⟩

set_option maxHeartbeats 3200000 in
set_option maxRecDepth 100000 in
theorem pm_Translate_1 (A0 : Option Addr) (c0 : Nat) (ps : List PM) (st ct : Int) (A1 : Option Addr) (c1 : Nat) (vs : List Int) (A2 : Option Addr) (n2 c2 : Nat) (A3 : Option Addr) (n3 c3 : Nat) (A4 : Option Addr) (n4 c4 : Nat) (b : Int) (p : Nat) (w : World)
    (h1 : Sm st) (h2 : ct ≤ 1099511627776) (hr : PRow w A0 ps) (hp : p < ps.length) (hk : ps[p].k = 1) (hv : Row w A1 vs) :
    Calls Tryz.prog 12 #[.agg (MP.cells ⟨A0, ps.length, c0, st, ct, A1, vs.length, c1, A2, n2, c2, A3, n3, c3, A4, n4, c4⟩), .agg #[.int .i64 b, .int .i64 (p : Int)]] w
      fun e w' => e = .returned (.tuple #[.int .i64 (viV st ct vs b), .int .i64 (viE ct vs b)]) ∧ Below w.heap.size w w' := by
  have hmm := @run_makeMap Tryz.prog
  have hnf := fn_nil
  have kP := hide (fun w (hv : Row w A1 vs) => tr_virtual A0 ps.length c0 st ct A1 c1 A2 n2 c2 A3 n3 c3 A4 n4 c4 vs b w h1 h2 hv)
  simp only [MP.cells] at *
  generalize viV st ct vs b = rv at *
  generalize viE ct vs b = re at *
  go_enter Tryz.func12, Tryz.ntmps12
  go_wp2_with (first
    | (refine wpList_insert_int _ rfl 63 (.tmp 19) (.const (.int .i64 0)) (.func 28) rfl 3 59 Tryz.underlying63 Tryz.underlying3 (w.heap.size + 1 + 1) rfl #[] 0 (mapAt_new' _ _ _ (by simp)) 0 rfl (.func (.func 28) #[] #[]) rfl rfl ?_; intro w1 hm1 hg1)
    | (refine wpList_insert_int _ rfl 63 (.tmp 19) (.const (.int .i64 1)) (.func 29) rfl 3 59 Tryz.underlying63 Tryz.underlying3 (w.heap.size + 1 + 1) rfl _ _ hm1 1 rfl (.func (.func 29) #[] #[]) rfl rfl ?_; intro w2 hm2 hg2)
    | (refine wpList_insert_int _ rfl 63 (.tmp 19) (.const (.int .i64 2)) (.func 30) rfl 3 59 Tryz.underlying63 Tryz.underlying3 (w.heap.size + 1 + 1) rfl _ _ hm2 2 rfl (.func (.func 30) #[] #[]) rfl rfl ?_; intro w3 hm3 hg3)
    | (refine wpList_insert_int _ rfl 63 (.tmp 19) (.const (.int .i64 3)) (.func 31) rfl 3 59 Tryz.underlying63 Tryz.underlying3 (w.heap.size + 1 + 1) rfl _ _ hm3 3 rfl (.func (.func 31) #[] #[]) rfl rfl ?_; intro w4 hm4 hg4; obtain ⟨x0, x1, x2, x3, x4, x5, x6, y0, y1, hB4⟩ := fns_facts hg1 hg2 hg3 hg4; obtain ⟨ad, rfl, z0, -, -, -, -, -⟩ := (hr.below hB4).at_ hp; rw [hk] at z0; have hlk := run_lookup_int (P := Tryz.prog) Tryz.underlying63 Tryz.underlying3 hm4 1 1 (.func (.func 29) #[] #[]) rfl rfl))
  refine (unhide kP _ (hv.below hB4)).mono ?_
  rintro e w5 ⟨rfl, hb5⟩
  go_wp2_with fail
  go_ret2
  exact ⟨rfl, hB4.trans (hb5.mono hB4.size)⟩

set_option maxHeartbeats 3200000 in
set_option maxRecDepth 100000 in
theorem pm_Translate_2 (A0 : Option Addr) (c0 : Nat) (ps : List PM) (st ct : Int) (A1 : Option Addr) (n1 c1 : Nat) (A2 : Option Addr) (c2 : Nat) (ss : List (Int × Int)) (A3 : Option Addr) (n3 c3 : Nat) (A4 : Option Addr) (n4 c4 : Nat) (b : Int) (p : Nat) (w : World)
    (h1 : Sm st) (h2 : ct ≤ 1099511627776) (hr : PRow w A0 ps) (hp : p < ps.length) (hk : ps[p].k = 2) (hv : SRow w A2 ss) (hs : ∀ s ∈ ss, Sm s.2) (hl : ss.length ≤ 1000) :
    Calls Tryz.prog 12 #[.agg (MP.cells ⟨A0, ps.length, c0, st, ct, A1, n1, c1, A2, ss.length, c2, A3, n3, c3, A4, n4, c4⟩), .agg #[.int .i64 b, .int .i64 (p : Int)]] w
      fun e w' => e = .returned (.tuple #[.int .i64 (spV st ct ss b), .int .i64 (phE ct b)]) ∧ Below w.heap.size w w' := by
  have hmm := @run_makeMap Tryz.prog
  have hnf := fn_nil
  have kP := hide (fun w (hv : SRow w A2 ss) => tr_sparable A0 ps.length c0 st ct A1 n1 c1 A2 c2 A3 n3 c3 A4 n4 c4 ss b w h1 h2 hv hs hl)
  simp only [MP.cells] at *
  clear hs
  generalize spV st ct ss b = rv at *
  generalize phE ct b = re at *
  go_enter Tryz.func12, Tryz.ntmps12
  go_wp2_with (first
    | (refine wpList_insert_int _ rfl 63 (.tmp 19) (.const (.int .i64 0)) (.func 28) rfl 3 59 Tryz.underlying63 Tryz.underlying3 (w.heap.size + 1 + 1) rfl #[] 0 (mapAt_new' _ _ _ (by simp)) 0 rfl (.func (.func 28) #[] #[]) rfl rfl ?_; intro w1 hm1 hg1)
    | (refine wpList_insert_int _ rfl 63 (.tmp 19) (.const (.int .i64 1)) (.func 29) rfl 3 59 Tryz.underlying63 Tryz.underlying3 (w.heap.size + 1 + 1) rfl _ _ hm1 1 rfl (.func (.func 29) #[] #[]) rfl rfl ?_; intro w2 hm2 hg2)
    | (refine wpList_insert_int _ rfl 63 (.tmp 19) (.const (.int .i64 2)) (.func 30) rfl 3 59 Tryz.underlying63 Tryz.underlying3 (w.heap.size + 1 + 1) rfl _ _ hm2 2 rfl (.func (.func 30) #[] #[]) rfl rfl ?_; intro w3 hm3 hg3)
    | (refine wpList_insert_int _ rfl 63 (.tmp 19) (.const (.int .i64 3)) (.func 31) rfl 3 59 Tryz.underlying63 Tryz.underlying3 (w.heap.size + 1 + 1) rfl _ _ hm3 3 rfl (.func (.func 31) #[] #[]) rfl rfl ?_; intro w4 hm4 hg4; obtain ⟨x0, x1, x2, x3, x4, x5, x6, y0, y1, hB4⟩ := fns_facts hg1 hg2 hg3 hg4; obtain ⟨ad, rfl, z0, -, -, -, -, -⟩ := (hr.below hB4).at_ hp; rw [hk] at z0; have hlk := run_lookup_int (P := Tryz.prog) Tryz.underlying63 Tryz.underlying3 hm4 2 2 (.func (.func 30) #[] #[]) rfl rfl))
  refine (unhide kP _ (hv.below hB4)).mono ?_
  rintro e w5 ⟨rfl, hb5⟩
  go_wp2_with fail
  go_ret2
  exact ⟨rfl, hB4.trans (hb5.mono hB4.size)⟩

theorem fn_nilnil (w : World) : (binOp .eql 59 .nilFunc .nilFunc).run Tryz.prog w = .ok (.bool true) w := by
  have h : (Op.equalIn Op.maxDepth 59 .nilFunc .nilFunc).run Tryz.prog w = .ok true w := by
    show (Op.equalIn (9999 + 1) 59 .nilFunc .nilFunc).run Tryz.prog w = .ok true w
    unfold Op.equalIn
    simp [run_underlying Tryz.underlying59]
  simp [binOp, Op.equal, h]
theorem fn_no {k : Int} (hk : k < 0 ∨ 3 < k) {es : Array MapEntry} (h : es = fnE) : keysNo k es.toList := by
  subst h
  have e0 : (k == 0) = false := by rw [beq_eq_false_iff_ne]; omega
  have e1 : (k == 1) = false := by rw [beq_eq_false_iff_ne]; omega
  have e2 : (k == 2) = false := by rw [beq_eq_false_iff_ne]; omega
  have e3 : (k == 3) = false := by rw [beq_eq_false_iff_ne]; omega
  simp [keysNo, fnE, Instr.findNow, Instr.sameNow, e0, e1, e2, e3]
set_option maxHeartbeats 3200000 in
set_option maxRecDepth 100000 in
theorem pm_Translate_no (A0 : Option Addr) (c0 : Nat) (ps : List PM) (st ct : Int) (A1 : Option Addr) (n1 c1 : Nat) (A2 : Option Addr) (n2 c2 : Nat) (A3 : Option Addr) (n3 c3 : Nat) (A4 : Option Addr) (n4 c4 : Nat) (b : Int) (p : Nat) (w : World)
    (hr : PRow w A0 ps) (hp : p < ps.length) (hk : ps[p].k < 0 ∨ 3 < ps[p].k) :
    Calls Tryz.prog 12 #[.agg (MP.cells ⟨A0, ps.length, c0, st, ct, A1, n1, c1, A2, n2, c2, A3, n3, c3, A4, n4, c4⟩), .agg #[.int .i64 b, .int .i64 (p : Int)]] w
      fun e w' => e = .returned (.tuple #[.int .i64 0, .int .i64 14]) ∧ Below w.heap.size w w' := by
  have hmm := @run_makeMap Tryz.prog
  have hnf := fn_nil
  have hnn := fn_nilnil
  have hno := fun (e0 : Array MapEntry) (h : e0 = fnE) => fn_no (k := ps[p].k) hk h
  have Hno := Lib.hid hno
  clear hno
  simp only [MP.cells] at *
  go_enter Tryz.func12, Tryz.ntmps12
  go_wp2_with (first
    | (refine wpList_insert_int _ rfl 63 (.tmp 19) (.const (.int .i64 0)) (.func 28) rfl 3 59 Tryz.underlying63 Tryz.underlying3 (w.heap.size + 1 + 1) rfl #[] 0 (mapAt_new' _ _ _ (by simp)) 0 rfl (.func (.func 28) #[] #[]) rfl rfl ?_; intro w1 hm1 hg1)
    | (refine wpList_insert_int _ rfl 63 (.tmp 19) (.const (.int .i64 1)) (.func 29) rfl 3 59 Tryz.underlying63 Tryz.underlying3 (w.heap.size + 1 + 1) rfl _ _ hm1 1 rfl (.func (.func 29) #[] #[]) rfl rfl ?_; intro w2 hm2 hg2)
    | (refine wpList_insert_int _ rfl 63 (.tmp 19) (.const (.int .i64 2)) (.func 30) rfl 3 59 Tryz.underlying63 Tryz.underlying3 (w.heap.size + 1 + 1) rfl _ _ hm2 2 rfl (.func (.func 30) #[] #[]) rfl rfl ?_; intro w3 hm3 hg3)
    | (refine wpList_insert_int _ rfl 63 (.tmp 19) (.const (.int .i64 3)) (.func 31) rfl 3 59 Tryz.underlying63 Tryz.underlying3 (w.heap.size + 1 + 1) rfl _ _ hm3 3 rfl (.func (.func 31) #[] #[]) rfl rfl ?_; intro w4 hm4 hg4; obtain ⟨x0, x1, x2, x3, x4, x5, x6, y0, y1, hB4⟩ := fns_facts hg1 hg2 hg3 hg4; obtain ⟨ad, rfl, z0, -, -, -, -, -⟩ := (hr.below hB4).at_ hp; have hlk := run_lookup_none (P := Tryz.prog) Tryz.underlying63 Tryz.underlying3 hm4 ps[p].k .nilFunc (Hno.out _ rfl) rfl (Tryz.zeroValue59 w4); clear hk; generalize ps[p].k = kk at *))
  go_ret2
  exact ⟨rfl, hB4⟩

end Go.Proofs.YtokcpammdhkecaaGreatDoor
