/-
  Texts of this claim, joined in one file: each begins with its own sentence.
-/
import Derived.Test.YtokcpammdhkecaaGreatDoorGa
/-
  partitionmap.valid: is a map valid?
-/
namespace Go.Proofs.YtokcpammdhkecaaGreatDoor
open Go.RowKit

/-- A partition map as a value. -/
structure PM where
  k : Int
  n : Int
  A : Option Addr
  c : Nat
  xs : List Int
  f : Int
  m : Int
  b : Int
def PM.cells (p : PM) : Array Value := #[.int .i64 p.k, .int .i64 p.n, .slice p.A p.xs.length p.c, .int .i64 p.f, .int .i64 p.m, .int .i64 p.b]
def PM.val (p : PM) : Value := .agg p.cells
/-- Its numbers are ints. -/
def I64 (x : Int) : Prop := -9223372036854775808 ≤ x ∧ x ≤ 9223372036854775807
structure PM.Wf (p : PM) (w : World) : Prop where
  row : Row w p.A p.xs
  f : I64 p.f
  m : I64 p.m
  b : I64 p.b
theorem PM.Wf.below {p : PM} {w w' : World} (h : p.Wf w) (hb : Below w.heap.size w w') : p.Wf w' := ⟨h.row.below hb, h.f, h.m, h.b⟩

def pmV (p : PM) : Bool :=
  decide (0 ≤ p.k ∧ p.k ≤ 3 ∧ 0 ≤ p.n ∧ p.n ≤ 65535) && (if p.k = 2 then decide (1 ≤ p.xs.length ∧ p.xs.length ≤ 4) else decide (p.xs.length = 0)) &&
  (decide (p.k = 3) || decide (p.f = 0 ∧ p.m = 0 ∧ p.b = 0)) && (p.xs ++ [p.f, p.m, p.b]).all wordB

theorem or_zero {x y : Int} (hx : I64 x) (hy : I64 y) : (bits .or .i64 x y = 0 ↔ x = 0 ∧ y = 0) ∧ I64 (bits .or .i64 x y) := by
  obtain ⟨x1, x2⟩ := hx
  obtain ⟨y1, y2⟩ := hy
  have hv : bits .or .i64 x y = IntKind.i64.wrap ((BitVec.ofInt 64 x ||| BitVec.ofInt 64 y).toNat : Int) := rfl
  rw [hv]
  have hlt := (BitVec.ofInt 64 x ||| BitVec.ofInt 64 y).isLt
  have hz : (BitVec.ofInt 64 x ||| BitVec.ofInt 64 y).toNat = 0 ↔ x = 0 ∧ y = 0 := by
    rw [BitVec.toNat_or, Nat.or_eq_zero_iff, BitVec.toNat_ofInt, BitVec.toNat_ofInt]
    omega
  generalize (BitVec.ofInt 64 x ||| BitVec.ofInt 64 y).toNat = v at *
  rw [IntKind.wrap_i64]
  unfold I64
  rw [← hz]
  omega
theorem or_three {f m b : Int} (hf : I64 f) (hm : I64 m) (hb : I64 b) : bits .or .i64 (bits .or .i64 f m) b = 0 ↔ f = 0 ∧ m = 0 ∧ b = 0 := by
  obtain ⟨h1, h2⟩ := or_zero hf hm
  rw [(or_zero h2 hb).1, h1, and_assoc]
theorem row_three (w : World) (a b c : Int) (t : TypeId) : Row (w.alloc (.cells #[.int .i64 a, .int .i64 b, .int .i64 c] t)) (some ⟨w.heap.size, 0, none⟩) [a, b, c] := by
  refine ⟨fun _ => ⟨_, rfl, fun j hj => ?_⟩⟩
  match j, hj with
  | 0, _ => simp [Addr.add]
  | 1, _ => simp [Addr.add]
  | 2, _ => simp [Addr.add]

theorem cat_call (w : World) (o : Obj) (A : Option Addr) (c : Nat) (xs : List Int) (f m b : Int) (t1 t2 : TypeId) (hr : Row w A xs) (hl : xs.length ≤ 100) :
    Calls Tryz.prog 78 #[.slice (some ⟨w.heap.size + 1 + 1, 0, none⟩) 2 2] (((w.alloc o).alloc (.cells #[.int .i64 f, .int .i64 m, .int .i64 b] t1)).alloc (.cells #[.slice A xs.length c, .slice (some ⟨w.heap.size + 1, 0, none⟩) 3 3] t2))
      fun e w' => ∃ A1 c1, e = .returned (.slice A1 (xs.length + 3) c1) ∧ Row w' A1 (xs ++ [f, m, b]) ∧ Below w.heap.size w w' := by
  have s1 : (w.alloc o).heap.size = w.heap.size + 1 := by simp
  have s2 : ((w.alloc o).alloc (.cells #[.int .i64 f, .int .i64 m, .int .i64 b] t1)).heap.size = w.heap.size + 1 + 1 := by simp
  have b1 : Below w.heap.size w (w.alloc o) := (Below.refl _ _).alloc (Nat.le_refl _) _
  have b2 : Below w.heap.size w ((w.alloc o).alloc (.cells #[.int .i64 f, .int .i64 m, .int .i64 b] t1)) := b1.alloc b1.size _
  have r1 : Row ((w.alloc o).alloc (.cells #[.int .i64 f, .int .i64 m, .int .i64 b] t1)) (some ⟨w.heap.size + 1, 0, none⟩) [f, m, b] := by
    rw [← s1]; exact row_three _ f m b t1
  generalize hw2 : (w.alloc o).alloc (.cells #[.int .i64 f, .int .i64 m, .int .i64 b] t1) = w2 at *
  have b3 : Below w.heap.size w (w2.alloc (.cells #[.slice A xs.length c, .slice (some ⟨w.heap.size + 1, 0, none⟩) 3 3] t2)) := b2.alloc b2.size _
  have b4 : Below w2.heap.size w2 (w2.alloc (.cells #[.slice A xs.length c, .slice (some ⟨w.heap.size + 1, 0, none⟩) 3 3] t2)) := (Below.refl _ _).alloc (Nat.le_refl _) _
  have hcat := sl_Concat A (some ⟨w.heap.size + 1, 0, none⟩) c 3 w2.heap.size xs [f, m, b] _ (hr.below b3) (r1.below b4) hl (by simp) (by simp)
    (cell_two_new w2 (.slice A xs.length c) (.slice (some ⟨w.heap.size + 1, 0, none⟩) 3 3) t2 0 _ rfl) (cell_two_new w2 (.slice A xs.length c) (.slice (some ⟨w.heap.size + 1, 0, none⟩) 3 3) t2 1 _ rfl)
  rw [s2] at hcat
  refine hcat.mono fun e w' ⟨v, he, hown, hb⟩ => ?_
  obtain ⟨A1, c1, rfl, hr1, _, _⟩ := own_row hown
  refine ⟨A1, c1, ?_, hr1, b3.trans (hb.mono b3.size)⟩
  rw [he, List.length_append]
  rfl
theorem cf_words3 (A : Option Addr) (c : Nat) (xs : List Int) (f m b : Int) (w : World) (hr : Row w A (xs ++ [f, m, b])) (hl : xs.length ≤ 1000) :
    Calls Tryz.prog 77 #[.slice A (xs.length + 3) c, .func (.func 79) #[] #[]] w fun e w' => e = .returned (.bool (!(xs ++ [f, m, b]).all wordB)) ∧ w' = w := by
  have := cf_words A c (xs ++ [f, m, b]) w hr (by rw [List.length_append]; simp only [List.length_cons, List.length_nil]; omega)
  rw [List.length_append] at this
  exact this

set_option maxHeartbeats 3200000 in
set_option maxRecDepth 100000 in
theorem pm_valid_false (w : World) (k n : Int) (A : Option Addr) (c : Nat) (xs : List Int) (f m b : Int) (hw : (⟨k, n, A, c, xs, f, m, b⟩ : PM).Wf w) (hl : xs.length ≤ 9223372036854775807)
    (hno : ¬ (0 ≤ k ∧ k ≤ 3 ∧ 0 ≤ n ∧ n ≤ 65535 ∧ (k = 2 → 1 ≤ xs.length ∧ xs.length ≤ 4) ∧ (k ≠ 2 → xs.length = 0) ∧ (k ≠ 3 → f = 0 ∧ m = 0 ∧ b = 0))) :
    Calls Tryz.prog 54 #[.agg #[.int .i64 k, .int .i64 n, .slice A xs.length c, .int .i64 f, .int .i64 m, .int .i64 b]] w fun e w' => e = .returned (.bool false) ∧ Below w.heap.size w w' := by
  have hor := or_three hw.f hw.m hw.b
  obtain ⟨hr, -, -, -⟩ := hw
  clear hr
  by_cases h1 : 0 ≤ k
  · by_cases h2 : k ≤ 3
    · by_cases h3 : 0 ≤ n
      · by_cases h4 : n ≤ 65535
        · by_cases h5 : k = 2
          · subst h5
            by_cases h6 : 1 ≤ xs.length
            · by_cases h7 : xs.length ≤ 4
              · have h8 : ¬ bits .or .i64 (bits .or .i64 f m) b = 0 := fun e => hno ⟨h1, h2, h3, h4, fun _ => ⟨h6, h7⟩, fun e => absurd rfl e, fun _ => hor.1 e⟩
                have q8 : (bits .or .i64 (bits .or .i64 f m) b != 0) = true := by rw [bne_iff_ne]; exact h8
                clear hno hor
                go_enter Tryz.func54, Tryz.ntmps54
                go_wp2
                go_ret
                exact ⟨rfl, (Below.refl _ _).alloc (Nat.le_refl _) _⟩
              · have h7n : 4 < xs.length := by omega
                clear hno hor
                go_enter Tryz.func54, Tryz.ntmps54
                go_wp2
                go_ret
                exact ⟨rfl, (Below.refl _ _).alloc (Nat.le_refl _) _⟩
            · have h6n : xs.length < 1 := by omega
              clear hno hor
              go_enter Tryz.func54, Tryz.ntmps54
              go_wp2
              go_ret
              exact ⟨rfl, (Below.refl _ _).alloc (Nat.le_refl _) _⟩
          · by_cases h6 : xs.length = 0
            · have h9 : ¬ k = 3 := fun e => hno ⟨h1, h2, h3, h4, fun e => absurd e h5, fun _ => h6, fun e2 => absurd e e2⟩
              have h8 : ¬ bits .or .i64 (bits .or .i64 f m) b = 0 := fun e => hno ⟨h1, h2, h3, h4, fun e => absurd e h5, fun _ => h6, fun _ => hor.1 e⟩
              have q5 : (k == 2) = false := by rw [beq_eq_false_iff_ne]; exact h5
              have q9 : (k != 3) = true := by rw [bne_iff_ne]; exact h9
              have h6z : ¬ 0 < xs.length := by omega
              have q8 : (bits .or .i64 (bits .or .i64 f m) b != 0) = true := by rw [bne_iff_ne]; exact h8
              clear hno hor
              go_enter Tryz.func54, Tryz.ntmps54
              go_wp2
              go_ret
              exact ⟨rfl, (Below.refl _ _).alloc (Nat.le_refl _) _⟩
            · have h6n : 0 < xs.length := by omega
              have q5 : (k == 2) = false := by rw [beq_eq_false_iff_ne]; exact h5
              clear hno hor
              go_enter Tryz.func54, Tryz.ntmps54
              go_wp2
              go_ret
              exact ⟨rfl, (Below.refl _ _).alloc (Nat.le_refl _) _⟩
        · have h4n : 65535 < n := by omega
          clear hno hor
          go_enter Tryz.func54, Tryz.ntmps54
          go_wp2
          go_ret
          exact ⟨rfl, (Below.refl _ _).alloc (Nat.le_refl _) _⟩
      · have h3n : n < 0 := by omega
        clear hno hor
        go_enter Tryz.func54, Tryz.ntmps54
        go_wp2
        go_ret
        exact ⟨rfl, (Below.refl _ _).alloc (Nat.le_refl _) _⟩
    · have h2n : 3 < k := by omega
      clear hno hor
      go_enter Tryz.func54, Tryz.ntmps54
      go_wp2
      go_ret
      exact ⟨rfl, (Below.refl _ _).alloc (Nat.le_refl _) _⟩
  · have h1n : k < 0 := by omega
    clear hno hor
    go_enter Tryz.func54, Tryz.ntmps54
    go_wp2
    go_ret
    exact ⟨rfl, (Below.refl _ _).alloc (Nat.le_refl _) _⟩

set_option maxHeartbeats 3200000 in
set_option maxRecDepth 100000 in
theorem pm_valid_true (w : World) (k n : Int) (A : Option Addr) (c : Nat) (xs : List Int) (f m b : Int) (hw : (⟨k, n, A, c, xs, f, m, b⟩ : PM).Wf w)
    (h1 : 0 ≤ k) (h2 : k ≤ 3) (h3 : 0 ≤ n) (h4 : n ≤ 65535) (h5 : k = 2 → 1 ≤ xs.length ∧ xs.length ≤ 4) (h6 : k ≠ 2 → xs.length = 0) (h7 : k ≠ 3 → f = 0 ∧ m = 0 ∧ b = 0) :
    Calls Tryz.prog 54 #[.agg #[.int .i64 k, .int .i64 n, .slice A xs.length c, .int .i64 f, .int .i64 m, .int .i64 b]] w fun e w' => e = .returned (.bool ((xs ++ [f, m, b]).all wordB)) ∧ Below w.heap.size w w' := by
  have hor := or_three hw.f hw.m hw.b
  obtain ⟨hr, -, -, -⟩ := hw
  by_cases q2 : k = 2
  · subst q2
    obtain ⟨g1, g2⟩ := h5 rfl
    have q8 : (bits .or .i64 (bits .or .i64 f m) b != 0) = false := by rw [bne_eq_false_iff_eq]; exact hor.2 (h7 (by decide))
    clear h5 h6 h7 hor
    go_enter Tryz.func54, Tryz.ntmps54
    go_wp2_with fail
    refine (cat_call w _ A c xs f m b _ _ hr (by omega)).mono ?_
    rintro e w1 ⟨A1, c1, rfl, hr1, hB⟩
    go_wp2_with fail
    refine (cf_words3 A1 c1 xs f m b _ hr1 (by omega)).mono ?_
    rintro e w2 ⟨rfl, rfl⟩
    go_wp2_with fail
    go_ret
    exact ⟨ret_bool (by simp), hB⟩
  · obtain rfl : xs = [] := List.eq_nil_of_length_eq_zero (h6 q2)
    have q5 : (k == 2) = false := by rw [beq_eq_false_iff_ne]; exact q2
    by_cases q3 : k = 3
    · subst q3
      clear h5 h6 h7 hor
      go_enter Tryz.func54, Tryz.ntmps54
      go_wp2_with fail
      refine (cat_call w _ A c [] f m b _ _ hr (by simp)).mono ?_
      rintro e w1 ⟨A1, c1, rfl, hr1, hB⟩
      go_wp2_with fail
      refine (cf_words3 A1 c1 [] f m b _ hr1 (by simp)).mono ?_
      rintro e w2 ⟨rfl, rfl⟩
      go_wp2_with fail
      go_ret
      exact ⟨ret_bool (by simp), hB⟩
    · have q9 : (k != 3) = true := by rw [bne_iff_ne]; exact q3
      have q8 : (bits .or .i64 (bits .or .i64 f m) b != 0) = false := by rw [bne_eq_false_iff_eq]; exact hor.2 (h7 q3)
      clear h5 h6 h7 hor
      go_enter Tryz.func54, Tryz.ntmps54
      go_wp2_with fail
      refine (cat_call w _ A c [] f m b _ _ hr (by simp)).mono ?_
      rintro e w1 ⟨A1, c1, rfl, hr1, hB⟩
      go_wp2_with fail
      refine (cf_words3 A1 c1 [] f m b _ hr1 (by simp)).mono ?_
      rintro e w2 ⟨rfl, rfl⟩
      go_wp2_with fail
      go_ret
      exact ⟨ret_bool (by simp), hB⟩

theorem pm_valid (p : PM) (w : World) (hw : p.Wf w) (hl : p.xs.length ≤ 9223372036854775807) : Calls Tryz.prog 54 #[p.val] w fun e w' => e = .returned (.bool (pmV p)) ∧ Below w.heap.size w w' := by
  obtain ⟨k, n, A, c, xs, f, m, b⟩ := p
  by_cases h : 0 ≤ k ∧ k ≤ 3 ∧ 0 ≤ n ∧ n ≤ 65535 ∧ (k = 2 → 1 ≤ xs.length ∧ xs.length ≤ 4) ∧ (k ≠ 2 → xs.length = 0) ∧ (k ≠ 3 → f = 0 ∧ m = 0 ∧ b = 0)
  · obtain ⟨h1, h2, h3, h4, h5, h6, h7⟩ := h
    have hv : pmV ⟨k, n, A, c, xs, f, m, b⟩ = (xs ++ [f, m, b]).all wordB := by
      simp only [pmV]
      rw [decide_eq_true ⟨h1, h2, h3, h4⟩, Bool.true_and]
      have e1 : (if k = 2 then decide (1 ≤ xs.length ∧ xs.length ≤ 4) else decide (xs.length = 0)) = true := by
        by_cases q : k = 2
        · rw [if_pos q, decide_eq_true (h5 q)]
        · rw [if_neg q, decide_eq_true (h6 q)]
      have e2 : (decide (k = 3) || decide (f = 0 ∧ m = 0 ∧ b = 0)) = true := by
        by_cases q : k = 3
        · rw [decide_eq_true q, Bool.true_or]
        · rw [decide_eq_true (h7 q), Bool.or_true]
      rw [e1, e2, Bool.true_and, Bool.true_and]
    rw [hv]
    exact pm_valid_true w k n A c xs f m b hw h1 h2 h3 h4 h5 h6 h7
  · have hv : pmV ⟨k, n, A, c, xs, f, m, b⟩ = false := by
      cases e : pmV ⟨k, n, A, c, xs, f, m, b⟩
      · rfl
      · exfalso
        apply h
        simp only [pmV, Bool.and_eq_true, Bool.or_eq_true, decide_eq_true_eq] at e
        obtain ⟨⟨⟨⟨a1, a2, a3, a4⟩, a5⟩, a6⟩, _⟩ := e
        refine ⟨a1, a2, a3, a4, fun q => ?_, fun q => ?_, fun q => a6.resolve_left q⟩
        · rw [if_pos q] at a5; exact of_decide_eq_true a5
        · rw [if_neg q] at a5; exact of_decide_eq_true a5
    rw [hv]
    exact pm_valid_false w k n A c xs f m b hw hl h
end Go.Proofs.YtokcpammdhkecaaGreatDoor

/-
  partitionmap.all: are all maps of a list valid?
-/
namespace Go.Proofs.YtokcpammdhkecaaGreatDoor
open Go.RowKit

/-- A row of maps that is read. -/
structure PRow (w : World) (A : Option Addr) (ps : List PM) : Prop where
  reads : 0 < ps.length → ∃ ad, A = some ad ∧ ∀ j (h : j < ps.length), ∀ i v, (ps[j]).cells[i]? = some v → w.cell? (ad.add (j * 6 + i)) = some v
  wf : ∀ p ∈ ps, p.Wf w
  len : ∀ p ∈ ps, p.xs.length ≤ 9223372036854775807
theorem PRow.below {w w1 : World} {A : Option Addr} {ps : List PM} (h : PRow w A ps) (hb : Below w.heap.size w w1) : PRow w1 A ps :=
  ⟨fun h0 => by
    obtain ⟨ad, e, hc⟩ := h.reads h0
    exact ⟨ad, e, fun j hj i v hv => (hb.cell (addr_lt (hc j hj i v hv))).trans (hc j hj i v hv)⟩, fun p hp => (h.wf p hp).below hb, h.len⟩
theorem add_more (ad : Addr) (n i : Nat) : ad.add (n + (i + 1)) = ⟨(ad.add n).block, (ad.add n).off + (i + 1), none⟩ := by
  rw [← add_of_add]
  unfold Addr.add
  rw [if_neg (by omega)]
/-- The cells of one map. -/
theorem PRow.at_ {w : World} {A : Option Addr} {ps : List PM} (h : PRow w A ps) {k : Nat} (hk : k < ps.length) : ∃ ad, A = some ad ∧
    w.cell? (ad.add (k * 6)) = some (.int .i64 ps[k].k) ∧ w.cell? ⟨(ad.add (k * 6)).block, (ad.add (k * 6)).off + 1, none⟩ = some (.int .i64 ps[k].n) ∧
    w.cell? ⟨(ad.add (k * 6)).block, (ad.add (k * 6)).off + 2, none⟩ = some (.slice ps[k].A ps[k].xs.length ps[k].c) ∧ w.cell? ⟨(ad.add (k * 6)).block, (ad.add (k * 6)).off + 3, none⟩ = some (.int .i64 ps[k].f) ∧
    w.cell? ⟨(ad.add (k * 6)).block, (ad.add (k * 6)).off + 4, none⟩ = some (.int .i64 ps[k].m) ∧ w.cell? ⟨(ad.add (k * 6)).block, (ad.add (k * 6)).off + 5, none⟩ = some (.int .i64 ps[k].b) := by
  obtain ⟨ad, e, hc⟩ := h.reads (by omega)
  have g := fun i v hv => (add_more ad (k * 6) i) ▸ hc k hk (i + 1) v hv
  exact ⟨ad, e, hc k hk 0 _ rfl, g 0 _ rfl, g 1 _ rfl, g 2 _ rfl, g 3 _ rfl, g 4 _ rfl⟩

set_option maxHeartbeats 800000 in
set_option maxRecDepth 100000 in
theorem pm_nvalid (p : PM) (w : World) (hw : p.Wf w) (hl : p.xs.length ≤ 9223372036854775807) : Calls Tryz.prog 53 #[p.val] w fun e w' => e = .returned (.bool (!pmV p)) ∧ Below w.heap.size w w' := by
  obtain ⟨k, n, A, c, xs, f, m, b⟩ := p
  have b1 : ∀ o : Obj, Below w.heap.size w (w.alloc o) := fun o => (Below.refl _ _).alloc (Nat.le_refl _) _
  have kV := hide (fun o => pm_valid ⟨k, n, A, c, xs, f, m, b⟩ (w.alloc o) (hw.below (b1 o)) hl)
  have B1 := hide b1
  generalize pmV ⟨k, n, A, c, xs, f, m, b⟩ = q at *
  clear hw b1
  simp only [PM.val, PM.cells] at *
  go_enter Tryz.func53, Tryz.ntmps53
  go_wp2_with fail
  refine (unhide kV _).mono ?_
  rintro e w1 ⟨rfl, hb⟩
  go_wp2_with fail
  go_ret
  exact ⟨rfl, (unhide B1 _).trans (hb.mono (unhide B1 _).size)⟩

theorem pall_take {p : PM → Bool} {ps : List PM} {k : Nat} (h : (ps.take k).all p = true) (hk : k < ps.length) (hp : p ps[k] = true) : (ps.take (k + 1)).all p = true := by
  rw [List.take_succ_eq_append_getElem hk, List.all_append, h]
  simp [hp]
theorem pall_fail {p : PM → Bool} {ps : List PM} {k : Nat} (hk : k < ps.length) (hp : p ps[k] = false) : ps.all p = false := by
  cases e : ps.all p
  · rfl
  · have := List.all_eq_true.1 e ps[k] (List.getElem_mem hk)
    rw [hp] at this
    cases this
set_option maxHeartbeats 1600000 in
set_option maxRecDepth 100000 in
theorem ix_maps (A : Option Addr) (c : Nat) (ps : List PM) (w : World) (hr : PRow w A ps) (hl : ps.length ≤ 100000) :
    Calls Tryz.prog 69 #[.slice A ps.length c, .func (.func 53) #[] #[]] w fun e w' => (∃ j : Int, e = .returned (.int .i64 j) ∧ -1 ≤ j ∧ decide (0 ≤ j) = !ps.all pmV) ∧ Below w.heap.size w w' := by
  go_enter Tryz.func69, Tryz.ntmps69
  go_wp2_with fail
  have hst : Hid ((ps.take 0).all pmV = true) := Lib.hid rfl
  go_loopw [8] (fun x wr => ∃ k : Nat, k ≤ ps.length ∧ x = .int .i64 (k : Int) ∧ Hid ((ps.take k).all pmV = true) ∧ Below w.heap.size w wr) (fun x _ => ps.length - (intOf x).toNat)
  case atStart => exact ⟨0, Nat.zero_le _, rfl, hst, Below.refl _ _⟩
  case round =>
    obtain ⟨k, hk, rfl, ht, hb⟩ := hrel
    clear hst
    by_cases hlt : k < ps.length
    · have hr1 := hr.below hb
      obtain ⟨a1, rfl, c0, c1, c2, c3, c4, c5⟩ := hr1.at_ hlt
      have hwf := hr1.wf ps[k] (List.getElem_mem hlt)
      have hlen := hr1.len ps[k] (List.getElem_mem hlt)
      cases hp : pmV ps[k] with
      | true =>
        have Hn := Lib.hid (pall_take ht.out hlt hp)
        have kN := pm_nvalid ps[k] wr hwf hlen
        rw [hp] at kN
        simp only [PM.val, PM.cells] at kN
        have kN := hide kN
        clear hp hwf hlen
        generalize ps[k] = p at *
        go_wp2_with (go_at_call 53; refine (unhide kN).mono ?_; rintro e w2 ⟨rfl, hb2⟩)
        go_roundw
        case rel => exact ⟨k + 1, by omega, by go_num, Hn, hb.trans (hb2.mono hb.size)⟩
        case measure => simp [intOf]; omega
      | false =>
        have Hn := Lib.hid (pall_fail hlt hp)
        have kN := pm_nvalid ps[k] wr hwf hlen
        rw [hp] at kN
        simp only [PM.val, PM.cells] at kN
        have kN := hide kN
        clear hp hwf hlen
        generalize ps[k] = p at *
        go_wp2_with (go_at_call 53; refine (unhide kN).mono ?_; rintro e w2 ⟨rfl, hb2⟩)
        go_ret
        exact ⟨⟨_, rfl, by omega, by rw [Hn.out, decide_eq_true (by omega)]; rfl⟩, hb.trans (hb2.mono hb.size)⟩
    · obtain rfl : k = ps.length := by omega
      have Hn := Lib.hid (show ps.all pmV = true by have := ht.out; rwa [List.take_length] at this)
      clear ht
      go_wp2
      go_ret
      exact ⟨⟨_, rfl, by omega, by rw [Hn.out]; rfl⟩, hb⟩
theorem cf_maps (A : Option Addr) (c : Nat) (ps : List PM) (w : World) (hr : PRow w A ps) (hl : ps.length ≤ 100000) :
    Calls Tryz.prog 42 #[.slice A ps.length c, .func (.func 53) #[] #[]] w fun e w' => e = .returned (.bool (!ps.all pmV)) ∧ Below w.heap.size w w' := by
  have kI := hide (ix_maps A c ps w hr hl)
  generalize (!ps.all pmV) = b at *
  go_enter Tryz.func42, Tryz.ntmps42
  go_wp2_with (go_at_call 69; refine (unhide kI).mono ?_; rintro e w2 ⟨⟨j, rfl, hj, hb⟩, hB⟩)
  go_ret
  exact ⟨rfl, hB⟩
/-- A list of maps is valid. -/
def pmA (ps : List PM) : Bool := decide (ps.length ≤ 4) && ps.all pmV
theorem pm_all (A : Option Addr) (c : Nat) (ps : List PM) (w : World) (hr : PRow w A ps) (hl : ps.length ≤ 9223372036854775807) :
    Calls Tryz.prog 33 #[.slice A ps.length c] w fun e w' => e = .returned (.bool (pmA ps)) ∧ Below w.heap.size w w' := by
  unfold pmA
  by_cases h4 : ps.length ≤ 4
  · have kC := hide (cf_maps A c ps w hr (by omega))
    rw [decide_eq_true h4, Bool.true_and]
    generalize ps.all pmV = b at *
    clear hr
    go_enter Tryz.func33, Tryz.ntmps33
    go_wp2_with (go_at_call 42; refine (unhide kC).mono ?_; rintro e w2 ⟨rfl, hB⟩)
    go_ret
    exact ⟨ret_bool (by simp), hB⟩
  · rw [decide_eq_false h4, Bool.false_and]
    have h4' : 4 < ps.length := by omega
    clear hr
    go_enter Tryz.func33, Tryz.ntmps33
    go_wp2
    go_ret
    exact ⟨rfl, Below.refl _ _⟩
end Go.Proofs.YtokcpammdhkecaaGreatDoor
