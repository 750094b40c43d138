/-
  Texts of this claim, joined in one file: each begins with its own sentence.
-/
import Derived.Test.YtokcpammdhkecaaGreatDoorGa
import Derived.Lib.IndexMore
import Derived.Lib.TrimByte
import Derived.Test.YtokcpammdhkecaaGreatDoorGd
import Derived.Deep.QuietTactic
import Derived.Sort.AtCall
import Derived.Deep.RegionHeld3
/-
  Zeros, and '[]byte(s)' as one step: what the texts on entities need in chapter 37.
-/
namespace Go.Proofs.YtokcpammdhkecaaGreatDoor
open Go.RowKit

def zS (n : Nat) : ByteArray := ⟨(List.replicate n (0 : UInt8)).toArray⟩
theorem zS_size (n : Nat) : (zS n).size = n := by rw [Lib.size_eq]; simp [zS]
theorem repeatL_zero : ∀ n, Lib.repeatL [(0 : UInt8)] n = List.replicate n 0
  | 0 => rfl
  | n + 1 => by rw [List.replicate_succ, ← repeatL_zero n]; rfl
theorem zeros_any (n : Int) (h0 : 0 ≤ n) (h : n ≤ 1000) (w : World) : Calls Tryz.prog 58 #[.string ⟨#[0]⟩, .int .i64 n] w fun e w' => e = .returned (.string (zS n.toNat)) ∧ Below w.heap.size w w' := by
  obtain ⟨m, rfl⟩ := Int.eq_ofNat_of_zero_le h0
  have hs : (⟨#[0]⟩ : ByteArray).size = 1 := rfl
  refine (Tryz.strings_Repeat ⟨#[0]⟩ m w (by omega) (by rw [hs]; omega)).mono fun e w' hh => ⟨?_, hh.2⟩
  rw [hh.1, Int.toNat_natCast]
  unfold zS
  rw [← repeatL_zero]
/-- '[]byte(s)': a new row with the string's bytes. -/
theorem wpList_bytes {P : Program} (w : World) {ops : Array Oper} {rest : List Oper} {o : Oper} {a : Act} {Q : Exit → Act → World → Prop}
    (hg : o.guard = none) (x : Operand) (src dst e : TypeId) (hop : o.op = Op.convert src dst x) (hs : P.underlying src = some .string) (hd : P.underlying dst = some (.slice e)) (he : P.underlying e = some (.int .u8))
    (s : ByteArray) (hx : a.eval x = .string s)
    (hK : ∀ w' cap, Below w.heap.size w w' → w.heap.size < w'.heap.size → s.size ≤ cap → (∀ j, j < s.size → w'.cell? ⟨w.heap.size, j, none⟩ = some (.int .u8 (s.data.toList.getD j 0).toNat)) →
      wpList P ops Q rest (a.put o.dst (.slice (some ⟨w.heap.size, 0, none⟩) s.size cap)) w') :
    wpList P ops Q (o :: rest) a w := by
  refine wpList_plain hg fun K hK' => ?_
  have hrun := Lib.run_convert_string_bytes (P := P) w src dst e s hs hd he
  unfold Oper.wp
  simp [execOp, hop, hx, hrun, Result.andThen]
  exact hK' _ _ (hK _ _ ⟨rfl, rfl, rfl, by rw [Lib.bytesWorld_size]; omega, fun i hi => Lib.bytesWorld_at_old w e s i hi⟩ (by rw [Lib.bytesWorld_size]; omega) (grownCap_ge w s.size 0 e) (fun j hj => Lib.bytesWorld_cell w e s j hj))
end Go.Proofs.YtokcpammdhkecaaGreatDoor

/-
  udfstring.printable: its predicate, and what it gives at each string.
-/
namespace Go.Proofs.YtokcpammdhkecaaGreatDoor
open Go.RowKit

def prB (b : UInt8) : Bool := decide (32 ≤ b.toNat ∧ b.toNat ≤ 126)
def prL (l : List UInt8) : Bool := l.all prB
def prS (s : ByteArray) : Bool := decide (1 ≤ s.size) && (decide (s.size ≤ 23) && prL s.data.toList)

theorem pr_byte (b : UInt8) (w : World) : Calls Tryz.prog 103 #[.int .u8 (b.toNat : Int)] w fun e w' => e = .returned (.bool (!prB b)) ∧ w' = w := by
  by_cases h1 : 32 ≤ b.toNat
  · by_cases h2 : b.toNat ≤ 126
    · have hp : prB b = true := by unfold prB; rw [decide_eq_true_eq]; exact ⟨h1, h2⟩
      rw [hp]
      have g1 : ¬ (b.toNat : Int) < 32 := by omega
      have g2 : ¬ (126 : Int) < (b.toNat : Int) := by omega
      go_enter Tryz.func103, Tryz.ntmps103
      go_wp2
      go_ret
      exact ⟨rfl, rfl⟩
    · have hp : prB b = false := by unfold prB; rw [decide_eq_false_iff_not]; intro h; exact h2 h.2
      rw [hp]
      have g1 : ¬ (b.toNat : Int) < 32 := by omega
      have g2 : (126 : Int) < (b.toNat : Int) := by omega
      go_enter Tryz.func103, Tryz.ntmps103
      go_wp2
      go_ret
      exact ⟨rfl, rfl⟩
  · have hp : prB b = false := by unfold prB; rw [decide_eq_false_iff_not]; intro h; exact h1 h.1
    rw [hp]
    have g1 : (b.toNat : Int) < 32 := by omega
    go_enter Tryz.func103, Tryz.ntmps103
    go_wp2
    go_ret
    exact ⟨rfl, rfl⟩

set_option maxHeartbeats 1600000 in
set_option maxRecDepth 100000 in
theorem idx_func (l : List UInt8) (g n cap : Nat) (w : World) (hn : n = l.length) (hcap : n ≤ cap) (hm : n ≤ 1000) (hcell : ∀ j, j < n → w.cell? ⟨g, j, none⟩ = some (.int .u8 (l.getD j 0).toNat)) :
    Calls Tryz.prog 120 #[.slice (some ⟨g, 0, none⟩) n cap, .func (.func 103) #[] #[]] w fun e w' => ∃ r : Int, e = .returned (.int .i64 r) ∧ decide (0 ≤ r) = !prL l ∧ w' = w := by
  have kB := hide pr_byte
  have Hn := Lib.hid hn
  clear hn
  go_enter Tryz.func120, Tryz.ntmps120
  go_wp2
  go_loopw [8] (fun x wr => ∃ j : Nat, j ≤ n ∧ x = .int .i64 (j : Int) ∧ wr = w ∧ Hid (prL (l.take j) = true)) (fun x _ => n - (intOf x).toNat)
  case atStart => exact ⟨0, Nat.zero_le _, rfl, rfl, Lib.hid rfl⟩
  case round =>
    obtain ⟨j, hj, rfl, rfl, hp⟩ := hrel
    by_cases hjn : j < n
    · have hc := hcell j hjn
      have hjl : j < l.length := by rw [← Hn.out]; exact hjn
      have hg : l.getD j 0 = l[j] := by rw [List.getD_eq_getElem?_getD, List.getElem?_eq_getElem hjl]; rfl
      have htk : prL (l.take (j + 1)) = prB l[j] := by
        rw [← List.take_append_getElem hjl]
        have := hp.out
        unfold prL at this ⊢
        rw [List.all_append, this]
        simp
      rw [hg] at hc
      generalize hb : l[j] = b at hc htk
      cases hpb : prB b with
      | true =>
        have kb := hide (fun w => pr_byte b w)
        rw [hpb] at kb htk
        have Ht := Lib.hid htk
        clear hg htk hb hpb hjl hcell
        go_wp2_with (go_at_call 103; refine (unhide kb _).mono ?_; rintro e w1 ⟨rfl, rfl⟩)
        go_roundw
        case rel => exact ⟨j + 1, by omega, by first | rfl | (congr 1; done) | (congr 1; omega), by first | rfl | trivial, Ht⟩
        case measure => simp [intOf]; omega
      | false =>
        have kb := hide (fun w => pr_byte b w)
        have hall : prL l = false := by
          cases e : prL l
          · rfl
          · exfalso
            have := List.all_eq_true.1 e l[j] (List.getElem_mem hjl)
            rw [hb, hpb] at this
            cases this
        rw [hpb] at kb
        have Ht := Lib.hid hall
        clear hg htk hb hpb hjl hall hcell
        go_wp2_with (go_at_call 103; refine (unhide kb _).mono ?_; rintro e w1 ⟨rfl, rfl⟩)
        go_ret
        exact ⟨_, rfl, by rw [Ht.out]; simp, rfl⟩
    · have hjj : j = n := by omega
      subst hjj
      go_wp2
      go_ret
      refine ⟨_, rfl, ?_, rfl⟩
      have := hp.out
      rw [Hn.out, List.take_length] at this
      rw [this]
      decide

set_option maxHeartbeats 1600000 in
set_option maxRecDepth 100000 in
theorem contains_func (l : List UInt8) (g n cap : Nat) (w : World) (hn : n = l.length) (hcap : n ≤ cap) (hm : n ≤ 1000) (hcell : ∀ j, j < n → w.cell? ⟨g, j, none⟩ = some (.int .u8 (l.getD j 0).toNat)) :
    Calls Tryz.prog 102 #[.slice (some ⟨g, 0, none⟩) n cap, .func (.func 103) #[] #[]] w fun e w' => e = .returned (.bool (!prL l)) ∧ w' = w := by
  have kI := hide (idx_func l g n cap w hn hcap hm hcell)
  clear hcell hn
  go_enter Tryz.func102, Tryz.ntmps102
  go_wp2_with fail
  refine (unhide kI).mono ?_
  rintro e w1 ⟨r, rfl, hr, rfl⟩
  have Hr := Lib.hid hr
  clear hr
  go_wp2_with fail
  go_ret
  exact ⟨ret_bool Hr.out, rfl⟩

set_option maxHeartbeats 1600000 in
set_option maxRecDepth 100000 in
theorem udf_printable (s : ByteArray) (w : World) (hs : s.size ≤ 1000) :
    Calls Tryz.prog 81 #[.string s] w fun e w' => e = .returned (.bool (prS s)) ∧ Below w.heap.size w w' := by
  by_cases h1 : 1 ≤ s.size
  · by_cases h2 : s.size ≤ 23
    · have hp : prS s = prL s.data.toList := by unfold prS; rw [decide_eq_true h1, decide_eq_true h2]; rfl
      rw [hp]
      have hl : s.size = s.data.toList.length := Lib.size_eq s
      obtain ⟨w2, cap, hcv, hb2, hcap, hcell⟩ : ∃ w2 cap, (convert 9 113 (.string s)).run Tryz.prog w = .ok (.slice (some ⟨w.heap.size, 0, none⟩) s.size cap) w2 ∧ Below w.heap.size w w2 ∧ s.size ≤ cap ∧ (∀ j, j < s.size → w2.cell? ⟨w.heap.size, j, none⟩ = some (.int .u8 (s.data.toList.getD j 0).toNat)) :=
        ⟨_, _, Lib.run_convert_string_bytes (P := Tryz.prog) w 9 113 5 s Tryz.underlying9 Tryz.underlying113 Tryz.underlying5, ⟨rfl, rfl, rfl, by rw [Lib.bytesWorld_size]; omega, fun i hi => Lib.bytesWorld_at_old w _ s i hi⟩, grownCap_ge w s.size 0 _, fun j hj => Lib.bytesWorld_cell w _ s j hj⟩
      have kF := hide (contains_func s.data.toList w.heap.size s.size cap w2 hl hcap (by omega) hcell)
      clear hcell hl hp
      go_enter Tryz.func81, Tryz.ntmps81
      go_wp2_with (go_at_call 102; refine (unhide kF).mono ?_; rintro e w3 ⟨rfl, rfl⟩)
      go_ret
      exact ⟨ret_bool (by simp), hb2⟩
    · have hp : prS s = false := by unfold prS; rw [decide_eq_false h2, Bool.false_and, Bool.and_false]
      rw [hp]
      have h2' : 23 < s.size := by omega
      clear hp
      go_enter Tryz.func81, Tryz.ntmps81
      go_wp2
      go_ret
      exact ⟨rfl, Below.refl _ _⟩
  · have hp : prS s = false := by unfold prS; rw [decide_eq_false h1, Bool.false_and]
    rw [hp]
    have h2' : s.size < 1 := by omega
    clear hp
    go_enter Tryz.func81, Tryz.ntmps81
    go_wp2
    go_ret
    exact ⟨rfl, Below.refl _ _⟩
end Go.Proofs.YtokcpammdhkecaaGreatDoor

/-
  udfstring.Entity: what it gives at each pair of strings.
-/
namespace Go.Proofs.YtokcpammdhkecaaGreatDoor
open Go.RowKit

def entO (i s : ByteArray) : Bool := prS i && decide (s.size ≤ 8)
def entS (i s : ByteArray) : ByteArray := if entO i s = true then ⟨#[0]⟩ ++ i ++ zS (23 - i.size) ++ s ++ zS (8 - s.size) else ⟨#[]⟩
def entE (i s : ByteArray) : Int := if entO i s = true then 0 else 1

theorem prS_size {i : ByteArray} (h : prS i = true) : 1 ≤ i.size ∧ i.size ≤ 23 ∧ prL i.data.toList = true := by
  unfold prS at h
  simp only [Bool.and_eq_true, decide_eq_true_eq] at h
  exact ⟨h.1, h.2.1, h.2.2⟩

theorem ent_zeros (n : Int) (h0 : 0 ≤ n) (h : n ≤ 1000) (w : World) : Calls Tryz.prog 82 #[.int .i64 n] w fun e w' => e = .returned (.string (zS n.toNat)) ∧ Below w.heap.size w w' := by
  have kZ := hide (zeros_any n h0 h w)
  go_enter Tryz.func82, Tryz.ntmps82
  go_wp2_with fail
  refine (unhide kZ).mono ?_
  rintro e w1 ⟨rfl, hb1⟩
  go_wp2_with fail
  go_ret
  exact ⟨rfl, hb1⟩

set_option maxHeartbeats 1600000 in
set_option maxRecDepth 100000 in
theorem udf_Entity (i s : ByteArray) (w : World) (hi : i.size ≤ 60) (hs : s.size ≤ 60) :
    Calls Tryz.prog 56 #[.string i, .string s] w fun e w' => e = .returned (.tuple #[.string (entS i s), .int .i64 (entE i s)]) ∧ Below w.heap.size w w' := by
  have kP := udf_printable i w (by omega)
  cases hp : prS i with
  | false =>
    have ho : entO i s = false := by unfold entO; rw [hp]; rfl
    have r1 : entS i s = ⟨#[]⟩ := by unfold entS; rw [ho]; rfl
    have r2 : entE i s = 1 := by unfold entE; rw [ho]; rfl
    rw [r1, r2]
    rw [hp] at kP
    have KP := hide kP
    clear r1 r2 ho hp kP
    go_enter Tryz.func56, Tryz.ntmps56
    go_wp2_with fail
    refine (unhide KP).mono ?_
    rintro e w1 ⟨rfl, hb1⟩
    go_wp2_with fail
    go_ret2
    exact ⟨rfl, hb1⟩
  | true =>
    rw [hp] at kP
    have KP := hide kP
    clear kP
    by_cases h8 : s.size ≤ 8
    · have ho : entO i s = true := by unfold entO; rw [hp, decide_eq_true h8]; rfl
      obtain ⟨hi1, hi2, _⟩ := prS_size hp
      obtain ⟨Z1, hZ1⟩ : ∃ Z, Z = zS (23 - i.size) := ⟨_, rfl⟩
      obtain ⟨Z2, hZ2⟩ : ∃ Z, Z = zS (8 - s.size) := ⟨_, rfl⟩
      have r1 : entS i s = ⟨#[0]⟩ ++ i ++ Z1 ++ s ++ Z2 := by unfold entS; rw [ho, hZ1, hZ2]; rfl
      have r2 : entE i s = 0 := by unfold entE; rw [ho]; rfl
      rw [r1, r2]
      have z1 : Z1.size ≤ 23 := by rw [hZ1, zS_size]; omega
      have z2 : Z2.size ≤ 8 := by rw [hZ2, zS_size]; omega
      have kZ1 := fun w => ent_zeros (23 - (i.size : Int)) (by omega) (by omega) w
      have kZ2 := fun w => ent_zeros (8 - (s.size : Int)) (by omega) (by omega) w
      rw [show (23 - (i.size : Int)).toNat = 23 - i.size by omega, ← hZ1] at kZ1
      rw [show (8 - (s.size : Int)).toNat = 8 - s.size by omega, ← hZ2] at kZ2
      have KZ1 := hide kZ1
      have KZ2 := hide kZ2
      clear kZ1 kZ2 r1 r2 ho hp hZ1 hZ2
      have hz0 : (⟨#[0]⟩ : ByteArray).size = 1 := rfl
      go_enter Tryz.func56, Tryz.ntmps56
      go_wp2_with fail
      refine (unhide KP).mono ?_
      rintro e w1 ⟨rfl, hb1⟩
      have hw1 : IntKind.i64.wrap (23 - (i.size : Int)) = 23 - (i.size : Int) := IntWalk.i64_in _ (by omega)
      have hw2 : IntKind.i64.wrap (8 - (s.size : Int)) = 8 - (s.size : Int) := IntWalk.i64_in _ (by omega)
      go_wp2_with fail
      refine (unhide KZ1 _).mono ?_
      rintro e w2 ⟨rfl, hb2⟩
      go_wp2_with fail
      refine (unhide KZ2 _).mono ?_
      rintro e w3 ⟨rfl, hb3⟩
      go_wp2_with fail
      go_ret2
      exact ⟨rfl, hb1.trans ((hb2.trans (hb3.mono hb2.size)).mono hb1.size)⟩
    · have ho : entO i s = false := by unfold entO; rw [hp, decide_eq_false h8]; rfl
      have r1 : entS i s = ⟨#[]⟩ := by unfold entS; rw [ho]; rfl
      have r2 : entE i s = 1 := by unfold entE; rw [ho]; rfl
      rw [r1, r2]
      have h8' : 8 < s.size := by omega
      clear r1 r2 ho hp
      go_enter Tryz.func56, Tryz.ntmps56
      go_wp2_with fail
      refine (unhide KP).mono ?_
      rintro e w1 ⟨rfl, hb1⟩
      go_wp2_with fail
      go_ret2
      exact ⟨rfl, hb1⟩
end Go.Proofs.YtokcpammdhkecaaGreatDoor

/-
  A partition map in a box of the call's own; a region that draws its order of evaluation, over worlds that keep the box.
-/
namespace Go.Proofs.YtokcpammdhkecaaGreatDoor
open Go.RowKit

/-- Since the world w0 nothing of it has changed, and block g holds the map. -/
structure Bx (w0 w' : World) (g : Nat) (k n : Int) (S : Value) (f m b : Int) : Prop where
  low : Below w0.heap.size w0 w'
  lo : w0.heap.size ≤ g
  hi : g < w'.heap.size
  c0 : w'.cell? ⟨g, 0, none⟩ = some (.int .i64 k)
  c1 : w'.cell? ⟨g, 1, none⟩ = some (.int .i64 n)
  c2 : w'.cell? ⟨g, 2, none⟩ = some S
  c3 : w'.cell? ⟨g, 3, none⟩ = some (.int .i64 f)
  c4 : w'.cell? ⟨g, 4, none⟩ = some (.int .i64 m)
  c5 : w'.cell? ⟨g, 5, none⟩ = some (.int .i64 b)
theorem Bx.step {w0 w' w'' : World} {g : Nat} {k n : Int} {S : Value} {f m b : Int} (h : Bx w0 w' g k n S f m b) (hb : Below w'.heap.size w' w'') : Bx w0 w'' g k n S f m b :=
  ⟨h.low.trans (hb.mono h.low.size), h.lo, Nat.lt_of_lt_of_le h.hi hb.size, (hb.cell h.hi).trans h.c0, (hb.cell h.hi).trans h.c1, (hb.cell h.hi).trans h.c2, (hb.cell h.hi).trans h.c3, (hb.cell h.hi).trans h.c4, (hb.cell h.hi).trans h.c5⟩
theorem Bx.drew {w0 w' : World} {g : Nat} {k n : Int} {S : Value} {f m b : Int} (h : Bx w0 w' g k n S f m b) : Bx w0 w'.drew g k n S f m b :=
  h.step ((Below.refl _ _).drew)

/-- A region over a class of worlds, its operations written out. -/
theorem wp_region_quietC {P : Program} {C : World → Prop} {id : Nat} {Q : Exit → Act → World → Prop} {a : Act} {w : World} {l : List Oper} (hm : P.follows .mixedOrders = true) (hB : Region.lexB .any l.toArray = true) (hC : C w.drew)
    (h : wpQuiet P l.toArray C (fun a' => ∀ w', C w' → Q .normal a' w') l a) : (Code.region id l.toArray true).wp P Q a w :=
  wp_region_quiet (C := C) hm hB hC (by simpa using h)
end Go.Proofs.YtokcpammdhkecaaGreatDoor

/-
  partitionmap.bytes: the bytes of a valid map.
-/
namespace Go.Proofs.YtokcpammdhkecaaGreatDoor
open Go.RowKit

theorem fits2 {n : Int} (h0 : 0 ≤ n) (h : n ≤ 65535) : Fits n 2 := ⟨h0, .inr (.inl ⟨rfl, by omega⟩)⟩
theorem fitsOne {n : Int} (h0 : 0 ≤ n) (h : n ≤ 255) : Fits n 1 := ⟨h0, .inl ⟨rfl, by omega⟩⟩
theorem fits4 {n : Int} (h : wordB n = true) : Fits n 4 := by
  have := of_decide_eq_true (show decide _ = true from h)
  exact ⟨this.1, .inr (.inr (.inl ⟨rfl, this.2⟩))⟩
/-- The bytes of a physical map. -/
def phyB (n : Int) : ByteArray := ⟨#[1, 6]⟩ ++ leS 1 2 ++ leS n.toNat 2
set_option maxHeartbeats 1600000 in
set_option maxRecDepth 100000 in
theorem pm_bytes_0 (n : Int) (A : Option Addr) (c : Nat) (xs : List Int) (f m b : Int) (w : World) (h0 : 0 ≤ n) (h1 : n ≤ 65535) :
    Calls Tryz.prog 34 #[.agg #[.int .i64 0, .int .i64 n, .slice A xs.length c, .int .i64 f, .int .i64 m, .int .i64 b]] w fun e w' => e = .returned (.string (phyB n)) ∧ Below w.heap.size w w' := by
  have k1 : Hid (∀ w, Calls Tryz.prog 55 #[.int .i64 1, .int .i64 2] w fun e w' => e = .returned (.string (leS 1 2)) ∧ Below w.heap.size w w') := fun w => pm_little 1 2 (fits2 (by omega) (by omega)) w
  have k2 : Hid (∀ w, Calls Tryz.prog 55 #[.int .i64 n, .int .i64 2] w fun e w' => e = .returned (.string (leS n.toNat 2)) ∧ Below w.heap.size w w') := fun w => pm_little n 2 (fits2 h0 h1) w
  have z1 := leS_size 1 2
  have z2 := leS_size n.toNat 2
  unfold phyB
  generalize leS 1 2 = s1 at *
  generalize leS n.toNat 2 = s2 at *
  have y1 : s1.size ≤ 2 := by omega
  have y2 : s2.size ≤ 2 := by omega
  clear z1 z2
  go_enter Tryz.func34, Tryz.ntmps34
  go_wp2_with fail
  have B0 : Bx w (w.alloc (.cells #[.int .i64 0, .int .i64 n, .slice A xs.length c, .int .i64 f, .int .i64 m, .int .i64 b] 65)) w.heap.size 0 n (.slice A xs.length c) f m b :=
    ⟨(Below.refl _ _).alloc (Nat.le_refl _) _, Nat.le_refl _, by simp, by simp, by simp, by simp, by simp, by simp, by simp⟩
  refine wp_region_quietC (C := fun w' => Bx w w' w.heap.size 0 n (.slice A xs.length c) f m b) (by kernel_rfl) (by kernel_rfl) B0.drew ?_
  clear B0
  repeat
    refine wpQuiet_step (fun K hK => ?_)
    rw [if_pos (by rfl)]
    apply Exists.intro
    refine ⟨fun w' hw' => ?_, hK _ ?_⟩
    · have q1 := hw'.c1
      unfold Oper.quietAt
      go_simp
      first
        | done
        | exact rfl
        | (rw [if_neg (by first | omega | (simp only [ByteArray.size_append]; omega))]; first | exact ⟨rfl, rfl⟩ | (go_simp; first | done | exact rfl))
        | (go_at_call_has 55 (#[Value.int .i64 1, Value.int .i64 2]); exact (unhide k1 w').mono (fun e w2 h => ⟨h.1, hw'.step h.2⟩))
        | (go_at_call_has 55 (#[Value.int .i64 n, Value.int .i64 2]); exact (unhide k2 w').mono (fun e w2 h => ⟨h.1, hw'.step h.2⟩))
    clear hK K
    simp only [Act.put, List.setIfInBounds_toArray, List.set_cons_zero, List.set_cons_succ]
  refine wpQuiet_nil ?_
  intro w2 hw2
  have hb2 := hw2.low
  clear hw2
  go_wp2
  go_ret
  exact ⟨rfl, hb2⟩
end Go.Proofs.YtokcpammdhkecaaGreatDoor

/-
  partitionmap.bytes: the bytes of a virtual map.
-/
namespace Go.Proofs.YtokcpammdhkecaaGreatDoor
open Go.RowKit

theorem entS_size {i s : ByteArray} (h : entO i s = true) : (entS i s).size = 32 := by
  unfold entS
  rw [if_pos h]
  unfold entO at h
  simp only [Bool.and_eq_true, decide_eq_true_eq] at h
  obtain ⟨hp, hs⟩ := h
  have hi := (prS_size hp).2.1
  simp only [ByteArray.size_append, zS_size]
  have : (⟨#[0]⟩ : ByteArray).size = 1 := rfl
  omega
/-- What stands ahead in a map with 64 bytes. -/
def hdB (i : ByteArray) (n : Int) : ByteArray := ⟨#[2, 64, 0, 0]⟩ ++ entS i ⟨#[1, 2]⟩ ++ leS 1 2 ++ leS n.toNat 2
def virB (n : Int) : ByteArray := hdB idV n ++ zS 24
set_option maxHeartbeats 1600000 in
set_option maxRecDepth 100000 in
theorem pm_bytes_1 (n : Int) (A : Option Addr) (c : Nat) (xs : List Int) (f m b : Int) (w : World) (h0 : 0 ≤ n) (h1 : n ≤ 65535) :
    Calls Tryz.prog 34 #[.agg #[.int .i64 1, .int .i64 n, .slice A xs.length c, .int .i64 f, .int .i64 m, .int .i64 b]] w fun e w' => e = .returned (.string (virB n)) ∧ Below w.heap.size w w' := by
  have k1 : Hid (∀ w, Calls Tryz.prog 55 #[.int .i64 1, .int .i64 2] w fun e w' => e = .returned (.string (leS 1 2)) ∧ Below w.heap.size w w') := fun w => pm_little 1 2 (fits2 (by omega) (by omega)) w
  have k2 : Hid (∀ w, Calls Tryz.prog 55 #[.int .i64 n, .int .i64 2] w fun e w' => e = .returned (.string (leS n.toNat 2)) ∧ Below w.heap.size w w') := fun w => pm_little n 2 (fits2 h0 h1) w
  have kE : Hid (∀ w, Calls Tryz.prog 56 #[.string idV, .string ⟨#[1, 2]⟩] w fun e w' => e = .returned (.tuple #[.string (entS idV ⟨#[1, 2]⟩), .int .i64 (entE idV ⟨#[1, 2]⟩)]) ∧ Below w.heap.size w w') := fun w => udf_Entity idV ⟨#[1, 2]⟩ w (by decide) (by decide)
  have kZ : Hid (∀ w, Calls Tryz.prog 58 #[.string ⟨#[0]⟩, .int .i64 24] w fun e w' => e = .returned (.string (zS 24)) ∧ Below w.heap.size w w') := fun w => zeros_any 24 (by decide) (by decide) w
  have ze : (entS idV ⟨#[1, 2]⟩).size = 32 := entS_size (by decide)
  have z0 : (leS 1 2).size = 2 := leS_size _ _
  have z1 : (leS n.toNat 2).size = 2 := leS_size _ _
  have z9 : (zS 24).size = 24 := zS_size 24
  unfold virB hdB
  generalize entS idV ⟨#[1, 2]⟩ = nm at *
  generalize entE idV ⟨#[1, 2]⟩ = er at *
  generalize zS 24 = zz at *
  generalize leS 1 2 = s0 at *
  generalize leS n.toNat 2 = s1 at *
  have ye : nm.size ≤ 32 := by omega
  have y0 : s0.size ≤ 2 := by omega
  have y1 : s1.size ≤ 2 := by omega
  have y9 : zz.size ≤ 24 := by omega
  have hsz : ((⟨#[2, 64, 0, 0]⟩ : ByteArray) ++ nm ++ s0 ++ s1).size = 40 := by
    simp only [ByteArray.size_append, ze, z0, z1]
    rfl
  have Hsz := Lib.hid hsz
  clear hsz ze z0 z1 z9
  go_enter Tryz.func34, Tryz.ntmps34
  go_wp2_with fail
  have B0 : Bx w (w.alloc (.cells #[.int .i64 1, .int .i64 n, (.slice A xs.length c), .int .i64 f, .int .i64 m, .int .i64 b] 65)) w.heap.size 1 n (.slice A xs.length c) f m b :=
    ⟨(Below.refl _ _).alloc (Nat.le_refl _) _, Nat.le_refl _, by simp, by simp, by simp, by simp, by simp, by simp, by simp⟩
  have hB0 := Lib.hid B0.drew
  clear B0
  go_region_held3 (fun w' => w'.cell? ⟨w.heap.size, 0, none⟩ = some (.int .i64 1) ∧ Bx w w' w.heap.size 1 n (.slice A xs.length c) f m b) (first | assumption | exact ⟨hB0.out.c0, hB0.out⟩ | exact ⟨(Bx.step (‹_ ∧ Bx _ _ _ _ _ _ _ _ _›.2) hb2).c0, Bx.step (‹_ ∧ Bx _ _ _ _ _ _ _ _ _›.2) hb2⟩ | exact ⟨(Bx.step (‹_ ∧ Bx _ _ _ _ _ _ _ _ _›.2) hb3).c0, Bx.step (‹_ ∧ Bx _ _ _ _ _ _ _ _ _›.2) hb3⟩) (first
    | (go_at_call 57; refine (pm_identifiers _).mono ?_; rintro e w2 ⟨B, rfl, hm2, hb2⟩; have hl2 := run_lookup_int (P := Tryz.prog) Tryz.underlying87 Tryz.underlying3 hm2 1 0 (.string idV) rfl rfl)
    | (go_at_call 56; refine (unhide kE _).mono ?_; rintro e w3 ⟨rfl, hb3⟩))
  obtain ⟨_, hx⟩ := ‹_ ∧ Bx _ _ _ _ _ _ _ _ _›
  try clear hl2
  try clear hm2
  try clear hb2
  try clear hb3
  clear hB0
  go_wp2_with fail
  refine wp_region_quietC (C := fun w' => Bx w w' w.heap.size 1 n (.slice A xs.length c) f m b) (by kernel_rfl) (by kernel_rfl) hx.drew ?_
  repeat
    refine wpQuiet_step (fun K hK => ?_)
    rw [if_pos (by rfl)]
    apply Exists.intro
    refine ⟨fun w' hw' => ?_, hK _ ?_⟩
    · have q1 := hw'.c1
      unfold Oper.quietAt
      go_simp
      first
        | done
        | exact rfl
        | (rw [if_neg (by first | omega | (simp only [ByteArray.size_append]; omega))]; first | exact ⟨rfl, rfl⟩ | (go_simp; first | done | exact rfl))
        | (go_at_call_has 55 (#[Value.int .i64 1, Value.int .i64 2]); exact (unhide k1 w').mono (fun e w2 h => ⟨h.1, hw'.step h.2⟩))
        | (go_at_call_has 55 (#[Value.int .i64 n, Value.int .i64 2]); exact (unhide k2 w').mono (fun e w2 h => ⟨h.1, hw'.step h.2⟩))
    clear hK K
    simp only [Act.put, List.setIfInBounds_toArray, List.set_cons_zero, List.set_cons_succ]
  refine wpQuiet_nil ?_
  intro w4 hw4
  clear hx
  have q0 := hw4.c0
  have Hsz := Hsz.out
  generalize ho1 : (⟨#[2, 64, 0, 0]⟩ : ByteArray) ++ nm ++ s0 ++ s1 = o1 at *
  have Ho1 := Lib.hid ho1
  clear ho1
  have hI : (o1.size : Int) = 40 := by omega
  go_wp2_with (go_at_call 58; refine (unhide kZ _).mono ?_; rintro e w5 ⟨rfl, hb5⟩)
  go_ret
  exact ⟨by rw [Ho1.out]; rfl, (hw4.step hb5).low⟩
end Go.Proofs.YtokcpammdhkecaaGreatDoor
