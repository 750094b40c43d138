/-
  Texts of this claim, joined in one file: each begins with its own sentence.
-/
import Derived.Below
import Derived.Laws.OwnMore
import Derived.Deep.AppendLies
import Derived.Deep.Draws
import Derived.Maps.AppendAt
import Derived.RegionTactic
import Derived.OwnWalk
import Derived.Calls
import Derived.Deep.QuietTactic
import Derived.Deep.OwnRows
import Derived.Laws.AppendOwn
import Derived.Laws.MakeOwn
import Derived.Laws.Entries
import Derived.Lib.Hide
import Derived.Test.YtokcpammdhkecaaGreatDoorShelf
import Derived.WalkKit
import Derived.WalkSpells
import Derived.WalkSmall
import Derived.IntWalk
import Derived.Lib.Strings
import Derived.Lib.IndexBytes
import Derived.Lib.ConvBytes
import Derived.Laws.IdiomStrings
import Derived.Deep.DeepFit
import Derived.Deep.RegionWith
import Derived.BigQuiet
import Derived.StillTailTactics
import Derived.Lib.AppendZerosOnto
/-
  Words on memory for the proofs of this seat: a slice that reads as a list, an append onto a row of the call's own, draws. Lemmas that the guide's pages extra-words and extra-small offer for copying, and a few of our own.
-/
namespace Go.Proofs.YtokcpammdhkecaaGreatDoor
open Go.RowKit

theorem block_of_add (a : Addr) (n : Nat) : (a.add n).block = a.block := by unfold Addr.add; split <;> rfl
theorem add_of_add (a : Addr) (i j : Nat) : (a.add i).add j = a.add (i + j) := by
  unfold Addr.add
  by_cases hi : i = 0 <;> by_cases hj : j = 0 <;> simp [hi, hj, Nat.add_assoc]

def Reads (w : World) (B size : Nat) (A : Option Addr) (n : Nat) (xs : List Value) : Prop :=
  xs.length = n * size ∧ (0 < n → ∃ ad, A = some ad ∧ ad.block < B ∧ ∀ j u, xs[j]? = some u → w.cell? (ad.add j) = some u)

section
variable {w w' : World} {B B' size n : Nat} {A : Option Addr} {xs : List Value}
theorem Reads.none_ : Reads w B size A 0 [] := ⟨by simp, fun h => absurd h (by omega)⟩
theorem Reads.at_ {k : Nat} (h : Reads w B 1 A n xs) (hk : k < n) : ∃ ad u, A = some ad ∧ ad.block < B ∧ xs[k]? = some u ∧ w.cell? (ad.add k) = some u := by
  obtain ⟨ad, e, hb, hc⟩ := h.2 (by omega)
  have hl : k < xs.length := by have := h.1; omega
  exact ⟨ad, xs[k], e, hb, List.getElem?_eq_getElem hl, hc k _ (List.getElem?_eq_getElem hl)⟩
theorem Reads.keep (h : Reads w B size A n xs) (hk : ∀ p : Addr, p.block < B → w'.cell? p = w.cell? p) : Reads w' B size A n xs :=
  ⟨h.1, fun hn => by
    obtain ⟨ad, e, hb, hc⟩ := h.2 hn
    exact ⟨ad, e, hb, fun j u hu => (hk _ (by rw [block_of_add]; exact hb)).trans (hc j u hu)⟩⟩
theorem Reads.more (h : Reads w B size A n xs) (hB : B ≤ B') : Reads w B' size A n xs :=
  ⟨h.1, fun hn => by
    obtain ⟨ad, e, hb, hc⟩ := h.2 hn
    exact ⟨ad, e, by omega, hc⟩⟩
theorem Reads.below (h : Reads w B size A n xs) (hb : Below B w w') : Reads w' B size A n xs := h.keep fun _ hp => hb.cell hp
theorem Reads.drew (h : Reads w B size A n xs) : Reads w.drew B size A n xs := h
theorem Reads.drewN (h : Reads w B size A n xs) (k : Nat) : Reads (w.drewN k) B size A n xs := h
theorem Reads.alloc (h : Reads w B size A n xs) (hB : B ≤ w.heap.size) (o : Obj) : Reads (w.alloc o) B size A n xs := h.keep fun p hp => World.cell?_alloc_lt w o p (by omega)
theorem Reads.setCell (h : Reads w B size A n xs) {p : Addr} (hB : B ≤ p.block) (u : Value) : Reads (w.setCell p u) B size A n xs :=
  h.keep fun q hq => World.cell?_setCell_other w p q u (fun e => by subst e; omega)
theorem Reads.grown (h : Reads w B size A n xs) {row : Option Nat} (hg : w.grownBy w' row) (hB : B ≤ w.heap.size) (hr : ∀ g, row = some g → B ≤ g) : Reads w' B size A n xs :=
  h.keep fun p hp => World.cell?_of_block (hg.block p.block (by omega) (fun e => by have := hr _ e.symm; omega))
theorem Reads.cut (h : Reads w B size A n xs) {k cap : Nat} (hk : k ≤ n) (hc : n ≤ cap) :
    Reads w B size (if cap = k then A else A.map (·.add (k * size))) (n - k) (xs.drop (k * size)) := by
  refine ⟨by rw [List.length_drop, h.1, Nat.sub_mul], fun hn => ?_⟩
  obtain ⟨ad, rfl, hb, hcell⟩ := h.2 (by omega)
  rw [if_neg (by omega)]
  refine ⟨ad.add (k * size), rfl, by rw [block_of_add]; exact hb, fun j u hu => ?_⟩
  rw [add_of_add]
  exact hcell _ u (by rw [← hu, List.getElem?_drop])
theorem Reads.of_own {base : Nat} {e : TypeId} {c : Nat} (h : w.ownsRow base e size (.slice A n c) n xs) : Reads w w.heap.size size A n xs := by
  refine ⟨h.1, fun hn => ?_⟩
  obtain ⟨g, cap, hv, _, hlt⟩ := h.form hn
  have hA : A = some ⟨g, 0, none⟩ := by injection hv
  subst hA
  exact ⟨_, rfl, hlt, h.cells (g := g) rfl⟩
end

section
variable {P : Program} (w : World)

theorem run_append_of_nil (base : Nat) (t ty e : TypeId) (i : TypeInfo) (size : Nat) (ht : P.underlying t = some (.slice e)) (hi : P.info? e = some i)
    (v : Value) (n : Nat) (xs : List Value) (hown : w.ownsRow base e size v n xs) (c : Nat) : (Builtin.append_ #[t, t] ty #[v, .slice none 0 c]).run P w = .ok v w := by
  rcases hown.2 with ⟨rfl, rfl⟩ | ⟨g, cap, cur, rfl, _, _, hnc, _⟩
  · simp [Builtin.append_, run_underlying ht, sizeOf, typeInfo, hi, Builtin.lenOf, Builtin.firstCells]
  · simp [Builtin.append_, run_underlying ht, sizeOf, typeInfo, hi, Builtin.lenOf, Builtin.firstCells, hnc, storeCells]

theorem run_append_any (base : Nat) (t ty e : TypeId) (i : TypeInfo) (z : Value) (size bytes : Nat) (ht : P.underlying t = some (.slice e)) (hi : P.info? e = some i) (hz : i.zero = some z)
    (hsize : i.size = size) (hby : i.bytes = bytes) (hzs : z.cells.size = size) (hsz : 0 < size)
    (v : Value) (n : Nat) (xs : List Value) (hown : w.ownsRow base e size v n xs)
    (B : Nat) (A : Option Addr) (m c : Nat) (news : List Value) (hr : Reads w B size A m news) (h1 : ∀ u ∈ news, u.oneCell' = true)
    (h63 : n + m ≤ maxLen) (hbytes : (n + m) * bytes ≤ 140737488355328) (hbase : base ≤ w.heap.size) :
    ∃ v' w', (Builtin.append_ #[t, t] ty #[v, .slice A m c]).run P w = .ok v' w' ∧ w'.ownsRow base e size v' (n + m) (xs ++ news) ∧ w.grownBy w' v.ownBlock ∧
      (v'.ownBlock = v.ownBlock ∨ v'.ownBlock = some w.heap.size) := by
  rcases A with _ | ad
  · have hm : m = 0 := by
      rcases Nat.eq_zero_or_pos m with h0 | h0
      · exact h0
      · obtain ⟨ad, h, _⟩ := hr.2 h0
        cases h
    subst hm
    have hn : news = [] := List.eq_nil_of_length_eq_zero (by simpa using hr.1)
    subst hn
    exact ⟨v, w, run_append_of_nil w base t ty e i size ht hi v n xs hown c, by simpa using hown, World.grownBy.refl w _, .inl rfl⟩
  · have hcells : ∀ j u, news[j]? = some u → w.cell? (ad.add j) = some u := by
      intro j u hu
      rcases Nat.eq_zero_or_pos m with h0 | h0
      · subst h0
        have hn : news = [] := List.eq_nil_of_length_eq_zero (by simpa using hr.1)
        subst hn
        simp at hu
      · obtain ⟨ad', h, _, hc⟩ := hr.2 h0
        injection h with h
        subst h
        exact hc j u hu
    obtain ⟨v', w', hrun, h2, h3, _, h5⟩ := run_append_own_at (P := P) w base t ty e i z size bytes ht hi hz hsize hby hzs hsz v n xs hown ad m c news hr.1 hcells h1 h63 hbytes hbase
    exact ⟨v', w', hrun, h2, h3, h5⟩

theorem wp_append_any {o : Oper} {a : Act} {K : Act → World → Prop} {Q : Exit → Act → World → Prop} (s x : Operand) (t : TypeId)
    (ho : o.op = .call { callee := .builtin .append, args := #[s, x], argTypes := #[t, t] })
    (base : Nat) (e : TypeId) (i : TypeInfo) (z : Value) (size bytes : Nat) (ht : P.underlying t = some (.slice e)) (hi : P.info? e = some i) (hz : i.zero = some z)
    (hsize : i.size = size) (hby : i.bytes = bytes) (hzs : z.cells.size = size) (hsz : 0 < size)
    (v : Value) (n : Nat) (xs : List Value) (hs : a.eval s = v) (hown : w.ownsRow base e size v n xs)
    (B : Nat) (A : Option Addr) (m c : Nat) (news : List Value) (hx : a.eval x = .slice A m c) (hr : Reads w B size A m news) (h1 : ∀ u ∈ news, u.oneCell' = true)
    (h63 : n + m ≤ maxLen) (hbytes : (n + m) * bytes ≤ 140737488355328) (hbase : base ≤ w.heap.size)
    (h : ∀ v' w', w'.ownsRow base e size v' (n + m) (xs ++ news) → w.grownBy w' v.ownBlock → (v'.ownBlock = v.ownBlock ∨ v'.ownBlock = some w.heap.size) → K (a.put o.dst v') w') : o.wp P a w K Q := by
  obtain ⟨v', w', hrun, h2, h3, h4⟩ := run_append_any (P := P) w base t o.type e i z size bytes ht hi hz hsize hby hzs hsz v n xs hown B A m c news hr h1 h63 hbytes hbase
  unfold Oper.wp execOp
  simp only [ho, resolve, invoke, builtin, Sem.run_bind, Sem.run_pure, Result.andThen_ok, List.map_toArray, List.map_cons, List.map_nil, hs, hx, hrun]
  exact h v' w' h2 h3 h4

theorem wpList_append_any {ops : Array Oper} {rest : List Oper} {o : Oper} {a : Act} {Q : Exit → Act → World → Prop} (hgd : o.guard = none) (s x : Operand) (t : TypeId)
    (ho : o.op = .call { callee := .builtin .append, args := #[s, x], argTypes := #[t, t] })
    (base : Nat) (e : TypeId) (i : TypeInfo) (z : Value) (size bytes : Nat) (ht : P.underlying t = some (.slice e)) (hi : P.info? e = some i) (hz : i.zero = some z)
    (hsize : i.size = size) (hby : i.bytes = bytes) (hzs : z.cells.size = size) (hsz : 0 < size)
    (v : Value) (n : Nat) (xs : List Value) (hs : a.eval s = v) (hown : w.ownsRow base e size v n xs)
    (B : Nat) (A : Option Addr) (m c : Nat) (news : List Value) (hx : a.eval x = .slice A m c) (hr : Reads w B size A m news) (h1 : ∀ u ∈ news, u.oneCell' = true)
    (h63 : n + m ≤ maxLen) (hbytes : (n + m) * bytes ≤ 140737488355328) (hbase : base ≤ w.heap.size)
    (h : ∀ v' w', w'.ownsRow base e size v' (n + m) (xs ++ news) → w.grownBy w' v.ownBlock → (v'.ownBlock = v.ownBlock ∨ v'.ownBlock = some w.heap.size) → wpList P ops Q rest (a.put o.dst v') w') : wpList P ops Q (o :: rest) a w :=
  wpList_plain hgd fun _ hK => wp_append_any w s x t ho base e i z size bytes ht hi hz hsize hby hzs hsz v n xs hs hown B A m c news hx hr h1 h63 hbytes hbase fun v' w' h2 h3 h4 => hK _ _ (h v' w' h2 h3 h4)

theorem step_append_any {ops : Array Oper} {o : Oper} {a : Act} {K : Act → World → Prop} {Q : Exit → Act → World → Prop} {E : Prop} (hgd : o.guard = none) (s x : Operand) (t : TypeId)
    (ho : o.op = .call { callee := .builtin .append, args := #[s, x], argTypes := #[t, t] })
    (base : Nat) (e : TypeId) (i : TypeInfo) (z : Value) (size bytes : Nat) (ht : P.underlying t = some (.slice e)) (hi : P.info? e = some i) (hz : i.zero = some z)
    (hsize : i.size = size) (hby : i.bytes = bytes) (hzs : z.cells.size = size) (hsz : 0 < size)
    (v : Value) (n : Nat) (xs : List Value) (hs : a.eval s = v) (hown : w.ownsRow base e size v n xs)
    (B : Nat) (A : Option Addr) (m c : Nat) (news : List Value) (hx : a.eval x = .slice A m c) (hr : Reads w B size A m news) (h1 : ∀ u ∈ news, u.oneCell' = true)
    (h63 : n + m ≤ maxLen) (hbytes : (n + m) * bytes ≤ 140737488355328) (hbase : base ≤ w.heap.size)
    (h : ∀ v' w', w'.ownsRow base e size v' (n + m) (xs ++ news) → w.grownBy w' v.ownBlock → (v'.ownBlock = v.ownBlock ∨ v'.ownBlock = some w.heap.size) → K (a.put o.dst v') w') :
    if Region.wanted o (yielded ops a.tmps) = true then Oper.wp P o a w K Q else E := by
  have hw : Region.wanted o (yielded ops a.tmps) = true := by simp [Region.wanted, hgd]
  rw [if_pos hw]
  exact wp_append_any w s x t ho base e i z size bytes ht hi hz hsize hby hzs hsz v n xs hs hown B A m c news hx hr h1 h63 hbytes hbase h
end

theorem hide {p : Prop} (h : p) : Hid p := h
theorem unhide {p : Prop} (h : Hid p) : p := h

theorem below_drewN {B : Nat} {a w : World} (h : Below B a w) (n : Nat) : Below B a (w.drewN n) := ⟨h.os, h.tape, h.output, h.size, h.block⟩
theorem rowIs_drewN {w : World} {b : Nat} {t : TypeId} {n : Nat} {f : Nat → Value} (h : w.rowIs b t n f) (k : Nat) : (w.drewN k).rowIs b t n f := h
theorem grown_trans {a b c : World} (h : Grown a b) (k : Grown b c) : Grown a c :=
  ⟨World.keptBut_trans h.1 k.1, fun x => (k.2.1 x).trans (h.2.1 x), Nat.le_trans h.2.2 k.2.2⟩

theorem only_drewN {a w : World} {row : Option Nat} (h : a.grownBy w row) (n : Nat) : a.grownBy (w.drewN n) row := ⟨h.os, h.tape, h.output, h.size, h.block⟩
theorem only_drew {a w : World} {row : Option Nat} (h : a.grownBy w row) : a.grownBy w.drew row := ⟨h.os, h.tape, h.output, h.size, h.block⟩
theorem only_alloc {a w : World} {row : Option Nat} (h : a.grownBy w row) (o : Obj) : a.grownBy (w.alloc o) row :=
  ⟨h.os, h.tape, h.output, Nat.le_trans h.size (by simp), fun i hi hne => (Below.heap_alloc w o i (Nat.lt_of_lt_of_le hi h.size)).trans (h.block i hi hne)⟩
theorem only_setCell {a w : World} {g : Nat} (h : a.grownBy w (some g)) {p : Addr} (hp : p.block = g ∨ a.heap.size ≤ p.block) (u : Value) : a.grownBy (w.setCell p u) (some g) :=
  ⟨h.os, h.tape, h.output, by simpa [World.setCell] using h.size, fun i hi hne => (Below.heap_setCell w p u i (by
    rintro rfl
    rcases hp with hp | hp
    · exact hne (by rw [hp])
    · omega)).trans (h.block i hi hne)⟩
theorem only_of_below {a w : World} (h : Below a.heap.size a w) (row : Option Nat) : a.grownBy w row := ⟨h.os, h.tape, h.output, h.size, fun i hi _ => h.block i hi⟩

theorem quiet_add {P : Program} {f : FuncId} {args : Array Value} {w : World} {a n : Nat} {v : Value}
    (h : Calls P f args (w.drewN (a + n)) fun e w' => e = .returned v ∧ ∃ m, w' = (w.drewN (a + n)).drewN m) :
    Calls P f args (w.drewN (a + n)) fun e w'' => e = .returned v ∧ ∃ m, w'' = w.drewN (a + m) :=
  h.mono fun _ _ ⟨he, m, hm⟩ => ⟨he, n + m, by rw [hm, World.drewN_drewN, Nat.add_assoc]⟩
theorem quiet_add_same {P : Program} {f : FuncId} {args : Array Value} {w : World} {a n : Nat} {v : Value}
    (h : Calls P f args (w.drewN (a + n)) fun e w' => e = .returned v ∧ w' = w.drewN (a + n)) :
    Calls P f args (w.drewN (a + n)) fun e w'' => e = .returned v ∧ ∃ m, w'' = w.drewN (a + m) :=
  h.mono fun _ _ ⟨he, hm⟩ => ⟨he, n, hm⟩
theorem quiet_add_left {P : Program} {f : FuncId} {args : Array Value} {w : World} {a n : Nat} {v : Value}
    (h : Calls P f args (w.drewN (a + n)) fun e w' => e = .returned v ∧ w.drewN (a + n) = w') :
    Calls P f args (w.drewN (a + n)) fun e w'' => e = .returned v ∧ ∃ m, w'' = w.drewN (a + m) :=
  h.mono fun _ _ ⟨he, hm⟩ => ⟨he, n, hm.symm⟩
theorem quiet_left {P : Program} {f : FuncId} {args : Array Value} {w : World} {n : Nat} {v : Value}
    (h : Calls P f args (w.drewN n) fun e w' => e = .returned v ∧ w.drewN n = w') : Calls P f args (w.drewN n) fun e w'' => e = .returned v ∧ ∃ m, w'' = w.drewN m :=
  h.mono fun _ _ ⟨he, hm⟩ => ⟨he, n, hm.symm⟩

theorem run_make_rowN {P : Program} (t e : TypeId) (i : TypeInfo) (z : Value) (ht : P.underlying t = some (.slice e)) (hi : P.info? e = some i) (hz : i.zero = some z)
    (kl kc : IntKind) (n c : Nat) (hnc : n ≤ c) (hbytes : i.bytes * c ≤ 281474976710656) (h63 : c ≤ 9223372036854775807) (w : World) :
    (Instr.makeSlice t (.int kl (n : Int)) (.int kc (c : Int))).run P w = .ok (.slice (some ⟨w.heap.size, 0, none⟩) n c) (w.alloc (.cells (madeCells z.cells (c * i.size)) e)) := by
  have hb : (i.bytes : Int) * (c : Int) ≤ 281474976710656 := by
    have h : ((i.bytes * c : Nat) : Int) ≤ 281474976710656 := by omega
    rwa [Int.natCast_mul] at h
  have hr := run_make (P := P) w t e i z ht hi hz kl kc n c (by omega) (by omega) hb (by omega)
  simp only [Int.toNat_natCast] at hr
  exact hr
theorem run_makeMap_hint {P : Program} (t k e : TypeId) (kd : IntKind) (n : Int) (ht : P.underlying t = some (.map k e)) (w : World) :
    (Instr.makeMap t (some (.int kd n))).run P w = .ok (.map (some w.heap.size)) (w.alloc (.map #[] 0)) := by
  simp [Instr.makeMap, run_underlying ht]; rfl

theorem bcell {W w1 : World} (hb : Below W.heap.size W w1) : (∀ b o, b < W.heap.size → w1.cell? ⟨b, o, none⟩ = W.cell? ⟨b, o, none⟩) ∧ (∀ b o, b < W.heap.size → w1.frozen? ⟨b, o, none⟩ = W.frozen? ⟨b, o, none⟩) :=
  ⟨fun b o h => hb.cell (p := ⟨b, o, none⟩) h, fun b o h => hb.frozen (p := ⟨b, o, none⟩) h⟩

/-- What is owned stays owned behind a call that keeps all that lay. -/
theorem owns_below {w w' : World} {B base : Nat} {e : TypeId} {size : Nat} {v : Value} {n : Nat} {xs : List Value} (h : w.ownsRow base e size v n xs) (hb : Below B w w') (hB : w.heap.size ≤ B) : w'.ownsRow base e size v n xs := by
  refine ⟨h.1, ?_⟩
  rcases h.2 with hn | ⟨g, cap, cur, hv, hg, hh, hrest⟩
  · exact .inl hn
  · refine .inr ⟨g, cap, cur, hv, hg, ?_, hrest⟩
    have hlt : g < w.heap.size := by
      rcases Nat.lt_or_ge g w.heap.size with hl | hge
      · exact hl
      · rw [Array.getElem?_eq_none hge] at hh; cases hh
    exact (hb.block g (Nat.lt_of_lt_of_le hlt hB)).trans hh
theorem one_oneCell {k : IntKind} {n : Int} : ∀ u ∈ [Value.int k n], u.oneCell' = true := by
  intro u hu
  rw [List.mem_singleton] at hu
  subst hu
  rfl

end Go.Proofs.YtokcpammdhkecaaGreatDoor

/-
  Words over the program of chapter 37: rows of numbers, results that are told by an equation, zeros.
-/
namespace Go.Proofs.YtokcpammdhkecaaGreatDoor
open Go.RowKit

theorem byteInfo : (Tryz.prog.info? 5).map (fun i => (i.zero, i.size, i.bytes)) = some (some (.int .u8 0), 1, 1) := by kernel_rfl
theorem intInfo : (Tryz.prog.info? 3).map (fun i => (i.zero, i.size, i.bytes)) = some (some (.int .i64 0), 1, 8) := by kernel_rfl
theorem ret_bool {a b : Bool} (h : a = b) : Ending.returned (.bool a) = .returned (.bool b) := by rw [h]
theorem ret_int {k : IntKind} {a b : Int} (h : a = b) : Ending.returned (.int k a) = .returned (.int k b) := by rw [h]
theorem ret_str {a b : ByteArray} (h : a = b) : Ending.returned (.string a) = .returned (.string b) := by rw [h]
theorem cell_lt {w : World} {b o : Nat} {v : Value} (h : w.cell? ⟨b, o, none⟩ = some v) : b < w.heap.size := by
  rcases Nat.lt_or_ge b w.heap.size with hl | hg
  · exact hl
  · unfold World.cell? at h
    rw [Array.getElem?_eq_none hg] at h
    simp at h
/-- The bytes of a number, the least first. -/
def leL (n : Nat) : Nat → List UInt8
  | 0 => []
  | k + 1 => UInt8.ofNat (n % 256) :: leL (n / 256) k
def leS (n k : Nat) : ByteArray := ⟨(leL n k).toArray⟩
theorem leL_length : ∀ (k n : Nat), (leL n k).length = k
  | 0, _ => rfl
  | k + 1, n => by simp [leL, leL_length k]
theorem leS_size (n k : Nat) : (leS n k).size = k := by rw [Lib.size_eq]; exact leL_length k n
theorem leL_at : ∀ (k n i : Nat), i < k → (leL n k).getD i 0 = UInt8.ofNat (n / 256 ^ i % 256)
  | 0, _, _, h => by omega
  | k + 1, n, 0, _ => by simp [leL]
  | k + 1, n, i + 1, h => by
    have := leL_at k (n / 256) i (by omega)
    rw [leL, List.getD_cons_succ, this, Nat.div_div_eq_div_mul, Nat.pow_succ, Nat.mul_comm (256 ^ i) 256]
theorem en_up (i : Int) (w : World) : Calls Tryz.prog 110 #[.int .i64 i] w fun e w' => e = .returned (.int .i64 i) ∧ w' = w := by
  go_enter Tryz.func110, Tryz.ntmps110
  go_wp2
  go_ret
  exact ⟨rfl, rfl⟩
theorem en_upf (i : Int) (w : World) : Calls Tryz.prog 93 #[.int .i64 i] w fun e w' => e = .returned (.func (.func 110) #[] #[]) ∧ w' = w := by
  go_enter Tryz.func93, Tryz.ntmps93
  go_wp2
  go_ret
  exact ⟨rfl, rfl⟩
/-- A number is in the range of a size. -/
def Fits (n : Int) (k : Nat) : Prop := 0 ≤ n ∧ ((k = 1 ∧ n < 256) ∨ (k = 2 ∧ n < 65536) ∨ (k = 4 ∧ n < 4294967296) ∨ (k = 6 ∧ n < 281474976710656))
set_option maxHeartbeats 800000 in
set_option maxRecDepth 100000 in
theorem en_fits (n : Int) (k : Nat) (hf : Fits n k) (w : World) : Calls Tryz.prog 119 #[.int .i64 n, .int .i64 (k : Int)] w fun e w' => e = .returned (.bool true) ∧ w' = w := by
  obtain ⟨h0, h⟩ := hf
  rcases h with ⟨rfl, h⟩ | ⟨rfl, h⟩ | ⟨rfl, h⟩ | ⟨rfl, h⟩
  all_goals
    go_enter Tryz.func119, Tryz.ntmps119
    go_wp2
    go_ret
    exact ⟨rfl, rfl⟩
set_option maxHeartbeats 800000 in
set_option maxRecDepth 100000 in
theorem en_check (n : Int) (k : Nat) (hf : Fits n k) (w : World) : Calls Tryz.prog 97 #[.int .i64 n, .int .i64 (k : Int)] w fun e w' => e = .returned (.int .i64 0) ∧ w' = w := by
  have kF := hide (en_fits n k hf w)
  have h1 : 1 ≤ k := by unfold Fits at hf; omega
  have h8 : k ≤ 6 := by unfold Fits at hf; omega
  clear hf
  go_enter Tryz.func97, Tryz.ntmps97
  go_wp2_with (go_at_call 119; refine (unhide kF).mono ?_; rintro e w2 ⟨rfl, rfl⟩)
  go_ret
  exact ⟨rfl, rfl⟩

theorem pow_8i : ∀ i : Nat, (2 : Int) ^ (8 * i) = ((256 ^ i : Nat) : Int)
  | 0 => rfl
  | i + 1 => by
    rw [show 8 * (i + 1) = 8 * i + 8 from by omega, Int.pow_add, pow_8i i, Nat.pow_succ, Int.natCast_mul]
    rfl
theorem wrap_byte (n i : Nat) : IntKind.u8.wrap ((n : Int) / 2 ^ (8 * (i : Int)).toNat) = ((n / 256 ^ i % 256 : Nat) : Int) := by
  rw [show (8 * (i : Int)).toNat = 8 * i from by omega, pow_8i, ← Int.natCast_ediv, IntKind.wrap_u8]
  omega
theorem le_done {w : World} {g k n : Nat} (h : w.rowIs g 5 k fun j => if j < k then .int .u8 (((n / 256 ^ j % 256 : Nat)) : Int) else .int .u8 0) (cap : Nat) :
    (convert 113 9 (.slice (some ⟨g, 0, none⟩) k cap)).run Tryz.prog w = .ok (.string (leS n k)) w := by
  have hl : (leL n k).length = k := leL_length k n
  have := run_convert_bytes_back (P := Tryz.prog) (w := w) 113 9 5 ⟨g, 0, none⟩ cap (leL n k) Tryz.underlying113 Tryz.underlying5 Tryz.underlying9 (fun j hj => by
    have hj' : j < k := by rw [hl] at hj; exact hj
    have e : (⟨g, 0, none⟩ : Addr).add j = ⟨g, j, none⟩ := by
      unfold Addr.add
      split
      · simp_all
      · simp
    rw [e, h.cell hj', if_pos hj']
    have ha := leL_at k n j hj'
    rw [List.getD_eq_getElem?_getD, List.getElem?_eq_getElem hj] at ha
    have ha2 : (leL n k)[j] = UInt8.ofNat (n / 256 ^ j % 256) := ha
    rw [ha2]
    have : (UInt8.ofNat (n / 256 ^ j % 256)).toNat = n / 256 ^ j % 256 := by simp [UInt8.toNat_ofNat']
    rw [this])
  rw [hl] at this
  exact this

theorem le_row {w : World} {g k i n : Nat} (h : w.rowIs g 5 k fun j => if j < i then .int .u8 (((n / 256 ^ j % 256 : Nat)) : Int) else .int .u8 0) (v : Int) (hv : v = ((n / 256 ^ i % 256 : Nat) : Int)) :
    (w.setCell ⟨g, i, none⟩ (.int .u8 v)).rowIs g 5 k fun j => if j < i + 1 then .int .u8 (((n / 256 ^ j % 256 : Nat)) : Int) else .int .u8 0 := by
  subst hv
  refine (h.set i _).congr fun j _ => ?_
  by_cases e : j = i
  · subst e
    rw [if_pos rfl, if_pos (by omega)]
  · rw [if_neg e]
    by_cases e2 : j < i
    · rw [if_pos e2, if_pos (by omega)]
    · rw [if_neg e2, if_neg (by omega)]

set_option maxHeartbeats 1600000 in
set_option maxRecDepth 100000 in
theorem en_write (n k : Nat) (hk : k ≤ 6) (w : World) : Calls Tryz.prog 98 #[.int .i64 (n : Int), .int .i64 (k : Int), .func (.func 110) #[] #[]] w fun e w' => e = .returned (.string (leS n k)) ∧ Below w.heap.size w w' := by
  obtain ⟨i0, hi, hz0, hz1, hz2⟩ := info_parts byteInfo
  have hmk := run_make_rowN (P := Tryz.prog) 113 5 i0 (.int .u8 0) Tryz.underlying113 hi hz0 .i64 .i64 k k (Nat.le_refl _) (by rw [hz2]; omega) (by omega)
  rw [hz1] at hmk
  go_enter Tryz.func98, Tryz.ntmps98
  go_wp2_with fail
  have hst : (w.alloc (.cells (madeCells #[.int .u8 0] k) 5)).rowIs w.heap.size 5 k fun j => if j < 0 then .int .u8 (((n / 256 ^ j % 256 : Nat)) : Int) else .int .u8 0 :=
    (World.rowIs_made w (.int .u8 0) k 5).congr fun j _ => by rw [if_neg (by omega)]
  have hB : Below w.heap.size w (w.alloc (.cells (madeCells #[.int .u8 0] k) 5)) := (Below.refl _ _).alloc (Nat.le_refl _) _
  generalize w.alloc (.cells (madeCells #[.int .u8 0] k) 5) = w1 at *
  generalize hg : w.heap.size = g at *
  have Hg := Lib.hid hg
  clear hg hmk
  go_loopw [12] (fun x wr => ∃ i : Nat, i ≤ k ∧ x = .int .i64 (i : Int) ∧ (wr.rowIs g 5 k fun j => if j < i then .int .u8 (((n / 256 ^ j % 256 : Nat)) : Int) else .int .u8 0) ∧ Below g w wr) (fun x _ => k - (intOf x).toNat)
  case atStart => exact ⟨0, Nat.zero_le _, rfl, hst, hB⟩
  case round =>
    obtain ⟨i, hik, rfl, hr, hb⟩ := hrel
    clear hst hB
    by_cases hlt : i < k
    · have hc : wr.cell? ⟨g, i, none⟩ = some (.int .u8 0) := by
        have := hr.cell hlt
        rwa [if_neg (by omega)] at this
      have hf := hr.frozen i
      have kU := hide (fun w => en_up (i : Int) w)
      have i6 : i ≤ 5 := by omega
      have hw8 : IntKind.i64.wrap (8 * (i : Int)) = 8 * (i : Int) := IntWalk.i64_in _ (by omega)
      go_wp2_with fail
      go_region_with (go_at_call 110; refine (unhide kU _).mono ?_; rintro e w2 ⟨rfl, rfl⟩)
      all_goals
        go_wp2
        go_roundw
        case rel => exact ⟨i + 1, by omega, by go_num, (le_row hr _ (wrap_byte n i)).drew, (hb.setCell (Nat.le_refl _) _).drew⟩
        case measure => simp [intOf]; omega
    · obtain rfl : i = k := by omega
      have hrun := le_done hr i
      clear hr
      go_wp2
      go_ret
      exact ⟨rfl, by rw [Hg.out]; exact hb⟩

set_option maxHeartbeats 800000 in
set_option maxRecDepth 100000 in
theorem en_Little (n : Int) (k : Nat) (hf : Fits n k) (w : World) : Calls Tryz.prog 74 #[.int .i64 n, .int .i64 (k : Int)] w fun e w' => e = .returned (.tuple #[.string (leS n.toNat k), .int .i64 0]) ∧ Below w.heap.size w w' := by
  have kC := hide (en_check n k hf w)
  have kU := hide (fun w => en_upf (k : Int) w)
  obtain ⟨m, rfl⟩ := Int.eq_ofNat_of_zero_le hf.1
  have hk : k ≤ 6 := by unfold Fits at hf; omega
  have kW := hide (fun w => en_write m k hk w)
  rw [Int.toNat_natCast]
  clear hf
  go_enter Tryz.func74, Tryz.ntmps74
  go_wp2_with (first | (go_at_call 97; refine (unhide kC).mono ?_; rintro e w2 ⟨rfl, rfl⟩) | (go_at_call 93; refine (unhide kU _).mono ?_; rintro e w2 ⟨rfl, rfl⟩) | (go_at_call 98; refine (unhide kW _).mono ?_; rintro e w2 ⟨rfl, hb⟩))
  go_ret2
  exact ⟨rfl, hb⟩
/-- A number in some bytes, the least first. -/
theorem pm_little (n : Int) (k : Nat) (hf : Fits n k) (w : World) : Calls Tryz.prog 55 #[.int .i64 n, .int .i64 (k : Int)] w fun e w' => e = .returned (.string (leS n.toNat k)) ∧ Below w.heap.size w w' := by
  have kL := hide (en_Little n k hf w)
  go_enter Tryz.func55, Tryz.ntmps55
  go_wp2_with (go_at_call 74; refine (unhide kL).mono ?_; rintro e w2 ⟨rfl, hb⟩)
  go_ret
  exact ⟨rfl, hb⟩
end Go.Proofs.YtokcpammdhkecaaGreatDoor

/-
  partitionmap.word, the predicate of partitionmap.valid, and slices.ContainsFunc over it.
-/
namespace Go.Proofs.YtokcpammdhkecaaGreatDoor
open Go.RowKit

/-- A row of ints that is read. -/
structure Row (w : World) (A : Option Addr) (xs : List Int) : Prop where
  reads : 0 < xs.length → ∃ ad, A = some ad ∧ ∀ j, j < xs.length → w.cell? (ad.add j) = some (.int .i64 (xs.getD j 0))
theorem addr_lt {w : World} {ad : Addr} {v : Value} (h : w.cell? ad = some v) : ad.block < w.heap.size := World.block_lt_of_cell? _ _ h
theorem Row.below {w w1 : World} {A : Option Addr} {xs : List Int} (h : Row w A xs) (hb : Below w.heap.size w w1) : Row w1 A xs :=
  ⟨fun h0 => by
    obtain ⟨ad, e, hc⟩ := h.reads h0
    exact ⟨ad, e, fun j hj => (hb.cell (addr_lt (hc j hj))).trans (hc j hj)⟩⟩
theorem Row.at_ {w : World} {A : Option Addr} {xs : List Int} (h : Row w A xs) {k : Nat} (hk : k < xs.length) : ∃ ad, A = some ad ∧ w.cell? (ad.add k) = some (.int .i64 (xs.getD k 0)) := by
  obtain ⟨ad, e, hc⟩ := h.reads (by omega)
  exact ⟨ad, e, hc k hk⟩
theorem row_nil (w : World) (A : Option Addr) : Row w A [] := ⟨fun h => absurd h (by simp)⟩
theorem getD_int {xs : List Int} {k : Nat} (h : k < xs.length) : xs.getD k 0 = xs[k] := by
  rw [List.getD_eq_getElem?_getD, List.getElem?_eq_getElem h]; rfl

def wordB (n : Int) : Bool := decide (0 ≤ n ∧ n < 4294967296)
theorem pm_word (n : Int) (w : World) : Calls Tryz.prog 80 #[.int .i64 n] w fun e w' => e = .returned (.bool (wordB n)) ∧ w' = w := by
  have H : Hid (wordB n = decide (0 ≤ n ∧ n < 4294967296)) := Lib.hid rfl
  generalize wordB n = b at *
  go_enter Tryz.func80, Tryz.ntmps80
  go_wp2
  all_goals go_ret
  all_goals (refine ⟨ret_bool ?_, rfl⟩; rw [H.out, Bool.eq_iff_iff]; simp; try omega)
theorem pm_nword (n : Int) (w : World) : Calls Tryz.prog 79 #[.int .i64 n] w fun e w' => e = .returned (.bool (!wordB n)) ∧ w' = w := by
  have kW := hide (pm_word n w)
  generalize wordB n = b at *
  go_enter Tryz.func79, Tryz.ntmps79
  go_wp2_with (go_at_call 80; refine (unhide kW).mono ?_; rintro e w2 ⟨rfl, rfl⟩)
  go_ret
  exact ⟨rfl, rfl⟩

theorem all_take {p : Int → Bool} {xs : List Int} {k : Nat} (h : (xs.take k).all p = true) (hk : k < xs.length) (hp : p (xs.getD k 0) = true) : (xs.take (k + 1)).all p = true := by
  rw [getD_int hk] at hp
  rw [List.take_succ_eq_append_getElem hk, List.all_append, h]
  simp [hp]
theorem all_fail {p : Int → Bool} {xs : List Int} {k : Nat} (hk : k < xs.length) (hp : p (xs.getD k 0) = false) : xs.all p = false := by
  rw [getD_int hk] at hp
  cases e : xs.all p
  · rfl
  · have := List.all_eq_true.1 e xs[k] (List.getElem_mem hk)
    rw [hp] at this
    cases this
set_option maxHeartbeats 1600000 in
set_option maxRecDepth 100000 in
theorem ix_words (A : Option Addr) (c : Nat) (xs : List Int) (w : World) (hr : Row w A xs) (hl : xs.length ≤ 100000) :
    Calls Tryz.prog 100 #[.slice A xs.length c, .func (.func 79) #[] #[]] w fun e w' => (∃ j : Int, e = .returned (.int .i64 j) ∧ -1 ≤ j ∧ decide (0 ≤ j) = !xs.all wordB) ∧ w' = w := by
  go_enter Tryz.func100, Tryz.ntmps100
  go_wp2_with fail
  have hst : Hid ((xs.take 0).all wordB = true) := Lib.hid rfl
  go_loopw [8] (fun x wr => ∃ k : Nat, k ≤ xs.length ∧ x = .int .i64 (k : Int) ∧ Hid ((xs.take k).all wordB = true) ∧ wr = w) (fun x _ => xs.length - (intOf x).toNat)
  case atStart => exact ⟨0, Nat.zero_le _, rfl, hst, rfl⟩
  case round =>
    obtain ⟨k, hk, rfl, ht, rfl⟩ := hrel
    clear hst
    by_cases hlt : k < xs.length
    · obtain ⟨a1, rfl, hc1⟩ := hr.at_ hlt
      cases hp : wordB (xs.getD k 0) with
      | true =>
        have Hn := Lib.hid (all_take ht.out hlt hp)
        have kN := pm_nword (xs.getD k 0) wr
        rw [hp] at kN
        have kN := hide kN
        have Hp := Lib.hid hp
        clear hp
        generalize xs.getD k 0 = x at *
        go_wp2_with (go_at_call 79; refine (unhide kN).mono ?_; rintro e w2 ⟨rfl, rfl⟩)
        go_roundw
        case rel => exact ⟨k + 1, by omega, by go_num, Hn, by first | rfl | trivial⟩
        case measure => simp [intOf]; omega
      | false =>
        have Hn := Lib.hid (all_fail hlt hp)
        have kN := pm_nword (xs.getD k 0) wr
        rw [hp] at kN
        have kN := hide kN
        have Hp := Lib.hid hp
        clear hp
        generalize xs.getD k 0 = x at *
        go_wp2_with (go_at_call 79; refine (unhide kN).mono ?_; rintro e w2 ⟨rfl, rfl⟩)
        go_ret
        exact ⟨⟨_, rfl, by omega, by rw [Hn.out, decide_eq_true (by omega)]; rfl⟩, by first | rfl | trivial⟩
    · obtain rfl : k = xs.length := by omega
      have Hn := Lib.hid (show xs.all wordB = true by have := ht.out; rwa [List.take_length] at this)
      clear ht
      go_wp2
      go_ret
      exact ⟨⟨_, rfl, by omega, by rw [Hn.out]; rfl⟩, by first | rfl | trivial⟩
theorem cf_words (A : Option Addr) (c : Nat) (xs : List Int) (w : World) (hr : Row w A xs) (hl : xs.length ≤ 100000) :
    Calls Tryz.prog 77 #[.slice A xs.length c, .func (.func 79) #[] #[]] w fun e w' => e = .returned (.bool (!xs.all wordB)) ∧ w' = w := by
  have kI := hide (ix_words A c xs w hr hl)
  generalize (!xs.all wordB) = b at *
  go_enter Tryz.func77, Tryz.ntmps77
  go_wp2_with (go_at_call 100; refine (unhide kI).mono ?_; rintro e w2 ⟨⟨j, rfl, hj, hb⟩, rfl⟩)
  go_ret
  exact ⟨rfl, rfl⟩
end Go.Proofs.YtokcpammdhkecaaGreatDoor

/-
  slices.Grow and slices.Concat at ints: a row of the call's own with both rows.
-/
namespace Go.Proofs.YtokcpammdhkecaaGreatDoor
open Go.RowKit

theorem heap_new (w : World) (o : Obj) : (w.alloc o).heap[w.heap.size]? = some o := by simp [World.alloc, -World.alloc_eq]
def intsV (xs : List Int) : List Value := xs.map (Value.int .i64)
theorem intsV_length (xs : List Int) : (intsV xs).length = xs.length := List.length_map ..
theorem intsV_one (xs : List Int) : ∀ u ∈ intsV xs, u.oneCell' = true := by
  intro u hu
  obtain ⟨x, _, rfl⟩ := List.mem_map.1 hu
  rfl
theorem Row.toReads {w : World} {A : Option Addr} {xs : List Int} (h : Row w A xs) : Reads w w.heap.size 1 A xs.length (intsV xs) := by
  refine ⟨by rw [intsV_length, Nat.mul_one], fun h0 => ?_⟩
  obtain ⟨ad, e, hc⟩ := h.reads h0
  refine ⟨ad, e, ?_, fun j u hu => ?_⟩
  · have := hc 0 h0
    have hl := addr_lt this
    rw [block_of_add] at hl
    exact hl
  · have hj : j < xs.length := by
      have := (List.getElem?_eq_some_iff.1 hu).1
      rwa [intsV_length] at this
    rw [hc j hj, getD_int hj]
    unfold intsV at hu
    rw [List.getElem?_map, List.getElem?_eq_getElem hj] at hu
    exact hu
theorem own_row {w : World} {base n : Nat} {v : Value} {xs : List Int} (h : w.ownsRow base 3 1 v n (intsV xs)) : ∃ A c, v = .slice A xs.length c ∧ Row w A xs ∧ xs.length ≤ c ∧ n = xs.length := by
  have hn : n = xs.length := by have := h.1; rw [intsV_length] at this; omega
  subst hn
  rcases h.2 with ⟨rfl, h0⟩ | ⟨g, cap, cur, rfl, hg, hh, hnc, _⟩
  · rw [h0]
    have hx : xs = [] := List.eq_nil_of_length_eq_zero h0
    subst hx
    exact ⟨none, 0, rfl, row_nil _ _, Nat.le_refl _, rfl⟩
  · refine ⟨_, cap, rfl, ⟨fun h0 => ⟨_, rfl, fun j hj => ?_⟩⟩, hnc, rfl⟩
    refine h.cells (g := g) rfl j _ ?_
    unfold intsV
    rw [List.getElem?_map, List.getElem?_eq_getElem hj, getD_int hj]
    rfl

set_option maxHeartbeats 1600000 in
set_option maxRecDepth 100000 in
theorem sl_Grow (n : Nat) (h0 : 0 < n) (hn : n ≤ 1000) (w : World) :
    Calls Tryz.prog 101 #[.slice none 0 0, .int .i64 (n : Int)] w fun e w' => ∃ v, e = .returned v ∧ w'.ownsRow w.heap.size 3 1 v 0 [] ∧ Below w.heap.size w w' := by
  have hb8 : Tryz.t3.bytes = 8 := by kernel_rfl
  have hq1 : (n : Int) * (Tryz.t3.bytes : Int) ≤ 281474976710656 := by rw [hb8]; omega
  have hq2 : Builtin.nextslicecap n 0 * Tryz.t3.bytes ≤ 281474976710656 := growslice_fits (by omega) (by rw [hb8]; omega)
  clear hb8
  have hG : n ≤ (Question.appendCap n 0 3).cut (w.tape w.drawn (Question.appendCap n 0 3)) := grownCap_ge w n 0 3
  have hG2 : (Question.appendCap n 0 3).cut (w.tape w.drawn (Question.appendCap n 0 3)) ≤ maxLen := grownCap_le_maxLen w n 0 3 (by unfold maxLen; omega)
  have HG := Lib.hid hG
  have HG2 := Lib.hid hG2
  unfold maxLen at hG2
  go_enter Tryz.func101, Tryz.ntmps101
  go_wp2
  go_ret
  refine ⟨_, rfl, ⟨rfl, .inr ⟨w.heap.size, _, _, rfl, Nat.le_refl _, heap_new w _, Nat.zero_le _, HG2.out, ?_, ?_⟩⟩, ((Below.refl _ _).alloc (Nat.le_refl _) _).drew⟩
  · have := HG.out
    simp [Builtin.zeroCells]
    omega
  · simp

set_option maxHeartbeats 1600000 in
set_option maxRecDepth 100000 in
theorem sl_Concat (A B : Option Addr) (c d g : Nat) (xs ys : List Int) (w : World) (hx : Row w A xs) (hy : Row w B ys) (hl1 : xs.length ≤ 100) (hl2 : ys.length ≤ 100) (hp : 0 < ys.length)
    (hg0 : w.cell? ⟨g, 0, none⟩ = some (.slice A xs.length c)) (hg1 : w.cell? ⟨g, 1, none⟩ = some (.slice B ys.length d)) :
    Calls Tryz.prog 78 #[.slice (some ⟨g, 0, none⟩) 2 2] w fun e w' => ∃ v, e = .returned v ∧ w'.ownsRow w.heap.size 3 1 v (xs.length + ys.length) (intsV (xs ++ ys)) ∧ Below w.heap.size w w' := by
  obtain ⟨i0, hi, hz0, hz1, hz2⟩ := info_parts intInfo
  have kG := hide (sl_Grow (xs.length + ys.length) (by omega) (by omega) w)
  have hglt := cell_lt hg0
  go_enter Tryz.func78, Tryz.ntmps78
  go_wp2_with fail
  refine wp_loop_rounds 3 ?_
  rw [rounds_succ]
  go_wp2_with fail
  rw [rounds_succ]
  go_wp2_with fail
  rw [rounds_succ]
  go_wp2_with fail
  refine (unhide kG).mono ?_
  rintro e w1 ⟨v, rfl, hown, hb⟩
  have hc0 : w1.cell? ⟨g, 0, none⟩ = some (.slice A xs.length c) := (hb.cell (p := ⟨g, 0, none⟩) hglt).trans hg0
  have rx : Reads w1 w.heap.size 1 A xs.length (intsV xs) := hx.toReads.below hb
  go_wp2_with fail
  refine wp_loop_rounds 3 ?_
  rw [rounds_succ]
  go_wp2_with (at_builtin; refine wpList_append_any _ rfl (.tmp 31) (.tmp 32) 25 rfl w.heap.size 3 i0 (.int .i64 0) 1 8 Tryz.underlying25 hi hz0 hz1 hz2 rfl (by decide) _ _ _ rfl hown w.heap.size A xs.length c (intsV xs) rfl rx (intsV_one xs) (by unfold maxLen; omega) (by omega) hb.size ?_; intro v2 w2 hown2 hgrow2 _)
  have hb2 : Below w.heap.size w w2 := hb.grown hgrow2 hb.size (fun y hy => (hown.lt y hy).1)
  have hc1 : w2.cell? ⟨g, 1, none⟩ = some (.slice B ys.length d) := (hb2.cell (p := ⟨g, 1, none⟩) hglt).trans hg1
  have ry : Reads w2 w.heap.size 1 B ys.length (intsV ys) := hy.toReads.below hb2
  rw [List.nil_append, Nat.zero_add] at hown2
  rw [rounds_succ]
  go_wp2_with (at_builtin; refine wpList_append_any _ rfl (.tmp 31) (.tmp 32) 25 rfl w.heap.size 3 i0 (.int .i64 0) 1 8 Tryz.underlying25 hi hz0 hz1 hz2 rfl (by decide) _ _ _ rfl hown2 w.heap.size B ys.length d (intsV ys) rfl ry (intsV_one ys) (by unfold maxLen; omega) (by omega) hb2.size ?_; intro v3 w3 hown3 hgrow3 _)
  have hb3 : Below w.heap.size w w3 := hb2.grown hgrow3 hb2.size (fun y hy => (hown2.lt y hy).1)
  have hO := Lib.hid hown3
  clear hown3
  rw [rounds_succ]
  go_wp2_with fail
  go_ret
  refine ⟨_, rfl, ?_, hb3⟩
  have := hO.out
  unfold intsV at this ⊢
  rw [List.map_append]
  exact this
end Go.Proofs.YtokcpammdhkecaaGreatDoor
