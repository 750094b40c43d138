/-
  Texts of this claim, joined in one file: each begins with its own sentence.
-/
import Derived.Test.YtokcpammdhkecaaGreatDoorGb
import Derived.Deep.QuietTactic
import Derived.BigQuiet
import Derived.Test.YtokcpammdhkecaaGreatDoorGj
/-
  masterdiscref01.Ints and masterdiscref37.SameMaps at lists with the same contents: true.
-/
namespace Go.Proofs.YtokcpammdhkecaaGreatDoor
open Go.RowKit

theorem Row.drewN {w : World} {A : Option Addr} {xs : List Int} (h : Row w A xs) (m : Nat) : Row (w.drewN m) A xs := ⟨h.reads⟩
theorem PRow.drewN {w : World} {A : Option Addr} {ps : List PM} (h : PRow w A ps) (m : Nat) : PRow (w.drewN m) A ps := ⟨h.reads, fun p hp => ⟨(h.wf p hp).row.drewN m, (h.wf p hp).f, (h.wf p hp).m, (h.wf p hp).b⟩, h.len⟩
def Drawn (w wr : World) : Prop := ∃ m, wr = w.drewN m
theorem Drawn.refl (w : World) : Drawn w w := ⟨0, rfl⟩
theorem Drawn.more {w wr : World} (h : Drawn w wr) (n : Nat) : Drawn w (wr.drewN n) := by
  obtain ⟨m, rfl⟩ := h
  exact ⟨m + n, by rw [World.drewN_drewN]⟩
theorem Row.drawn {w wr : World} {A : Option Addr} {xs : List Int} (h : Row w A xs) (hd : Drawn w wr) : Row wr A xs := by
  obtain ⟨m, rfl⟩ := hd
  exact h.drewN m
theorem PRow.drawn {w wr : World} {A : Option Addr} {ps : List PM} (h : PRow w A ps) (hd : Drawn w wr) : PRow wr A ps := by
  obtain ⟨m, rfl⟩ := hd
  exact h.drewN m
theorem Drawn.below {w wr : World} (h : Drawn w wr) : Below w.heap.size w wr := by
  obtain ⟨m, rfl⟩ := h
  exact below_drewN (Below.refl _ _) m

set_option maxHeartbeats 800000 in
set_option maxRecDepth 100000 in
theorem rf_Ints (A B : Option Addr) (c d : Nat) (xs : List Int) (w : World) (hx : Row w A xs) (hy : Row w B xs) (hl : xs.length ≤ 9223372036854775807) :
    Calls Tryz.prog 39 #[.slice A xs.length c, .slice B xs.length d] w fun e w' => e = .returned (.bool true) ∧ Drawn w w' := by
  have hst := hide (Drawn.refl w)
  go_enter Tryz.func39, Tryz.ntmps39
  go_wp2_with fail
  go_loopw [5] (fun x wr => ∃ k : Nat, k ≤ xs.length ∧ x = .int .i64 (k : Int) ∧ Hid (Drawn w wr)) (fun x _ => xs.length - (intOf x).toNat)
  case atStart => exact ⟨0, Nat.zero_le _, rfl, hst⟩
  case round =>
    obtain ⟨k, hk, rfl, hd⟩ := hrel
    clear hst
    by_cases hlt : k < xs.length
    · obtain ⟨a1, rfl, hc1⟩ := (hx.drawn hd.out).at_ hlt
      obtain ⟨b1, rfl, hc2⟩ := (hy.drawn hd.out).at_ hlt
      generalize xs.getD k 0 = x at *
      have hlt' : (k : Int) < (xs.length : Int) := by omega
      go_wp2_with fail
      go_quiet (fail)
      go_wp2_with fail
      go_roundw
      case rel => exact ⟨k + 1, by omega, by go_num, Lib.hid (hd.out.more _)⟩
      case measure => simp [intOf]; omega
    · obtain rfl : k = xs.length := by omega
      go_wp2
      go_ret
      exact ⟨rfl, hd.out⟩

/-- The contents of a map. -/
def PM.what (p : PM) : Int × Int × List Int × Int × Int × Int := (p.k, p.n, p.xs, p.f, p.m, p.b)
set_option maxHeartbeats 1600000 in
set_option maxRecDepth 100000 in
theorem rf_SameMaps (A B : Option Addr) (c d : Nat) (ps qs : List PM) (w : World) (hx : PRow w A ps) (hy : PRow w B qs) (he : ps.map PM.what = qs.map PM.what) (hl : ps.length ≤ 9223372036854775807) :
    Calls Tryz.prog 21 #[.slice A ps.length c, .slice B qs.length d] w fun e w' => e = .returned (.bool true) ∧ Drawn w w' := by
  have hst := hide (Drawn.refl w)
  have hlen : ps.length = qs.length := by have := congrArg List.length he; simpa using this
  have He : Hid (∀ (k : Nat) (h1 : k < ps.length) (h2 : k < qs.length), ps[k].what = qs[k].what) := fun k h1 h2 => by
    have := congrArg (fun l => l[k]?) he
    simpa [h1, h2] using this
  have hle : qs.length ≤ ps.length := by omega
  obtain ⟨L, hL⟩ : ∃ L, L = ps.length := ⟨_, rfl⟩
  rw [← hlen, ← hL]
  have HL := Lib.hid hL
  have Hlen := Lib.hid hlen
  rw [← hL] at hl
  clear he hlen hle hL
  go_enter Tryz.func21, Tryz.ntmps21
  go_wp2_with fail
  go_loopw [5] (fun x wr => ∃ k : Nat, k ≤ L ∧ x = .int .i64 (k : Int) ∧ Hid (Drawn w wr)) (fun x _ => L - (intOf x).toNat)
  case atStart => exact ⟨0, Nat.zero_le _, rfl, hst⟩
  case round =>
    obtain ⟨k, hk, rfl, hd⟩ := hrel
    clear hst
    by_cases hlt : k < L
    · have hlt1 : k < ps.length := by have := HL.out; omega
      have hlt2 : k < qs.length := by have := HL.out; have := Hlen.out; omega
      have hp := hx.drawn hd.out
      have hq := hy.drawn hd.out
      have hwp := (hp.wf ps[k] (List.getElem_mem hlt1)).row
      have hwq := (hq.wf qs[k] (List.getElem_mem hlt2)).row
      have hlp := hp.len ps[k] (List.getElem_mem hlt1)
      obtain ⟨a1, rfl, c0, c1, c2, c3, c4, c5⟩ := hp.at_ hlt1
      obtain ⟨b1, rfl, d0, d1, d2, d3, d4, d5⟩ := hq.at_ hlt2
      have hwh := He.out k hlt1 hlt2
      generalize ps[k] = p at *
      generalize qs[k] = q at *
      obtain ⟨k1, n1, A1, cc1, xs1, f1, m1, bb1⟩ := p
      obtain ⟨k2, n2, A2, cc2, xs2, f2, m2, bb2⟩ := q
      simp only [PM.what, Prod.mk.injEq] at hwh
      obtain ⟨rfl, rfl, rfl, rfl, rfl, rfl⟩ := hwh
      simp only at c0 c1 c2 c3 c4 c5 d0 d1 d2 d3 d4 d5 hwp hwq hlp
      have kI := hide (fun n => rf_Ints A1 A2 cc1 cc2 xs1 (wr.drewN n) (hwp.drewN n) (hwq.drewN n) hlp)
      clear hp hq hwp hwq hlt1 hlt2
      have hlt' : (k : Int) < (L : Int) := by omega
      go_wp2_with fail
      go_quiet ((go_at_call 39; exact Calls.quiet_of (unhide kI _)))
      go_wp2_with fail
      go_roundw
      case rel => exact ⟨k + 1, by omega, by go_num, Lib.hid (hd.out.more _)⟩
      case measure => simp [intOf]; omega
    · obtain rfl : k = L := by omega
      go_wp2
      go_ret
      exact ⟨rfl, hd.out⟩
end Go.Proofs.YtokcpammdhkecaaGreatDoor

/-
  partitionmap.Decode.
-/
namespace Go.Proofs.YtokcpammdhkecaaGreatDoor
open Go.RowKit

theorem rdN_lt (s : ByteArray) (p : Nat) {k : Nat} (h : k ≤ 4) : rdN s p k < 4294967296 :=
  Nat.lt_of_lt_of_le (rdP_lt (fun _ => UInt8.toNat_lt _) k) (Nat.le_trans (Nat.pow_le_pow_right (by decide) h) (by decide))
theorem i64_rd (s : ByteArray) (p : Nat) {k : Nat} (h : k ≤ 4) : I64 (rdN s p k : Int) := by
  have := rdN_lt s p h
  exact ⟨by omega, by omega⟩
def DR.what (d : DR) : Int × Int × List Int × Int × Int × Int := (d.k, d.n, d.xs, d.f, d.m, d.b)
theorem dcdR_ok {s : ByteArray} {d : DR} (hd : d = dcdR s) (h : d.E = 0) : (∃ n : Nat, d.N = (n : Int) ∧ 1 ≤ n ∧ n ≤ s.size) ∧ d.xs.length ≤ 4 ∧ I64 d.f ∧ I64 d.m ∧ I64 d.b := by
  unfold dcdR dcdE at hd
  repeat' split at hd
  all_goals subst hd
  all_goals first
    | exact absurd h (by decide)
    | exact ⟨⟨6, rfl, by omega, by omega⟩, Nat.zero_le _, i64_zero, i64_zero, i64_zero⟩
    | exact ⟨⟨64, rfl, by omega, by omega⟩, Nat.zero_le _, i64_zero, i64_zero, i64_zero⟩
    | exact ⟨⟨64, rfl, by omega, by omega⟩, by show (spX s _).length ≤ 4; rw [spX_length]; omega, i64_zero, i64_zero, i64_zero⟩
    | exact ⟨⟨64, rfl, by omega, by omega⟩, Nat.zero_le _, i64_rd _ _ (by decide), i64_rd _ _ (by decide), i64_rd _ _ (by decide)⟩

/-- What some maps' bytes give: the error, and the maps. -/
def dcsL : Nat → ByteArray → Int × List DR
  | 0, s => (if s.size = 0 then 0 else 10, [])
  | k + 1, s => if (dcdR s).E = 0 then ((dcsL k (s.extract (dcdR s).N.toNat s.size)).1, dcdR s :: (dcsL k (s.extract (dcdR s).N.toNat s.size)).2) else ((dcdR s).E, [])
def dcsE (s : ByteArray) (c : Int) : Int := if c < 0 then 1 else if 4 < c then 7 else (dcsL c.toNat s).1
def dcsM (s : ByteArray) (c : Int) : List DR := if dcsE s c = 0 then (dcsL c.toNat s).2 else []
/-- The result of Decode. -/
def DcsIs (E : Int) (ds : List DR) (w w' : World) (e : Ending) : Prop :=
  ∃ A c ps, e = .returned (.tuple #[.slice A ps.length c, .int .i64 E]) ∧ PRow w' A ps ∧ ps.map PM.what = ds.map DR.what ∧ ps.length ≤ 4 ∧ Below w.heap.size w w'

theorem Row.grown {w w' : World} {A : Option Addr} {xs : List Int} {row : Option Nat} (h : Row w A xs) (hg : w.grownBy w' row) (hA : 0 < xs.length → ∀ ad, A = some ad → row ≠ some ad.block) : Row w' A xs :=
  ⟨fun h0 => by
    obtain ⟨ad, e, hc⟩ := h.reads h0
    refine ⟨ad, e, fun j hj => ?_⟩
    have hlt := addr_lt (hc j hj)
    refine (World.cell?_of_block (hg.block (ad.add j).block hlt (fun q => hA h0 ad e ?_))).trans (hc j hj)
    rw [block_of_add] at q
    exact q.symm⟩
theorem Row.lt {w : World} {A : Option Addr} {xs : List Int} (h : Row w A xs) (h0 : 0 < xs.length) : ∀ ad, A = some ad → ad.block < w.heap.size := by
  intro ad e
  obtain ⟨ad', e', hc⟩ := h.reads h0
  rw [e] at e'
  injection e' with e'
  subst e'
  have := addr_lt (hc 0 h0)
  rwa [block_of_add] at this
/-- The world in Decode's loop: the maps so far are the call's own. -/
structure Ox (w wr : World) (v : Value) (ps : List PM) : Prop where
  low : Below w.heap.size w wr
  own : wr.ownsRow w.heap.size 65 6 v ps.length (ps.flatMap fun p => p.cells.toList)
  wf : ∀ p ∈ ps, p.Wf wr
  len : ∀ p ∈ ps, p.xs.length ≤ 4
  off : ∀ p ∈ ps, 0 < p.xs.length → ∀ ad, p.A = some ad → v.ownBlock ≠ some ad.block
theorem ox_start (w : World) : Ox w w (.slice none 0 0) [] := ⟨Below.refl _ _, ⟨rfl, .inl ⟨rfl, rfl⟩⟩, by simp, by simp, by simp⟩
theorem Ox.next {w wr w2 w3 w4 : World} {v v' : Value} {ps : List PM} {p : PM} (h : Ox w wr v ps) (hb2 : Below wr.heap.size wr w2) (hrow : Row w2 p.A p.xs) (hA : ∀ ad, p.A = some ad → wr.heap.size ≤ ad.block) (hl : p.xs.length ≤ 4)
    (hf : I64 p.f) (hm : I64 p.m) (hb : I64 p.b) (hb3 : Below w2.heap.size w2 w3) (hg : w3.grownBy w4 v.ownBlock)
    (hown : w4.ownsRow w.heap.size 65 6 v' (ps.length + 1) ((ps.flatMap fun p => p.cells.toList) ++ p.cells.toList)) (hob : v'.ownBlock = v.ownBlock ∨ v'.ownBlock = some w3.heap.size) : Ox w w4 v' (ps ++ [p]) := by
  have L2 := h.low.trans (hb2.mono h.low.size)
  have L3 := L2.trans (hb3.mono L2.size)
  have hv : ∀ k, v.ownBlock = some k → k < wr.heap.size := fun k hk => (h.own.lt k hk).2
  have h23 := hb3.size
  have h12 := hb2.size
  refine ⟨L3.grown hg L3.size (fun k hk => (h.own.lt k hk).1), ?_, fun q hq => ?_, fun q hq => ?_, fun q hq h0 ad e => ?_⟩
  · rw [List.length_append, List.flatMap_append]
    simpa using hown
  · rcases List.mem_append.1 hq with hq | hq
    · have hw := h.wf q hq
      exact ⟨((hw.row.below hb2).below hb3).grown hg (h.off q hq), hw.f, hw.m, hw.b⟩
    · rw [List.mem_singleton] at hq
      subst hq
      exact ⟨(hrow.below hb3).grown hg (fun _ ad e q => by have := hv _ q; have := hA ad e; omega), hf, hm, hb⟩
  · rcases List.mem_append.1 hq with hq | hq
    · exact h.len q hq
    · rw [List.mem_singleton] at hq
      subst hq
      exact hl
  · rcases List.mem_append.1 hq with hq | hq
    · have hlt := (h.wf q hq).row.lt h0 ad e
      rcases hob with o | o
      · rw [o]; exact h.off q hq h0 ad e
      · rw [o]; intro q; injection q; omega
    · rw [List.mem_singleton] at hq
      subst hq
      have hlt := hrow.lt h0 ad e
      rcases hob with o | o
      · rw [o]; intro q; have := hv _ q; have := hA ad e; omega
      · rw [o]; intro q; injection q; omega
theorem Ox.row {w wr : World} {v : Value} {ps : List PM} (h : Ox w wr v ps) : ∃ A c, v = .slice A ps.length c ∧ PRow wr A ps := by
  obtain ⟨A, c, h1, h2, _⟩ := own_maps h.own h.wf (fun p hp => Nat.le_trans (h.len p hp) (by decide))
  exact ⟨A, c, h1, h2⟩
/-- What the loop has done and what is to be done are the whole. -/
def Dn (s : ByteArray) (cnt j : Nat) (sj : ByteArray) (ps : List PM) : Prop :=
  ps.length = j ∧ ∃ ds : List DR, ps.map PM.what = ds.map DR.what ∧ dcsL cnt s = ((dcsL (cnt - j) sj).1, ds ++ (dcsL (cnt - j) sj).2)
theorem dn_start (s : ByteArray) (cnt : Nat) : Dn s cnt 0 s [] := ⟨rfl, [], rfl, rfl⟩
theorem Dn.next {s sj : ByteArray} {cnt j : Nat} {ps : List PM} (h : Dn s cnt j sj ps) (hj : j < cnt) {d : DR} (hd : d = dcdR sj) (hE : d.E = 0) {p : PM} (hp : p.what = d.what) : Dn s cnt (j + 1) (sj.extract d.N.toNat sj.size) (ps ++ [p]) := by
  obtain ⟨h1, ds, h2, h3⟩ := h
  refine ⟨by simp [h1], ds ++ [d], by simp [h2, hp], ?_⟩
  rw [h3]
  obtain ⟨m, hm⟩ : ∃ m, cnt - j = m + 1 := ⟨cnt - j - 1, by omega⟩
  rw [hm, show cnt - (j + 1) = m from by omega]
  subst hd
  simp only [dcsL, if_pos hE, List.append_assoc, List.singleton_append]
theorem Dn.fail {s sj : ByteArray} {cnt j : Nat} {ps : List PM} (h : Dn s cnt j sj ps) (hj : j < cnt) {d : DR} (hd : d = dcdR sj) (hE : d.E ≠ 0) : (dcsL cnt s).1 = d.E := by
  obtain ⟨h1, ds, h2, h3⟩ := h
  rw [h3]
  obtain ⟨m, hm⟩ : ∃ m, cnt - j = m + 1 := ⟨cnt - j - 1, by omega⟩
  rw [hm]
  subst hd
  simp only [dcsL, if_neg hE]
theorem Dn.done {s sj : ByteArray} {cnt : Nat} {ps : List PM} (h : Dn s cnt cnt sj ps) : (dcsL cnt s).1 = (if sj.size = 0 then 0 else 10) ∧ ps.map PM.what = (dcsL cnt s).2.map DR.what := by
  obtain ⟨h1, ds, h2, h3⟩ := h
  rw [h3, Nat.sub_self]
  simp [dcsL, h2]
theorem dcs_neg {s : ByteArray} {c : Int} (h : c < 0) : dcsE s c = 1 ∧ dcsM s c = [] := by
  have e : dcsE s c = 1 := by unfold dcsE; rw [if_pos h]
  exact ⟨e, by unfold dcsM; rw [e]; rfl⟩
theorem dcs_big {s : ByteArray} {c : Int} (h : 4 < c) : dcsE s c = 7 ∧ dcsM s c = [] := by
  have e : dcsE s c = 7 := by unfold dcsE; rw [if_neg (by omega), if_pos h]
  exact ⟨e, by unfold dcsM; rw [e]; rfl⟩
theorem dcs_in {s : ByteArray} {c : Nat} (h : c ≤ 4) : dcsE s c = (dcsL c s).1 := by
  unfold dcsE; rw [if_neg (by omega), if_neg (by omega), Int.toNat_natCast]
theorem dcsM_ok {s : ByteArray} {c : Nat} (h : dcsE s c = 0) : dcsM s c = (dcsL c s).2 := by
  unfold dcsM; rw [if_pos h, Int.toNat_natCast]
theorem dcsM_no {s : ByteArray} {c : Int} (h : dcsE s c ≠ 0) : dcsM s c = [] := by
  unfold dcsM; rw [if_neg h]
theorem dcs_nil {E : Int} {ds : List DR} {w w' : World} {e : Ending} (he : e = .returned (.tuple #[.slice none 0 0, .int .i64 E])) (hd : ds = []) (hb : Below w.heap.size w w') : DcsIs E ds w w' e :=
  ⟨none, 0, [], he, ⟨fun h => absurd h (by simp), by simp, by simp⟩, by subst hd; rfl, by simp, hb⟩
theorem pm_one (p : PM) : ∀ u ∈ p.cells.toList, u.oneCell' = true := by
  intro u hu
  simp only [PM.cells, List.mem_cons, List.not_mem_nil, or_false] at hu
  rcases hu with rfl | rfl | rfl | rfl | rfl | rfl <;> rfl
set_option maxHeartbeats 6400000 in
set_option maxRecDepth 100000 in
theorem pm_Decode (s : ByteArray) (c : Int) (mx : Int) (w : World) (hl : s.size ≤ 1000) (hm : w.cell? ⟨0, 0, none⟩ = some (.int .i64 mx)) :
    Calls Tryz.prog 19 #[.string s, .int .i64 c] w (fun e w' => DcsIs (dcsE s c) (dcsM s c) w w' e) := by
  by_cases hn : c < 0
  · obtain ⟨e1, e2⟩ := dcs_neg (s := s) hn
    rw [e1, e2]
    clear e1 e2 hm
    go_enter Tryz.func19, Tryz.ntmps19
    go_wp2_with fail
    go_ret2
    exact dcs_nil rfl rfl (Below.refl _ _)
  · by_cases hb : 4 < c
    · obtain ⟨e1, e2⟩ := dcs_big (s := s) hb
      rw [e1, e2]
      clear e1 e2 hm
      go_enter Tryz.func19, Tryz.ntmps19
      go_wp2_with fail
      go_ret2
      exact dcs_nil rfl rfl (Below.refl _ _)
    · obtain ⟨cnt, rfl⟩ : ∃ cnt : Nat, c = (cnt : Int) := ⟨c.toNat, by omega⟩
      have hc4 : cnt ≤ 4 := by omega
      clear hn hb
      have HE := Lib.hid (dcs_in (s := s) hc4)
      have Hst := Lib.hid (dn_start s cnt)
      have Ost := ox_start w
      have Hm := hide (fun (w' : World) (hb : Below w.heap.size w w') => (hb.cell (p := ⟨_, _, _⟩) (cell_lt hm)).trans hm)
      clear hm
      go_enter Tryz.func19, Tryz.ntmps19
      go_wp2_with fail
      go_loopw [0, 6, 17] (fun d o x wr => ∃ j : Nat, ∃ sj ps, j ≤ cnt ∧ x = .int .i64 (j : Int) ∧ d = .string sj ∧ sj.size ≤ 1000 ∧ Hid (Dn s cnt j sj ps) ∧ Ox w wr o ps) (fun _ _ x _ => cnt - (intOf x).toNat)
      case atStart => exact ⟨0, s, [], Nat.zero_le _, rfl, rfl, hl, Hst, Ost⟩
      case round =>
        obtain ⟨j, sj, ps, hj, rfl, rfl, hsj, hD, hO⟩ := hrel
        clear Hst Ost
        have hpl : ps.length ≤ 4 := by have := hD.out.1; omega
        by_cases hlt : j < cnt
        · have kD := pm_decode sj mx wr hsj (unhide Hm wr hO.low)
          obtain ⟨d, hd⟩ : ∃ d, d = dcdR sj := ⟨_, rfl⟩
          rw [← hd] at kD
          by_cases hE : d.E = 0
          · obtain ⟨⟨nn, hN, h1, h2⟩, hx, hf, hm, hb⟩ := dcdR_ok hd hE
            have HN := hide (fun (p : PM) (hp : p.what = d.what) => hD.out.next hlt hd hE hp)
            clear hd
            obtain ⟨E, N, k, n, xs, f, m, b⟩ := d
            simp only at hE hN hx hf hm hb
            subst hE hN
            simp only [Int.toNat_natCast] at HN
            have kD := hide kD
            have hO2 := hide (fun (w2 : World) (hb2 : Below wr.heap.size wr w2) => owns_below hO.own hb2 (Nat.le_refl _))
            have hws := hO.low.size
            have hI1 : (nn : Int) ≤ (sj.size : Int) := by omega
            have hI0 : (0 : Int) ≤ (nn : Int) := by omega
            have Hx := Lib.hid hx
            have Hf := Lib.hid hf
            have HHm := Lib.hid hm
            have Hbb := Lib.hid hb
            have HO := Lib.hid hO
            clear hx hf hm hb hO
            obtain ⟨i0, hi, hz0, hz1, hz2⟩ := info_parts pmInfo
            go_wp2_with (go_at_call 37; refine (unhide kD).mono ?_; rintro e w2 ⟨A, c, rfl, hrow, hA, hb2⟩; have hown2 := unhide hO2 w2 hb2; have hw2 := hb2.size; have Hrow := Lib.hid hrow; have HA := Lib.hid hA; clear hrow hA)
            go_region_law (first
              | (refine step_append_any _ rfl (.tmp 28) (.tmp 30) 22 rfl w.heap.size 65 i0 _ 6 64 Tryz.underlying22 hi hz0 hz1 hz2 rfl (by decide) u6 ps.length _ rfl ((own_drew (hown2.alloc _)).alloc _) _ _ 1 1 (PM.cells ⟨k, n, A, c, xs, f, m, b⟩).toList rfl (reads_new _ _ _ _ (by simp) rfl) (pm_one _) (by unfold maxLen; omega) (by omega) (by simp; omega) ?_; intro v4 w4 hown4 hgrow4 hob4))
            all_goals
              go_wp2_with fail
              go_roundw
              case rel =>
                refine ⟨j + 1, sj.extract nn sj.size, ps ++ [⟨k, n, A, c, xs, f, m, b⟩], by omega, by go_num, rfl, by rw [ByteArray.size_extract]; omega, Lib.hid (unhide HN ⟨k, n, A, c, xs, f, m, b⟩ rfl), ?_⟩
                exact HO.out.next hb2 Hrow.out HA.out Hx.out Hf.out HHm.out Hbb.out (((Below.refl w2.heap.size w2).alloc (Nat.le_refl _) _).drew.alloc (by simp) _) hgrow4 hown4 hob4
              case measure => simp [intOf]; omega
          · have HF := Lib.hid (HE.out.trans (hD.out.fail hlt hd hE))
            obtain ⟨E, N, k, n, xs, f, m, b⟩ := d
            simp only at hE
            have kD := hide kD
            have hq : (E == 0) = false := by rw [beq_eq_false_iff_ne]; exact hE
            have hq2 : (E != 0) = true := by rw [bne_iff_ne]; exact hE
            have HM := Lib.hid (dcsM_no (s := s) (c := (cnt : Int)) (by rw [HF.out]; exact hE))
            have HL := Lib.hid hO.low
            clear hd hE hO
            go_wp2_with (go_at_call 37; refine (unhide kD).mono ?_; rintro e w2 ⟨A, c, rfl, hrow, hA, hb2⟩; have HB2 := Lib.hid (HL.out.trans (hb2.mono HL.out.size)); have hw2 := HB2.out.size; clear hrow hA hb2)
            go_ret2
            exact dcs_nil (by rw [HF.out]; rfl) HM.out (HB2.out.alloc hw2 _)
        · obtain rfl : j = cnt := by omega
          obtain ⟨A, c, rfl, hP⟩ := hO.row
          have hd := hD.out.done
          have HL := Lib.hid hO.low
          have HP := Lib.hid hP
          clear hO hP
          by_cases hz : sj.size = 0
          · have hne : sj.toList.isEmpty = true := by
              rw [Lib.toList_data, List.isEmpty_iff]
              exact List.eq_nil_of_length_eq_zero (by rw [← Lib.size_eq]; exact hz)
            have hne2 : sj.toList = [] := List.isEmpty_iff.1 hne
            rw [if_pos hz] at hd
            have h0 := HE.out.trans hd.1
            have HR := Lib.hid (show dcsE s (j : Int) = 0 ∧ ps.map PM.what = (dcsM s (j : Int)).map DR.what from ⟨h0, by rw [dcsM_ok h0]; exact hd.2⟩)
            clear hd hz h0
            go_wp2_with fail
            go_ret2
            exact ⟨A, c, ps, by rw [HR.out.1]; rfl, HP.out, HR.out.2, hpl, HL.out⟩
          · have hne : sj.toList.isEmpty = false := by
              rw [Lib.toList_data, Bool.eq_false_iff, ne_eq, List.isEmpty_iff]
              intro e
              apply hz
              rw [Lib.size_eq, e]
              rfl
            have hne2 : ¬ sj.toList = [] := fun e => by rw [e] at hne; cases hne
            rw [if_neg hz] at hd
            have h0 := HE.out.trans hd.1
            have HR := Lib.hid (show dcsE s (j : Int) = 10 ∧ dcsM s (j : Int) = [] from ⟨h0, dcsM_no (by rw [h0]; decide)⟩)
            clear hd hz h0
            go_wp2_with fail
            go_ret2
            exact dcs_nil (by rw [HR.out.1]; rfl) HR.out.2 HL.out
end Go.Proofs.YtokcpammdhkecaaGreatDoor
