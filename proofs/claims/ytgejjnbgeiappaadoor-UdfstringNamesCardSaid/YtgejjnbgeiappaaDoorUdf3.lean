/-
  udfstring.Dstring and the reference's: the dstring field of a text.
-/
import Derived.Test.YtgejjnbgeiappaaDoorUdf2
import Derived.Deep.RegionWith
import Derived.BigQuiet
import Derived.StillTailTactics
namespace Go.Proofs.YtgejjnbgeiappaaDoor
open Go.RowKit Go.Proofs.YtgejjnbgeiappaaDoorW.PrintWords

/-- Zero bytes. -/
def zS (n : Nat) : ByteArray := ⟨(List.replicate n (0 : UInt8)).toArray⟩
theorem zS_size (n : Nat) : (zS n).size = n := by rw [Lib.size_eq]; simp [zS]
theorem repeatL_zero : ∀ n, Lib.repeatL [(0 : UInt8)] n = List.replicate n 0
  | 0 => rfl
  | n + 1 => by rw [List.replicate_succ, ← repeatL_zero n]; rfl
theorem zeros_any (n : Int) (h0 : 0 ≤ n) (h : n ≤ 1000) (w : World) : Calls Tryd.prog 42 #[.string ⟨#[0]⟩, .int .i64 n] w fun e w' => e = .returned (.string (zS n.toNat)) ∧ Below w.heap.size w w' := by
  obtain ⟨m, rfl⟩ := Int.eq_ofNat_of_zero_le h0
  have hs : (⟨#[0]⟩ : ByteArray).size = 1 := rfl
  refine (Tryd.strings_Repeat ⟨#[0]⟩ m w (by omega) (by rw [hs]; omega)).mono fun e w' hh => ⟨?_, hh.2⟩
  rw [hh.1, Int.toNat_natCast]
  unfold zS
  rw [← repeatL_zero]
theorem ref_zeros (n : Int) (h0 : 0 ≤ n) (h : n ≤ 1000) (w : World) : Calls Tryd.prog 43 #[.int .u8 0, .int .i64 n] w fun e w' => e = .returned (.string (zS n.toNat)) ∧ Below w.heap.size w w' := by
  obtain ⟨m, rfl⟩ := Int.eq_ofNat_of_zero_le h0
  obtain ⟨k, hk⟩ := (ref01_Repeat 0 m (by omega)).rounds
  exact PRepeat.masterdiscref01_Repeat.calls k 0 (m : Int) _ w hk

def dstS (s : ByteArray) (size : Int) : ByteArray :=
  if size < 2 ∨ 255 < size then ⟨#[]⟩ else match Ch.chars s.data.toList with
  | none => ⟨#[]⟩
  | some cs => if size - 1 < ((Ch.comp cs).length : Int) then ⟨#[]⟩ else ⟨(Ch.field (Ch.comp cs) size.toNat).toArray⟩
def dstE (s : ByteArray) (size : Int) : Int :=
  if size < 2 ∨ 255 < size then 1 else match Ch.chars s.data.toList with
  | none => 3
  | some cs => if size - 1 < ((Ch.comp cs).length : Int) then 12 else 0

/-- 'string([]byte{b})'. -/
theorem conv_one (n : Nat) (W : World) (a : Addr) (h : W.cell? a = some (.int .u8 (n : Int))) :
    (convert 48 9 (.slice (some a) 1 1)).run Tryd.prog W = .ok (.string ⟨#[UInt8.ofNat n]⟩) W := by
  have := string_of_reads (P := Tryd.prog) (w := W) (src := 48) (dst := 9) (e := 5) (A := some a) (n := 1) (c := 1) (xs := [(n : Int)]) Tryd.underlying48 Tryd.underlying5 Tryd.underlying9
    ⟨rfl, by decide, fun _ => ⟨a, rfl, fun j hj => by
      obtain rfl : j = 0 := by omega
      rw [show a.add 0 = a from by unfold Addr.add; rw [if_pos rfl]]
      exact h⟩⟩
  rw [this]
  rfl

theorem dst_ok {s : ByteArray} {size : Int} {cs : List Nat} {c Z CB : ByteArray} (hc : Ch.chars s.data.toList = some cs) (hl : ((Ch.comp cs).length : Int) ≤ size - 1) (h2 : 2 ≤ size) (h255 : size ≤ 255)
    (hcc : c = ⟨(Ch.comp cs).toArray⟩) (hZ : Z = zS (size - 1 - (c.size : Int)).toNat) (hCB : CB = ⟨#[UInt8.ofNat c.size]⟩) : dstS s size = c ++ Z ++ CB ∧ dstE s size = 0 := by
  unfold dstS dstE
  rw [if_neg (by omega), if_neg (by omega), hc]
  simp only
  rw [if_neg (by omega), if_neg (by omega)]
  refine ⟨?_, rfl⟩
  have hcs : c.size = (Ch.comp cs).length := by rw [hcc, Lib.size_eq]
  rw [hCB, hZ, hcs]
  subst hcc
  unfold Ch.field zS
  apply ByteArray.ext
  rw [show (size - 1 - ((Ch.comp cs).length : Int)).toNat = size.toNat - 1 - (Ch.comp cs).length from by omega]
  simp [ByteArray.data_append]

set_option maxHeartbeats 1600000 in
set_option maxRecDepth 100000 in
theorem udf_Dstring_ok (s : ByteArray) (size : Int) (w : World) (hT : Tabs w) (hs : s.size ≤ 65536) (h2 : 2 ≤ size) (h255 : size ≤ 255) {cs : List Nat} (hc : Ch.chars s.data.toList = some cs) (hl : ((Ch.comp cs).length : Int) ≤ size - 1) :
    Calls Tryd.prog 15 #[.string s, .int .i64 size] w fun e w' => e = .returned (.tuple #[.string (dstS s size), .int .i64 (dstE s size)]) ∧ Below w.heap.size w w' := by
  have kC := udf_Compress s w hT hs
  obtain ⟨t1, t2⟩ := compS_some hc
  rw [t1, t2] at kC
  obtain ⟨c, hcc⟩ : ∃ c : ByteArray, c = ⟨(Ch.comp cs).toArray⟩ := ⟨_, rfl⟩
  have hcs : (c.size : Int) ≤ size - 1 := by rw [hcc, Lib.size_eq]; exact hl
  rw [← hcc] at kC
  have KC := hide kC
  have HCC := Lib.hid hcc
  have HC := Lib.hid hc
  have HL := Lib.hid hl
  clear kC t1 t2 hcc hc hl
  go_enter Tryd.func15, Tryd.ntmps15
  go_wp2_with (first | (go_at_call 11; refine (unhide KC).mono ?_; rintro e w2 ⟨rfl, hb2⟩) | go_in)
  have hw1 : IntKind.i64.wrap (size - 1) = size - 1 := IntWalk.i64_in _ (by omega)
  have hw2 : IntKind.i64.wrap (size - 1 - (c.size : Int)) = size - 1 - (c.size : Int) := IntWalk.i64_in _ (by omega)
  have hw3 : IntKind.u8.wrap (c.size : Int) = (c.size : Int) := by rw [IntKind.wrap_u8]; omega
  have hn0 : 0 ≤ size - 1 - (c.size : Int) := by omega
  have hn1 : size - 1 - (c.size : Int) ≤ 1000 := by omega
  have hcz : c.size ≤ 1000 := by omega
  have kZ := zeros_any _ hn0 hn1
  obtain ⟨Z, hZ⟩ : ∃ Z, Z = zS (size - 1 - (c.size : Int)).toNat := ⟨_, rfl⟩
  have hzz : Z.size ≤ 1000 := by rw [hZ, zS_size]; omega
  rw [← hZ] at kZ
  have KZ := hide kZ
  have HZ := Lib.hid hZ
  clear hZ kZ
  have hadd : c.size + Z.size ≤ 9223372036854775807 := by omega
  have hcv := conv_one c.size
  obtain ⟨CB, hCB⟩ : ∃ CB : ByteArray, CB = ⟨#[UInt8.ofNat c.size]⟩ := ⟨_, rfl⟩
  have hcb : CB.size = 1 := by rw [hCB]; rfl
  rw [← hCB] at hcv
  have HCB := Lib.hid hCB
  have HF := Lib.hid (dst_ok (s := s) (size := size) HC.out HL.out h2 h255 HCC.out HZ.out hCB)
  clear hCB
  have hadd2 : c.size + Z.size + CB.size ≤ 9223372036854775807 := by omega
  have Hcb := Lib.hid hcb
  clear hcb
  go_region_with (go_at_call 42; refine (unhide KZ _).mono ?_; rintro e w3 ⟨rfl, hb3⟩; have hb4 := bcell hb3)
  all_goals (try go_wp2)
  all_goals go_ret2
  all_goals refine ⟨by rw [HF.out.1, HF.out.2]; rfl, ?_⟩
  all_goals first
    | exact (hb2.drew.trans (hb3.mono hb2.size)).alloc (Nat.le_trans hb2.size hb3.size) _
    | exact ((hb2.alloc hb2.size _).drew).trans (hb3.mono (by have := hb2.size; simp; omega))
end Go.Proofs.YtgejjnbgeiappaaDoor
