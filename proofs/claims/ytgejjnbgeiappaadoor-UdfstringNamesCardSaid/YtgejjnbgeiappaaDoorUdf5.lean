/-
  udfstring.ParseDstring and the reference's; udfstring.Charspec.
-/
import Derived.Test.YtgejjnbgeiappaaDoorUdf4
import Derived.Test.YtgejjnbgeiappaaDoorExpand
namespace Go.Proofs.YtgejjnbgeiappaaDoor
open Go.RowKit Go.Proofs.YtgejjnbgeiappaaDoorW.PrintWords

theorem ref_Expand (s : ByteArray) (w : World) (hs : s.size ≤ 65536) :
    Calls Tryd.prog 14 #[.string s] w fun e w' => e = .returned (.tuple #[.string (expS s), .int .i64 (expE s)]) ∧ Below w.heap.size w w' := by
  obtain ⟨k, hk⟩ := (ref32_Expand s hs).rounds
  exact PExpand.masterdiscref32_Expand.calls k s _ _ w hk

def lastN (s : ByteArray) : Nat := (s.data.toList.getD (s.size - 1) 0).toNat
def pdsS (s : ByteArray) : ByteArray := if s.size < 2 ∨ 255 < s.size then ⟨#[]⟩ else if (lastN s : Int) ≤ (s.size : Int) - 1 then expS (s.extract 0 (lastN s)) else ⟨#[]⟩
def pdsE (s : ByteArray) : Int := if s.size < 2 ∨ 255 < s.size then 1 else if (lastN s : Int) ≤ (s.size : Int) - 1 then expE (s.extract 0 (lastN s)) else 10
theorem lastN_eq {s : ByteArray} {n : UInt8} {h : s.size - 1 < s.size} (hn : n = s[s.size - 1]'h) : lastN s = n.toNat := by
  unfold lastN
  have h2 : s.size - 1 < s.data.toList.length := by rw [← Lib.size_eq]; exact h
  rw [List.getD_eq_getElem?_getD, List.getElem?_eq_getElem h2, hn]
  rfl
theorem pds_arg {s : ByteArray} (h : s.size < 2 ∨ 255 < s.size) : pdsS s = ⟨#[]⟩ ∧ pdsE s = 1 := by
  unfold pdsS pdsE; rw [if_pos h, if_pos h]; exact ⟨rfl, rfl⟩
theorem pds_ok {s : ByteArray} {n : UInt8} {h : s.size - 1 < s.size} (h2 : 2 ≤ s.size) (h255 : s.size ≤ 255) (hn : n = s[s.size - 1]'h) (hb : (n.toNat : Int) ≤ (s.size : Int) - 1) : pdsS s = expS (s.extract 0 n.toNat) ∧ pdsE s = expE (s.extract 0 n.toNat)   := by
  have h0 : ¬ (s.size < 2 ∨ 255 < s.size) := by omega
  unfold pdsS pdsE; rw [if_neg h0, if_neg h0, lastN_eq hn, if_pos hb, if_pos hb]; exact ⟨rfl, rfl⟩
theorem pds_corrupt {s : ByteArray} {n : UInt8} {h : s.size - 1 < s.size} (h2 : 2 ≤ s.size) (h255 : s.size ≤ 255) (hn : n = s[s.size - 1]'h) (hb : ¬ (n.toNat : Int) ≤ (s.size : Int) - 1) : pdsS s = ⟨#[]⟩ ∧ pdsE s = 10   := by
  have h0 : ¬ (s.size < 2 ∨ 255 < s.size) := by omega
  unfold pdsS pdsE; rw [if_neg h0, if_neg h0, lastN_eq hn, if_neg hb, if_neg hb]; exact ⟨rfl, rfl⟩

set_option maxHeartbeats 1600000 in
set_option maxRecDepth 100000 in
theorem udf_ParseDstring (s : ByteArray) (w : World) (hs : s.size ≤ 65536) :
    Calls Tryd.prog 17 #[.string s] w fun e w' => e = .returned (.tuple #[.string (pdsS s), .int .i64 (pdsE s)]) ∧ Below w.heap.size w w' := by
  by_cases hz : s.size < 2 ∨ 255 < s.size
  · obtain ⟨r1, r2⟩ := pds_arg hz
    rw [r1, r2]
    clear r1 r2
    rcases hz with hz | hz
    · have q1 : ¬ (2 ≤ (s.size : Int)) := by omega
      go_enter Tryd.func17, Tryd.ntmps17
      go_wp2_with (go_at_call 41; go_in)
      go_ret2
      exact ⟨rfl, Below.refl _ _⟩
    · have q1 : 2 ≤ (s.size : Int) := by omega
      have q2 : decide ((s.size : Int) ≤ 255) = false := by rw [decide_eq_false_iff_not]; omega
      go_enter Tryd.func17, Tryd.ntmps17
      go_wp2_with (go_at_call 41; go_in)
      go_ret2
      exact ⟨rfl, Below.refl _ _⟩
  · have h2 : 2 ≤ s.size := by omega
    have h255 : s.size ≤ 255 := by omega
    have hlt : s.size - 1 < s.size := by omega
    have q1 : 2 ≤ (s.size : Int) := by omega
    have q2 : decide ((s.size : Int) ≤ 255) = true := by rw [decide_eq_true_eq]; omega
    obtain ⟨n, hn⟩ : ∃ n : UInt8, n = s[s.size - 1]'hlt := ⟨_, rfl⟩
    have hn256 : (n.toNat : Int) < 256 := by have := n.toNat_lt; omega
    have hn0 : (0 : Int) ≤ (n.toNat : Int) := by omega
    have hidx : ((s[s.size - 1]'hlt).toNat : Int) = (n.toNat : Int) := by rw [← hn]
    have hbd : 1 ≤ (s.size : Int) := by omega
    by_cases hb : (n.toNat : Int) ≤ (s.size : Int) - 1
    · obtain ⟨r1, r2⟩ := pds_ok h2 h255 hn hb
      rw [r1, r2]
      have hnn : n.toNat ≤ s.size := by omega
      have hxs : (s.extract 0 n.toNat).size ≤ 65536 := by rw [Lib.size_eq, Lib.extract_data]; simp; omega
      have kE := hide (udf_Expand (s.extract 0 n.toNat) w hxs)
      have HN := Lib.hid hn
      have Hxs := Lib.hid hxs
      clear r1 r2 hn hz hxs
      go_enter Tryd.func17, Tryd.ntmps17
      go_wp2_with (first | (go_at_call 13; refine (unhide kE).mono ?_; rintro e w2 ⟨rfl, hb2⟩) | (go_at_call 41; go_in))
      go_ret2
      exact ⟨rfl, hb2⟩
    · obtain ⟨r1, r2⟩ := pds_corrupt h2 h255 hn hb
      rw [r1, r2]
      have hb' : (s.size : Int) - 1 < (n.toNat : Int) := by omega
      have HN := Lib.hid hn
      clear r1 r2 hn hz hb
      go_enter Tryd.func17, Tryd.ntmps17
      go_wp2_with (go_at_call 41; go_in)
      go_ret2
      exact ⟨rfl, Below.refl _ _⟩

set_option maxHeartbeats 1600000 in
set_option maxRecDepth 100000 in
theorem ref_ParseDstring (s : ByteArray) (w : World) (hs : s.size ≤ 65536) :
    Calls Tryd.prog 18 #[.string s] w fun e w' => e = .returned (.tuple #[.string (pdsS s), .int .i64 (pdsE s)]) ∧ Below w.heap.size w w' := by
  by_cases hz : s.size < 2 ∨ 255 < s.size
  · obtain ⟨r1, r2⟩ := pds_arg hz
    rw [r1, r2]
    clear r1 r2
    rcases hz with hz | hz
    · have q1 : ¬ (2 ≤ (s.size : Int)) := by omega
      go_enter Tryd.func18, Tryd.ntmps18
      go_wp2_with (go_at_call 41; go_in)
      go_ret2
      exact ⟨rfl, Below.refl _ _⟩
    · have q1 : 2 ≤ (s.size : Int) := by omega
      have q2 : decide ((s.size : Int) ≤ 255) = false := by rw [decide_eq_false_iff_not]; omega
      go_enter Tryd.func18, Tryd.ntmps18
      go_wp2_with (go_at_call 41; go_in)
      go_ret2
      exact ⟨rfl, Below.refl _ _⟩
  · have h2 : 2 ≤ s.size := by omega
    have h255 : s.size ≤ 255 := by omega
    have hlt : s.size - 1 < s.size := by omega
    have q1 : 2 ≤ (s.size : Int) := by omega
    have q2 : decide ((s.size : Int) ≤ 255) = true := by rw [decide_eq_true_eq]; omega
    obtain ⟨n, hn⟩ : ∃ n : UInt8, n = s[s.size - 1]'hlt := ⟨_, rfl⟩
    have hn256 : (n.toNat : Int) < 256 := by have := n.toNat_lt; omega
    have hn0 : (0 : Int) ≤ (n.toNat : Int) := by omega
    have hidx : ((s[s.size - 1]'hlt).toNat : Int) = (n.toNat : Int) := by rw [← hn]
    have hbd : 1 ≤ (s.size : Int) := by omega
    by_cases hb : (n.toNat : Int) ≤ (s.size : Int) - 1
    · obtain ⟨r1, r2⟩ := pds_ok h2 h255 hn hb
      rw [r1, r2]
      have hnn : n.toNat ≤ s.size := by omega
      have hxs : (s.extract 0 n.toNat).size ≤ 65536 := by rw [Lib.size_eq, Lib.extract_data]; simp; omega
      have kE := hide (ref_Expand (s.extract 0 n.toNat) w hxs)
      have HN := Lib.hid hn
      have Hxs := Lib.hid hxs
      clear r1 r2 hn hz hxs
      go_enter Tryd.func18, Tryd.ntmps18
      go_wp2_with (first | (go_at_call 14; refine (unhide kE).mono ?_; rintro e w2 ⟨rfl, hb2⟩) | (go_at_call 41; go_in))
      go_ret2
      exact ⟨rfl, hb2⟩
    · obtain ⟨r1, r2⟩ := pds_corrupt h2 h255 hn hb
      rw [r1, r2]
      have hb' : (s.size : Int) - 1 < (n.toNat : Int) := by omega
      have HN := Lib.hid hn
      clear r1 r2 hn hz hb
      go_enter Tryd.func18, Tryd.ntmps18
      go_wp2_with (go_at_call 41; go_in)
      go_ret2
      exact ⟨rfl, Below.refl _ _⟩

set_option maxHeartbeats 800000 in
set_option maxRecDepth 100000 in
theorem udf_Charspec (w : World) : Calls Tryd.prog 28 #[] w fun e w' => ∃ s : ByteArray, e = .returned (.string s) ∧ s = ⟨#[0, 79, 83, 84, 65, 32, 67, 111, 109, 112, 114, 101, 115, 115, 101, 100, 32, 85, 110, 105, 99, 111, 100, 101]⟩ ++ zS 40 ∧ Below w.heap.size w w' := by
  have hz : (zS 40).size = 40 := zS_size 40
  have kZ := zeros_any 40 (by decide) (by decide) w
  rw [show (40 : Int).toNat = 40 from rfl] at kZ
  have KZ := hide kZ
  clear kZ
  obtain ⟨Z, hZ⟩ : ∃ Z, Z = zS 40 := ⟨_, rfl⟩
  rw [← hZ] at hz KZ ⊢
  have hz' : Z.size ≤ 40 := by omega
  clear hZ hz
  go_enter Tryd.func28, Tryd.ntmps28
  go_wp2_with (go_at_call 42; refine (unhide KZ).mono ?_; rintro e w2 ⟨rfl, hb2⟩)
  go_ret
  exact ⟨_, rfl, rfl, hb2⟩
end Go.Proofs.YtgejjnbgeiappaaDoor
