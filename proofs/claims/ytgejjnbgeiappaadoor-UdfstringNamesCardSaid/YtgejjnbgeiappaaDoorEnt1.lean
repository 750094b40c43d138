/-
  udfstring.printable: its predicate, and what it gives at each string.
-/
import Derived.Test.YtgejjnbgeiappaaDoorAwake32
namespace Go.Proofs.YtgejjnbgeiappaaDoor
open Go.RowKit Go.Proofs.YtgejjnbgeiappaaDoorW.PrintWords

def prB (b : UInt8) : Bool := decide (32 ≤ b.toNat ∧ b.toNat ≤ 126)
def prL (l : List UInt8) : Bool := l.all prB
def prS (s : ByteArray) : Bool := decide (1 ≤ s.size) && (decide (s.size ≤ 23) && prL s.data.toList)

theorem pr_byte (b : UInt8) (w : World) : Calls Tryd.prog 67 #[.int .u8 (b.toNat : Int)] w fun e w' => e = .returned (.bool (!prB b)) ∧ w' = w := by
  by_cases h1 : 32 ≤ b.toNat
  · by_cases h2 : b.toNat ≤ 126
    · have hp : prB b = true := by unfold prB; rw [decide_eq_true_eq]; exact ⟨h1, h2⟩
      rw [hp]
      have g1 : ¬ (b.toNat : Int) < 32 := by omega
      have g2 : ¬ (126 : Int) < (b.toNat : Int) := by omega
      go_enter Tryd.func67, Tryd.ntmps67
      go_wp2
      go_ret
      exact ⟨rfl, rfl⟩
    · have hp : prB b = false := by unfold prB; rw [decide_eq_false_iff_not]; intro h; exact h2 h.2
      rw [hp]
      have g1 : ¬ (b.toNat : Int) < 32 := by omega
      have g2 : (126 : Int) < (b.toNat : Int) := by omega
      go_enter Tryd.func67, Tryd.ntmps67
      go_wp2
      go_ret
      exact ⟨rfl, rfl⟩
  · have hp : prB b = false := by unfold prB; rw [decide_eq_false_iff_not]; intro h; exact h1 h.1
    rw [hp]
    have g1 : (b.toNat : Int) < 32 := by omega
    go_enter Tryd.func67, Tryd.ntmps67
    go_wp2
    go_ret
    exact ⟨rfl, rfl⟩

set_option maxHeartbeats 1600000 in
set_option maxRecDepth 100000 in
theorem idx_func (l : List UInt8) (g n cap : Nat) (w : World) (hn : n = l.length) (hcap : n ≤ cap) (hm : n ≤ 1000) (hcell : ∀ j, j < n → w.cell? ⟨g, j, none⟩ = some (.int .u8 (l.getD j 0).toNat)) :
    Calls Tryd.prog 82 #[.slice (some ⟨g, 0, none⟩) n cap, .func (.func 67) #[] #[]] w fun e w' => ∃ r : Int, e = .returned (.int .i64 r) ∧ decide (0 ≤ r) = !prL l ∧ w' = w := by
  have kB := hide pr_byte
  have Hn := Lib.hid hn
  clear hn
  go_enter Tryd.func82, Tryd.ntmps82
  go_wp2
  go_loopw [8] (fun x wr => ∃ j : Nat, j ≤ n ∧ x = .int .i64 (j : Int) ∧ wr = w ∧ Hid (prL (l.take j) = true)) (fun x _ => n - (intOf x).toNat)
  case atStart => exact ⟨0, Nat.zero_le _, rfl, rfl, Lib.hid rfl⟩
  case round =>
    obtain ⟨j, hj, rfl, rfl, hp⟩ := hrel
    by_cases hjn : j < n
    · have hc := hcell j hjn
      have hjl : j < l.length := by rw [← Hn.out]; exact hjn
      have hg : l.getD j 0 = l[j] := by rw [List.getD_eq_getElem?_getD, List.getElem?_eq_getElem hjl]; rfl
      have htk : prL (l.take (j + 1)) = prB l[j] := by
        rw [← List.take_append_getElem hjl]
        have := hp.out
        unfold prL at this ⊢
        rw [List.all_append, this]
        simp
      rw [hg] at hc
      generalize hb : l[j] = b at hc htk
      cases hpb : prB b with
      | true =>
        have kb := hide (fun w => pr_byte b w)
        rw [hpb] at kb htk
        have Ht := Lib.hid htk
        clear hg htk hb hpb hjl hcell
        go_wp2_with (go_at_call 67; refine (unhide kb _).mono ?_; rintro e w1 ⟨rfl, rfl⟩)
        go_roundw
        case rel => exact ⟨j + 1, by omega, by first | rfl | (congr 1; done) | (congr 1; omega), by first | rfl | trivial, Ht⟩
        case measure => simp [intOf]; omega
      | false =>
        have kb := hide (fun w => pr_byte b w)
        have hall : prL l = false := by
          cases e : prL l
          · rfl
          · exfalso
            have := List.all_eq_true.1 e l[j] (List.getElem_mem hjl)
            rw [hb, hpb] at this
            cases this
        rw [hpb] at kb
        have Ht := Lib.hid hall
        clear hg htk hb hpb hjl hall hcell
        go_wp2_with (go_at_call 67; refine (unhide kb _).mono ?_; rintro e w1 ⟨rfl, rfl⟩)
        go_ret
        exact ⟨_, rfl, by rw [Ht.out]; simp, rfl⟩
    · have hjj : j = n := by omega
      subst hjj
      go_wp2
      go_ret
      refine ⟨_, rfl, ?_, rfl⟩
      have := hp.out
      rw [Hn.out, List.take_length] at this
      rw [this]
      decide

set_option maxHeartbeats 1600000 in
set_option maxRecDepth 100000 in
theorem contains_func (l : List UInt8) (g n cap : Nat) (w : World) (hn : n = l.length) (hcap : n ≤ cap) (hm : n ≤ 1000) (hcell : ∀ j, j < n → w.cell? ⟨g, j, none⟩ = some (.int .u8 (l.getD j 0).toNat)) :
    Calls Tryd.prog 66 #[.slice (some ⟨g, 0, none⟩) n cap, .func (.func 67) #[] #[]] w fun e w' => e = .returned (.bool (!prL l)) ∧ w' = w := by
  have kI := hide (idx_func l g n cap w hn hcap hm hcell)
  clear hcell hn
  go_enter Tryd.func66, Tryd.ntmps66
  go_wp2_with fail
  refine (unhide kI).mono ?_
  rintro e w1 ⟨r, rfl, hr, rfl⟩
  have Hr := Lib.hid hr
  clear hr
  go_wp2_with fail
  go_ret
  exact ⟨ret_bool Hr.out, rfl⟩

set_option maxHeartbeats 1600000 in
set_option maxRecDepth 100000 in
theorem udf_printable (s : ByteArray) (w : World) (hs : s.size ≤ 1000) :
    Calls Tryd.prog 47 #[.string s] w fun e w' => e = .returned (.bool (prS s)) ∧ Below w.heap.size w w' := by
  by_cases h1 : 1 ≤ s.size
  · by_cases h2 : s.size ≤ 23
    · have hp : prS s = prL s.data.toList := by unfold prS; rw [decide_eq_true h1, decide_eq_true h2]; rfl
      rw [hp]
      have hl : s.size = s.data.toList.length := Lib.size_eq s
      obtain ⟨w2, cap, hcv, hb2, hcap, hcell⟩ : ∃ w2 cap, (convert 9 48 (.string s)).run Tryd.prog w = .ok (.slice (some ⟨w.heap.size, 0, none⟩) s.size cap) w2 ∧ Below w.heap.size w w2 ∧ s.size ≤ cap ∧ (∀ j, j < s.size → w2.cell? ⟨w.heap.size, j, none⟩ = some (.int .u8 (s.data.toList.getD j 0).toNat)) :=
        ⟨_, _, Lib.run_convert_string_bytes (P := Tryd.prog) w 9 48 5 s Tryd.underlying9 Tryd.underlying48 Tryd.underlying5, ⟨rfl, rfl, rfl, by rw [Lib.bytesWorld_size]; omega, fun i hi => Lib.bytesWorld_at_old w _ s i hi⟩, grownCap_ge w s.size 0 _, fun j hj => Lib.bytesWorld_cell w _ s j hj⟩
      have kF := hide (contains_func s.data.toList w.heap.size s.size cap w2 hl hcap (by omega) hcell)
      clear hcell hl hp
      go_enter Tryd.func47, Tryd.ntmps47
      go_wp2_with (go_at_call 66; refine (unhide kF).mono ?_; rintro e w3 ⟨rfl, rfl⟩)
      go_ret
      exact ⟨ret_bool (by simp), hb2⟩
    · have hp : prS s = false := by unfold prS; rw [decide_eq_false h2, Bool.false_and, Bool.and_false]
      rw [hp]
      have h2' : 23 < s.size := by omega
      clear hp
      go_enter Tryd.func47, Tryd.ntmps47
      go_wp2
      go_ret
      exact ⟨rfl, Below.refl _ _⟩
  · have hp : prS s = false := by unfold prS; rw [decide_eq_false h1, Bool.false_and]
    rw [hp]
    have h2' : s.size < 1 := by omega
    clear hp
    go_enter Tryd.func47, Tryd.ntmps47
    go_wp2
    go_ret
    exact ⟨rfl, Below.refl _ _⟩
end Go.Proofs.YtgejjnbgeiappaaDoor
