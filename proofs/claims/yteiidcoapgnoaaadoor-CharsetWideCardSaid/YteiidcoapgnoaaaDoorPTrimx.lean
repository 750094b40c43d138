/-
  Printed texts, joined in one file.
-/
import Derived.Test.YteiidcoapgnoaaaDoorProg
import Derived.Below
import Derived.Deep.Draws
import Derived.Deep.AppendLies
import Derived.Maps.AppendAt
import Derived.OwnWalk
import Derived.Laws.BytesArg
import Derived.Laws.MakeOwn
import Derived.Laws.OwnMore
import Derived.Deep.OwnRows
import Derived.Tactics
import Derived.Lib.ConvBytes
import Derived.Laws.Slices
import Derived.WalkKit
import Derived.KernelRfl
import Derived.RowKit3
import Derived.Deep.LoopGhost
import Derived.Deep.QuietTactic
import Derived.BigQuiet
import Derived.WideLaws
import Derived.Deep.DeepCutAuto
import Derived.Deep.CutBlock
import Derived.Deep.RegionHeld3
import Derived.Laws.Rows
import Derived.Lib.AppendStr
import Derived.ArgAppend
import Derived.Laws.IdiomCopy
import Derived.OrdersHeld
import Derived.Laws.BitsLemmas
import Derived.RowKit
import Derived.Test.YteiidcoapgnoaaaDoorWWords
import Derived.Test.YteiidcoapgnoaaaDoorWLast
import Derived.Test.YteiidcoapgnoaaaDoorWRest
-- PRINTED BY print.sh 35421559b90ae4d0a3588c463048766b98c2df88dd9212a6774a882060cdf62d: not written by this session
namespace Go.Proofs.YteiidcoapgnoaaaDoor.PTrim
open Go.RowKit Go.Proofs.YteiidcoapgnoaaaDoorW.PrintWords Go.Proofs.YteiidcoapgnoaaaDoorW.PrintLast Go.Proofs.YteiidcoapgnoaaaDoorW.PrintMore
attribute [local go_sem] max2_int min2_int max_two min_two max_three min_three max_four min_four   -- for this text's walks alone
set_option linter.unusedVariables false
set_option linter.unusedSimpArgs false



def errW : Option Int → Value
  | none => .nilIface
  | some c => .iface 0 (.int .i64 c)
theorem errW_none : errW none = .nilIface := rfl
theorem errW_some (c : Int) : errW (some c) = .iface 0 (.int .i64 c) := rfl

-- the values' own types

end Go.Proofs.YteiidcoapgnoaaaDoor.PTrim

-- PRINTED BY print.sh 35421559b90ae4d0a3588c463048766b98c2df88dd9212a6774a882060cdf62d: not written by this session
namespace Go.Proofs.YteiidcoapgnoaaaDoor.PTrim
open Go.RowKit Go.Proofs.YteiidcoapgnoaaaDoorW.PrintWords Go.Proofs.YteiidcoapgnoaaaDoorW.PrintLast Go.Proofs.YteiidcoapgnoaaaDoorW.PrintMore
attribute [local go_sem] max2_int min2_int max_two min_two max_three min_three max_four min_four   -- for this text's walks alone
set_option linter.unusedVariables false
set_option linter.unusedSimpArgs false

/-! ### masterdiscref17_Trim: function 26 -/
def masterdiscref17_Trim.l0 : Nat → ByteArray → Option (ByteArray)
  | 0, _ => none
  | k + 1, x0 => if (x0.size : Int) > 0 then (if 0 ≤ (wrap64 ((x0.size : Int) - 1)) then (if (wrap64 ((x0.size : Int) - 1)) < (x0.size : Int) then (if (bt x0 (wrap64 ((x0.size : Int) - 1))) = 32 then (if (wrap64 ((x0.size : Int) - 1)) ≤ (x0.size : Int) then (masterdiscref17_Trim.l0 k (x0.extract 0 ((wrap64 ((x0.size : Int) - 1)) : Int).toNat)) else (none)) else (some x0)) else (none)) else (none)) else (some x0)
def masterdiscref17_Trim.f (k : Nat) (a0 : ByteArray) : Option (ByteArray) := if (a0.size : Int) > 65536 then (some (⟨#[]⟩ : ByteArray)) else (masterdiscref17_Trim.l0 k a0)
theorem masterdiscref17_Trim.mono_l : ∀ k, (∀ y0, LeO (masterdiscref17_Trim.l0 k y0) (masterdiscref17_Trim.l0 (k + 1) y0))
  | 0 => fun _ r h => by simp [masterdiscref17_Trim.l0] at h
  | k + 1 => by
    have ih0 := masterdiscref17_Trim.mono_l k
    · intro y0
      unfold masterdiscref17_Trim.l0
      repeat' first
      | (with_reducible exact ih0 _)
      | (with_reducible exact LeO.refl _)
      | (with_reducible exact LeO.none _)
      | (with_reducible refine LeO.ite ?_ ?_)
      | (with_reducible refine LeO.bind ?_ (fun _ => ?_))
      | exact ih0 _
      | exact LeO.none _
      | refine LeO.ite ?_ ?_
      | refine LeO.bind ?_ (fun _ => ?_)
theorem masterdiscref17_Trim.mono : ∀ a0 k, LeO (masterdiscref17_Trim.f k a0) (masterdiscref17_Trim.f (k + 1) a0) := by
  intro a0 k
  have ih0 := masterdiscref17_Trim.mono_l k
  unfold masterdiscref17_Trim.f
  repeat' first
      | (with_reducible exact ih0 _)
      | (with_reducible exact LeO.refl _)
      | (with_reducible exact LeO.none _)
      | (with_reducible refine LeO.ite ?_ ?_)
      | (with_reducible refine LeO.bind ?_ (fun _ => ?_))
      | exact ih0 _
      | exact LeO.none _
      | refine LeO.ite ?_ ?_
      | refine LeO.bind ?_ (fun _ => ?_)
set_option maxHeartbeats 8000000 in
set_option maxRecDepth 100000 in
theorem masterdiscref17_Trim.calls (k : Nat) (a0 : ByteArray) (r : ByteArray) (w : World) (h : masterdiscref17_Trim.f k a0 = some r) :
    Calls Tryd.prog 26 #[.string a0] w fun e w' => e = .returned (.string r) ∧ Drawn0 w w' := by
  have H : (if (a0.size : Int) > 65536 then (some (⟨#[]⟩ : ByteArray)) else (masterdiscref17_Trim.l0 k a0)) = some r := h
  clear h
  by_cases c2 : (a0.size : Int) > 65536
  · rw [if_pos c2] at H
    have c2b0 : decide (65536 < (a0.size : Int)) = true := decide_eq_true c2
    have c2b1 : decide (65536 < a0.size) = true := decide_eq_true (by omega)
    clear c2
    obtain rfl := Option.some.inj H
    go_enter Tryd.func26, Tryd.ntmps26
    go_wp2
    go_ret
    exact ⟨by first | rfl | (simp; done) | (simp [*]; done), by repeat (first | exact Drawn0.refl _ | apply Drawn0.step)⟩
  · rw [if_neg c2] at H
    have c2b0 : decide (65536 < (a0.size : Int)) = false := decide_eq_false c2
    have c2b1 : decide (65536 < a0.size) = false := decide_eq_false (by omega)
    clear c2
    have H' := Aside0.mk H
    clear H
    go_enter Tryd.func26, Tryd.ntmps26
    go_wp2
    go_loopg [0] k (fun kq v0 w' => ∃ (x0_1 : ByteArray), v0 = .string x0_1 ∧ Aside0 (masterdiscref17_Trim.l0 kq x0_1 = some r) ∧ Aside0 (kq ≤ k) ∧ Drawn0 w w')
    case atStart => exact ⟨(a0), (by first | rfl | (simp; done) | (simp [*]; done)), H', ⟨Nat.le_refl _⟩, by repeat (first | exact Drawn0.refl _ | apply Drawn0.step)⟩
    case round =>
      clear H'
      try clear c2
      try clear c2b0
      try clear c2b1
      try clear p2
      obtain ⟨x0_1, rfl, HA, HK1, ⟨m1, rfl⟩⟩ := hrel
      cases gk with
      | zero => exact absurd HA.out (by simp [masterdiscref17_Trim.l0])
      | succ k1 =>
        have H := HA.out
        clear HA
        simp only [masterdiscref17_Trim.l0] at H
        by_cases c3 : (x0_1.size : Int) > 0
        · rw [if_pos c3] at H
          have c3b0 : decide (0 < (x0_1.size : Int)) = true := decide_eq_true c3
          have c3b1 : decide (0 < x0_1.size) = true := decide_eq_true (by omega)
          clear c3
          obtain ⟨ji4, hji4⟩ : ∃ j_ : Int, (wrap64 ((x0_1.size : Int) - 1)) = j_ := ⟨_, rfl⟩
          replace H : (if 0 ≤ (ji4) then (if (ji4) < (x0_1.size : Int) then (if (bt x0_1 (ji4)) = 32 then (if (ji4) ≤ (x0_1.size : Int) then (masterdiscref17_Trim.l0 k1 (x0_1.extract 0 ((ji4) : Int).toNat)) else (none)) else (some x0_1)) else (none)) else (none)) = some r := by first | (rw [hji4] at H; exact H) | (simp only [hji4] at H ⊢; exact H)
          have hji4w : (IntKind.i64.wrap ((x0_1.size : Int) - 1)) = ji4 := (i64_w _).trans hji4
          by_cases c5 : 0 ≤ (ji4)
          · rw [if_pos c5] at H
            have c5b0 : decide (0 ≤ (ji4)) = true := decide_eq_true c5
            clear c5
            by_cases c6 : (ji4) < (x0_1.size : Int)
            · rw [if_pos c6] at H
              have c6b0 : decide ((ji4) < (x0_1.size : Int)) = true := decide_eq_true c6
              clear c6
              by_cases c8 : (bt x0_1 (ji4)) = 32
              · rw [if_pos c8] at H
                have c8b0 : ((bt x0_1 (ji4)) == 32) = true := beq_iff_eq.mpr c8
                have c8b1 : ((bt x0_1 (ji4)) != 32) = false := bne_eq_false_iff_eq.mpr c8
                clear c8
                have c9b0 := eq_true (of_decide_eq_true (by first | (with_reducible assumption) | assumption) : 0 ≤ (ji4))
                by_cases c10 : (ji4) ≤ (x0_1.size : Int)
                · rw [if_pos c10] at H
                  have c10b0 := eq_true c10
                  have c10b1 : decide ((ji4) ≤ (x0_1.size : Int)) = true := decide_eq_true c10
                  clear c10
                  have H' := Aside0.mk H
                  clear H
                  have p7 : 0 ≤ ((ji4) : Int) := of_decide_eq_true (by first | (with_reducible assumption) | assumption)
                  have q7 : (ji4) < (x0_1.size : Int) := of_decide_eq_true (by first | (with_reducible assumption) | assumption)
                  have hx7 := bt_at x0_1 (ji4)
                  replace p7 := eq_true p7
                  replace q7 := eq_true q7
                  go_wp2
                  go_roundg k1
                  case measure => have := HK1.out; omega
                  case rel => exact ⟨(x0_1.extract 0 ((ji4) : Int).toNat), (by first | rfl | (simp; done) | (simp only [← hji4] <;> (first | rfl | simp)) | (simp [*]; done)), H', ⟨by have := HK1.out; omega⟩, by repeat (first | exact Drawn0.refl _ | apply Drawn0.step)⟩
                · rw [if_neg c10] at H
                  exact absurd H (by simp)
              · rw [if_neg c8] at H
                have c8b0 : ((bt x0_1 (ji4)) == 32) = false := beq_eq_false_iff_ne.mpr c8
                have c8b1 : ((bt x0_1 (ji4)) != 32) = true := bne_iff_ne.mpr c8
                obtain rfl := Option.some.inj H
                have p7 : 0 ≤ ((ji4) : Int) := of_decide_eq_true (by first | (with_reducible assumption) | assumption)
                have q7 : (ji4) < (x0_1.size : Int) := of_decide_eq_true (by first | (with_reducible assumption) | assumption)
                have hx7 := bt_at x0_1 (ji4)
                replace p7 := eq_true p7
                replace q7 := eq_true q7
                go_wp2
                go_ret
                exact ⟨by first | rfl | (simp; done) | (simp only [← hji4] <;> (first | rfl | simp)) | (simp [*]; done), by repeat (first | exact Drawn0.refl _ | apply Drawn0.step)⟩
            · rw [if_neg c6] at H
              exact absurd H (by simp)
          · rw [if_neg c5] at H
            exact absurd H (by simp)
        · rw [if_neg c3] at H
          have c3b0 : decide (0 < (x0_1.size : Int)) = false := decide_eq_false c3
          have c3b1 : decide (0 < x0_1.size) = false := decide_eq_false (by omega)
          clear c3
          obtain rfl := Option.some.inj H
          go_wp2
          go_ret
          exact ⟨by first | rfl | (simp; done) | (simp [*]; done), by repeat (first | exact Drawn0.refl _ | apply Drawn0.step)⟩

end Go.Proofs.YteiidcoapgnoaaaDoor.PTrim

-- PRINTED BY print.sh 35421559b90ae4d0a3588c463048766b98c2df88dd9212a6774a882060cdf62d: not written by this session
namespace Go.Proofs.YteiidcoapgnoaaaDoor.PTrim
open Go.RowKit Go.Proofs.YteiidcoapgnoaaaDoorW.PrintWords Go.Proofs.YteiidcoapgnoaaaDoorW.PrintLast Go.Proofs.YteiidcoapgnoaaaDoorW.PrintMore
attribute [local go_sem] max2_int min2_int max_two min_two max_three min_three max_four min_four   -- for this text's walks alone
set_option linter.unusedVariables false
set_option linter.unusedSimpArgs false

end Go.Proofs.YteiidcoapgnoaaaDoor.PTrim
