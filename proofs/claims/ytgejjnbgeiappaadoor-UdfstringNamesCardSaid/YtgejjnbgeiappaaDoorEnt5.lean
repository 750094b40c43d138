/-
  udfstring.ParseEntity and the reference's: what they give at each string.
-/
import Derived.Test.YtgejjnbgeiappaaDoorEnt4
namespace Go.Proofs.YtgejjnbgeiappaaDoor
open Go.RowKit Go.Proofs.YtgejjnbgeiappaaDoorW.PrintWords

theorem pe_no {f : ByteArray} (h : f.size = 32) (ho : peO f = false) : peI f = ⟨#[]⟩ ∧ peX f = ⟨#[]⟩ ∧ peE f = 10 := by
  unfold peI peX peE; rw [if_pos h, if_pos h, if_pos h, ho]; exact ⟨rfl, rfl, rfl⟩
theorem pe_yes {f : ByteArray} (h : f.size = 32) (ho : peO f = true) : peI f = f.extract 1 (1 + peN f) ∧ peX f = f.extract 24 f.size ∧ peE f = 0 := by
  unfold peI peX peE; rw [if_pos h, if_pos h, if_pos h, ho]; exact ⟨rfl, rfl, rfl⟩
theorem pe_arg {f : ByteArray} (h : f.size ≠ 32) : peI f = ⟨#[]⟩ ∧ peX f = ⟨#[]⟩ ∧ peE f = 1 := by
  unfold peI peX peE; rw [if_neg h, if_neg h, if_neg h]; exact ⟨rfl, rfl, rfl⟩
theorem size_R {f : ByteArray} (h : f.size = 32) : (f.extract (1 + peN f) 24).size ≤ 60 := by
  rw [Lib.size_eq, ext_R h, List.length_drop, peA_length h]; omega

set_option maxHeartbeats 1600000 in
set_option maxRecDepth 100000 in
theorem udf_ParseEntity (f : ByteArray) (m : Int) (w : World) (hf : f.size ≤ 60) (hm : w.cell? ⟨2, 0, none⟩ = some (.int .i64 m)) :
    Calls Tryd.prog 26 #[.string f] w fun e w' => e = .returned (.tuple #[.string (peI f), .string (peX f), .int .i64 (peE f)]) ∧ Below w.heap.size w w' := by
  by_cases h32 : f.size = 32
  · have hn := peN_le h32
    have kC := cut_zero (f.extract 1 24) m w (by rw [Lib.size_eq, ext_A, peA_length h32]; omega) hm
    have hI : (⟨((peA f).take (nz (peA f))).toArray⟩ : ByteArray) = f.extract 1 (1 + peN f) := by
      apply ByteArray.ext
      apply Array.ext'
      rw [ext_I h32]; rfl
    rw [ext_A, hI] at kC
    have KC := hide kC
    have hsz := size_I h32
    have kP := fun w => udf_printable (f.extract 1 (1 + peN f)) w (by omega)
    rw [prS_I h32] at kP
    have kT := fun w => trim_zero (f.extract (1 + peN f) 24) w (size_R h32)
    rw [ext_R h32] at kT
    have q : ((f.size : Int) != 32) = false := by rw [bne_eq_false_iff_eq, h32]; rfl
    have hge : 32 ≤ f.size := by omega
    have hsz' : ((f.extract 1 (1 + peN f)).size : Int) = (peN f : Int) := by rw [hsz]
    have hpo : peO f = (decide (1 ≤ peN f) && (prL ((peA f).take (peN f)) && ((peA f).drop (peN f)).all (· == 0))) := rfl
    have hyes := fun h => pe_yes h32 h
    have hno := fun h => pe_no h32 h
    clear kC hI hm hsz h32
    generalize hb1 : (decide (1 ≤ peN f) && prL ((peA f).take (peN f))) = b1 at kP
    generalize hb2 : ((peA f).drop (peN f)).all (· == 0) = b2 at kT hpo
    rw [← Bool.and_assoc, hb1] at hpo
    clear hb1 hb2
    generalize peN f = n at *
    generalize hC : f.extract 1 (1 + n) = C at *
    have HC := Lib.hid hC
    clear hC
    cases b1 with
    | false =>
      obtain ⟨r1, r2, r3⟩ := hno (by rw [hpo]; rfl)
      rw [r1, r2, r3]
      have KP := hide kP
      clear hyes hno hpo kP kT r1 r2 r3
      go_enter Tryd.func26, Tryd.ntmps26
      go_wp2_with fail
      refine (unhide KC).mono ?_
      rintro e w1 ⟨X, b, rfl, hb1⟩
      go_wp2_with fail
      refine (unhide KP _).mono ?_
      rintro e w2 ⟨rfl, hb2⟩
      go_wp2_with fail
      go_ret3
      exact ⟨rfl, hb1.trans (hb2.mono hb1.size)⟩
    | true =>
      have KP := hide kP
      have KT := hide kT
      clear kP kT
      cases b2 with
      | false =>
        obtain ⟨r1, r2, r3⟩ := hno (by rw [hpo]; rfl)
        rw [r1, r2, r3]
        clear hyes hno hpo r1 r2 r3
        go_enter Tryd.func26, Tryd.ntmps26
        go_wp2_with fail
        refine (unhide KC).mono ?_
        rintro e w1 ⟨X, b, rfl, hb1⟩
        go_wp2_with fail
        refine (unhide KP _).mono ?_
        rintro e w2 ⟨rfl, hb2⟩
        have hw : IntKind.i64.wrap (1 + (n : Int)) = 1 + (n : Int) := IntWalk.i64_in _ (by omega)
        have hw2 : (1 + (n : Int)).toNat = 1 + n := by omega
        go_wp2_with fail
        refine (unhide KT _).mono ?_
        rintro e w3 ⟨T, rfl, hT, hb3⟩
        go_wp2_with fail
        go_ret3
        exact ⟨rfl, hb1.trans ((hb2.trans (hb3.mono hb2.size)).mono hb1.size)⟩
      | true =>
        obtain ⟨r1, r2, r3⟩ := hyes (by rw [hpo]; rfl)
        rw [r1, r2, r3]
        clear hyes hno hpo r1 r2 r3
        go_enter Tryd.func26, Tryd.ntmps26
        go_wp2_with fail
        refine (unhide KC).mono ?_
        rintro e w1 ⟨X, b, rfl, hb1⟩
        go_wp2_with fail
        refine (unhide KP _).mono ?_
        rintro e w2 ⟨rfl, hb2⟩
        have hw : IntKind.i64.wrap (1 + (n : Int)) = 1 + (n : Int) := IntWalk.i64_in _ (by omega)
        have hw2 : (1 + (n : Int)).toNat = 1 + n := by omega
        go_wp2_with fail
        refine (unhide KT _).mono ?_
        rintro e w3 ⟨T, rfl, hT, hb3⟩
        have hB := hb1.trans ((hb2.trans (hb3.mono hb2.size)).mono hb1.size)
        go_wp2_with fail
        go_region
        all_goals (try go_wp2)
        all_goals go_ret3
        all_goals exact ⟨rfl, by first | exact hB | exact hB.drew⟩
  · obtain ⟨r1, r2, r3⟩ := pe_arg h32
    rw [r1, r2, r3]
    have q : ((f.size : Int) != 32) = true := by rw [bne_iff_ne]; omega
    clear r1 r2 r3 hm
    go_enter Tryd.func26, Tryd.ntmps26
    go_wp2
    go_ret3
    exact ⟨rfl, Below.refl _ _⟩
end Go.Proofs.YtgejjnbgeiappaaDoor
