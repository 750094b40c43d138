/-
  The walk of UdfstringNames: it returns true.
-/
import Derived.Test.YtgejjnbgeiappaaDoorNam1
import Derived.Test.YtgejjnbgeiappaaDoorWalkEntities
namespace Go.Proofs.YtgejjnbgeiappaaDoor
open Go.RowKit Go.Proofs.YtgejjnbgeiappaaDoorW.PrintWords

theorem trimR_zero (s : ByteArray) (w : World) (hs : s.size ≤ 60) :
    Calls Tryd.prog 30 #[.string s, .string ⟨#[0]⟩] w fun e w' => e = .returned (.string ⟨(Lib.trimRightB s.data.toList 0).toArray⟩) ∧ w' = w :=
  Tryd.strings_TrimRight_one s 0 (by decide) w (by omega)

/-- What the law asks of the first half, as one fact of the two strings. -/
structure First (i s E X T : ByteArray) : Prop where
  size : (E.size : Int) = 32
  sizeX : (X.size : Int) = 8
  kE : ∀ w, Calls Tryd.prog 24 #[.string i, .string s] w fun e w' => e = .returned (.tuple #[.string E, .int .i64 0]) ∧ Below w.heap.size w w'
  kP : ∀ (m : Int) w, w.cell? ⟨2, 0, none⟩ = some (.int .i64 m) → Calls Tryd.prog 26 #[.string E] w fun e w' => e = .returned (.tuple #[.string i, .string X, .int .i64 0]) ∧ Below w.heap.size w w'
  kT1 : ∀ w, Calls Tryd.prog 30 #[.string X, .string ⟨#[0]⟩] w fun e w' => e = .returned (.string T) ∧ w' = w
  kT2 : ∀ w, Calls Tryd.prog 30 #[.string s, .string ⟨#[0]⟩] w fun e w' => e = .returned (.string T) ∧ w' = w
  kH : ∀ w, Calls Tryd.prog 21 #[.string X, .string s] w fun e w' => e = .returned (.bool true) ∧ w' = w
theorem first_yes {i s : ByteArray} (hi : i.size ≤ 60) (hs : s.size ≤ 60) (ho : entO i s = true) : ∃ E X T, First i s E X T := by
  obtain ⟨p1, p2, p3⟩ := parse_ent ho
  obtain ⟨_, _, _, h8⟩ := entO_size ho
  have hsz := entS_size ho
  have hX : (s ++ zS (8 - s.size)).size = 8 := by
    have := zS_size (8 - s.size)
    rw [ByteArray.size_append, this]; omega
  refine ⟨entS i s, s ++ zS (8 - s.size), ⟨(Lib.trimRightB s.data.toList 0).toArray⟩, ?_, ?_, ?_, ?_, ?_, ?_, ?_⟩
  · rw [hsz]; rfl
  · rw [hX]; rfl
  · intro w
    have h := udf_Entity i s w hi hs
    have e : entE i s = 0 := by unfold entE; rw [ho]; rfl
    rwa [e] at h
  · intro m w hm
    have h := udf_ParseEntity (entS i s) m w (by omega) hm
    rwa [p1, p2, p3] at h
  · intro w
    have h := trimR_zero (s ++ zS (8 - s.size)) w (by omega)
    rwa [trim_pad] at h
  · intro w
    exact trimR_zero s w hs
  · intro w
    have h := Tryd.strings_HasPrefix (s ++ zS (8 - s.size)) s w
    rwa [pre_pad] at h
theorem first_no {i s : ByteArray} (hi : i.size ≤ 60) (hs : s.size ≤ 60) (ho : entO i s = false) (w : World) :
    Calls Tryd.prog 24 #[.string i, .string s] w fun e w' => e = .returned (.tuple #[.string ⟨#[]⟩, .int .i64 1]) ∧ Below w.heap.size w w' := by
  have h := udf_Entity i s w hi hs
  have e1 : entS i s = ⟨#[]⟩ := by unfold entS; rw [ho]; rfl
  have e2 : entE i s = 1 := by unfold entE; rw [ho]; rfl
  rwa [e1, e2] at h
/-- The second half, where the field is refused. -/
theorem second_no {f : ByteArray} (hf : f.size ≤ 60) (h : f.size ≠ 32 ∨ peO f = false) : ∃ x : Int, (x != 0) = true ∧ ∀ (m : Int) w, w.cell? ⟨2, 0, none⟩ = some (.int .i64 m) → Calls Tryd.prog 26 #[.string f] w fun e w' => e = .returned (.tuple #[.string ⟨#[]⟩, .string ⟨#[]⟩, .int .i64 x]) ∧ Below w.heap.size w w' := by
  by_cases h32 : f.size = 32
  · obtain ⟨r1, r2, r3⟩ := pe_no h32 (h.resolve_left fun e => e h32)
    refine ⟨10, by decide, fun m w hm => ?_⟩
    have h := udf_ParseEntity f m w hf hm
    rwa [r1, r2, r3] at h
  · obtain ⟨r1, r2, r3⟩ := pe_arg h32
    refine ⟨1, by decide, fun m w hm => ?_⟩
    have h := udf_ParseEntity f m w hf hm
    rwa [r1, r2, r3] at h
/-- The second half, where the field is accepted. -/
theorem second_yes {f : ByteArray} (h32 : f.size = 32) (ho : peO f = true) : ∃ a b S, (∀ (m : Int) w, w.cell? ⟨2, 0, none⟩ = some (.int .i64 m) → Calls Tryd.prog 26 #[.string f] w fun e w' => e = .returned (.tuple #[.string a, .string b, .int .i64 0]) ∧ Below w.heap.size w w') ∧
    (∀ w, Calls Tryd.prog 24 #[.string a, .string b] w fun e w' => e = .returned (.tuple #[.string S, .int .i64 0]) ∧ Below w.heap.size w w') ∧ S.size = 32 ∧ ((S.extract 1 S.size).toList == (f.extract 1 f.size).toList) = true := by
  obtain ⟨r1, r2, r3⟩ := pe_yes h32 ho
  obtain ⟨q1, q2⟩ := ent_parse h32 ho
  have hz := entS_size q1
  obtain ⟨h1, h2, _, h4⟩ := entO_size q1
  refine ⟨peI f, peX f, entS (peI f) (peX f), fun m w hm => ?_, fun w => ?_, hz, ?_⟩
  · have h := udf_ParseEntity f m w (by omega) hm
    rwa [r3] at h
  · have h := udf_Entity (peI f) (peX f) w (by omega) (by omega)
    have e : entE (peI f) (peX f) = 0 := by unfold entE; rw [q1]; rfl
    rwa [e] at h
  · rw [beq_iff_eq, ByteArray.toList_eq, ByteArray.toList_eq, Lib.extract_data, Lib.extract_data, q2, hz, h32]

set_option maxHeartbeats 3200000 in
set_option maxRecDepth 100000 in
theorem walk_UdfstringNames (i s f : ByteArray) (w : World) (hT : Tabs w) (h1 : i.size ≤ maxLen) (h2 : s.size ≤ maxLen) (h3 : f.size ≤ maxLen) (m : Int) (hm : w.cell? ⟨2, 0, none⟩ = some (.int .i64 m)) :
    Calls Tryd.prog 9 #[.string i, .string s, .string f] w fun e w' => e = .returned (.bool true) ∧ Below w.heap.size w w' := by
  have kA := hide (awake32 w hT)
  have HM := hide (fun (w' : World) (hb : Below w.heap.size w w') => max_below hm (Nat.le_refl _) hb)
  clear hm
  unfold maxLen at h1 h2 h3
  by_cases hi : i.size ≤ 60
  · by_cases hs : s.size ≤ 60
    · by_cases hf : f.size ≤ 60
      · by_cases hq : f.size = 32 ∧ peO f = true
        · obtain ⟨a, b, S, kQ, kR, hS, hq2⟩ := second_yes hq.1 hq.2
          have hf1 : 1 ≤ f.size := by omega
          have hS1 : 1 ≤ S.size := by omega
          have hq1 : ((S.size : Int) == (f.size : Int)) = true := by rw [beq_iff_eq]; omega
          have kQ := hide kQ
          have kR := hide kR
          clear hq hS
          cases ho : entO i s with
          | true =>
            obtain ⟨E, X, T, hE1, hX1, kE, kP, kT1, kT2, kH⟩ := first_yes hi hs ho
            have kE := hide kE
            have kP := hide kP
            have kT1 := hide kT1
            have kT2 := hide kT2
            have kH := hide kH
            clear ho
            go_enter Tryd.func9, Tryd.ntmps9
            go_wp2_with fail
            refine (unhide kA).mono ?_
            rintro e w0 ⟨rfl, hb0⟩
            go_wp2_with fail
            refine (unhide kE _).mono ?_
            rintro e w1 ⟨rfl, hb1⟩
            have hB1 := hb0.trans (hb1.mono hb0.size)
            go_wp2_with fail
            refine (unhide kP m _ (unhide HM _ hB1)).mono ?_
            rintro e w2 ⟨rfl, hb2⟩
            have hB2 := hB1.trans (hb2.mono hB1.size)
            go_wp2_with fail
            refine (unhide kT1 _).mono ?_
            rintro e w2' ⟨rfl, rfl⟩
            go_wp2_with fail
            refine (unhide kT2 _).mono ?_
            rintro e w2' ⟨rfl, rfl⟩
            go_wp2_with fail
            refine (unhide kH _).mono ?_
            rintro e w2' ⟨rfl, rfl⟩
            go_wp2_with fail
            refine (unhide kQ m _ (unhide HM _ hB2)).mono ?_
            rintro e w4 ⟨rfl, hb4⟩
            have hB4 := hB2.trans (hb4.mono hB2.size)
            go_wp2_with fail
            refine (unhide kR _).mono ?_
            rintro e w5 ⟨rfl, hb5⟩
            have hB5 := hB4.trans (hb5.mono hB4.size)
            go_wp2
            go_region
            all_goals (try go_wp2)
            all_goals go_ret
            all_goals exact ⟨rfl, by first | exact hB5 | exact hB5.drew⟩
          | false =>
            have kE := hide (fun w => first_no hi hs ho w)
            clear ho
            go_enter Tryd.func9, Tryd.ntmps9
            go_wp2_with fail
            refine (unhide kA).mono ?_
            rintro e w0 ⟨rfl, hb0⟩
            go_wp2_with fail
            refine (unhide kE _).mono ?_
            rintro e w2 ⟨rfl, hb2⟩
            have hB2 := hb0.trans (hb2.mono hb0.size)
            go_wp2_with fail
            refine (unhide kQ m _ (unhide HM _ hB2)).mono ?_
            rintro e w4 ⟨rfl, hb4⟩
            have hB4 := hB2.trans (hb4.mono hB2.size)
            go_wp2_with fail
            refine (unhide kR _).mono ?_
            rintro e w5 ⟨rfl, hb5⟩
            have hB5 := hB4.trans (hb5.mono hB4.size)
            go_wp2
            go_region
            all_goals (try go_wp2)
            all_goals go_ret
            all_goals exact ⟨rfl, by first | exact hB5 | exact hB5.drew⟩
        · obtain ⟨x, hx, kQ⟩ := second_no hf (by
            by_cases h : f.size = 32
            · right
              cases e : peO f
              · rfl
              · exact absurd ⟨h, e⟩ hq
            · left; exact h)
          have kQ := hide kQ
          clear hq
          cases ho : entO i s with
          | true =>
            obtain ⟨E, X, T, hE1, hX1, kE, kP, kT1, kT2, kH⟩ := first_yes hi hs ho
            have kE := hide kE
            have kP := hide kP
            have kT1 := hide kT1
            have kT2 := hide kT2
            have kH := hide kH
            clear ho
            go_enter Tryd.func9, Tryd.ntmps9
            go_wp2_with fail
            refine (unhide kA).mono ?_
            rintro e w0 ⟨rfl, hb0⟩
            go_wp2_with fail
            refine (unhide kE _).mono ?_
            rintro e w1 ⟨rfl, hb1⟩
            have hB1 := hb0.trans (hb1.mono hb0.size)
            go_wp2_with fail
            refine (unhide kP m _ (unhide HM _ hB1)).mono ?_
            rintro e w2 ⟨rfl, hb2⟩
            have hB2 := hB1.trans (hb2.mono hB1.size)
            go_wp2_with fail
            refine (unhide kT1 _).mono ?_
            rintro e w2' ⟨rfl, rfl⟩
            go_wp2_with fail
            refine (unhide kT2 _).mono ?_
            rintro e w2' ⟨rfl, rfl⟩
            go_wp2_with fail
            refine (unhide kH _).mono ?_
            rintro e w2' ⟨rfl, rfl⟩
            go_wp2_with fail
            refine (unhide kQ m _ (unhide HM _ hB2)).mono ?_
            rintro e w4 ⟨rfl, hb4⟩
            have hB4 := hB2.trans (hb4.mono hB2.size)
            go_wp2_with fail
            go_ret
            exact ⟨rfl, hB4⟩
          | false =>
            have kE := hide (fun w => first_no hi hs ho w)
            clear ho
            go_enter Tryd.func9, Tryd.ntmps9
            go_wp2_with fail
            refine (unhide kA).mono ?_
            rintro e w0 ⟨rfl, hb0⟩
            go_wp2_with fail
            refine (unhide kE _).mono ?_
            rintro e w2 ⟨rfl, hb2⟩
            have hB2 := hb0.trans (hb2.mono hb0.size)
            go_wp2_with fail
            refine (unhide kQ m _ (unhide HM _ hB2)).mono ?_
            rintro e w4 ⟨rfl, hb4⟩
            have hB4 := hB2.trans (hb4.mono hB2.size)
            go_wp2_with fail
            go_ret
            exact ⟨rfl, hB4⟩
      · have hf' : 60 < f.size := by omega
        go_enter Tryd.func9, Tryd.ntmps9
        go_wp2_with fail
        refine (unhide kA).mono ?_
        rintro e w0 ⟨rfl, hb0⟩
        go_wp2_with fail
        go_ret
        exact ⟨rfl, hb0⟩
    · have hs' : 60 < s.size := by omega
      go_enter Tryd.func9, Tryd.ntmps9
      go_wp2_with fail
      refine (unhide kA).mono ?_
      rintro e w0 ⟨rfl, hb0⟩
      go_wp2_with fail
      go_ret
      exact ⟨rfl, hb0⟩
  · have hi' : 60 < i.size := by omega
    go_enter Tryd.func9, Tryd.ntmps9
    go_wp2_with fail
    refine (unhide kA).mono ?_
    rintro e w0 ⟨rfl, hb0⟩
    go_wp2_with fail
    go_ret
    exact ⟨rfl, hb0⟩
end Go.Proofs.YtgejjnbgeiappaaDoor
