/-
  Entity identifiers: plain facts, and what udfstring.ParseEntity gives at each string.
-/
import Derived.Test.YtgejjnbgeiappaaDoorEnt3
import Derived.WalkSmall
import Derived.Lib.IndexMore
import Derived.Lib.TrimByte
namespace Go.Proofs.YtgejjnbgeiappaaDoor
open Go.RowKit Go.Proofs.YtgejjnbgeiappaaDoorW.PrintWords

def nz (l : List UInt8) : Nat := (l.takeWhile fun b => b != 0).length
def peA (f : ByteArray) : List UInt8 := (f.data.toList.drop 1).take 23
def peN (f : ByteArray) : Nat := nz (peA f)
def peO (f : ByteArray) : Bool := decide (1 ≤ peN f) && (prL ((peA f).take (peN f)) && ((peA f).drop (peN f)).all (· == 0))
def peI (f : ByteArray) : ByteArray := if f.size = 32 then (if peO f = true then f.extract 1 (1 + peN f) else ⟨#[]⟩) else ⟨#[]⟩
def peX (f : ByteArray) : ByteArray := if f.size = 32 then (if peO f = true then f.extract 24 f.size else ⟨#[]⟩) else ⟨#[]⟩
def peE (f : ByteArray) : Int := if f.size = 32 then (if peO f = true then 0 else 10) else 1

theorem nz_le (l : List UInt8) : nz l ≤ l.length := by
  unfold nz; exact (List.takeWhile_prefix _).length_le
theorem nz_lt : ∀ (l : List UInt8) (j : Nat), j < nz l → l.getD j 0 ≠ 0
  | [], j, h => by simp [nz] at h
  | a :: t, j, h => by
    by_cases ha : a = 0
    · subst ha; simp [nz] at h
    · have e : nz (a :: t) = nz t + 1 := by unfold nz; rw [List.takeWhile_cons_of_pos (by simpa using ha)]; rfl
      cases j with
      | zero => simpa using ha
      | succ j => rw [List.getD_cons_succ]; exact nz_lt t j (by omega)
theorem nz_at : ∀ (l : List UInt8), nz l < l.length → l.getD (nz l) 0 = 0
  | [], h => by simp at h
  | a :: t, h => by
    by_cases ha : a = 0
    · subst ha; simp [nz]
    · have e : nz (a :: t) = nz t + 1 := by unfold nz; rw [List.takeWhile_cons_of_pos (by simpa using ha)]; rfl
      rw [e, List.getD_cons_succ]
      exact nz_at t (by rw [e] at h; simpa using h)
theorem index_nz : ∀ (l : List UInt8), (nz l = l.length ∧ Lib.indexByte l 0 = -1) ∨ (nz l < l.length ∧ Lib.indexByte l 0 = (nz l : Int))
  | [] => .inl ⟨rfl, rfl⟩
  | a :: t => by
    by_cases ha : a = 0
    · subst ha
      exact .inr ⟨by simp [nz], by simp [nz, Lib.indexByte]⟩
    · have e : nz (a :: t) = nz t + 1 := by unfold nz; rw [List.takeWhile_cons_of_pos (by simpa using ha)]; rfl
      have hb : (a == 0) = false := by simpa using ha
      rcases index_nz t with ⟨h1, h2⟩ | ⟨h1, h2⟩
      · refine .inl ⟨by rw [e, h1]; rfl, ?_⟩
        unfold Lib.indexByte
        rw [hb, h2]; rfl
      · refine .inr ⟨by rw [e]; simp; omega, ?_⟩
        unfold Lib.indexByte
        have h3 : ((nz t : Int) == -1) = false := by rw [beq_eq_false_iff_ne]; omega
        rw [hb, h2, h3, e]
        simp
theorem cut_nz (l : List UInt8) : (Lib.cut l [0]).1 = l.take (nz l) := by
  unfold Lib.cut
  rw [Lib.index_one]
  rcases index_nz l with ⟨h1, h2⟩ | ⟨h1, h2⟩
  · rw [h2, if_neg (by decide), h1, List.take_length]
  · rw [h2, if_pos (by omega)]
    simp
theorem drop_all {p : UInt8 → Bool} : ∀ L : List UInt8, (L.dropWhile p).all p = true → L.dropWhile p = []
  | [], _ => rfl
  | a :: t, h => by
    cases ha : p a
    · rw [List.dropWhile_cons_of_neg (by simp [ha])] at h
      rw [List.all_cons, ha] at h
      cases h
    · rw [List.dropWhile_cons_of_pos ha] at h ⊢
      exact drop_all t h
theorem drop_nil {p : UInt8 → Bool} : ∀ L : List UInt8, L.dropWhile p = [] ↔ L.all p = true
  | [] => by simp
  | a :: t => by
    cases ha : p a
    · rw [List.dropWhile_cons_of_neg (by simp [ha]), List.all_cons, ha]; simp
    · rw [List.dropWhile_cons_of_pos ha, List.all_cons, ha, Bool.true_and]
      exact drop_nil t
theorem trim_nil (l : List UInt8) : (Lib.trimB l 0).isEmpty = l.all (· == 0) := by
  have key : Lib.trimB l 0 = [] ↔ l.all (· == 0) = true := by
    unfold Lib.trimB Lib.trimLeftB Lib.trimRightB
    rw [drop_nil, List.all_reverse]
    constructor
    · intro h
      have h2 := drop_all _ h
      rw [drop_nil, List.all_reverse] at h2
      exact h2
    · intro h
      have h2 : l.reverse.dropWhile (· == (0 : UInt8)) = [] := (drop_nil _).2 (by rw [List.all_reverse]; exact h)
      rw [h2]; rfl
  rw [Bool.eq_iff_iff, List.isEmpty_iff]
  exact key

theorem peA_length {f : ByteArray} (h : f.size = 32) : (peA f).length = 23 := by
  unfold peA; rw [List.length_take, List.length_drop, ← Lib.size_eq, h]; rfl
theorem peN_le {f : ByteArray} (h : f.size = 32) : peN f ≤ 23 := by rw [← peA_length h]; exact nz_le _
theorem ext_A (f : ByteArray) : (f.extract 1 24).data.toList = peA f := by rw [Lib.extract_data]; rfl
theorem ext_I {f : ByteArray} (h : f.size = 32) : (f.extract 1 (1 + peN f)).data.toList = (peA f).take (peN f) := by
  have := peN_le h
  rw [Lib.extract_data]
  unfold peA
  rw [List.take_take]
  congr 1; omega
theorem ext_R {f : ByteArray} (h : f.size = 32) : (f.extract (1 + peN f) 24).data.toList = (peA f).drop (peN f) := by
  have := peN_le h
  rw [Lib.extract_data]
  unfold peA
  rw [List.drop_take, List.drop_drop]
  congr 1; omega
theorem size_I {f : ByteArray} (h : f.size = 32) : (f.extract 1 (1 + peN f)).size = peN f := by
  have h1 := peN_le h
  have h2 := peA_length h
  rw [Lib.size_eq, ext_I h, List.length_take]; omega
theorem prS_I {f : ByteArray} (h : f.size = 32) : prS (f.extract 1 (1 + peN f)) = (decide (1 ≤ peN f) && prL ((peA f).take (peN f))) := by
  unfold prS
  rw [size_I h, ext_I h, decide_eq_true (peN_le h), Bool.true_and]

theorem cut_zero (s : ByteArray) (m : Int) (w : World) (hs : s.size ≤ 60) (hm : w.cell? ⟨2, 0, none⟩ = some (.int .i64 m)) :
    Calls Tryd.prog 50 #[.string s, .string ⟨#[0]⟩] w fun e w' => ∃ X b, e = .returned (.tuple #[.string ⟨(s.data.toList.take (nz s.data.toList)).toArray⟩, .string X, .bool b]) ∧ Below w.heap.size w w' := by
  refine (Tryd.strings_Cut s ⟨#[0]⟩ m w (by omega) hm).mono fun e w' ⟨he, n, hw⟩ => ?_
  rw [show (⟨#[0]⟩ : ByteArray).data.toList = [0] from rfl, cut_nz] at he
  subst hw
  exact ⟨_, _, he, below_drewN (Below.refl _ _) n⟩
theorem trim_zero (s : ByteArray) (w : World) (hs : s.size ≤ 60) :
    Calls Tryd.prog 51 #[.string s, .string ⟨#[0]⟩] w fun e w' => ∃ T : ByteArray, e = .returned (.string T) ∧ T.toList.isEmpty = s.data.toList.all (· == 0) ∧ Below w.heap.size w w' := by
  refine (Tryd.strings_Trim_one s 0 (by decide) w (by omega)).mono fun e w' ⟨he, hw⟩ => ?_
  refine ⟨_, he, ?_, ?_⟩
  · rw [ByteArray.toList_eq]; exact trim_nil _
  · rcases hw with rfl | rfl
    · exact Below.refl _ _
    · exact (Below.refl _ _).drew
end Go.Proofs.YtgejjnbgeiappaaDoor
