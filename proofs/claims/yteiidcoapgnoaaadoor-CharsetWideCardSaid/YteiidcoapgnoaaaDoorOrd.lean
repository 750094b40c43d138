import Derived.Test.YteiidcoapgnoaaaDoorUcs
import Derived.Lib.Bytealg
namespace Go.Proofs.YteiidcoapgnoaaaDoor.Ch
open Go.Lib

/-- Lists of characters in order. -/
def cmpN : List Nat → List Nat → Int
  | [], [] => 0
  | [], _ :: _ => -1
  | _ :: _, [] => 1
  | a :: as, b :: bs => if a < b then -1 else if b < a then 1 else cmpN as bs

theorem cb_cons (a b : UInt8) (x y : List UInt8) : compareBytes (a :: x) (b :: y) = if a.toNat < b.toNat then -1 else if b.toNat < a.toNat then 1 else compareBytes x y := by
  simp only [compareBytes, UInt8.lt_iff_toNat_lt]
theorem cb_same (p x y : List UInt8) : compareBytes (p ++ x) (p ++ y) = compareBytes x y := by
  induction p with
  | nil => rfl
  | cons a p ih => simp only [List.cons_append]; rw [cb_cons, if_neg (by omega), if_neg (by omega), ih]
theorem cb_swap : ∀ x y : List UInt8, compareBytes y x = - compareBytes x y
  | [], [] => rfl
  | [], _ :: _ => rfl
  | _ :: _, [] => rfl
  | a :: x, b :: y => by
    rw [cb_cons, cb_cons, cb_swap x y]
    split
    · rw [if_neg (by omega)]
    · split <;> rfl
theorem cb_lt {a b : Nat} (h : a < b) (hb : b < 256) (x y : List UInt8) : compareBytes (UInt8.ofNat a :: x) (UInt8.ofNat b :: y) = -1 := by
  rw [cb_cons, ofNat_toNat (by omega), ofNat_toNat hb, if_pos h]
theorem cb_eq (a : Nat) (x y : List UInt8) : compareBytes (UInt8.ofNat a :: x) (UInt8.ofNat a :: y) = compareBytes x y := by
  rw [cb_cons, if_neg (by omega), if_neg (by omega)]

theorem enc_lt {c d : Nat} (h : c < d) (hd : d < 65536) (x y : List UInt8) : compareBytes (enc c ++ x) (enc d ++ y) = -1 := by
  unfold enc
  by_cases d1 : d < 128
  · rw [if_pos (by omega), if_pos d1]; exact cb_lt h (by omega) _ _
  · rw [if_neg d1]
    by_cases c1 : c < 128
    · rw [if_pos c1]
      split <;> exact cb_lt (by omega) (by omega) _ _
    · rw [if_neg c1]
      by_cases d2 : d < 2048
      · rw [if_pos (by omega), if_pos d2]
        simp only [List.cons_append, List.nil_append]
        by_cases e : c / 64 = d / 64
        · rw [e, cb_eq]; exact cb_lt (by omega) (by omega) _ _
        · exact cb_lt (by omega) (by omega) _ _
      · rw [if_neg d2]
        by_cases c2 : c < 2048
        · rw [if_pos c2]; exact cb_lt (by omega) (by omega) _ _
        · rw [if_neg c2]
          simp only [List.cons_append, List.nil_append]
          by_cases e : c / 4096 = d / 4096
          · rw [e, cb_eq]
            by_cases e2 : c / 64 % 64 = d / 64 % 64
            · rw [e2, cb_eq]; exact cb_lt (by omega) (by omega) _ _
            · exact cb_lt (by omega) (by omega) _ _
          · exact cb_lt (by omega) (by omega) _ _

theorem enc_ne_nil (c : Nat) (x : List UInt8) : enc c ++ x ≠ [] := fun e => by
  have := congrArg List.length e
  have h := enc_pos c
  simp at this
  have := this.1
  rw [this] at h; simp at h
theorem cb_nil_left {y : List UInt8} (h : y ≠ []) : compareBytes [] y = -1 := by
  cases y with
  | nil => exact absurd rfl h
  | cons _ _ => rfl
theorem cb_nil_right {y : List UInt8} (h : y ≠ []) : compareBytes y [] = 1 := by
  cases y with
  | nil => exact absurd rfl h
  | cons _ _ => rfl

/-- Texts are in the order of their characters. -/
theorem encs_order : ∀ (a b : List Nat), (∀ c ∈ a, isCh c = true) → (∀ c ∈ b, isCh c = true) → compareBytes (encs a) (encs b) = cmpN a b
  | [], [], _, _ => rfl
  | [], b :: bs, _, _ => by rw [encs_cons, encs_nil]; exact cb_nil_left (enc_ne_nil _ _)
  | a :: as, [], _, _ => by rw [encs_cons, encs_nil]; exact cb_nil_right (enc_ne_nil _ _)
  | a :: as, b :: bs, h1, h2 => by
    have ha := isCh_iff.1 (h1 a (by simp))
    have hb := isCh_iff.1 (h2 b (by simp))
    rw [encs_cons, encs_cons]
    unfold cmpN
    by_cases l : a < b
    · rw [if_pos l]; exact enc_lt l (by omega) _ _
    · rw [if_neg l]
      by_cases g : b < a
      · rw [if_pos g, cb_swap, enc_lt g (by omega)]; rfl
      · rw [if_neg g, show a = b by omega, cb_same]
        exact encs_order as bs (fun x hx => h1 x (List.mem_cons_of_mem _ hx)) (fun x hx => h2 x (List.mem_cons_of_mem _ hx))

theorem ucs1_lt {c d : Nat} (h : c < d) (hd : d < 65536) (x y : List UInt8) :
    compareBytes (UInt8.ofNat (c / 256) :: UInt8.ofNat (c % 256) :: x) (UInt8.ofNat (d / 256) :: UInt8.ofNat (d % 256) :: y) = -1 := by
  by_cases e : c / 256 = d / 256
  · rw [e, cb_eq]; exact cb_lt (by omega) (by omega) _ _
  · exact cb_lt (by omega) (by omega) _ _
theorem ucs_order : ∀ (a b : List Nat), (∀ c ∈ a, isCh c = true) → (∀ c ∈ b, isCh c = true) → compareBytes (ucs a) (ucs b) = cmpN a b
  | [], [], _, _ => rfl
  | [], b :: bs, _, _ => by rw [ucs_cons, ucs_nil]; rfl
  | a :: as, [], _, _ => by rw [ucs_cons, ucs_nil]; rfl
  | a :: as, b :: bs, h1, h2 => by
    have ha := isCh_iff.1 (h1 a (by simp))
    have hb := isCh_iff.1 (h2 b (by simp))
    rw [ucs_cons, ucs_cons]
    unfold cmpN
    by_cases l : a < b
    · rw [if_pos l]; exact ucs1_lt l (by omega) _ _
    · rw [if_neg l]
      by_cases g : b < a
      · rw [if_pos g, cb_swap, ucs1_lt g (by omega)]; rfl
      · rw [if_neg g, show a = b by omega, cb_eq, cb_eq]
        exact ucs_order as bs (fun x hx => h1 x (List.mem_cons_of_mem _ hx)) (fun x hx => h2 x (List.mem_cons_of_mem _ hx))
end Go.Proofs.YteiidcoapgnoaaaDoor.Ch
