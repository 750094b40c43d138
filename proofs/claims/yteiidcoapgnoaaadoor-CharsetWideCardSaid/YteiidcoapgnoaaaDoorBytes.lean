/-
  '[]byte(s)' as one step of a walk; a builder behind a call that keeps all that lay.
-/
import Derived.Test.YteiidcoapgnoaaaDoorWords
import Derived.Lib.ConvBytes
import Derived.Lib.OthersKept
import Derived.Laws.AppendOwn
namespace Go.Proofs.YteiidcoapgnoaaaDoor
open Go.RowKit

theorem builder_below {T e : TypeId} {B b : Nat} {bs : List Value} {w w1 : World} (h : Lib.IsBuilderF T e B b bs w) (hb : Below w.heap.size w w1) : Lib.IsBuilderF T e B b bs w1 := by
  have one : ∀ p, Lib.BuilderAtF T e B b p bs w → Lib.BuilderAtF T e B b p bs w1 := by
    intro p hp
    have hlt := hp.lt
    obtain ⟨hB, v, hv, ho, hne⟩ := hp
    refine ⟨hB, v, (hb.block b hlt).trans hv, ⟨ho.1, ?_⟩, hne⟩
    rcases ho.2 with h0 | ⟨g, cap, cur, fz, h1, h2, h3, h4⟩
    · exact .inl h0
    · refine .inr ⟨g, cap, cur, fz, h1, h2, ?_, h4⟩
      have hg : g < w.heap.size := by
        rcases Nat.lt_or_ge g w.heap.size with hl | hge
        · exact hl
        · rw [Array.getElem?_eq_none hge] at h3; cases h3
      exact (hb.block g hg).trans h3
  exact h.imp (one _) (one _)

/-- '[]byte(s)': a new row with the string's bytes. -/
theorem wpList_bytes {P : Program} (w : World) {ops : Array Oper} {rest : List Oper} {o : Oper} {a : Act} {Q : Exit → Act → World → Prop}
    (hg : o.guard = none) (x : Operand) (src dst e : TypeId) (hop : o.op = Op.convert src dst x) (hs : P.underlying src = some .string) (hd : P.underlying dst = some (.slice e)) (he : P.underlying e = some (.int .u8))
    (s : ByteArray) (hx : a.eval x = .string s)
    (hK : ∀ w' cap, Below w.heap.size w w' → w.heap.size < w'.heap.size → s.size ≤ cap → (∀ j, j < s.size → w'.cell? ⟨w.heap.size, j, none⟩ = some (.int .u8 (s.data.toList.getD j 0).toNat)) →
      wpList P ops Q rest (a.put o.dst (.slice (some ⟨w.heap.size, 0, none⟩) s.size cap)) w') :
    wpList P ops Q (o :: rest) a w := by
  refine wpList_plain hg fun K hK' => ?_
  have hrun := Lib.run_convert_string_bytes (P := P) w src dst e s hs hd he
  unfold Oper.wp
  simp [execOp, hop, hx, hrun, Result.andThen]
  exact hK' _ _ (hK _ _ ⟨rfl, rfl, rfl, by rw [Lib.bytesWorld_size]; omega, fun i hi => Lib.bytesWorld_at_old w e s i hi⟩ (by rw [Lib.bytesWorld_size]; omega) (grownCap_ge w s.size 0 e) (fun j hj => Lib.bytesWorld_cell w e s j hj))
end Go.Proofs.YteiidcoapgnoaaaDoor
