/- What the document's Load holds while it reads. -/
import Derived.Test.YtcpecponmaakoaaGreatDoorR7
namespace Go.Proofs.YtcpecponmaakoaaGreatDoor
open Go.RowKit Go.Wm Go.Lib
/-- The reader, its bytes, the manifest, the result. -/
structure LR (w : World) (A RB : Nat) (v : Value) (l : List UInt8) (s : Rd) (x y z : Value) (pcs : List Piece) : Prop where
  row : w.heap[RB]? = some (.cells #[v, .int .i64 s.at', .int .i64 s.e] 95 (0, 0))
  own : OwnBytes w (A + 1) v l
  man : w.heap[RB + 1]? = some (.cells #[x, y, z] 24 (0, 0))
  res : w.heap[A]? = some (.cells #[.int .i64 0, .int .i64 0, .slice none 0 0] 24 (0, 0))
  pcs : OwnPcs w (RB + 2) z pcs
  size : RB + 2 ≤ w.heap.size
structure LG (A RB : Nat) (v : Value) : Prop where
  lt : A < RB
  own : ∀ g, v.ownBlock = some g → A < g ∧ g < RB
section
variable {w w' : World} {A RB : Nat} {v : Value} {l : List UInt8} {s : Rd} {x y z : Value} {pcs : List Piece}
theorem LR.same (h : LR w A RB v l s x y z pcs) (hg : LG A RB v) (hk : ∀ T, T < RB + 2 → w'.heap[T]? = w.heap[T]?) (hp : ∀ g, z.ownBlock = some g → w'.heap[g]? = w.heap[g]?) (hz : w.heap.size ≤ w'.heap.size) : LR w' A RB v l s x y z pcs :=
  ⟨(hk _ (by omega)).trans h.row, ownsRow_same h.own fun g e => hk g (by have := hg.own g e; omega), (hk _ (by omega)).trans h.man, (hk _ (by have := hg.lt; omega)).trans h.res, ownsRow_same h.pcs hp, Nat.le_trans h.size hz⟩
theorem LR.below (h : LR w A RB v l s x y z pcs) (hb : Below w.heap.size w w') : LR w' A RB v l s x y z pcs :=
  ⟨blk_below h.row hb, h.own.below hb, blk_below h.man hb, blk_below h.res hb, h.pcs.below hb, Nat.le_trans h.size hb.size⟩
theorem LR.rdr (h : LR w A RB v l s x y z pcs) (hg : LG A RB v) (hl : l.length ≤ 20000) : RdrAt w RB v l s :=
  ⟨h.row, h.own.at (by omega), fun a n c e => by have := (hg.own a.block (by rw [e]; rfl)).2; omega⟩
theorem LR.num {s' : Rd} (h : LR w A RB v l s x y z pcs) (hg : LG A RB v) (hr : RdrAt w' RB v l s') (hb : w.grownBy w' (some RB)) : LR w' A RB v l s' x y z pcs :=
  ⟨hr.row, World.ownsRow.kept h.own hb (.inr fun e => by have := (hg.own _ e).2; omega), heap_kept h.man hb (by omega), heap_kept h.res hb (by have := hg.lt; omega), World.ownsRow.kept h.pcs hb (.inr fun e => by have := (h.pcs.lt _ e).1; omega), Nat.le_trans h.size hb.size⟩
theorem LR.setP (h : LR w A RB v l s x y z pcs) (hg : LG A RB v) (P j : Nat) (u : Value) (hP : RB + 2 ≤ P) (hz : z.ownBlock ≠ some P) : LR (w.setCell ⟨P, j, none⟩ u) A RB v l s x y z pcs :=
  h.same hg (fun T hT => heap_setCell_other w ⟨P, j, none⟩ T u (by simp only; omega)) (fun g e => heap_setCell_other w ⟨P, j, none⟩ g u (by simp only; intro e2; exact hz (by rw [e, e2]))) (by simp)
theorem LR.setM (h : LR w A RB v l s x y z pcs) (hg : LG A RB v) (j : Nat) (u : Value) {x' y' : Value} (he : (#[x, y, z] : Array Value).setIfInBounds j u = #[x', y', z]) : LR (w.setCell ⟨RB + 1, j, none⟩ u) A RB v l s x' y' z pcs :=
  ⟨(heap_setCell_other w ⟨RB + 1, j, none⟩ RB u (by simp only; omega)).trans h.row, ownsRow_same h.own fun g e => heap_setCell_other w ⟨RB + 1, j, none⟩ g u (by have := hg.own g e; simp only; omega), by rw [row3_setj j h.man, he], (heap_setCell_other w ⟨RB + 1, j, none⟩ A u (by have := hg.lt; simp only; omega)).trans h.res, ownsRow_setCell_below h.pcs (a := ⟨RB + 1, j, none⟩) (by simp only; omega) u, by rw [World.size_setCell]; exact h.size⟩
theorem LR.setE (h : LR w A RB v l s x y z pcs) (hg : LG A RB v) (e : Int) : LR (w.setCell ⟨RB, 2, none⟩ (.int .i64 e)) A RB v l ⟨s.at', e⟩ x y z pcs :=
  ⟨row3_setj 2 h.row, ownsRow_same h.own fun g e' => heap_setCell_other w ⟨RB, 2, none⟩ g _ (by have := hg.own g e'; simp only; omega), (heap_setCell_other w ⟨RB, 2, none⟩ (RB + 1) _ (by simp only; omega)).trans h.man, (heap_setCell_other w ⟨RB, 2, none⟩ A _ (by have := hg.lt; simp only; omega)).trans h.res, ownsRow_setCell_below h.pcs (a := ⟨RB, 2, none⟩) (by simp only; omega) _, by rw [World.size_setCell]; exact h.size⟩
/-- One piece more. -/
theorem LR.push {w1 : World} {z' : Value} {pcs' : List Piece} (h : LR w A RB v l s x y z pcs) (hg : LG A RB v) (hO : OwnPcs w1 (RB + 2) z' pcs') (hb : w.grownBy w1 z.ownBlock) : LR (w1.setCell ⟨RB + 1, 2, none⟩ z') A RB v l s x y z' pcs' := by
  have hk : ∀ T, T < RB + 2 → w1.heap[T]? = w.heap[T]? := fun T hT => hb.block T (Nat.lt_of_lt_of_le hT h.size) (fun e => by have := (h.pcs.lt T e.symm).1; omega)
  have hk2 : ∀ T, T < RB + 2 → T ≠ RB + 1 → (w1.setCell ⟨RB + 1, 2, none⟩ z').heap[T]? = w.heap[T]? := fun T hT hne => by rw [heap_setCell_other w1 ⟨RB + 1, 2, none⟩ T _ hne]; exact hk T hT
  refine ⟨(hk2 _ (by omega) (by omega)).trans h.row, ownsRow_same h.own fun g e => hk2 g (by have := hg.own g e; omega) (by have := hg.own g e; omega), ?_, (hk2 _ (by have := hg.lt; omega) (by have := hg.lt; omega)).trans h.res, ownsRow_setCell_below hO (a := ⟨RB + 1, 2, none⟩) (by simp only; omega) z', ?_⟩
  · rw [row3_setj 2 ((hk _ (by omega)).trans h.man)]; rfl
  · rw [World.size_setCell]; exact Nat.le_trans h.size hb.size
end
theorem row6_setj {w : World} {P : Nat} {cs : Array Value} {t : TypeId} (j : Nat) (u : Value) (h : w.heap[P]? = some (.cells cs t (0, 0))) : (w.setCell ⟨P, j, none⟩ u).heap[P]? = some (.cells (cs.setIfInBounds j u) t (0, 0)) :=
  heap_setCell_same w P j _ t u h
theorem rdSum_at (l : List UInt8) (s : Rd) : (rdSum l s).2.at' ≤ s.at' + 4 := by
  rw [rdSum]; split <;> simp
theorem rdPiece_steps (l : List UInt8) (s : Rd) : rdPiece l s =
    (⟨(rd l s).1, (rd l (rd l s).2).1, (rd l (rd l (rd l s).2).2).1, (rd l (rd l (rd l (rd l s).2).2).2).1, (rdSum l (rd l (rd l (rd l (rd l s).2).2).2).2).1, (rd l (rdSum l (rd l (rd l (rd l (rd l s).2).2).2).2).2).1⟩,
      (rd l (rdSum l (rd l (rd l (rd l (rd l s).2).2).2).2).2).2) := rfl
theorem loadBody_steps (l : List UInt8) : loadBody l = finishM l (rd l ⟨0, 0⟩).1 (rd l (rd l ⟨0, 0⟩).2).1 (rd l (rd l (rd l ⟨0, 0⟩).2).2).1 (rd l (rd l (rd l ⟨0, 0⟩).2).2).2 := rfl
theorem below_grownR {w w' a : World} {R : Nat} (h : Below a.heap.size a w) (hR : a.heap.size ≤ R) (hg : w.grownBy w' (some R)) : Below a.heap.size a w' :=
  h.trans (below_grown hg h.size fun k hk => by cases hk; exact hR)
end Go.Proofs.YtcpecponmaakoaaGreatDoor
