/- Laws on rows of the call's own: cells written inside, a row cut, cells behind it cleared. -/
import Derived.Test.YtcpecponmaakoaaGreatDoorDefs
import Derived.Laws.IdiomCopy
import Derived.Laws.OwnMore
import Derived.Deep.MidRow
namespace Go.Wm
open Go.RowKit
variable {P : Program}
def over : List Value → Nat → List Value → List Value
  | xs, _, [] => xs
  | xs, o, v :: r => over (xs.set o v) (o + 1) r
theorem over_length : ∀ (vs xs : List Value) (o : Nat), (over xs o vs).length = xs.length
  | [], _, _ => rfl
  | v :: r, xs, o => by simp [over, over_length r]
theorem over_eq : ∀ (vs xs : List Value) (o : Nat), o + vs.length ≤ xs.length → over xs o vs = xs.take o ++ vs ++ xs.drop (o + vs.length)
  | [], xs, o, h => by simp [over]
  | v :: r, xs, o, h => by
    simp only [List.length_cons] at h
    rw [over, over_eq r (xs.set o v) (o + 1) (by simp; omega)]
    rw [List.drop_set, if_pos (by omega)]
    have h1 : (xs.set o v).take (o + 1) = xs.take o ++ [v] := by
      rw [List.take_add_one, List.take_set_of_le (Nat.le_refl o)]
      simp [show o < xs.length by omega]
    rw [h1]
    simp [Nat.add_assoc, Nat.add_comm 1]
theorem over_out : ∀ (vs xs : List Value) (o : Nat), xs.length ≤ o → over xs o vs = xs
  | [], _, _, _ => rfl
  | v :: r, xs, o, h => by
    rw [over, List.set_eq_of_length_le h]
    exact over_out r xs (o + 1) (by omega)
theorem grownBy_trans {a b c : World} {row : Option Nat} (h1 : a.grownBy b row) (h2 : b.grownBy c row) : a.grownBy c row :=
  ⟨h2.os.trans h1.os, h2.tape.trans h1.tape, h2.output.trans h1.output, Nat.le_trans h1.size h2.size, fun k hk hne => (h2.block k (Nat.lt_of_lt_of_le hk h1.size) hne).trans (h1.block k hk hne)⟩
theorem grownBy_below {a b : World} {row : Option Nat} (h : Below a.heap.size a b) : a.grownBy b row := ⟨h.os, h.tape, h.output, h.size, fun k hk _ => h.block k hk⟩
theorem ownsRow_setCells {base size n cap g : Nat} {e : TypeId} : ∀ (vs : List Value) (o : Nat) {w : World} {xs : List Value}, w.ownsRow base e size (.slice (some ⟨g, 0, none⟩) n cap) n xs →
    (w.setCells g o vs).ownsRow base e size (.slice (some ⟨g, 0, none⟩) n cap) n (over xs o vs) ∧ w.grownBy (w.setCells g o vs) (some g)
  | [], _, _, _, h => ⟨h, grownBy_below (Below.refl _ _)⟩
  | v :: r, o, w, xs, h => by
    have h1 := h.stored o v
    have h2 := ownsRow_setCells r (o + 1) h1.1
    exact ⟨h2.1, grownBy_trans h1.2 h2.2⟩
/-- A row cut. -/
theorem ownsRow_cut {w : World} {base size n cap g m : Nat} {e : TypeId} {xs : List Value} (h : w.ownsRow base e size (.slice (some ⟨g, 0, none⟩) n cap) n xs) (hm : m ≤ n) :
    w.ownsRow base e size (.slice (some ⟨g, 0, none⟩) m cap) m (xs.take (m * size)) := by
  obtain ⟨h1, h2⟩ := h
  have hms : m * size ≤ n * size := Nat.mul_le_mul_right _ hm
  refine ⟨by rw [List.length_take]; omega, ?_⟩
  rcases h2 with ⟨h', _⟩ | ⟨g', cap', cur, hv, hb, hg, hn, hc, hs, ht⟩
  · cases h'
  · cases hv
    refine .inr ⟨g, cap, cur, rfl, hb, hg, by omega, hc, hs, ?_⟩
    rw [← ht, List.take_take, Nat.min_eq_left hms]
theorem pcCells_take (l : List Piece) (i : Nat) : (pcCells l).take (i * 6) = pcCells (l.take i) := by
  induction l generalizing i with
  | nil => simp [pcCells]
  | cons p l ih =>
    cases i with
    | zero => simp [pcCells]
    | succ i =>
      have e : (i + 1) * 6 = p.cells.length + i * 6 := by rw [Piece.cells_length]; omega
      rw [e]
      show (p.cells ++ pcCells l).take _ = p.cells ++ pcCells (l.take i)
      rw [List.take_append, List.take_of_length_le (by omega), Nat.add_sub_cancel_left, ih]
theorem pcCells_drop (l : List Piece) (i : Nat) : (pcCells l).drop (i * 6) = pcCells (l.drop i) := by
  induction l generalizing i with
  | nil => simp [pcCells]
  | cons p l ih =>
    cases i with
    | zero => simp [pcCells]
    | succ i =>
      have e : (i + 1) * 6 = p.cells.length + i * 6 := by rw [Piece.cells_length]; omega
      rw [e]
      show (p.cells ++ pcCells l).drop _ = pcCells (l.drop i)
      rw [List.drop_append, List.drop_of_length_le (by omega), Nat.add_sub_cancel_left, ih]; rfl
theorem over_piece (l : List Piece) (i : Nat) (p : Piece) (h : i < l.length) : over (pcCells l) (i * 6) p.cells = pcCells (l.set i p) := by
  have h6 : p.cells.length = 6 := rfl
  rw [over_eq _ _ _ (by rw [h6, pcCells_length]; omega), h6, pcCells_take, show i * 6 + 6 = (i + 1) * 6 by omega, pcCells_drop, List.set_eq_take_append_cons_drop, if_pos h]
  simp [pcCells]
/-- 'l[i] = p' in a row of the call's own. -/
theorem OwnPcs.set {w : World} {base g n cap : Nat} {l : List Piece} (h : OwnPcs w base (.slice (some ⟨g, 0, none⟩) n cap) l) (hn : n = l.length) {i : Nat} (hi : i < l.length) (p : Piece) :
    OwnPcs (w.setCells g (i * 6) p.cells) base (.slice (some ⟨g, 0, none⟩) n cap) (l.set i p) ∧ w.grownBy (w.setCells g (i * 6) p.cells) (some g) := by
  subst hn
  have := ownsRow_setCells p.cells (i * 6) h
  rw [over_piece l i p hi] at this
  refine ⟨?_, this.2⟩
  unfold OwnPcs
  rw [List.length_set]
  exact this.1
theorem OwnPcs.there {w : World} {base g cap : Nat} {l : List Piece} (h : OwnPcs w base (.slice (some ⟨g, 0, none⟩) l.length cap) l) {i : Nat} (hi : i < l.length) : w.there g (i * 6) 6 := by
  intro j hj
  refine ⟨?_, World.ownsRow.frozenAt h _⟩
  rw [World.ownsRow.cellAt h _ (by omega), List.getElem?_eq_getElem (by rw [pcCells_length]; omega)]
  rfl
theorem OwnPcs.cut {w : World} {base g n cap : Nat} {l : List Piece} (h : OwnPcs w base (.slice (some ⟨g, 0, none⟩) n cap) l) (hn : n = l.length) {m : Nat} (hm : m ≤ l.length) :
    OwnPcs w base (.slice (some ⟨g, 0, none⟩) m cap) (l.take m) := by
  subst hn
  have := ownsRow_cut h hm
  rw [pcCells_take] at this
  unfold OwnPcs
  rw [List.length_take, Nat.min_eq_left hm]
  exact this
theorem run_clear_rows (w : World) (t e ty : TypeId) (z : Value) (ht : P.underlying t = some (.slice e)) (hv : ∀ w, (zeroValue e).run P w = .ok z w) (b o n c : Nat) (hn : 0 < n)
    (h1 : ∀ v ∈ (Builtin.zeroCells z.cells n).toList, v.oneCell' = true)
    (hc : ∀ j, j < n * z.cells.size → (w.cell? ⟨b, o + j, none⟩).isSome = true) (hf : ∀ j, j < n * z.cells.size → w.frozen? ⟨b, o + j, none⟩ = false) :
    (Builtin.clear_ #[t] ty #[.slice (some ⟨b, o, none⟩) n c]).run P w = .ok (.tuple #[]) (w.setCells b o (Builtin.zeroCells z.cells n).toList) := by
  have hl : (Builtin.zeroCells z.cells n).toList.length = n * z.cells.size := by rw [Array.length_toList, size_zeroCells]
  have hst := run_storeCells_cells (P := P) b o (Builtin.zeroCells z.cells n).toList 0 w (by rw [hl]; simpa using hc) (by rw [hl]; simpa using hf) h1
  simp only [Nat.add_zero] at hst
  obtain ⟨m, rfl⟩ : ∃ m, n = m + 1 := ⟨n - 1, by omega⟩
  simp [Builtin.clear_, run_underlying ht, hv, hst]
theorem run_clear_none (w : World) (t e ty : TypeId) (ht : P.underlying t = some (.slice e)) (a : Option Addr) (c : Nat) : (Builtin.clear_ #[t] ty #[.slice a 0 c]).run P w = .ok (.tuple #[]) w := by
  cases a <;> simp [Builtin.clear_, run_underlying ht]
/-- 'clear(s[m:])' of a row of pieces of the call's own. -/
theorem wpList_clear_pcs {w : World} {ops : Array Oper} {rest : List Oper} {o : Oper} {a : Act} {Q : Exit → Act → World → Prop} (hg : o.guard = none) (s : Operand)
    (hop : o.op = Op.call { callee := Callee.builtin Builtin.clear, args := #[s], argTypes := #[22] }) (ht : P.underlying 22 = some (.slice 29))
    (hv : ∀ w, (zeroValue 29).run P w = .ok (.agg #[.int .i64 0, .int .i64 0, .int .i64 0, .int .i64 0, .int .u32 0, .int .i64 0]) w)
    (base g cap m : Nat) (l : List Piece) (hown : OwnPcs w base (.slice (some ⟨g, 0, none⟩) l.length cap) l) (hm : m ≤ l.length) (ao : Option Addr) (c : Nat) (hs : a.eval s = .slice ao (l.length - m) c)
    (hao : m < l.length → ao = some ⟨g, m * 6, none⟩)
    (hK : ∀ w', OwnPcs w' base (.slice (some ⟨g, 0, none⟩) m cap) (l.take m) → w.grownBy w' (some g) → wpList P ops Q rest (a.put o.dst (.tuple #[])) w') : wpList P ops Q (o :: rest) a w := by
  refine wpList_plain hg fun K hK' => ?_
  rcases Nat.lt_or_ge m l.length with hlt | hge
  · rw [hao hlt] at hs
    have hz : (Value.agg #[Value.int IntKind.i64 0, .int .i64 0, .int .i64 0, .int .i64 0, .int .u32 0, .int .i64 0]).cells.size = 6 := rfl
    have hrun := run_clear_rows (P := P) w 22 29 o.type _ ht hv g (m * 6) (l.length - m) c (by omega) (by
        intro v hv'
        simp only [Builtin.zeroCells, hz, Array.toList_map, List.mem_map] at hv'
        obtain ⟨i, _, rfl⟩ := hv'
        have : ∀ i : Fin 6, ((Value.agg #[Value.int IntKind.i64 0, .int .i64 0, .int .i64 0, .int .i64 0, .int .u32 0, .int .i64 0]).cells[i.val]!).oneCell' = true := by decide
        exact this ⟨i % 6, by omega⟩)
      (fun j hj => by rw [World.ownsRow.cellAt hown _ (by rw [hz] at hj; omega), List.getElem?_eq_getElem (by rw [pcCells_length]; rw [hz] at hj; omega)]; rfl)
      (fun j _ => World.ownsRow.frozenAt hown _)
    have hcut := OwnPcs.cut hown rfl hm
    have h2 := ownsRow_setCells (Builtin.zeroCells (Value.agg #[Value.int IntKind.i64 0, .int .i64 0, .int .i64 0, .int .i64 0, .int .u32 0, .int .i64 0]).cells (l.length - m)).toList (m * 6) (show w.ownsRow base 29 6 (.slice (some ⟨g, 0, none⟩) m cap) m (pcCells (l.take m)) by
      have := hcut; unfold OwnPcs at this; rwa [List.length_take, Nat.min_eq_left hm] at this)
    rw [over_out _ _ _ (by rw [pcCells_length, List.length_take]; omega)] at h2
    unfold Oper.wp
    simp [execOp, hop, resolve, invoke, builtin, hs, hrun, Result.andThen]
    exact hK' _ _ (hK _ (by unfold OwnPcs; rw [List.length_take, Nat.min_eq_left hm]; exact h2.1) h2.2)
  · have he : m = l.length := by omega
    subst he
    rw [Nat.sub_self] at hs
    have hrun := run_clear_none (P := P) w 22 29 o.type ht ao c
    unfold Oper.wp
    simp [execOp, hop, resolve, invoke, builtin, hs, hrun, Result.andThen]
    exact hK' _ _ (hK _ (by rw [List.take_length]; exact hown) (grownBy_below (Below.refl _ _)))
end Go.Wm
