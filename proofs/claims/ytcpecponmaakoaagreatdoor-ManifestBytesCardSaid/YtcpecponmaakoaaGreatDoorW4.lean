/- Walks: a copy of pieces (slices.Clone), slices.DeleteFunc at the closure of 'only', only, Span. -/
import Derived.Test.YtcpecponmaakoaaGreatDoorW3
import Derived.Test.YtcpecponmaakoaaGreatDoorRow
import Derived.Lib.SliceRun
namespace Go.Proofs.YtcpecponmaakoaaGreatDoor
open Go.RowKit Go.Wm
variable {P : Program}
theorem OwnPcs.form {w : World} {b : Nat} {v : Value} {l : List Piece} (h : OwnPcs w b v l) : ∃ a cap, v = .slice a l.length cap := by
  rcases h.2 with ⟨rfl, h0⟩ | ⟨g, cap, cur, rfl, _⟩
  · exact ⟨none, 0, by rw [h0]⟩
  · exact ⟨_, cap, rfl⟩
theorem empty_pcs (w : World) (base : Nat) (h : base ≤ w.heap.size) : OwnPcs (w.alloc (.cells #[] 29)) base (.slice (some ⟨w.heap.size, 0, none⟩) 0 0) [] :=
  ⟨rfl, .inr ⟨w.heap.size, 0, #[], rfl, h, heap_alloc_new w _, by simp, by simp [maxLen], rfl, rfl⟩⟩
theorem Piece.cells_one (p : Piece) : ∀ u ∈ p.cells, u.oneCell' = true := by
  intro u hu
  simp [Piece.cells] at hu
  rcases hu with rfl | rfl | rfl | rfl | rfl | rfl <;> rfl
theorem pcCells_one (l : List Piece) : ∀ u ∈ pcCells l, u.oneCell' = true := by
  intro u hu
  obtain ⟨p, _, hp⟩ := List.mem_flatMap.1 hu
  exact Piece.cells_one p u hp
/-- The cells of a slice of pieces, one by one. -/
theorem PcsAt.cells {w : World} {a : Option Addr} {cap : Nat} {l : List Piece} (h : PcsAt w (.slice a l.length cap) l) : l = [] ∨ ∃ b o, a = some ⟨b, o, none⟩ ∧ ∀ j u, (pcCells l)[j]? = some u → w.cell? ⟨b, o + j, none⟩ = some u := by
  obtain ⟨a', cap', hv, _, hs⟩ := h
  cases hv
  rcases hs.shape with ⟨b, o, ha, hx⟩ | h0
  · refine .inr ⟨b, o, ha, fun j u hj => ?_⟩
    have hjl : j < (pcCells l).length := (List.getElem?_eq_some_iff.1 hj).1
    rw [pcCells_length] at hjl
    have hk : j / 6 < l.length := by omega
    have hf := flat_get Piece.cells 6 Piece.cells_length l (j / 6) (j % 6) hk (by omega)
    rw [show j / 6 * 6 + j % 6 = j by omega] at hf
    have hp := hx (j / 6) hk _ (List.getElem?_eq_getElem hk)
    obtain ⟨e0, e1, e2, e3, e4, e5⟩ := hp
    have hj' : l[j / 6].cells[j % 6]? = some u := by rw [← hf]; exact hj
    have e : o + j = o + j / 6 * 6 + j % 6 := by omega
    rw [e]
    have h6 : j % 6 < 6 := by omega
    generalize j % 6 = m at hj' h6
    match m, hj' with
    | 0, hj' => simp [Piece.cells] at hj'; subst hj'; exact e0
    | 1, hj' => simp [Piece.cells] at hj'; subst hj'; exact e1
    | 2, hj' => simp [Piece.cells] at hj'; subst hj'; exact e2
    | 3, hj' => simp [Piece.cells] at hj'; subst hj'; exact e3
    | 4, hj' => simp [Piece.cells] at hj'; subst hj'; exact e4
    | 5, hj' => simp [Piece.cells] at hj'; subst hj'; exact e5
    | m + 6, _ => omega
  · exact .inl (List.eq_nil_of_length_eq_zero h0)
theorem run_append_nothing {w : World} (base : Nat) (t ty e : TypeId) (i : TypeInfo) (size : Nat) (ht : P.underlying t = some (.slice e)) (hi : P.info? e = some i)
    (v : Value) (n c : Nat) (xs : List Value) (hown : w.ownsRow base e size v n xs) :
    (Builtin.append_ #[t, t] ty #[v, .slice none 0 c]).run P w = .ok v w := by
  rcases hown.2 with ⟨rfl, rfl⟩ | ⟨g, cap, cur, rfl, _, _, hnc, _⟩
  · simp [Builtin.append_, run_underlying ht, sizeOf, typeInfo, hi, Builtin.lenOf, Builtin.firstCells]
  · simp [Builtin.append_, run_underlying ht, sizeOf, typeInfo, hi, Builtin.lenOf, Builtin.firstCells, hnc, storeCells]
theorem wpList_append_nothing {w : World} {ops : Array Oper} {rest : List Oper} {o : Oper} {a : Act} {Q : Exit → Act → World → Prop} (hgd : o.guard = none) (s x : Operand) (t : TypeId)
    (ho : o.op = .call { callee := .builtin .append, args := #[s, x], argTypes := #[t, t] })
    (base : Nat) (e : TypeId) (i : TypeInfo) (size : Nat) (ht : P.underlying t = some (.slice e)) (hi : P.info? e = some i)
    (v : Value) (n c : Nat) (xs : List Value) (hs : a.eval s = v) (hown : w.ownsRow base e size v n xs) (hx : a.eval x = .slice none 0 c)
    (h : wpList P ops Q rest (a.put o.dst v) w) : wpList P ops Q (o :: rest) a w := by
  refine wpList_plain hgd fun K hK => ?_
  have hrun := run_append_nothing (P := P) (w := w) base t o.type e i size ht hi v n c xs hown
  unfold Oper.wp
  simp [execOp, ho, resolve, invoke, builtin, hs, hx, hrun, Result.andThen]
  exact hK _ _ h
/-- 'append(s, l...)' of pieces, onto a row of the call's own. -/
theorem wpList_append_pcs {w : World} {ops : Array Oper} {rest : List Oper} {o : Oper} {a : Act} {Q : Exit → Act → World → Prop} (hgd : o.guard = none) (s x : Operand)
    (ho : o.op = .call { callee := .builtin .append, args := #[s, x], argTypes := #[22, 22] })
    (ht : P.underlying 22 = some (.slice 29)) (hi : (P.info? 29).map (fun i => (i.zero, i.size, i.bytes)) = some (some (.agg #[.int .i64 0, .int .i64 0, .int .i64 0, .int .i64 0, .int .u32 0, .int .i64 0]), 6, 48))
    (base : Nat) (v u : Value) (xs l : List Piece) (hs : a.eval s = v) (hown : OwnPcs w base v xs) (hx : a.eval x = u) (hl : PcsAt w u l)
    (hn : xs.length ≤ 1000000) (hbase : base ≤ w.heap.size)
    (h : ∀ v' w', OwnPcs w' base v' (xs ++ l) → Below base w w' → w.grownBy w' v.ownBlock → wpList P ops Q rest (a.put o.dst v') w') : wpList P ops Q (o :: rest) a w := by
  have hl' := hl
  obtain ⟨ax, cx, rfl, hm, _⟩ := hl
  obtain ⟨i, hi', hz, hsize, hby⟩ := info_parts hi
  rcases ax with _ | ⟨b0, o0, s0⟩
  · rcases PcsAt.cells hl' with h0 | ⟨b, o', ha, _⟩
    · subst h0
      refine wpList_append_nothing hgd s x 22 ho base 29 i 6 ht hi' v xs.length cx (pcCells xs) hs hown hx ?_
      exact h v w (by simpa using hown) (Below.refl _ _) (grownBy_below (Below.refl _ _))
    · cases ha
  · have hc : ∀ j u, (pcCells l)[j]? = some u → w.cell? ((⟨b0, o0, s0⟩ : Addr).add j) = some u := by
      rcases PcsAt.cells hl' with h0 | ⟨b, o', ha, hc⟩
      · subst h0; intro j u hj; simp [pcCells] at hj
      · cases ha; intro j u hj; rw [addr_add]; exact hc j u hj
    refine wpList_append_own w hgd s x 22 ho base 29 i _ 6 48 ht hi' hz hsize hby rfl (by decide) v xs.length (pcCells xs) hs hown ⟨b0, o0, s0⟩ l.length cx (pcCells l) hx (pcCells_length l) ?_ (pcCells_one l) (by simp only [maxLen]; omega) ?_ hbase ?_
    · exact hc
    · omega
    · intro v' w' ho' hg _
      refine h v' w' ?_ (below_grown hg hbase fun k hk => (hown.lt k hk).1) hg
      unfold OwnPcs
      rw [pcCells_append, List.length_append]
      exact ho'
set_option maxHeartbeats 1000000 in
theorem clone_any (l : List Piece) (v : Value) (w : World) (hv : PcsAt w v l) :
    Calls Tryz.prog 75 #[v] w fun e w' => ∃ u, e = .returned u ∧ OwnPcs w' w.heap.size u l ∧ Below w.heap.size w w' := by
  have hvw := hv
  obtain ⟨a, cap, rfl, hn, hs⟩ := hv
  have E := fun w : World => Lib.run_eql_slice_nil w 22 29 a l.length cap 0 0 Tryz.underlying22
  cases a with
  | none =>
    have h0 : l = [] := by
      rcases hs.shape with ⟨b, o, h, _⟩ | h
      · cases h
      · exact List.eq_nil_of_length_eq_zero h
    subst h0
    simp only [List.length_nil, Option.isNone_none] at E ⊢
    clear hvw hs hn
    go_enter Tryz.func75, Tryz.ntmps75
    go_wp2
    go_ret
    exact ⟨_, rfl, OwnPcs.nil _ _, Below.refl _ _⟩
  | some A =>
    simp only [Option.isNone_some] at E
    go_enter Tryz.func75, Tryz.ntmps75
    go_wp2_with (at_builtin; refine wpList_append_pcs rfl (.tmp 5) (.tmp 6) rfl Tryz.underlying22 Tryz.inf29 w.heap.size _ _ [] l rfl (empty_pcs w w.heap.size (Nat.le_refl _)) rfl (hvw.mono (below_alloc _ _)) (by simp) (by simp) ?_)
    intro v' w' hown hb _
    go_wp2
    go_ret
    exact ⟨_, rfl, hown, (below_alloc _ _).trans hb⟩
end Go.Proofs.YtcpecponmaakoaaGreatDoor
