/- A map's places, collected: slices.AppendSeq and slices.Collect at places. Turned from the kit's worked contracts on iterators (SlIter). -/
import Derived.Test.YtceamgkifjmbcaaIterP
namespace Go.Proofs.Ytceamgkifjmbcaa
open Go.RowKit Go.Maps Go.Sort Go.Shelf Go.Wm
theorem Try.inf70 : (Try.prog.info? 70).map (fun i => (i.zero, i.size, i.bytes)) = some (some (.agg #[.int .i64 0, .int .i64 0]), 2, 16) := by kernel_rfl
def apAssign : Code := (Code.region 2 #[{ dst := some 5, op := Op.alloc 70, type := 0, pos := "iter.go:51", after := #[], guard := none }, { dst := none, op := Op.store 70 (Operand.tmp 5) (Operand.tmp 7), type := 0, pos := "iter.go:51", after := #[{ on := 0, ground := Ground.data }, { on := 0, ground := Ground.phase }], guard := none }] false)
def apBody : Code := (Code.block 1 (Code.region 3 #[{ dst := some 8, op := Op.load 73 (Operand.tmp 2), type := 73, pos := "iter.go:52", after := #[], guard := none }, { dst := some 9, op := Op.load 70 (Operand.tmp 5), type := 70, pos := "iter.go:52", after := #[], guard := none }, { dst := some 10, op := Op.buildSlice 73 1 #[(0, Operand.tmp 9)], type := 73, pos := "iter.go:52", after := #[{ on := 1, ground := Ground.data }], guard := none }, { dst := some 11, op := Op.call { callee := Callee.builtin Builtin.append, args := #[Operand.tmp 8, Operand.tmp 10], argTypes := #[73, 73] }, type := 73, pos := "iter.go:52", after := #[{ on := 0, ground := Ground.data }, { on := 2, ground := Ground.data }], guard := none }, { dst := none, op := Op.store 73 (Operand.tmp 2) (Operand.tmp 11), type := 0, pos := "iter.go:52", after := #[{ on := 3, ground := Ground.data }, { on := 3, ground := Ground.chain }, { on := 0, ground := Ground.phase }, { on := 1, ground := Ground.phase }, { on := 2, ground := Ground.phase }, { on := 3, ground := Ground.phase }], guard := none }] false))
def apRec (fn : FuncId) (sv : Value) (Bs D : Nat) (st : LoopState) (pend : Option Code) : Loop :=
  { state := st, pending := pend, fn, tmps := #[.slice none 0 0, sv, .pointer (some ⟨Bs, 0, none⟩), undef, .slice none 0 0, undef, sv, undef, undef, undef, undef, undef, undef], params := #[7], assign := apAssign, body := apBody, defers := D }
def plRow (w : World) (base : Nat) (v : Value) (ps : List (Int × Int)) : Prop := w.ownsRow base 70 2 v ps.length (ps.flatMap plCells)
structure ApAt (w0 : World) (fn : FuncId) (sv : Value) (Bs l D : Nat) (ss : List (Int × Int)) (W : World) : Prop where
  box : ∃ v, W.heap[Bs]? = some (.cells #[v] 73 (0, 0)) ∧ plRow W w0.heap.size v ss ∧ (v = .slice none 0 0 ↔ ss = [])
  L : W.heap[l]? = some (.loop (apRec fn sv Bs D .ready none))
  K : W.heap[D]? = some (.deferred (some []))
  below : Below w0.heap.size w0 W
theorem ap_abides (w0 : World) (fn : FuncId) (sv : Value) (Bs l D B : Nat) (hB : w0.heap.size ≤ B) : AbidesFrom B (ApAt w0 fn sv Bs l D) := fun s W W' row h hg hrow => by
  have hrow' : ∀ r, row = some r → ∃ o : Obj, W.heap[r]? = some o ∧ o.isWalk = true := fun r e => (hrow r e).2
  obtain ⟨v, hv, hr, hn⟩ := h.box
  exact ⟨⟨v, (grownBy_keeps hg hrow' hv rfl).trans hv, ownsRow_abides_a hr hg hrow', hn⟩, (grownBy_keeps hg hrow' h.L rfl).trans h.L, (grownBy_keeps hg hrow' h.K rfl).trans h.K,
    h.below.grown hg h.below.size (fun k e => Nat.le_trans hB (hrow k e).1)⟩
theorem ap_alloc (w0 : World) (fn : FuncId) (sv : Value) (Bs l D : Nat) : ∀ s W (X : Obj), ApAt w0 fn sv Bs l D s W → ApAt w0 fn sv Bs l D s (W.alloc X) := fun s W X h => by
  obtain ⟨v, hv, hr, hn⟩ := h.box
  have old : ∀ {k : Nat} {o : Obj}, W.heap[k]? = some o → (W.alloc X).heap[k]? = some o := fun {k o} hk => (Below.heap_alloc W X k (Array.getElem?_eq_some_iff.1 hk).1).trans hk
  exact ⟨⟨v, old hv, World.ownsRow.alloc hr X, hn⟩, old h.L, old h.K, h.below.alloc h.below.size X⟩
set_option maxRecDepth 100000 in
set_option maxHeartbeats 2000000 in
theorem apYield (m : Nat) (w0 : World) (fn : FuncId) (hfn : Fence.wide.fn fn) (sv : Value) (Bs l D : Nat) (hBl : Bs ≠ l) (hDl : D ≠ l) (hDB : D ≠ Bs) (h0B : w0.heap.size ≤ Bs) (h0l : w0.heap.size ≤ l)
    (N : Nat) (hN : N ≤ maxLen) (hNb : N * 16 ≤ 140737488355328) (ss : List (Int × Int)) (x : Int × Int) (W : World) (h : ApAt w0 fn sv Bs l D ss W) (hlen : ss.length < N) :
    YieldAt Fence.wide m Try.prog l #[plV x] W fun e W' => e = .returned (.bool true) ∧ ApAt w0 fn sv Bs l D (ss ++ [x]) W' ∧ KeepsWalks W W' := by
  obtain ⟨i0, hi, hz0, hz1, hz2⟩ := info_parts Try.inf70
  refine ⟨fn, #[.slice none 0 0, sv, .pointer (some ⟨Bs, 0, none⟩), undef, .slice none 0 0, undef, sv, plV x, undef, undef, undef, undef, undef], apAssign, apBody, by simpa [apRec] using run_yield (P := Try.prog) (args := #[plV x]) h.L rfl, roundIn_of_wpIn hfn ?_⟩
  obtain ⟨x1, x2⟩ := x
  obtain ⟨W1, hW1⟩ : ∃ W1, W.alloc (.cells #[.int .i64 x1, .int .i64 x2] 70) = W1 := ⟨_, rfl⟩
  have h1 : ApAt w0 fn sv Bs l D ss W1 := by rw [← hW1]; exact ap_alloc _ _ _ _ _ _ _ _ _ h
  have hkA : KeepsWalks W W1 := by rw [← hW1]; exact KeepsWalks.alloc _ _
  have hx1 : W1.heap[W.heap.size]? = some (.cells #[.int .i64 x1, .int .i64 x2] 70 (0, 0)) := by rw [← hW1]; exact World.alloc_heap_new W _
  have hlW : l < W.heap.size := (Array.getElem?_eq_some_iff.1 h.L).1
  obtain ⟨v, hv, hrow, _⟩ := h1.box
  have hbr0 := run_beginRound (P := Try.prog) h1.L rfl
  have hl : l < W1.heap.size := (Array.getElem?_eq_some_iff.1 h1.L).1
  obtain ⟨W2, hW2⟩ : ∃ W2, W1.putObj l (.loop { apRec fn sv Bs D .ready none with state := .busy }) = W2 := ⟨_, rfl⟩
  rw [hW2] at hbr0
  have hbr := hbr0
  rw [← hW1] at hbr
  clear hbr0
  have hg2 : W1.grownBy W2 (some l) := by rw [← hW2]; exact grownBy_putObj_a _ _ _
  have hk2 : KeepsWalks W W2 := by rw [← hW2]; exact hkA.trans (KeepsWalks.putObj _ h1.L rfl)
  have hx2 : W2.heap[W.heap.size]? = some (.cells #[.int .i64 x1, .int .i64 x2] 70 (0, 0)) := by rw [← hW2]; exact (World.putObj_heap_other (by omega)).trans hx1
  have cx1 : W2.cell? ⟨W.heap.size, 0, none⟩ = some (.int .i64 x1) := by simp [World.cell?, hx2]
  have cx2 : W2.cell? ⟨W.heap.size, 1, none⟩ = some (.int .i64 x2) := by simp [World.cell?, hx2]
  have hv2 : W2.heap[Bs]? = some (.cells #[v] 73 (0, 0)) := by rw [← hW2]; exact (World.putObj_heap_other hBl).trans hv
  have hK2 : W2.heap[D]? = some (.deferred (some [])) := by rw [← hW2]; exact (World.putObj_heap_other hDl).trans h1.K
  have hL2 : W2.heap[l]? = some (.loop { apRec fn sv Bs D .ready none with state := .busy }) := by rw [← hW2]; exact World.putObj_heap_same hl
  have hne : ∀ (u : Value) cur, Obj.cells #[u] 73 (0, 0) ≠ .cells cur 70 (0, 0) := fun u cur e => absurd (Obj.cells.inj e).2.1 (by decide)
  have hrow2 : plRow W2 w0.heap.size v ss := World.ownsRow.kept hrow hg2 (ownsRow_ne_a hrow h1.L (fun cur e => by cases e))
  have hb2 : Below w0.heap.size w0 W2 := h1.below.grown hg2 h1.below.size (fun k e => by cases e; exact h0l)
  obtain ⟨hc2, hf2⟩ := cell_of_box_a hv2
  have hBlt : Bs < W2.heap.size := (Array.getElem?_eq_some_iff.1 hv2).1
  have hl2 : l < W2.heap.size := (Array.getElem?_eq_some_iff.1 hL2).1
  have hDlt : D < W2.heap.size := (Array.getElem?_eq_some_iff.1 hK2).1
  have ne_of : ∀ {j : Nat} {o : Obj}, W2.heap[j]? = some o → (∀ cur, o ≠ .cells cur 70 (0, 0)) → some j ≠ v.ownBlock := fun hj hno => by
    rcases ownsRow_ne_a hrow2 hj hno with e | e
    · rw [e]; simp
    · exact fun e' => e e'.symm
  have hrowA := fun X => World.ownsRow.alloc hrow2 X
  clear hW2 hW1 hx2 hx1
  unfold apAssign
  unfold plV
  gi_wp2_with gi_round_op_a
  unfold apBody
  gi_wp2_with (first
    | (gi_at_builtin; refine wpListIn_append_own _ rfl _ _ 73 rfl w0.heap.size 70 i0 (.agg #[.int .i64 0, .int .i64 0]) 2 16 Try.underlying73 hi hz0 hz1 hz2 rfl (by decide) _ _ _ rfl (hrowA _) ⟨W2.heap.size, 0, none⟩ 1 1 [.int .i64 x1, .int .i64 x2] rfl rfl ?c1 (by simp [Value.oneCell']) (by omega) (by omega) (by have := hb2.size; simp; omega) ?c6)
    | gi_round_op_a)
  case c1 =>
    intro j u hj
    have e : (⟨W2.heap.size, 0, none⟩ : Addr).add j = ⟨W2.heap.size, j, none⟩ := by simp only [Addr.add]; split <;> simp_all
    rw [e]
    match j, hj with
    | 0, hj => simp at hj; subst hj; simp
    | 1, hj => simp at hj; subst hj; simp
    | j + 2, hj => simp at hj
  case c6 =>
    intro v' w3 hown' hg3 hnil3
    have hv3 : w3.heap[Bs]? = some (.cells #[v] 73 (0, 0)) := (hg3.block Bs (by simp; omega) (ne_of hv2 (hne v))).trans ((Below.heap_alloc _ _ Bs hBlt).trans hv2)
    obtain ⟨hc3, hf3⟩ := cell_of_box_a hv3
    obtain ⟨g', cap', cur', rfl, hbase', hgb', hr1, hr2, hr3, hr4⟩ : ∃ g' cap' cur', v' = .slice (some ⟨g', 0, none⟩) (ss.length + 1) cap' ∧ w0.heap.size ≤ g' ∧ w3.heap[g']? = some (.cells cur' 70 (0, 0)) ∧ ss.length + 1 ≤ cap' ∧ cap' ≤ maxLen ∧ cur'.size = cap' * 2 ∧ cur'.toList.take ((ss.length + 1) * 2) = ss.flatMap plCells ++ [.int .i64 x1, .int .i64 x2] := by
      rcases hown'.2 with ⟨_, h0⟩ | h'
      · exact absurd h0 (by omega)
      · exact h'
    gi_wp2_with gi_round_op_a
    have hg3' : (W2.alloc (.cells #[.int .i64 x1, .int .i64 x2] 70)).grownBy w3 v.ownBlock := hg3
    have hL3 : w3.heap[l]? = some (.loop { apRec fn sv Bs D .ready none with state := .busy }) := (hg3'.block l (by simp; omega) (ne_of hL2 (fun cur e => by cases e))).trans ((Below.heap_alloc _ _ l hl2).trans hL2)
    have hK3 : w3.heap[D]? = some (.deferred (some [])) := (hg3'.block D (by simp; omega) (ne_of hK2 (fun cur e => by cases e))).trans ((Below.heap_alloc _ _ D hDlt).trans hK2)
    obtain ⟨w4, hw4⟩ : ∃ w4, w3.setCell ⟨Bs, 0, none⟩ (.slice (some ⟨g', 0, none⟩) (ss.length + 1) cap') = w4 := ⟨_, rfl⟩
    rw [hw4]
    have hg4 : w3.grownBy w4 (some Bs) := by rw [← hw4]; exact grownBy_setCell0_a _ _ _
    have hv4 : w4.heap[Bs]? = some (.cells #[.slice (some ⟨g', 0, none⟩) (ss.length + 1) cap'] 73 (0, 0)) := by rw [← hw4]; exact heap_setCell_box_a _ hv3
    have hL4 : w4.heap[l]? = some (.loop { apRec fn sv Bs D .ready none with state := .busy }) := (hg4.block l (Array.getElem?_eq_some_iff.1 hL3).1 (fun e => hBl (by cases e; rfl))).trans hL3
    have hK4 : w4.heap[D]? = some (.deferred (some [])) := (hg4.block D (Array.getElem?_eq_some_iff.1 hK3).1 (fun e => hDB (by cases e; rfl))).trans hK3
    have hrow4 := hown'.kept hg4 (ownsRow_ne_a hown' hv3 (hne v))
    have hl4 : l < w4.heap.size := (Array.getElem?_eq_some_iff.1 hL4).1
    have hb3 : Below w0.heap.size w0 w3 := (hb2.alloc hb2.size _).grown hg3' (by have := hb2.size; simp; omega) (fun k e => (World.ownsRow.lt hrow2 k e).1)
    have hb4 : Below w0.heap.size w0 w4 := hb3.grown hg4 hb3.size (fun k e => by cases e; exact h0B)
    have hk4 : KeepsWalks W w4 := ((hk2.trans (KeepsWalks.alloc _ _)).trans (KeepsWalks.of_grownBy hg3' (ownsRow_not_walk_a (World.ownsRow.alloc hrow2 _)))).trans (by rw [← hw4]; exact KeepsWalks.setCell _ _ _)
    clear hw4
    refine ⟨_, _, run_endRound none hL4, rfl, ⟨⟨_, (World.putObj_heap_other hBl).trans hv4, ?_, by simp⟩, World.putObj_heap_same hl4, (World.putObj_heap_other hDl).trans hK4, hb4.grown (grownBy_putObj_a _ _ _) hb4.size (fun k e => by cases e; exact h0l)⟩, hk4.trans (KeepsWalks.putObj _ hL4 rfl)⟩
    have := hrow4.kept (grownBy_putObj_a w4 l (.loop { { apRec fn sv Bs D .ready none with state := .busy } with state := if (none : Option Code).isNone then .ready else .done, pending := none })) (ownsRow_ne_a hrow4 hL4 (fun cur e => by cases e))
    unfold plRow
    simpa [plCells] using this
end Go.Proofs.Ytceamgkifjmbcaa
