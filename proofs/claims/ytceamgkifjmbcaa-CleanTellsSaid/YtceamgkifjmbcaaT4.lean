/- Laws of rows of marks: parts of a row, several appended. -/
import Derived.Test.YtceamgkifjmbcaaT1
import Derived.Test.YtceamgkifjmbcaaT3
namespace Go.Proofs.Ytceamgkifjmbcaa
open Go.RowKit Go.Wm
/-- Marks that lie one behind the other, or none. -/
def SrcM (w : World) (x : Value) (qs : List Mark) : Prop := (∃ c, x = .slice none 0 c ∧ qs = []) ∨ ∃ g off c, x = .slice (some ⟨g, off, none⟩) qs.length c ∧ ∀ j u, (qs.flatMap Mark.cells)[j]? = some u → w.cell? ⟨g, off + j, none⟩ = some u
theorem marks_len (qs : List Mark) : (qs.flatMap Mark.cells).length = qs.length * 4 := by
  induction qs with
  | nil => rfl
  | cons q qs ih => simp at *; rw [ih]; simp [Mark.cells]; omega
theorem step_append_marks {w : World} {ops : Array Oper} {o : Oper} {a : Act} {K : Act → World → Prop} {Q : Exit → Act → World → Prop} {E : Prop} (hgd : o.guard = none) (s x : Operand)
    (ho : o.op = .call { callee := .builtin .append, args := #[s, x], argTypes := #[36, 36] })
    (base : Nat) (v : Value) (ms : List Mark) (hs : a.eval s = v) (hown : OwnMarks w base v ms) (qs : List Mark) (y : Value) (hx : a.eval x = y) (hsrc : SrcM w y qs)
    (hn : ms.length + qs.length ≤ 100000000) (hbase : base ≤ w.heap.size)
    (h : ∀ v' w', OwnMarks w' base v' (ms ++ qs) → Below base w w' → w.grownBy w' v.ownBlock → K (a.put o.dst v') w') :
    if Region.wanted o (yielded ops a.tmps) = true then Oper.wp Try.prog o a w K Q else E := by
  have hw : Region.wanted o (yielded ops a.tmps) = true := by simp [Region.wanted, hgd]
  rw [if_pos hw]
  obtain ⟨i', hi', hz, hsize, hby⟩ := info_parts Try.inf41
  rcases hsrc with ⟨c, rfl, rfl⟩ | ⟨g, off, c, rfl, hcell⟩
  · obtain ⟨a0, cap0, hv, hle, _⟩ := hown.read
    have hr : (Builtin.append_ #[36, 36] o.type #[v, .slice none 0 c]).run Try.prog w = .ok v w := by
      rw [hv]
      cases a0 <;> simp [Builtin.append_, Builtin.lenOf, Builtin.firstCells, run_underlying Try.underlying36, sizeOf, typeInfo, hi', hle, storeCells]
    unfold Oper.wp execOp
    simp only [ho, resolve, invoke, builtin, Sem.run_bind, Sem.run_pure, Result.andThen_ok, List.map_toArray, List.map_cons, List.map_nil, hs, hx, hr]
    exact h v w (by rw [List.append_nil]; exact hown) (Below.refl _ _) (World.grownBy.refl _ _)
  · obtain ⟨v', w', hr', h2, h3, _⟩ := run_append_own (P := Try.prog) w base 36 o.type 41 i' _ 4 40 Try.underlying36 hi' hz hsize hby rfl (by decide) v ms.length (ms.flatMap Mark.cells) hown ⟨g, off, none⟩ qs.length c (qs.flatMap Mark.cells) (marks_len qs) (by
      intro j u hj
      have e : (⟨g, off, none⟩ : Addr).add j = ⟨g, off + j, none⟩ := by simp only [Addr.add]; split <;> simp_all
      rw [e]
      exact hcell j u hj) (by
      intro u hu
      simp only [List.mem_flatMap] at hu
      obtain ⟨q, hq, hu⟩ := hu
      simp [Mark.cells] at hu
      rcases hu with rfl | rfl | rfl <;> rfl) (by simp only [maxLen]; omega) (by omega) hbase
    unfold Oper.wp execOp
    simp only [ho, resolve, invoke, builtin, Sem.run_bind, Sem.run_pure, Result.andThen_ok, List.map_toArray, List.map_cons, List.map_nil, hs, hx, hr']
    refine h v' w' ?_ (below_grown h3 hbase fun k hk => (hown.lt k hk).1) h3
    unfold OwnMarks
    rw [List.flatMap_append, List.length_append]
    exact h2
/-- The two parts of a row of marks. -/
theorem parts_marks {w : World} {base : Nat} {a : Option Addr} {n cap : Nat} {ms : List Mark} (h : OwnMarks w base (.slice a n cap) ms) (p : Nat) (hp : p ≤ ms.length) (hm : ms.length ≤ 1000000000) :
    ∃ x1 x2, (∀ W : World, (Instr.slice 36 (.slice a n cap) none (some (.int .i64 (p : Int))) none).run Try.prog W = .ok x1 W) ∧ (∀ W : World, (Instr.slice 36 (.slice a n cap) (some (.int .i64 (p : Int))) none none).run Try.prog W = .ok x2 W) ∧
      ∀ W, Below w.heap.size w W → SrcM W x1 (ms.take p) ∧ SrcM W x2 (ms.drop p) := by
  rcases h.2 with ⟨h1, h2⟩ | ⟨g, cap', cur, h1, _, _, hn, hmx, _⟩
  · simp only [Value.slice.injEq] at h1
    obtain ⟨rfl, rfl, rfl⟩ := h1
    have hp0 : p = 0 := by omega
    have hms : ms = [] := List.eq_nil_of_length_eq_zero h2
    subst hp0 hms
    have hb1 := fun W => run_sliceBound (P := Try.prog) W .i64 0 0 .sliceAcap (by omega) (by omega)
    have hb2 := fun W => run_sliceBound (P := Try.prog) W .i64 0 0 .sliceB (by omega) (by omega)
    refine ⟨.slice none 0 0, .slice none 0 0, fun W => ?_, fun W => ?_, fun W _ => ⟨.inl ⟨0, rfl, rfl⟩, .inl ⟨0, rfl, rfl⟩⟩⟩
    · have := hb1 W
      simp [Instr.slice, run_underlying Try.underlying36, Instr.sliceBounds, go_sem] at this ⊢
    · have := hb2 W
      simp [Instr.slice, run_underlying Try.underlying36, Instr.sliceBounds, go_sem] at this ⊢
  · simp only [Value.slice.injEq] at h1
    obtain ⟨rfl, hnl, hcc⟩ := h1
    subst hnl hcc
    have hmx' : cap ≤ 9223372036854775807 := by simp only [maxLen] at hmx; omega
    have hb1 := fun W => run_sliceBound (P := Try.prog) W .i64 (p : Int) cap .sliceAcap (by omega) (by omega)
    have hb2 := fun W => run_sliceBound (P := Try.prog) W .i64 (p : Int) ms.length .sliceB (by omega) (by omega)
    have hcell : ∀ j u, (ms.flatMap Mark.cells)[j]? = some u → w.cell? ⟨g, j, none⟩ = some u := by
      intro j u hj
      have := World.ownsRow.cells (v := .slice (some ⟨g, 0, none⟩) ms.length cap) h rfl j u hj
      have e : (⟨g, 0, none⟩ : Addr).add j = ⟨g, j, none⟩ := by simp only [Addr.add]; split <;> simp_all
      rwa [e] at this
    have hpart : ms.flatMap Mark.cells = (ms.take p).flatMap Mark.cells ++ (ms.drop p).flatMap Mark.cells := by rw [← List.flatMap_append, List.take_append_drop]
    refine ⟨.slice (some ⟨g, 0, none⟩) p cap, .slice (some ⟨g, if cap = p then 0 else p * 4, none⟩) (ms.length - p) (cap - p), fun W => ?_, fun W => ?_, fun W hb => ⟨.inr ⟨g, 0, cap, by rw [List.length_take, Nat.min_eq_left hp], fun j u hj => ?_⟩, .inr ⟨g, _, cap - p, by rw [List.length_drop], fun j u hj => ?_⟩⟩⟩
    · have := hb1 W
      simp [Instr.slice, run_underlying Try.underlying36, Instr.sliceBounds, this, go_sem]
    · have := hb2 W
      by_cases hck : cap = p
      · simp [Instr.slice, run_underlying Try.underlying36, Instr.sliceBounds, this, hck, go_sem]
      · simp [Instr.slice, run_underlying Try.underlying36, Instr.sliceBounds, this, hck, go_sem]
    · rw [Nat.zero_add]
      refine cell_below hb (hcell j u ?_)
      rw [hpart, List.getElem?_append_left (List.getElem?_eq_some_iff.1 hj).1]
      exact hj
    · have hlen := (List.getElem?_eq_some_iff.1 hj).1
      rw [marks_len, List.length_drop] at hlen
      rw [if_neg (by omega)]
      refine cell_below hb (hcell _ u ?_)
      have hl : ((ms.take p).flatMap Mark.cells).length = p * 4 := by rw [marks_len, List.length_take, Nat.min_eq_left hp]
      rw [hpart, List.getElem?_append_right (by omega), hl, Nat.add_sub_cancel_left]
      exact hj
end Go.Proofs.Ytceamgkifjmbcaa
