/- A map from numbers to rows that the call made, as what its look-ups answer. -/
import Derived.Test.YtceamgkifjmbcaaW13
namespace Go.Proofs.Ytceamgkifjmbcaa
open Go.RowKit Go.Wm Go.Maps Go.WideMaps
/-- How a slice at the head of a row, or the nil slice, reads: by its address and its lengths. -/
def rowR : Value → Option (DataW Unit × List MemPlace)
  | .slice none 0 0 => some (.agg [], [])
  | .slice (some ⟨g, 0, none⟩) n c => some (.agg [.lit (.int .i64 g), .lit (.int .i64 n), .lit (.int .i64 c)], [])
  | _ => none
theorem rowR_inj {v u : Value} {d : DataW Unit} {ps qs : List MemPlace} (h : rowR v = some (d, ps)) (h' : rowR u = some (d, qs)) : v = u := by
  unfold rowR at h h'
  split at h
  · simp only [Option.some.injEq, Prod.mk.injEq] at h
    obtain ⟨rfl, _⟩ := h
    split at h'
    · rfl
    · simp at h'
    · cases h'
  · simp only [Option.some.injEq, Prod.mk.injEq] at h
    obtain ⟨rfl, _⟩ := h
    split at h'
    · simp at h'
    · simp at h'
      obtain ⟨⟨h1, h2, h3⟩, _⟩ := h'
      have e1 := Int.ofNat.inj h1
      have e2 := Int.ofNat.inj h2
      have e3 := Int.ofNat.inj h3
      subst e1 e2 e3
      rfl
    · cases h'
  · cases h
def rowD (v : Value) : DataW Unit := ((rowR v).map (·.1)).getD (.agg [])
theorem rowR_own {w : World} {b : Nat} {v : Value} {l : List Int} (h : OwnInts w b v l) : rowR v = some (rowD v, []) := by
  rcases h.2 with ⟨rfl, _⟩ | ⟨g, cap, cur, rfl, _⟩ <;> rfl
theorem klawInt : Keyed Try.prog 3 := int_keyed Try.underlying3
theorem zeroRow (w : World) : (zeroValue 85).run Try.prog w = .ok (.slice none 0 0) w := by kernel_rfl
/-- Block m is a map of at most n entries; a look-up at a number answers the row F of it. -/
def RowMap (w : World) (m n : Nat) (F : Int → Value) : Prop :=
  ∃ D : DataW Unit, w.ownsMap Try.prog 3 rowR m n D ∧ ∀ k : Int, (Lit.int .i64 k).wf = true → ∃ ps, rowR (F k) = some (D.atKey (.int .i64 k) (.agg []), ps)
theorem RowMap.made (w : World) : RowMap (w.alloc (.map #[] 0)) w.heap.size 0 (fun _ => .slice none 0 0) :=
  ⟨.map [], World.ownsMap_made w _ _ _, fun _ _ => ⟨[], rfl⟩⟩
theorem RowMap.kept {w w' : World} {m n : Nat} {F : Int → Value} {row : Option Nat} (h : RowMap w m n F) (hg : w.grownBy w' row) (hne : some m ≠ row) : RowMap w' m n F :=
  let ⟨D, h1, h2⟩ := h; ⟨D, h1.kept hg hne, h2⟩
theorem RowMap.below {w w' : World} {m n : Nat} {F : Int → Value} (h : RowMap w m n F) (hb : Below w.heap.size w w') : RowMap w' m n F :=
  h.kept (row := none) ⟨hb.os, hb.tape, hb.output, hb.size, fun k hk _ => hb.block k hk⟩ (by simp)
theorem RowMap.lt {w : World} {m n : Nat} {F : Int → Value} (h : RowMap w m n F) : m < w.heap.size := let ⟨_, h1, _⟩ := h; h1.lt
theorem RowMap.look {w : World} {m n : Nat} {F : Int → Value} (h : RowMap w m n F) (k : Int) (hk : (Lit.int .i64 k).wf = true) :
    (Instr.lookup 83 (.map (some m)) (.int .i64 k) false).run Try.prog w = .ok (F k) w := by
  obtain ⟨D, h1, h2⟩ := h
  obtain ⟨v, ps, hrun, hv⟩ := h1.lookup klawInt Try.underlying83 (zeroRow w) (zd := .agg []) (zp := []) rfl (keyOf_int_mk Try.underlying3 hk)
  obtain ⟨qs, hq⟩ := h2 k hk
  rw [hrun, rowR_inj hv hq]
/-- 'm[k] = v' at the operation. -/
theorem wpList_row_put {w : World} {ops : Array Oper} {rest : List Oper} {o : Oper} {a : Act} {Q : Exit → Act → World → Prop}
    (hg : o.guard = none) (m x v : Operand) (hop : o.op = Op.mapUpdate 83 m x v) (b n : Nat) (F : Int → Value)
    (hm : a.eval m = .map (some b)) (hmap : RowMap w b n F) (hn : n ≤ 100000000000000) (k : Int) (u : Value) (hx : a.eval x = .int .i64 k) (hv : a.eval v = u) (hk : (Lit.int .i64 k).wf = true) (hu : rowR u = some (rowD u, []))
    (hK : ∀ w', RowMap w' b (n + 1) (fun q => if q = k then u else F q) → w.grownBy w' (some b) → wpList Try.prog ops Q rest (a.put o.dst undef) w') :
    wpList Try.prog ops Q (o :: rest) a w := by
  obtain ⟨D, h1, h2⟩ := hmap
  refine wpList_mapUpdate_own w hg m x v 83 hop 3 85 klawInt Try.underlying83 rowR b n D hm h1 (by simp only [maxLen]; omega) _ _ _ hx hv (keyOf_int_mk Try.underlying3 hk) (rowD u) [] hu ?_
  intro w' hown hgr
  refine hK w' ⟨_, hown, fun q hq => ?_⟩ hgr
  by_cases hqk : q = k
  · subst hqk
    simp only [if_true]
    rw [atKey_put_same h1.isMap (show WideAt.IsKeyLit (.int .i64 q) from trivial)]
    exact ⟨[], hu⟩
  · simp only [if_neg hqk]
    rw [atKey_put_other (show Lit.int .i64 q ≠ Lit.int .i64 k by simp [hqk])]
    exact h2 q hq
/-- 'delete(m, k)' at the operation. -/
theorem wpList_row_del {w : World} {ops : Array Oper} {rest : List Oper} {o : Oper} {a : Act} {Q : Exit → Act → World → Prop}
    (hg : o.guard = none) (m x : Operand) (hop : o.op = Op.call { callee := Callee.builtin Builtin.delete, args := #[m, x], argTypes := #[83, 3] }) (b n : Nat) (F : Int → Value)
    (hm : a.eval m = .map (some b)) (hmap : RowMap w b n F) (k : Int) (hx : a.eval x = .int .i64 k) (hk : (Lit.int .i64 k).wf = true)
    (hK : ∀ w', RowMap w' b n (fun q => if q = k then .slice none 0 0 else F q) → w.grownBy w' (some b) → wpList Try.prog ops Q rest (a.put o.dst (.tuple #[])) w') :
    wpList Try.prog ops Q (o :: rest) a w := by
  obtain ⟨D, h1, h2⟩ := hmap
  refine wpList_delete_own w hg m x 83 3 hop 85 klawInt Try.underlying83 rowR b n D hm h1 _ _ hx (keyOf_int_mk Try.underlying3 hk) ?_
  intro w' hown hturn
  refine hK w' ⟨_, hown, fun q hq => ?_⟩ hturn.grown
  by_cases hqk : q = k
  · subst hqk
    simp only [if_true]
    rw [atKey_del_same]
    exact ⟨[], rfl⟩
  · simp only [if_neg hqk]
    rw [atKey_del_other (show Lit.int .i64 q ≠ Lit.int .i64 k by simp [hqk])]
    exact h2 q hq
end Go.Proofs.Ytceamgkifjmbcaa
