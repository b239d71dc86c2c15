/- The map from keys to places, as what its look-ups answer; its laws for the walks. -/
import Derived.Test.YtceamgkifjmbcaaOwn
import Derived.Test.YtceamgkifjmbcaaW2
import Derived.Maps.OwnSet
import Derived.StringKeys
import Derived.StillTailTactics
namespace Go.Proofs.Ytceamgkifjmbcaa
open Go.RowKit Go.Wm Go.Maps Go.WideMaps
/-- How a place reads. -/
def placeR : Value → Option (DataW Unit × List MemPlace)
  | .agg ⟨[.int .i64 a, .int .i64 b]⟩ => some (.agg [.lit (.int .i64 a), .lit (.int .i64 b)], [])
  | _ => none
def pd (p : Int × Int) : DataW Unit := .agg [.lit (.int .i64 p.1), .lit (.int .i64 p.2)]
theorem placeR_mk (a b : Int) : placeR (.agg #[.int .i64 a, .int .i64 b]) = some (pd (a, b), []) := rfl
theorem placeR_inv {v : Value} {d : DataW Unit} {ps : List MemPlace} (h : placeR v = some (d, ps)) : ∃ a b, v = .agg #[.int .i64 a, .int .i64 b] ∧ d = pd (a, b) := by
  unfold placeR at h
  split at h
  · simp only [Option.some.injEq, Prod.mk.injEq] at h
    exact ⟨_, _, rfl, h.1.symm⟩
  · cases h
theorem pd_inj {p q : Int × Int} (h : pd p = pd q) : p = q := by
  simp [pd] at h
  exact Prod.ext h.1 h.2
theorem klaw : Keyed Try.prog 9 := string_keyed Try.underlying9
theorem zeroPlace (w : World) : (zeroValue 70).run Try.prog w = .ok (.agg #[.int .i64 0, .int .i64 0]) w := by kernel_rfl
/-- Block m is a map of at most n entries; a look-up at a key answers f of it. -/
def PlaceMap (w : World) (m n : Nat) (f : ByteArray → Int × Int) : Prop :=
  ∃ D : DataW Unit, w.ownsMap Try.prog 9 placeR m n D ∧ ∀ key : ByteArray, D.atKey (.string key.data.toList) (pd (0, 0)) = pd (f key)
theorem PlaceMap.made (w : World) : PlaceMap (w.alloc (.map #[] 0)) w.heap.size 0 (fun _ => (0, 0)) :=
  ⟨.map [], World.ownsMap_made w _ _ _, fun _ => rfl⟩
theorem PlaceMap.kept {w w' : World} {m n : Nat} {f : ByteArray → Int × Int} {row : Option Nat} (h : PlaceMap w m n f) (hg : w.grownBy w' row) (hne : some m ≠ row) : PlaceMap w' m n f :=
  let ⟨D, h1, h2⟩ := h; ⟨D, h1.kept hg hne, h2⟩
theorem PlaceMap.below {w w' : World} {m n : Nat} {f : ByteArray → Int × Int} (h : PlaceMap w m n f) (hb : Below w.heap.size w w') : PlaceMap w' m n f :=
  h.kept (row := none) ⟨hb.os, hb.tape, hb.output, hb.size, fun k hk _ => hb.block k hk⟩ (by simp)
theorem PlaceMap.lt {w : World} {m n : Nat} {f : ByteArray → Int × Int} (h : PlaceMap w m n f) : m < w.heap.size := let ⟨_, h1, _⟩ := h; h1.lt
theorem PlaceMap.look {w : World} {m n : Nat} {f : ByteArray → Int × Int} (h : PlaceMap w m n f) (key : ByteArray) (hk : key.size ≤ maxLen) :
    (Instr.lookup 68 (.map (some m)) (.string key) false).run Try.prog w = .ok (.agg #[.int .i64 (f key).1, .int .i64 (f key).2]) w := by
  obtain ⟨D, h1, h2⟩ := h
  obtain ⟨v, ps, hrun, hv⟩ := h1.lookup klaw Try.underlying68 (zeroPlace w) (placeR_mk 0 0) (keyOf_string_mk Try.underlying9 hk)
  obtain ⟨a, b, rfl, hd⟩ := placeR_inv hv
  rw [h2] at hd
  have := pd_inj hd
  rw [hrun, this]
theorem data_ne {a b : ByteArray} (h : a ≠ b) : Lit.string a.data.toList ≠ Lit.string b.data.toList := by
  intro e
  apply h
  simp only [Lit.string.injEq] at e
  obtain ⟨⟨x⟩⟩ := a
  obtain ⟨⟨y⟩⟩ := b
  simp_all
/-- 'm[key] = place{a, b}' at the operation. -/
theorem wpList_place_put {w : World} {ops : Array Oper} {rest : List Oper} {o : Oper} {a : Act} {Q : Exit → Act → World → Prop}
    (hg : o.guard = none) (m x v : Operand) (hop : o.op = Op.mapUpdate 68 m x v) (b n : Nat) (f : ByteArray → Int × Int)
    (hm : a.eval m = .map (some b)) (hmap : PlaceMap w b n f) (hn : n ≤ 100000000000000) (key : ByteArray) (p q : Int) (hx : a.eval x = .string key) (hv : a.eval v = .agg #[.int .i64 p, .int .i64 q]) (hk : key.size ≤ maxLen)
    (hK : ∀ w', PlaceMap w' b (n + 1) (fun k => if k = key then (p, q) else f k) → w.grownBy w' (some b) → wpList Try.prog ops Q rest (a.put o.dst undef) w') :
    wpList Try.prog ops Q (o :: rest) a w := by
  obtain ⟨D, h1, h2⟩ := hmap
  refine wpList_mapUpdate_own w hg m x v 68 hop 9 70 klaw Try.underlying68 placeR b n D hm h1 (by simp only [maxLen]; omega) _ _ _ hx hv (keyOf_string_mk Try.underlying9 hk) (pd (p, q)) [] (placeR_mk p q) ?_
  intro w' hown hgr
  refine hK w' ⟨_, hown, fun k => ?_⟩ hgr
  by_cases hkk : k = key
  · subst hkk
    simp only [if_true]
    exact atKey_put_same h1.isMap (show WideAt.IsKeyLit (.string k.data.toList) from trivial) _ _
  · simp only [if_neg hkk]
    rw [atKey_put_other (data_ne hkk)]
    exact h2 k
/-- 'delete(m, key)' at the operation. -/
theorem wpList_place_del {w : World} {ops : Array Oper} {rest : List Oper} {o : Oper} {a : Act} {Q : Exit → Act → World → Prop}
    (hg : o.guard = none) (m x : Operand) (hop : o.op = Op.call { callee := Callee.builtin Builtin.delete, args := #[m, x], argTypes := #[68, 9] }) (b n : Nat) (f : ByteArray → Int × Int)
    (hm : a.eval m = .map (some b)) (hmap : PlaceMap w b n f) (key : ByteArray) (hx : a.eval x = .string key) (hk : key.size ≤ maxLen)
    (hK : ∀ w', PlaceMap w' b n (fun k => if k = key then (0, 0) else f k) → w.grownBy w' (some b) → wpList Try.prog ops Q rest (a.put o.dst (.tuple #[])) w') :
    wpList Try.prog ops Q (o :: rest) a w := by
  obtain ⟨D, h1, h2⟩ := hmap
  refine wpList_delete_own w hg m x 68 9 hop 70 klaw Try.underlying68 placeR b n D hm h1 _ _ hx (keyOf_string_mk Try.underlying9 hk) ?_
  intro w' hown hturn
  refine hK w' ⟨_, hown, fun k => ?_⟩ hturn.grown
  by_cases hkk : k = key
  · subst hkk
    simp only [if_true]
    exact atKey_del_same _
  · simp only [if_neg hkk]
    rw [atKey_del_other (data_ne hkk)]
    exact h2 k
end Go.Proofs.Ytceamgkifjmbcaa
