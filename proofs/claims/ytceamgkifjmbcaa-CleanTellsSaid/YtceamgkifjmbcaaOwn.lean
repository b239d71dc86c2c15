/- Rows that a call makes itself: records, numbers, batches; the laws of append in the form that the walks take. -/
import Derived.Test.YtceamgkifjmbcaaDefs
import Derived.Test.YtceamgkifjmbcaaProg
namespace Go.Wm
open Go.RowKit
variable {P : Program}

def Rec.cells (r : Rec) : List Value := [.int .i64 r.off, .string r.key, .string r.val, .bool r.dead, .int .i64 r.stamp]
def recCells (rs : List Rec) : List Value := rs.flatMap Rec.cells
theorem Rec.cells_length (r : Rec) : r.cells.length = 5 := rfl
theorem recCells_length (rs : List Rec) : (recCells rs).length = rs.length * 5 := by
  induction rs with
  | nil => rfl
  | cons r rs ih => simp [recCells] at *; rw [ih, Rec.cells_length]; omega
theorem recCells_snoc (rs : List Rec) (r : Rec) : recCells (rs ++ [r]) = recCells rs ++ r.cells := by simp [recCells]
theorem flat_get {α : Type} (f : α → List Value) (m : Nat) (hf : ∀ x, (f x).length = m) : ∀ (l : List α) (k j : Nat) (h : k < l.length), j < m → (l.flatMap f)[k * m + j]? = (f l[k])[j]? := by
  intro l
  induction l with
  | nil => intro k j h; simp at h
  | cons x l ih =>
    intro k j h hj
    cases k with
    | zero =>
      simp only [List.flatMap_cons, Nat.zero_mul, Nat.zero_add, List.getElem_cons_zero]
      rw [List.getElem?_append_left (by rw [hf]; exact hj)]
    | succ k =>
      simp only [List.flatMap_cons, List.getElem_cons_succ]
      rw [List.getElem?_append_right (by rw [hf, Nat.succ_mul]; omega), hf]
      have e : (k + 1) * m + j - m = k * m + j := by rw [Nat.succ_mul]; omega
      rw [e]
      exact ih k j (by simpa using h) hj

/-- Rows of other element types lie in other blocks. -/
theorem own_ne {w : World} {b1 b2 : Nat} {e1 e2 : TypeId} {s1 s2 : Nat} {v1 v2 : Value} {n1 n2 : Nat} {xs1 xs2 : List Value} (h1 : w.ownsRow b1 e1 s1 v1 n1 xs1) (h2 : w.ownsRow b2 e2 s2 v2 n2 xs2) (hne : e1 ≠ e2) :
    v1.ownBlock = none ∨ v1.ownBlock ≠ v2.ownBlock := by
  rcases h1.2 with ⟨rfl, _⟩ | ⟨g, cap, cur, rfl, _, hg, _⟩
  · exact .inl rfl
  · rcases h2.2 with ⟨rfl, _⟩ | ⟨g2, cap2, cur2, rfl, _, hg2, _⟩
    · exact .inr (by simp [Value.ownBlock])
    · refine .inr ?_
      intro h
      simp only [Value.ownBlock, Option.some.injEq] at h
      subst h
      rw [hg] at hg2
      simp at hg2
      exact hne hg2.2
theorem ownsRow_mono {w : World} {b b' : Nat} {e : TypeId} {s : Nat} {v : Value} {n : Nat} {xs : List Value} (h : w.ownsRow b e s v n xs) (hb : b' ≤ b) : w.ownsRow b' e s v n xs := by
  obtain ⟨h1, h2⟩ := h
  refine ⟨h1, ?_⟩
  rcases h2 with h2 | ⟨g, cap, cur, hv, hg, r⟩
  · exact .inl h2
  · exact .inr ⟨g, cap, cur, hv, Nat.le_trans hb hg, r⟩
/-- What is owned stays owned while blocks are only added. -/
theorem ownsRow_below {w w' : World} {b : Nat} {e : TypeId} {s : Nat} {v : Value} {n : Nat} {xs : List Value} (h : w.ownsRow b e s v n xs) (hb : Below w.heap.size w w') : w'.ownsRow b e s v n xs :=
  h.kept (row := none) ⟨hb.os, hb.tape, hb.output, hb.size, fun k hk _ => hb.block k hk⟩ (by cases hv : v.ownBlock <;> simp)
theorem below_grown {w w' : World} {base : Nat} {row : Option Nat} (hg : w.grownBy w' row) (hB : base ≤ w.heap.size) (hr : ∀ k, row = some k → base ≤ k) : Below base w w' :=
  (Below.refl base w).grown hg hB hr

/-- 'append(s, x)' of one element, onto a row of the call's own. -/
theorem wpList_append1 {w : World} {ops : Array Oper} {rest : List Oper} {o : Oper} {a : Act} {Q : Exit → Act → World → Prop} (hgd : o.guard = none) (s x : Operand) (t : TypeId)
    (ho : o.op = .call { callee := .builtin .append, args := #[s, x], argTypes := #[t, t] })
    (base : Nat) (e : TypeId) (z : Value) (size bytes : Nat) (ht : P.underlying t = some (.slice e)) (hi : (P.info? e).map (fun i => (i.zero, i.size, i.bytes)) = some (some z, size, bytes))
    (hzs : z.cells.size = size) (hsz : 0 < size)
    (v : Value) (n : Nat) (xs : List Value) (hs : a.eval s = v) (hown : w.ownsRow base e size v n xs)
    (g : Nat) (news : List Value) (hx : a.eval x = .slice (some ⟨g, 0, none⟩) 1 1) (hl : news.length = size) (hnews : ∀ j u, news[j]? = some u → w.cell? ⟨g, j, none⟩ = some u) (h1 : ∀ u ∈ news, u.oneCell' = true)
    (hn : n ≤ 100000000) (hb : bytes ≤ 1000) (hbase : base ≤ w.heap.size)
    (h : ∀ v' w', w'.ownsRow base e size v' (n + 1) (xs ++ news) → Below base w w' → w.grownBy w' v.ownBlock → wpList P ops Q rest (a.put o.dst v') w') : wpList P ops Q (o :: rest) a w := by
  obtain ⟨i, hi', hz, hsize, hby⟩ := info_parts hi
  refine wpList_append_own w hgd s x t ho base e i z size bytes ht hi' hz hsize hby hzs hsz v n xs hs hown ⟨g, 0, none⟩ 1 1 news hx (by omega) ?_ h1 (by simp only [maxLen]; omega) ?_ hbase ?_
  · intro j u hj
    have e : (⟨g, 0, none⟩ : Addr).add j = ⟨g, j, none⟩ := by simp only [Addr.add]; split <;> simp_all
    rw [e]; exact hnews j u hj
  · exact Nat.le_trans (Nat.mul_le_mul (show n + 1 ≤ 100000001 by omega) hb) (by decide)
  · intro v' w' ho' hg _
    exact h v' w' ho' (below_grown hg hbase fun k hk => (hown.lt k hk).1) hg

/-- A list of records in a row of the call's own. -/
def OwnRecs (w : World) (base : Nat) (v : Value) (rs : List Rec) : Prop := w.ownsRow base 33 5 v rs.length (recCells rs)
theorem OwnRecs.nil (w : World) (base : Nat) : OwnRecs w base (.slice none 0 0) [] := World.ownsRow_nil w base 33 5
def smallRecs (rs : List Rec) : Prop := rs.length ≤ 1000000 ∧ ∀ r ∈ rs, r.key.size ≤ 140737488351232 ∧ r.val.size ≤ 140737488351232
theorem OwnRecs.at {w : World} {base : Nat} {v : Value} {rs : List Rec} (h : OwnRecs w base v rs) (hs : smallRecs rs) : RecsAt w v rs := by
  obtain ⟨h1, h2⟩ := id h
  rcases h2 with ⟨rfl, h0⟩ | ⟨g, cap, cur, rfl, hg, hb, hn, hm, hc, ht⟩
  · have : rs = [] := List.eq_nil_of_length_eq_zero h0
    subst this
    exact ⟨none, 0, rfl, by simp, by simp, fun k hk => by simp at hk⟩
  · refine ⟨_, cap, rfl, hs.1, hs.2, fun k hk => ⟨g, 0, rfl, fun r hr => ?_⟩⟩
    have hcell : ∀ j u, (recCells rs)[j]? = some u → w.cell? ⟨g, j, none⟩ = some u := by
      intro j u hj
      have := World.ownsRow.cells (v := .slice (some ⟨g, 0, none⟩) rs.length cap) h rfl j u hj
      have e : (⟨g, 0, none⟩ : Addr).add j = ⟨g, j, none⟩ := by simp only [Addr.add]; split <;> simp_all
      rwa [e] at this
    have hr' : rs[k] = r := by rw [List.getElem?_eq_getElem hk] at hr; exact Option.some.inj hr
    have hf := fun j hj => flat_get Rec.cells 5 Rec.cells_length rs k j hk hj
    have f0 := hcell _ _ (hf 0 (by omega))
    have f1 := hcell _ _ (hf 1 (by omega))
    have f2 := hcell _ _ (hf 2 (by omega))
    have f3 := hcell _ _ (hf 3 (by omega))
    have f4 := hcell _ _ (hf 4 (by omega))
    rw [hr'] at f0 f1 f2 f3 f4
    simp only [Nat.zero_add]
    exact ⟨f0, f1, f2, f3, f4⟩

/-- 'append(out, x)' of one record. -/
theorem wpList_append_rec {w : World} {ops : Array Oper} {rest : List Oper} {o : Oper} {a : Act} {Q : Exit → Act → World → Prop} (hgd : o.guard = none) (s x : Operand)
    (ho : o.op = .call { callee := .builtin .append, args := #[s, x], argTypes := #[26, 26] })
    (ht : P.underlying 26 = some (.slice 33)) (hi : (P.info? 33).map (fun i => (i.zero, i.size, i.bytes)) = some (some (.agg #[.int .i64 0, .string ⟨#[]⟩, .string ⟨#[]⟩, .bool false, .int .i64 0]), 5, 56))
    (base : Nat) (v : Value) (rs : List Rec) (r : Rec) (hs : a.eval s = v) (hown : OwnRecs w base v rs)
    (g : Nat) (hx : a.eval x = .slice (some ⟨g, 0, none⟩) 1 1) (hr : RecAt w g 0 r)
    (hn : rs.length ≤ 1000000) (hbase : base ≤ w.heap.size)
    (h : ∀ v' w', OwnRecs w' base v' (rs ++ [r]) → Below base w w' → w.grownBy w' v.ownBlock → wpList P ops Q rest (a.put o.dst v') w') : wpList P ops Q (o :: rest) a w := by
  obtain ⟨r0, r1, r2, r3, r4⟩ := hr
  refine wpList_append1 hgd s x 26 ho base 33 _ 5 56 ht hi rfl (by decide) v rs.length (recCells rs) hs hown g r.cells hx rfl ?_ ?_ (by omega) (by decide) hbase ?_
  · intro j u hj
    match j, hj with
    | 0, hj => simp [Rec.cells] at hj; subst hj; exact r0
    | 1, hj => simp [Rec.cells] at hj; subst hj; exact r1
    | 2, hj => simp [Rec.cells] at hj; subst hj; exact r2
    | 3, hj => simp [Rec.cells] at hj; subst hj; exact r3
    | 4, hj => simp [Rec.cells] at hj; subst hj; exact r4
    | j + 5, hj => simp [Rec.cells] at hj
  · intro u hu
    simp [Rec.cells] at hu
    rcases hu with rfl | rfl | rfl | rfl | rfl <;> rfl
  · intro v' w' ho' hb hg
    refine h v' w' ?_ hb hg
    unfold OwnRecs
    rw [recCells_snoc]
    simpa using ho'

/-- A list of numbers in a row of the call's own. -/
def intCells (l : List Int) : List Value := l.map (.int .i64 ·)
def OwnInts (w : World) (base : Nat) (v : Value) (l : List Int) : Prop := w.ownsRow base 3 1 v l.length (intCells l)
theorem OwnInts.nil (w : World) (base : Nat) : OwnInts w base (.slice none 0 0) [] := World.ownsRow_nil w base 3 1
/-- A slice value that reads as these numbers. -/
def IntsAt (w : World) (v : Value) (l : List Int) : Prop :=
  ∃ a cap, v = .slice a l.length cap ∧ l.length ≤ 1000000 ∧ SliceAt a l.length 1 (fun k b o => ∀ i, l[k]? = some i → w.cell? ⟨b, o, none⟩ = some (.int .i64 i))
theorem IntsAt.mono {w w' : World} (hb : Below w.heap.size w w') {v : Value} {l : List Int} (h : IntsAt w v l) : IntsAt w' v l := by
  obtain ⟨a, cap, rfl, h1, h3⟩ := h
  refine ⟨a, cap, rfl, h1, fun k hk => ?_⟩
  obtain ⟨b, o, ha, h⟩ := h3 k hk
  exact ⟨b, o, ha, fun i hi => cell_below hb (h i hi)⟩
theorem IntsAt.form {w : World} {v : Value} {l : List Int} (h : IntsAt w v l) : ∃ a cap, v = .slice a l.length cap ∧ l.length ≤ 1000000 := let ⟨a, cap, h1, h2, _⟩ := h; ⟨a, cap, h1, h2⟩
theorem OwnInts.at {w : World} {base : Nat} {v : Value} {l : List Int} (h : OwnInts w base v l) (hs : l.length ≤ 1000000) : IntsAt w v l := by
  obtain ⟨h1, h2⟩ := id h
  rcases h2 with ⟨rfl, h0⟩ | ⟨g, cap, cur, rfl, hg, hb, hn, hm, hc, ht⟩
  · have : l = [] := List.eq_nil_of_length_eq_zero h0
    subst this
    exact ⟨none, 0, rfl, by simp, fun k hk => by simp at hk⟩
  · refine ⟨_, cap, rfl, hs, fun k hk => ⟨g, 0, rfl, fun i hi => ?_⟩⟩
    have := World.ownsRow.cells (v := .slice (some ⟨g, 0, none⟩) l.length cap) h rfl k (.int .i64 i) (by simp [intCells, hi])
    have e : (⟨g, 0, none⟩ : Addr).add k = ⟨g, k, none⟩ := by simp only [Addr.add]; split <;> simp_all
    rw [e] at this
    simpa using this
/-- 'append(out, i)' of one number. -/
theorem wpList_append_int {w : World} {ops : Array Oper} {rest : List Oper} {o : Oper} {a : Act} {Q : Exit → Act → World → Prop} (hgd : o.guard = none) (s x : Operand)
    (ho : o.op = .call { callee := .builtin .append, args := #[s, x], argTypes := #[85, 85] })
    (ht : P.underlying 85 = some (.slice 3)) (hi : (P.info? 3).map (fun i => (i.zero, i.size, i.bytes)) = some (some (.int .i64 0), 1, 8))
    (base : Nat) (v : Value) (l : List Int) (i : Int) (hs : a.eval s = v) (hown : OwnInts w base v l)
    (g : Nat) (hx : a.eval x = .slice (some ⟨g, 0, none⟩) 1 1) (hr : w.cell? ⟨g, 0, none⟩ = some (.int .i64 i))
    (hn : l.length ≤ 1000000) (hbase : base ≤ w.heap.size)
    (h : ∀ v' w', OwnInts w' base v' (l ++ [i]) → Below base w w' → w.grownBy w' v.ownBlock → wpList P ops Q rest (a.put o.dst v') w') : wpList P ops Q (o :: rest) a w := by
  refine wpList_append1 hgd s x 85 ho base 3 _ 1 8 ht hi rfl (by decide) v l.length (intCells l) hs hown g [.int .i64 i] hx rfl ?_ ?_ (by omega) (by decide) hbase ?_
  · intro j u hj
    match j, hj with
    | 0, hj => simp at hj; subst hj; exact hr
    | j + 1, hj => simp at hj
  · intro u hu
    simp at hu
    subst hu; rfl
  · intro v' w' ho' hb hg
    refine h v' w' ?_ hb hg
    unfold OwnInts
    simpa [intCells] using ho'

/-- A batch in ten cells, its records the slice value 'sv'. -/
def Batch.cells (x : Batch) (sv : Value) : List Value := [.int .i64 x.base, .int .i64 x.last, .int .i64 x.frm, .int .i64 x.epoch, .int .i64 x.pid, .int .i64 x.gen, .int .i64 x.seq, .bool x.txn, .int .i64 x.ctl, sv]
def batCells (l : List (Batch × Value)) : List Value := l.flatMap fun p => p.1.cells p.2
/-- A list of batches in a row of the call's own, each batch's records in a row of the call's own. -/
def OwnBats (w : World) (base : Nat) (v : Value) (xs : List Batch) : Prop :=
  ∃ ps : List (Batch × Value), ps.map (·.1) = xs ∧ w.ownsRow base 28 10 v ps.length (batCells ps) ∧ ∀ p ∈ ps, OwnRecs w base p.2 p.1.recs ∧ smallRecs p.1.recs
theorem OwnBats.nil (w : World) (base : Nat) : OwnBats w base (.slice none 0 0) [] := ⟨[], rfl, World.ownsRow_nil w base 28 10, by simp⟩
theorem OwnBats.at {w : World} {base : Nat} {v : Value} {xs : List Batch} (h : OwnBats w base v xs) (hs : xs.length ≤ 1000000) : BatchesAt w v xs := by
  obtain ⟨ps, hps, h, hr⟩ := h
  have hlen : ps.length = xs.length := by rw [← hps, List.length_map]
  obtain ⟨h1, h2⟩ := id h
  rcases h2 with ⟨rfl, h0⟩ | ⟨g, cap, cur, rfl, hg, hb, hn, hm, hc, ht⟩
  · have : xs = [] := List.eq_nil_of_length_eq_zero (by omega)
    subst this
    exact ⟨none, 0, rfl, by simp, fun k hk => by simp at hk⟩
  · refine ⟨_, cap - ps.length, by rw [← hlen]; congr 1; omega, hs, fun k hk => ⟨g, 0, rfl, fun x hx => ?_⟩⟩
    have hk' : k < ps.length := by omega
    have hcell : ∀ j u, (batCells ps)[j]? = some u → w.cell? ⟨g, j, none⟩ = some u := by
      intro j u hj
      have := World.ownsRow.cells (v := .slice (some ⟨g, 0, none⟩) ps.length cap) h rfl j u hj
      have e : (⟨g, 0, none⟩ : Addr).add j = ⟨g, j, none⟩ := by simp only [Addr.add]; split <;> simp_all
      rwa [e] at this
    have hx' : ps[k].1 = x := by
      rw [List.getElem?_eq_getElem hk] at hx
      rw [← Option.some.inj hx]
      simp [← hps]
    have hf := fun j hj => flat_get (fun p : Batch × Value => p.1.cells p.2) 10 (fun _ => rfl) ps k j hk' hj
    have f0 := hcell _ _ (hf 0 (by omega))
    have f1 := hcell _ _ (hf 1 (by omega))
    have f2 := hcell _ _ (hf 2 (by omega))
    have f3 := hcell _ _ (hf 3 (by omega))
    have f4 := hcell _ _ (hf 4 (by omega))
    have f5 := hcell _ _ (hf 5 (by omega))
    have f6 := hcell _ _ (hf 6 (by omega))
    have f7 := hcell _ _ (hf 7 (by omega))
    have f8 := hcell _ _ (hf 8 (by omega))
    have f9 := hcell _ _ (hf 9 (by omega))
    rw [hx'] at f0 f1 f2 f3 f4 f5 f6 f7 f8
    simp only [Nat.zero_add]
    have hrec := hr ps[k] (List.getElem_mem _)
    rw [hx'] at hrec
    exact ⟨ps[k].2, ⟨f0, f1, f2, f3, f4, f5, f6, f7, f8, f9⟩, hrec.1.at hrec.2⟩
theorem OwnRecs.below {w w' : World} {base : Nat} {v : Value} {rs : List Rec} (h : OwnRecs w base v rs) (hb : Below w.heap.size w w') : OwnRecs w' base v rs := ownsRow_below h hb
theorem OwnInts.below {w w' : World} {base : Nat} {v : Value} {rs : List Int} (h : OwnInts w base v rs) (hb : Below w.heap.size w w') : OwnInts w' base v rs := ownsRow_below h hb
theorem OwnBats.below {w w' : World} {base : Nat} {v : Value} {xs : List Batch} (h : OwnBats w base v xs) (hb : Below w.heap.size w w') : OwnBats w' base v xs :=
  let ⟨ps, h1, h2, h3⟩ := h; ⟨ps, h1, ownsRow_below h2 hb, fun p hp => ⟨(h3 p hp).1.below hb, (h3 p hp).2⟩⟩
theorem OwnRecs.base {w : World} {b b' : Nat} {v : Value} {rs : List Rec} (h : OwnRecs w b v rs) (hb : b' ≤ b) : OwnRecs w b' v rs := ownsRow_mono h hb
theorem OwnBats.base {w : World} {b b' : Nat} {v : Value} {rs : List Batch} (h : OwnBats w b v rs) (hb : b' ≤ b) : OwnBats w b' v rs :=
  let ⟨ps, h1, h2, h3⟩ := h; ⟨ps, h1, ownsRow_mono h2 hb, fun p hp => ⟨(h3 p hp).1.base hb, (h3 p hp).2⟩⟩
/-- 'append(out, x)' of one batch. -/
theorem wpList_append_bat {w : World} {ops : Array Oper} {rest : List Oper} {o : Oper} {a : Act} {Q : Exit → Act → World → Prop} (hgd : o.guard = none) (s x : Operand)
    (ho : o.op = .call { callee := .builtin .append, args := #[s, x], argTypes := #[22, 22] })
    (ht : P.underlying 22 = some (.slice 28)) (hi : (P.info? 28).map (fun i => (i.zero, i.size, i.bytes)) = some (some (.agg #[.int .i64 0, .int .i64 0, .int .i64 0, .int .i64 0, .int .i64 0, .int .i64 0, .int .i64 0, .bool false, .int .i64 0, .slice none 0 0]), 10, 96))
    (base : Nat) (v : Value) (xs : List Batch) (y : Batch) (sv : Value) (hs : a.eval s = v) (hown : OwnBats w base v xs)
    (g : Nat) (hx : a.eval x = .slice (some ⟨g, 0, none⟩) 1 1) (hy : BatchAt w g 0 y sv) (hyr : OwnRecs w base sv y.recs) (hys : smallRecs y.recs)
    (hn : xs.length ≤ 1000000) (hbase : base ≤ w.heap.size)
    (h : ∀ v' w', OwnBats w' base v' (xs ++ [y]) → Below base w w' → w.grownBy w' v.ownBlock → wpList P ops Q rest (a.put o.dst v') w') : wpList P ops Q (o :: rest) a w := by
  obtain ⟨ps, hps, hown, hrec⟩ := hown
  have hlen : ps.length = xs.length := by rw [← hps, List.length_map]
  obtain ⟨r0, r1, r2, r3, r4, r5, r6, r7, r8, r9⟩ := hy
  have hone : sv.oneCell' = true := by
    rcases hyr.2 with ⟨rfl, _⟩ | ⟨g, cap, cur, rfl, _⟩ <;> rfl
  refine wpList_append1 hgd s x 22 ho base 28 _ 10 96 ht hi rfl (by decide) v ps.length (batCells ps) hs hown g (y.cells sv) hx rfl ?_ ?_ (by omega) (by decide) hbase ?_
  · intro j u hj
    match j, hj with
    | 0, hj => simp [Batch.cells] at hj; subst hj; exact r0
    | 1, hj => simp [Batch.cells] at hj; subst hj; exact r1
    | 2, hj => simp [Batch.cells] at hj; subst hj; exact r2
    | 3, hj => simp [Batch.cells] at hj; subst hj; exact r3
    | 4, hj => simp [Batch.cells] at hj; subst hj; exact r4
    | 5, hj => simp [Batch.cells] at hj; subst hj; exact r5
    | 6, hj => simp [Batch.cells] at hj; subst hj; exact r6
    | 7, hj => simp [Batch.cells] at hj; subst hj; exact r7
    | 8, hj => simp [Batch.cells] at hj; subst hj; exact r8
    | 9, hj => simp [Batch.cells] at hj; subst hj; exact r9
    | j + 10, hj => simp [Batch.cells] at hj
  · intro u hu
    simp [Batch.cells] at hu
    rcases hu with rfl | rfl | rfl | rfl | rfl | rfl | rfl | rfl | rfl | rfl <;> first | rfl | exact hone
  · intro v' w' ho' hb hg
    refine h v' w' ⟨ps ++ [(y, sv)], by simp [hps], by simpa [batCells] using ho', ?_⟩ hb hg
    intro p hp
    rcases List.mem_append.1 hp with hp | hp
    · exact ⟨(hrec p hp).1.kept hg (own_ne (hrec p hp).1 hown (by decide)), (hrec p hp).2⟩
    · simp at hp
      subst hp
      exact ⟨hyr.kept hg (own_ne hyr hown (by decide)), hys⟩
end Go.Wm
namespace Go.Proofs
theorem Try.inf33 : (Try.prog.info? 33).map (fun i => (i.zero, i.size, i.bytes)) = some (some (.agg #[.int .i64 0, .string ⟨#[]⟩, .string ⟨#[]⟩, .bool false, .int .i64 0]), 5, 56) := by kernel_rfl
theorem Try.inf3 : (Try.prog.info? 3).map (fun i => (i.zero, i.size, i.bytes)) = some (some (.int .i64 0), 1, 8) := by kernel_rfl
theorem Try.inf28 : (Try.prog.info? 28).map (fun i => (i.zero, i.size, i.bytes)) = some (some (.agg #[.int .i64 0, .int .i64 0, .int .i64 0, .int .i64 0, .int .i64 0, .int .i64 0, .int .i64 0, .bool false, .int .i64 0, .slice none 0 0]), 10, 96) := by kernel_rfl
end Go.Proofs
