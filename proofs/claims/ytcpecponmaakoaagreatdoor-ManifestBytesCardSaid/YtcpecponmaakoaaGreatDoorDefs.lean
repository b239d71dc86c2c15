/- The plain data of chapter 15 (pieces of a manifest, bytes, texts), how they lie in memory, and small laws on worlds; no program here. -/
import Derived.WalkKit
import Derived.WalkSpells
import Derived.WalkLawsBesides
import Derived.BigQuiet
import Derived.Test.YtcpecponmaakoaaGreatDoorProg
namespace Go.Wm
open Go.RowKit

/-- A piece of a manifest. -/
structure Piece where
  id : Int
  base : Int
  fin : Int
  size : Int
  sum : Int
  state : Int
  deriving DecidableEq
/-- A row of six cells holds a piece. -/
structure PieceAt (w : World) (b o : Nat) (p : Piece) : Prop where
  c0 : w.cell? ⟨b, o, none⟩ = some (.int .i64 p.id)
  c1 : w.cell? ⟨b, o + 1, none⟩ = some (.int .i64 p.base)
  c2 : w.cell? ⟨b, o + 2, none⟩ = some (.int .i64 p.fin)
  c3 : w.cell? ⟨b, o + 3, none⟩ = some (.int .i64 p.size)
  c4 : w.cell? ⟨b, o + 4, none⟩ = some (.int .u32 p.sum)
  c5 : w.cell? ⟨b, o + 5, none⟩ = some (.int .i64 p.state)
/-- A slice (address and length) of rows of 'size' cells, the k-th of which meets R k. -/
def SliceAt (a : Option Addr) (n size : Nat) (R : Nat → Nat → Nat → Prop) : Prop :=
  ∀ k, k < n → ∃ b o, a = some ⟨b, o, none⟩ ∧ R k b (o + k * size)

theorem SliceAt.shape {a : Option Addr} {n size : Nat} {R : Nat → Nat → Nat → Prop} (h : SliceAt a n size R) : (∃ b o, a = some ⟨b, o, none⟩ ∧ ∀ k, k < n → R k b (o + k * size)) ∨ n = 0 := by
  by_cases h0 : n = 0
  · exact .inr h0
  · obtain ⟨b, o, ha, _⟩ := h 0 (by omega)
    refine .inl ⟨b, o, ha, fun k hk => ?_⟩
    obtain ⟨b', o', ha', hr⟩ := h k hk
    rw [ha] at ha'
    simp only [Option.some.injEq, Addr.mk.injEq, and_true] at ha'
    obtain ⟨rfl, rfl⟩ := ha'
    exact hr

/-- A slice value that reads as these pieces. -/
def PcsAt (w : World) (v : Value) (ps : List Piece) : Prop :=
  ∃ a cap, v = .slice a ps.length cap ∧ ps.length ≤ 1000000 ∧ SliceAt a ps.length 6 (fun k b o => ∀ p, ps[k]? = some p → PieceAt w b o p)
/-- A slice value that reads as these texts. -/
def TextsAt (w : World) (v : Value) (l : List ByteArray) : Prop :=
  ∃ a cap, v = .slice a l.length cap ∧ l.length ≤ 1000000 ∧ SliceAt a l.length 1 (fun k b o => ∀ s, l[k]? = some s → w.cell? ⟨b, o, none⟩ = some (.string s))
/-- A slice value that reads as these bytes. -/
def BytesAt (w : World) (v : Value) (l : List UInt8) : Prop :=
  ∃ a cap, v = .slice a l.length cap ∧ l.length ≤ 1000000 ∧ SliceAt a l.length 1 (fun k b o => ∀ s, l[k]? = some s → w.cell? ⟨b, o, none⟩ = some (.int .u8 (s.toNat : Int)))
/-! worlds -/
theorem lt_of_cell {w : World} {b o : Nat} {v : Value} (h : w.cell? ⟨b, o, none⟩ = some v) : b < w.heap.size := by
  unfold World.cell? at h
  cases hb : w.heap[b]? with
  | none => simp [hb] at h
  | some x => exact (Array.getElem?_eq_some_iff.1 hb).1

theorem cell_below {w w' : World} (hb : Below w.heap.size w w') {b o : Nat} {v : Value} (h : w.cell? ⟨b, o, none⟩ = some v) : w'.cell? ⟨b, o, none⟩ = some v := by
  rw [hb.cell (p := ⟨b, o, none⟩) (lt_of_cell h)]; exact h

theorem PieceAt.mono {w w' : World} (hb : Below w.heap.size w w') {b o : Nat} {r : Piece} (h : PieceAt w b o r) : PieceAt w' b o r :=
  ⟨cell_below hb h.c0, cell_below hb h.c1, cell_below hb h.c2, cell_below hb h.c3, cell_below hb h.c4, cell_below hb h.c5⟩
theorem PcsAt.mono {w w' : World} (hb : Below w.heap.size w w') {v : Value} {ps : List Piece} (h : PcsAt w v ps) : PcsAt w' v ps := by
  obtain ⟨a, cap, rfl, h1, h3⟩ := h
  refine ⟨a, cap, rfl, h1, fun k hk => ?_⟩
  obtain ⟨b, o, ha, h⟩ := h3 k hk
  exact ⟨b, o, ha, fun r hr => (h r hr).mono hb⟩
theorem TextsAt.mono {w w' : World} (hb : Below w.heap.size w w') {v : Value} {l : List ByteArray} (h : TextsAt w v l) : TextsAt w' v l := by
  obtain ⟨a, cap, rfl, h1, h3⟩ := h
  refine ⟨a, cap, rfl, h1, fun k hk => ?_⟩
  obtain ⟨b, o, ha, h⟩ := h3 k hk
  exact ⟨b, o, ha, fun r hr => cell_below hb (h r hr)⟩
theorem BytesAt.mono {w w' : World} (hb : Below w.heap.size w w') {v : Value} {l : List UInt8} (h : BytesAt w v l) : BytesAt w' v l := by
  obtain ⟨a, cap, rfl, h1, h3⟩ := h
  refine ⟨a, cap, rfl, h1, fun k hk => ?_⟩
  obtain ⟨b, o, ha, h⟩ := h3 k hk
  exact ⟨b, o, ha, fun r hr => cell_below hb (h r hr)⟩
theorem PcsAt.form {w : World} {v : Value} {ps : List Piece} (h : PcsAt w v ps) : ∃ a cap, v = .slice a ps.length cap ∧ ps.length ≤ 1000000 := let ⟨a, cap, h1, h2, _⟩ := h; ⟨a, cap, h1, h2⟩
theorem TextsAt.form {w : World} {v : Value} {ps : List ByteArray} (h : TextsAt w v ps) : ∃ a cap, v = .slice a ps.length cap ∧ ps.length ≤ 1000000 := let ⟨a, cap, h1, h2, _⟩ := h; ⟨a, cap, h1, h2⟩
theorem BytesAt.form {w : World} {v : Value} {ps : List UInt8} (h : BytesAt w v ps) : ∃ a cap, v = .slice a ps.length cap ∧ ps.length ≤ 1000000 := let ⟨a, cap, h1, h2, _⟩ := h; ⟨a, cap, h1, h2⟩
theorem hid {p : Prop} (h : p) : Hid p := h
/-- The world under a name of its own. -/
theorem wp_name {P : Program} {c : Code} {Q : Exit → Act → World → Prop} {a : Act} {w : World} (h : ∀ w1, w1 = w → c.wp P Q a w1) : c.wp P Q a w := h w rfl
theorem wpl_name {P : Program} {ops : Array Oper} {l : List Oper} {Q : Exit → Act → World → Prop} {a : Act} {w : World} (h : ∀ w1, w1 = w → wpList P ops Q l a w1) : wpList P ops Q l a w := h w rfl

theorem cell_alloc_old {w : World} {b o : Nat} {v : Value} (X : Obj) (h : w.cell? ⟨b, o, none⟩ = some v) : (w.alloc X).cell? ⟨b, o, none⟩ = some v :=
  cell_below ((Below.refl _ _).alloc (Nat.le_refl _) X) h
theorem below_alloc (w : World) (X : Obj) : Below w.heap.size w (w.alloc X) := (Below.refl _ _).alloc (Nat.le_refl _) X
theorem size_alloc (w : World) (X : Obj) : (w.alloc X).heap.size = w.heap.size + 1 := by simp
/-- What is below the first of two steps is below both. -/
theorem _root_.Go.RowKit.Below.step {w w1 w2 : World} (h : Below w.heap.size w w1) (k : Below w1.heap.size w1 w2) : Below w.heap.size w w2 := h.trans (k.mono h.size)

/-- The worlds that are W below W's own size. -/
structure Later (W : World) where
  w : World
  below : Below W.heap.size W w
instance (W : World) : Nonempty (Later W) := ⟨⟨W, Below.refl _ _⟩⟩
/-- A region that draws its order, whose operations only read, and whose callees only read and make memory: one walk, in the order of the text, in every later world. -/
theorem wp_region_later {P : Program} {id : Nat} {Q : Exit → Act → World → Prop} {a : Act} {W : World} {l : List Oper} (hm : P.follows .mixedOrders = true) (hB : Region.lexB .any l.toArray = true)
    (h : wpQuiet P l.toArray (fun w' => ∃ n : Later W, w' = n.w) (fun a' => ∀ w', Below W.heap.size W w' → Q .normal a' w') l a) : (Code.region id l.toArray true).wp P Q a W := by
  refine wp_region_quiet (C := fun w' => ∃ n : Later W, w' = n.w) hm hB ⟨⟨W.drew, (Below.refl _ _).drew⟩, rfl⟩ ?_
  have e : (fun a' => ∀ w', Below W.heap.size W w' → Q .normal a' w') = (fun a' => ∀ w', (∃ n : Later W, w' = n.w) → Q .normal a' w') := by
    funext a'
    refine propext ⟨fun h w' ⟨n, hn⟩ => hn ▸ h n.w n.below, fun h w' hb => h w' ⟨⟨w', hb⟩, rfl⟩⟩
  rw [e] at h
  simpa using h
/-- A callee's contract, met in a later world. -/
theorem Later.call {P : Program} {f : FuncId} {args : Array Value} {W : World} {n : Later W} {v : Value}
    (h : Calls P f args n.w fun e w' => e = .returned v ∧ Below n.w.heap.size n.w w') : Calls P f args n.w fun e w'' => e = .returned v ∧ ∃ m : Later W, w'' = m.w :=
  h.mono fun _ w' ⟨he, hb⟩ => ⟨he, ⟨w', n.below.step hb⟩, rfl⟩
theorem Later.cell {W : World} {b o : Nat} {v : Value} (h : W.cell? ⟨b, o, none⟩ = some v) : ∀ n : Later W, n.w.cell? ⟨b, o, none⟩ = some v := fun n => cell_below n.below h
theorem toList_inj {a b : ByteArray} : a.toList = b.toList ↔ a = b := by
  rw [ByteArray.toList_eq, ByteArray.toList_eq]
  obtain ⟨⟨x⟩⟩ := a
  obtain ⟨⟨y⟩⟩ := b
  simp
theorem run_eq_bytes (a b : ByteArray) : (a.toList == b.toList) = decide (a = b) := by
  rw [Bool.eq_iff_iff]; simp [toList_inj]
theorem ret_bool {a b : Bool} (h : a = b) : Ending.returned (.bool a) = .returned (.bool b) := by rw [h]
theorem ret_int {a b : Int} (h : a = b) : Ending.returned (.int .i64 a) = .returned (.int .i64 b) := by rw [h]

/-! searching a list -/
def idxOf {α : Type} (p : α → Bool) (l : List α) : Int := match l.findIdx? p with | some i => (i : Int) | none => -1
theorem idxOf_found {α : Type} {p : α → Bool} {l : List α} {k : Nat} (hk : k < l.length) (h : p l[k] = true) (hj : ∀ j (hj : j < l.length), j < k → p l[j] = false) : idxOf p l = k := by
  have : l.findIdx? p = some k := by
    rw [List.findIdx?_eq_some_iff_getElem]
    exact ⟨hk, h, fun j hjk => by simp [hj j (by omega) hjk]⟩
  simp [idxOf, this]
theorem idxOf_none {α : Type} {p : α → Bool} {l : List α} (hj : ∀ j (hj : j < l.length), p l[j] = false) : idxOf p l = -1 := by
  have : l.findIdx? p = none := by
    rw [List.findIdx?_eq_none_iff]
    intro x hx
    obtain ⟨j, h, rfl⟩ := List.getElem_of_mem hx
    exact hj j h
  simp [idxOf, this]
theorem idxOf_nonneg {α : Type} (p : α → Bool) (l : List α) : decide (0 ≤ idxOf p l) = l.any p := by
  unfold idxOf
  cases h : l.findIdx? p with
  | none =>
    rw [List.findIdx?_eq_none_iff] at h
    have : l.any p = false := by rw [List.any_eq_false]; intro x hx; simp [h x hx]
    simp [this]
  | some i =>
    rw [List.findIdx?_eq_some_iff_getElem] at h
    obtain ⟨hi, hp, _⟩ := h
    have : l.any p = true := by rw [List.any_eq_true]; exact ⟨l[i], List.getElem_mem _, hp⟩
    simp [this]
variable {P : Program}
theorem flat_get {α : Type} (f : α → List Value) (m : Nat) (hf : ∀ x, (f x).length = m) : ∀ (l : List α) (k j : Nat) (h : k < l.length), j < m → (l.flatMap f)[k * m + j]? = (f l[k])[j]? := by
  intro l
  induction l with
  | nil => intro k j h; simp at h
  | cons x l ih =>
    intro k j h hj
    cases k with
    | zero =>
      simp only [List.flatMap_cons, Nat.zero_mul, Nat.zero_add, List.getElem_cons_zero]
      rw [List.getElem?_append_left (by rw [hf]; exact hj)]
    | succ k =>
      simp only [List.flatMap_cons, List.getElem_cons_succ]
      rw [List.getElem?_append_right (by rw [hf, Nat.succ_mul]; omega), hf]
      have e : (k + 1) * m + j - m = k * m + j := by rw [Nat.succ_mul]; omega
      rw [e]
      exact ih k j (by simpa using h) hj

/-- Rows of other element types lie in other blocks. -/
theorem own_ne {w : World} {b1 b2 : Nat} {e1 e2 : TypeId} {s1 s2 : Nat} {v1 v2 : Value} {n1 n2 : Nat} {xs1 xs2 : List Value} (h1 : w.ownsRow b1 e1 s1 v1 n1 xs1) (h2 : w.ownsRow b2 e2 s2 v2 n2 xs2) (hne : e1 ≠ e2) :
    v1.ownBlock = none ∨ v1.ownBlock ≠ v2.ownBlock := by
  rcases h1.2 with ⟨rfl, _⟩ | ⟨g, cap, cur, rfl, _, hg, _⟩
  · exact .inl rfl
  · rcases h2.2 with ⟨rfl, _⟩ | ⟨g2, cap2, cur2, rfl, _, hg2, _⟩
    · exact .inr (by simp [Value.ownBlock])
    · refine .inr ?_
      intro h
      simp only [Value.ownBlock, Option.some.injEq] at h
      subst h
      rw [hg] at hg2
      simp at hg2
      exact hne hg2.2
theorem ownsRow_mono {w : World} {b b' : Nat} {e : TypeId} {s : Nat} {v : Value} {n : Nat} {xs : List Value} (h : w.ownsRow b e s v n xs) (hb : b' ≤ b) : w.ownsRow b' e s v n xs := by
  obtain ⟨h1, h2⟩ := h
  refine ⟨h1, ?_⟩
  rcases h2 with h2 | ⟨g, cap, cur, hv, hg, r⟩
  · exact .inl h2
  · exact .inr ⟨g, cap, cur, hv, Nat.le_trans hb hg, r⟩
/-- What is owned stays owned while blocks are only added. -/
theorem ownsRow_below {w w' : World} {b : Nat} {e : TypeId} {s : Nat} {v : Value} {n : Nat} {xs : List Value} (h : w.ownsRow b e s v n xs) (hb : Below w.heap.size w w') : w'.ownsRow b e s v n xs :=
  h.kept (row := none) ⟨hb.os, hb.tape, hb.output, hb.size, fun k hk _ => hb.block k hk⟩ (by cases hv : v.ownBlock <;> simp)
theorem below_grown {w w' : World} {base : Nat} {row : Option Nat} (hg : w.grownBy w' row) (hB : base ≤ w.heap.size) (hr : ∀ k, row = some k → base ≤ k) : Below base w w' :=
  (Below.refl base w).grown hg hB hr

/-- 'append(s, x)' of one element, onto a row of the call's own. -/
theorem wpList_append1 {w : World} {ops : Array Oper} {rest : List Oper} {o : Oper} {a : Act} {Q : Exit → Act → World → Prop} (hgd : o.guard = none) (s x : Operand) (t : TypeId)
    (ho : o.op = .call { callee := .builtin .append, args := #[s, x], argTypes := #[t, t] })
    (base : Nat) (e : TypeId) (z : Value) (size bytes : Nat) (ht : P.underlying t = some (.slice e)) (hi : (P.info? e).map (fun i => (i.zero, i.size, i.bytes)) = some (some z, size, bytes))
    (hzs : z.cells.size = size) (hsz : 0 < size)
    (v : Value) (n : Nat) (xs : List Value) (hs : a.eval s = v) (hown : w.ownsRow base e size v n xs)
    (g : Nat) (news : List Value) (hx : a.eval x = .slice (some ⟨g, 0, none⟩) 1 1) (hl : news.length = size) (hnews : ∀ j u, news[j]? = some u → w.cell? ⟨g, j, none⟩ = some u) (h1 : ∀ u ∈ news, u.oneCell' = true)
    (hn : n ≤ 100000000) (hb : bytes ≤ 1000) (hbase : base ≤ w.heap.size)
    (h : ∀ v' w', w'.ownsRow base e size v' (n + 1) (xs ++ news) → Below base w w' → w.grownBy w' v.ownBlock → wpList P ops Q rest (a.put o.dst v') w') : wpList P ops Q (o :: rest) a w := by
  obtain ⟨i, hi', hz, hsize, hby⟩ := info_parts hi
  refine wpList_append_own w hgd s x t ho base e i z size bytes ht hi' hz hsize hby hzs hsz v n xs hs hown ⟨g, 0, none⟩ 1 1 news hx (by omega) ?_ h1 (by simp only [maxLen]; omega) ?_ hbase ?_
  · intro j u hj
    have e : (⟨g, 0, none⟩ : Addr).add j = ⟨g, j, none⟩ := by simp only [Addr.add]; split <;> simp_all
    rw [e]; exact hnews j u hj
  · exact Nat.le_trans (Nat.mul_le_mul (show n + 1 ≤ 100000001 by omega) hb) (by decide)
  · intro v' w' ho' hg _
    exact h v' w' ho' (below_grown hg hbase fun k hk => (hown.lt k hk).1) hg

/-- A piece in six cells. -/
def Piece.cells (p : Piece) : List Value := [.int .i64 p.id, .int .i64 p.base, .int .i64 p.fin, .int .i64 p.size, .int .u32 p.sum, .int .i64 p.state]
def pcCells (l : List Piece) : List Value := l.flatMap Piece.cells
theorem Piece.cells_length (p : Piece) : p.cells.length = 6 := rfl
theorem pcCells_length (l : List Piece) : (pcCells l).length = l.length * 6 := by
  induction l with
  | nil => rfl
  | cons r rs ih => simp [pcCells] at *; rw [ih, Piece.cells_length]; omega
theorem pcCells_append (l m : List Piece) : pcCells (l ++ m) = pcCells l ++ pcCells m := by simp [pcCells]
theorem addr_add (b o j : Nat) : (⟨b, o, none⟩ : Addr).add j = ⟨b, o + j, none⟩ := by simp only [Addr.add]; split <;> simp_all
/-- A list of pieces in a row of the call's own. -/
def OwnPcs (w : World) (base : Nat) (v : Value) (l : List Piece) : Prop := w.ownsRow base 29 6 v l.length (pcCells l)
theorem OwnPcs.nil (w : World) (base : Nat) : OwnPcs w base (.slice none 0 0) [] := World.ownsRow_nil w base 29 6
theorem OwnPcs.at {w : World} {base : Nat} {v : Value} {l : List Piece} (h : OwnPcs w base v l) (hs : l.length ≤ 1000000) : PcsAt w v l := by
  obtain ⟨h1, h2⟩ := id h
  rcases h2 with ⟨rfl, h0⟩ | ⟨g, cap, cur, rfl, hg, hb, hn, hm, hc, ht⟩
  · have : l = [] := List.eq_nil_of_length_eq_zero h0
    subst this
    exact ⟨none, 0, rfl, by simp, fun k hk => by simp at hk⟩
  · refine ⟨_, cap, rfl, hs, fun k hk => ⟨g, 0, rfl, fun r hr => ?_⟩⟩
    have hcell : ∀ j u, (pcCells l)[j]? = some u → w.cell? ⟨g, j, none⟩ = some u := by
      intro j u hj
      have := World.ownsRow.cells (v := .slice (some ⟨g, 0, none⟩) l.length cap) h rfl j u hj
      rw [addr_add, Nat.zero_add] at this
      exact this
    have hr' : l[k] = r := by rw [List.getElem?_eq_getElem hk] at hr; exact Option.some.inj hr
    have hf := fun j hj => flat_get Piece.cells 6 Piece.cells_length l k j hk hj
    have f0 := hcell _ _ (hf 0 (by omega))
    have f1 := hcell _ _ (hf 1 (by omega))
    have f2 := hcell _ _ (hf 2 (by omega))
    have f3 := hcell _ _ (hf 3 (by omega))
    have f4 := hcell _ _ (hf 4 (by omega))
    have f5 := hcell _ _ (hf 5 (by omega))
    rw [hr'] at f0 f1 f2 f3 f4 f5
    simp only [Nat.zero_add]
    exact ⟨f0, f1, f2, f3, f4, f5⟩
theorem OwnPcs.below {w w' : World} {base : Nat} {v : Value} {l : List Piece} (h : OwnPcs w base v l) (hb : Below w.heap.size w w') : OwnPcs w' base v l := ownsRow_below h hb
theorem OwnPcs.base {w : World} {b b' : Nat} {v : Value} {l : List Piece} (h : OwnPcs w b v l) (hb : b' ≤ b) : OwnPcs w b' v l := ownsRow_mono h hb
/-- A list of texts in a row of the call's own. -/
def txCells (l : List ByteArray) : List Value := l.map (.string ·)
def OwnTexts (w : World) (base : Nat) (v : Value) (l : List ByteArray) : Prop := w.ownsRow base 9 1 v l.length (txCells l)
theorem OwnTexts.nil (w : World) (base : Nat) : OwnTexts w base (.slice none 0 0) [] := World.ownsRow_nil w base 9 1
theorem OwnTexts.at {w : World} {base : Nat} {v : Value} {l : List ByteArray} (h : OwnTexts w base v l) (hs : l.length ≤ 1000000) : TextsAt w v l := by
  obtain ⟨h1, h2⟩ := id h
  rcases h2 with ⟨rfl, h0⟩ | ⟨g, cap, cur, rfl, hg, hb, hn, hm, hc, ht⟩
  · have : l = [] := List.eq_nil_of_length_eq_zero h0
    subst this
    exact ⟨none, 0, rfl, by simp, fun k hk => by simp at hk⟩
  · refine ⟨_, cap, rfl, hs, fun k hk => ⟨g, 0, rfl, fun i hi => ?_⟩⟩
    have := World.ownsRow.cells (v := .slice (some ⟨g, 0, none⟩) l.length cap) h rfl k (.string i) (by simp [txCells, hi])
    rw [addr_add] at this
    simpa using this
theorem OwnTexts.below {w w' : World} {base : Nat} {v : Value} {l : List ByteArray} (h : OwnTexts w base v l) (hb : Below w.heap.size w w') : OwnTexts w' base v l := ownsRow_below h hb
/-- A list of bytes in a row of the call's own. -/
def byCells (l : List UInt8) : List Value := l.map fun x => .int .u8 (x.toNat : Int)
def OwnBytes (w : World) (base : Nat) (v : Value) (l : List UInt8) : Prop := w.ownsRow base 5 1 v l.length (byCells l)
theorem OwnBytes.nil (w : World) (base : Nat) : OwnBytes w base (.slice none 0 0) [] := World.ownsRow_nil w base 5 1
theorem OwnBytes.at {w : World} {base : Nat} {v : Value} {l : List UInt8} (h : OwnBytes w base v l) (hs : l.length ≤ 1000000) : BytesAt w v l := by
  obtain ⟨h1, h2⟩ := id h
  rcases h2 with ⟨rfl, h0⟩ | ⟨g, cap, cur, rfl, hg, hb, hn, hm, hc, ht⟩
  · have : l = [] := List.eq_nil_of_length_eq_zero h0
    subst this
    exact ⟨none, 0, rfl, by simp, fun k hk => by simp at hk⟩
  · refine ⟨_, cap, rfl, hs, fun k hk => ⟨g, 0, rfl, fun i hi => ?_⟩⟩
    have := World.ownsRow.cells (v := .slice (some ⟨g, 0, none⟩) l.length cap) h rfl k (.int .u8 (i.toNat : Int)) (by simp [byCells, hi])
    rw [addr_add] at this
    simpa using this
theorem OwnBytes.below {w w' : World} {base : Nat} {v : Value} {l : List UInt8} (h : OwnBytes w base v l) (hb : Below w.heap.size w w') : OwnBytes w' base v l := ownsRow_below h hb
theorem OwnBytes.base {w : World} {b b' : Nat} {v : Value} {l : List UInt8} (h : OwnBytes w b v l) (hb : b' ≤ b) : OwnBytes w b' v l := ownsRow_mono h hb
end Go.Wm
namespace Go.Proofs
theorem Tryz.inf29 : (Tryz.prog.info? 29).map (fun i => (i.zero, i.size, i.bytes)) = some (some (.agg #[.int .i64 0, .int .i64 0, .int .i64 0, .int .i64 0, .int .u32 0, .int .i64 0]), 6, 48) := by kernel_rfl
theorem Tryz.inf9 : (Tryz.prog.info? 9).map (fun i => (i.zero, i.size, i.bytes)) = some (some (.string ⟨#[]⟩), 1, 16) := by kernel_rfl
theorem Tryz.inf5 : (Tryz.prog.info? 5).map (fun i => (i.zero, i.size, i.bytes)) = some (some (.int .u8 0), 1, 1) := by kernel_rfl
end Go.Proofs
