/- The plain data of chapter 13 (records, batches, what was aborted), how they lie in memory, and small laws on worlds; no program here. -/
import Derived.WalkKit
import Derived.WalkSpells
import Derived.WalkLawsBesides
import Derived.BigQuiet
namespace Go.Wm
open Go.RowKit

structure Rec where
  off : Int
  key : ByteArray
  val : ByteArray
  dead : Bool
  stamp : Int
  deriving DecidableEq
structure Batch where
  base : Int
  last : Int
  frm : Int
  epoch : Int
  pid : Int
  gen : Int
  seq : Int
  txn : Bool
  ctl : Int
  recs : List Rec
  deriving DecidableEq
structure Gone where
  pid : Int
  no : Int
  first : Int
  last : Int

/-- A row of five cells holds a record. -/
structure RecAt (w : World) (b o : Nat) (r : Rec) : Prop where
  c0 : w.cell? ⟨b, o, none⟩ = some (.int .i64 r.off)
  c1 : w.cell? ⟨b, o + 1, none⟩ = some (.string r.key)
  c2 : w.cell? ⟨b, o + 2, none⟩ = some (.string r.val)
  c3 : w.cell? ⟨b, o + 3, none⟩ = some (.bool r.dead)
  c4 : w.cell? ⟨b, o + 4, none⟩ = some (.int .i64 r.stamp)
structure GoneAt (w : World) (b o : Nat) (g : Gone) : Prop where
  c0 : w.cell? ⟨b, o, none⟩ = some (.int .i64 g.pid)
  c1 : w.cell? ⟨b, o + 1, none⟩ = some (.int .i64 g.no)
  c2 : w.cell? ⟨b, o + 2, none⟩ = some (.int .i64 g.first)
  c3 : w.cell? ⟨b, o + 3, none⟩ = some (.int .i64 g.last)

/-- A slice (address and length) of rows of 'size' cells, the k-th of which meets R k. -/
def SliceAt (a : Option Addr) (n size : Nat) (R : Nat → Nat → Nat → Prop) : Prop :=
  ∀ k, k < n → ∃ b o, a = some ⟨b, o, none⟩ ∧ R k b (o + k * size)

theorem SliceAt.shape {a : Option Addr} {n size : Nat} {R : Nat → Nat → Nat → Prop} (h : SliceAt a n size R) : (∃ b o, a = some ⟨b, o, none⟩ ∧ ∀ k, k < n → R k b (o + k * size)) ∨ n = 0 := by
  by_cases h0 : n = 0
  · exact .inr h0
  · obtain ⟨b, o, ha, _⟩ := h 0 (by omega)
    refine .inl ⟨b, o, ha, fun k hk => ?_⟩
    obtain ⟨b', o', ha', hr⟩ := h k hk
    rw [ha] at ha'
    simp only [Option.some.injEq, Addr.mk.injEq, and_true] at ha'
    obtain ⟨rfl, rfl⟩ := ha'
    exact hr

/-- A slice value that reads as these records. -/
def RecsAt (w : World) (v : Value) (rs : List Rec) : Prop :=
  ∃ a cap, v = .slice a rs.length cap ∧ rs.length ≤ 1000000 ∧ (∀ r ∈ rs, r.key.size ≤ 140737488351232 ∧ r.val.size ≤ 140737488351232) ∧
    SliceAt a rs.length 5 (fun k b o => ∀ r, rs[k]? = some r → RecAt w b o r)
def GonesAt (w : World) (v : Value) (gs : List Gone) : Prop :=
  ∃ a cap, v = .slice a gs.length cap ∧ gs.length ≤ 1000000 ∧
    SliceAt a gs.length 4 (fun k b o => ∀ g, gs[k]? = some g → GoneAt w b o g)

/-- A row of ten cells holds a batch whose records are the slice value 'sv'. -/
structure BatchAt (w : World) (b o : Nat) (x : Batch) (sv : Value) : Prop where
  c0 : w.cell? ⟨b, o, none⟩ = some (.int .i64 x.base)
  c1 : w.cell? ⟨b, o + 1, none⟩ = some (.int .i64 x.last)
  c2 : w.cell? ⟨b, o + 2, none⟩ = some (.int .i64 x.frm)
  c3 : w.cell? ⟨b, o + 3, none⟩ = some (.int .i64 x.epoch)
  c4 : w.cell? ⟨b, o + 4, none⟩ = some (.int .i64 x.pid)
  c5 : w.cell? ⟨b, o + 5, none⟩ = some (.int .i64 x.gen)
  c6 : w.cell? ⟨b, o + 6, none⟩ = some (.int .i64 x.seq)
  c7 : w.cell? ⟨b, o + 7, none⟩ = some (.bool x.txn)
  c8 : w.cell? ⟨b, o + 8, none⟩ = some (.int .i64 x.ctl)
  c9 : w.cell? ⟨b, o + 9, none⟩ = some sv
def BatchesAt (w : World) (v : Value) (bs : List Batch) : Prop :=
  ∃ a cap, v = .slice a bs.length (bs.length + cap) ∧ bs.length ≤ 1000000 ∧
    SliceAt a bs.length 10 (fun k b o => ∀ x, bs[k]? = some x → ∃ sv, BatchAt w b o x sv ∧ RecsAt w sv x.recs)

/-! worlds -/
theorem lt_of_cell {w : World} {b o : Nat} {v : Value} (h : w.cell? ⟨b, o, none⟩ = some v) : b < w.heap.size := by
  unfold World.cell? at h
  cases hb : w.heap[b]? with
  | none => simp [hb] at h
  | some x => exact (Array.getElem?_eq_some_iff.1 hb).1

theorem cell_below {w w' : World} (hb : Below w.heap.size w w') {b o : Nat} {v : Value} (h : w.cell? ⟨b, o, none⟩ = some v) : w'.cell? ⟨b, o, none⟩ = some v := by
  rw [hb.cell (p := ⟨b, o, none⟩) (lt_of_cell h)]; exact h

theorem RecAt.mono {w w' : World} (hb : Below w.heap.size w w') {b o : Nat} {r : Rec} (h : RecAt w b o r) : RecAt w' b o r :=
  ⟨cell_below hb h.c0, cell_below hb h.c1, cell_below hb h.c2, cell_below hb h.c3, cell_below hb h.c4⟩
theorem GoneAt.mono {w w' : World} (hb : Below w.heap.size w w') {b o : Nat} {r : Gone} (h : GoneAt w b o r) : GoneAt w' b o r :=
  ⟨cell_below hb h.c0, cell_below hb h.c1, cell_below hb h.c2, cell_below hb h.c3⟩
theorem BatchAt.mono {w w' : World} (hb : Below w.heap.size w w') {b o : Nat} {x : Batch} {sv : Value} (h : BatchAt w b o x sv) : BatchAt w' b o x sv :=
  ⟨cell_below hb h.c0, cell_below hb h.c1, cell_below hb h.c2, cell_below hb h.c3, cell_below hb h.c4, cell_below hb h.c5, cell_below hb h.c6, cell_below hb h.c7, cell_below hb h.c8, cell_below hb h.c9⟩
theorem RecsAt.mono {w w' : World} (hb : Below w.heap.size w w') {v : Value} {rs : List Rec} (h : RecsAt w v rs) : RecsAt w' v rs := by
  obtain ⟨a, cap, rfl, h1, h2, h3⟩ := h
  refine ⟨a, cap, rfl, h1, h2, fun k hk => ?_⟩
  obtain ⟨b, o, ha, h⟩ := h3 k hk
  exact ⟨b, o, ha, fun r hr => (h r hr).mono hb⟩
theorem GonesAt.mono {w w' : World} (hb : Below w.heap.size w w') {v : Value} {rs : List Gone} (h : GonesAt w v rs) : GonesAt w' v rs := by
  obtain ⟨a, cap, rfl, h1, h3⟩ := h
  refine ⟨a, cap, rfl, h1, fun k hk => ?_⟩
  obtain ⟨b, o, ha, h⟩ := h3 k hk
  exact ⟨b, o, ha, fun r hr => (h r hr).mono hb⟩
theorem BatchesAt.mono {w w' : World} (hb : Below w.heap.size w w') {v : Value} {bs : List Batch} (h : BatchesAt w v bs) : BatchesAt w' v bs := by
  obtain ⟨a, cap, rfl, h1, h3⟩ := h
  refine ⟨a, cap, rfl, h1, fun k hk => ?_⟩
  obtain ⟨b, o, ha, h⟩ := h3 k hk
  exact ⟨b, o, ha, fun x hx => let ⟨sv, h1, h2⟩ := h x hx; ⟨sv, h1.mono hb, h2.mono hb⟩⟩

theorem hid {p : Prop} (h : p) : Hid p := h
/-- The world under a name of its own. -/
theorem wp_name {P : Program} {c : Code} {Q : Exit → Act → World → Prop} {a : Act} {w : World} (h : ∀ w1, w1 = w → c.wp P Q a w1) : c.wp P Q a w := h w rfl
theorem wpl_name {P : Program} {ops : Array Oper} {l : List Oper} {Q : Exit → Act → World → Prop} {a : Act} {w : World} (h : ∀ w1, w1 = w → wpList P ops Q l a w1) : wpList P ops Q l a w := h w rfl

theorem cell_alloc_old {w : World} {b o : Nat} {v : Value} (X : Obj) (h : w.cell? ⟨b, o, none⟩ = some v) : (w.alloc X).cell? ⟨b, o, none⟩ = some v :=
  cell_below ((Below.refl _ _).alloc (Nat.le_refl _) X) h
theorem below_alloc (w : World) (X : Obj) : Below w.heap.size w (w.alloc X) := (Below.refl _ _).alloc (Nat.le_refl _) X
theorem size_alloc (w : World) (X : Obj) : (w.alloc X).heap.size = w.heap.size + 1 := by simp
/-- What is below the first of two steps is below both. -/
theorem _root_.Go.RowKit.Below.step {w w1 w2 : World} (h : Below w.heap.size w w1) (k : Below w1.heap.size w1 w2) : Below w.heap.size w w2 := h.trans (k.mono h.size)

/-- The worlds that are W below W's own size. -/
structure Later (W : World) where
  w : World
  below : Below W.heap.size W w
instance (W : World) : Nonempty (Later W) := ⟨⟨W, Below.refl _ _⟩⟩
/-- A region that draws its order, whose operations only read, and whose callees only read and make memory: one walk, in the order of the text, in every later world. -/
theorem wp_region_later {P : Program} {id : Nat} {Q : Exit → Act → World → Prop} {a : Act} {W : World} {l : List Oper} (hm : P.follows .mixedOrders = true) (hB : Region.lexB .any l.toArray = true)
    (h : wpQuiet P l.toArray (fun w' => ∃ n : Later W, w' = n.w) (fun a' => ∀ w', Below W.heap.size W w' → Q .normal a' w') l a) : (Code.region id l.toArray true).wp P Q a W := by
  refine wp_region_quiet (C := fun w' => ∃ n : Later W, w' = n.w) hm hB ⟨⟨W.drew, (Below.refl _ _).drew⟩, rfl⟩ ?_
  have e : (fun a' => ∀ w', Below W.heap.size W w' → Q .normal a' w') = (fun a' => ∀ w', (∃ n : Later W, w' = n.w) → Q .normal a' w') := by
    funext a'
    refine propext ⟨fun h w' ⟨n, hn⟩ => hn ▸ h n.w n.below, fun h w' hb => h w' ⟨⟨w', hb⟩, rfl⟩⟩
  rw [e] at h
  simpa using h
/-- A callee's contract, met in a later world. -/
theorem Later.call {P : Program} {f : FuncId} {args : Array Value} {W : World} {n : Later W} {v : Value}
    (h : Calls P f args n.w fun e w' => e = .returned v ∧ Below n.w.heap.size n.w w') : Calls P f args n.w fun e w'' => e = .returned v ∧ ∃ m : Later W, w'' = m.w :=
  h.mono fun _ w' ⟨he, hb⟩ => ⟨he, ⟨w', n.below.step hb⟩, rfl⟩
theorem Later.cell {W : World} {b o : Nat} {v : Value} (h : W.cell? ⟨b, o, none⟩ = some v) : ∀ n : Later W, n.w.cell? ⟨b, o, none⟩ = some v := fun n => cell_below n.below h
theorem RecsAt.form {w : World} {v : Value} {rs : List Rec} (h : RecsAt w v rs) : ∃ a cap, v = .slice a rs.length cap ∧ rs.length ≤ 1000000 := let ⟨a, cap, h1, h2, _⟩ := h; ⟨a, cap, h1, h2⟩
theorem GonesAt.form {w : World} {v : Value} {rs : List Gone} (h : GonesAt w v rs) : ∃ a cap, v = .slice a rs.length cap ∧ rs.length ≤ 1000000 := let ⟨a, cap, h1, h2, _⟩ := h; ⟨a, cap, h1, h2⟩
theorem BatchesAt.form {w : World} {v : Value} {rs : List Batch} (h : BatchesAt w v rs) : ∃ a cap, v = .slice a rs.length cap ∧ rs.length ≤ 1000000 := let ⟨a, _, h1, h2, _⟩ := h; ⟨a, _, h1, h2⟩
theorem toList_inj {a b : ByteArray} : a.toList = b.toList ↔ a = b := by
  rw [ByteArray.toList_eq, ByteArray.toList_eq]
  obtain ⟨⟨x⟩⟩ := a
  obtain ⟨⟨y⟩⟩ := b
  simp
theorem run_eq_bytes (a b : ByteArray) : (a.toList == b.toList) = decide (a = b) := by
  rw [Bool.eq_iff_iff]; simp [toList_inj]
theorem ret_bool {a b : Bool} (h : a = b) : Ending.returned (.bool a) = .returned (.bool b) := by rw [h]
theorem ret_int {a b : Int} (h : a = b) : Ending.returned (.int .i64 a) = .returned (.int .i64 b) := by rw [h]

/-! searching a list -/
def idxOf {α : Type} (p : α → Bool) (l : List α) : Int := match l.findIdx? p with | some i => (i : Int) | none => -1
theorem idxOf_found {α : Type} {p : α → Bool} {l : List α} {k : Nat} (hk : k < l.length) (h : p l[k] = true) (hj : ∀ j (hj : j < l.length), j < k → p l[j] = false) : idxOf p l = k := by
  have : l.findIdx? p = some k := by
    rw [List.findIdx?_eq_some_iff_getElem]
    exact ⟨hk, h, fun j hjk => by simp [hj j (by omega) hjk]⟩
  simp [idxOf, this]
theorem idxOf_none {α : Type} {p : α → Bool} {l : List α} (hj : ∀ j (hj : j < l.length), p l[j] = false) : idxOf p l = -1 := by
  have : l.findIdx? p = none := by
    rw [List.findIdx?_eq_none_iff]
    intro x hx
    obtain ⟨j, h, rfl⟩ := List.getElem_of_mem hx
    exact hj j h
  simp [idxOf, this]
theorem idxOf_nonneg {α : Type} (p : α → Bool) (l : List α) : decide (0 ≤ idxOf p l) = l.any p := by
  unfold idxOf
  cases h : l.findIdx? p with
  | none =>
    rw [List.findIdx?_eq_none_iff] at h
    have : l.any p = false := by rw [List.any_eq_false]; intro x hx; simp [h x hx]
    simp [this]
  | some i =>
    rw [List.findIdx?_eq_some_iff_getElem] at h
    obtain ⟨hi, hp, _⟩ := h
    have : l.any p = true := by rw [List.any_eq_true]; exact ⟨l[i], List.getElem_mem _, hp⟩
    simp [this]
end Go.Wm
