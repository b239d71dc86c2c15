/- What it is for a state of the model to read as an abstract state; how that is kept. -/
import Derived.Test.YtbeiejanhoiodaaGreatMA1
set_option linter.unusedSimpArgs false
set_option linter.unusedVariables false
namespace Go.Wt
open Go.RowKit

inductive RepV (φ : Nm → Place) (U : Nm → Bool) (w : World) (M : Nat → Prop) : Value → DV → Prop where
  | t {v : Value} {x : Tree} (h : Rep w M v x) : RepV φ U w M v (.t x)
  | agg {vs : List Value} {ds : List DV} (hl : vs.length = ds.length) (h1 : ∀ v ∈ vs, one1 v = true)
      (h : ∀ (i : Nat) (v : Value) (d : DV), vs[i]? = some v → ds[i]? = some d → RepV φ U w M v d) : RepV φ U w M (.agg vs.toArray) (.agg ds)
  | tup {vs : List Value} {ds : List DV} (hl : vs.length = ds.length)
      (h : ∀ (i : Nat) (v : Value) (d : DV), vs[i]? = some v → ds[i]? = some d → RepV φ U w M v d) : RepV φ U w M (.tuple vs.toArray) (.tup ds)
  | ptr {s : Nm} {k j : Nat} (hU : U s = true) : RepV φ U w M (.pointer (some ⟨(φ s).blk, k * (φ s).m + j, none⟩)) (.ptr s k j)
  | tp {b o j : Nat} {x : Tree} (u : Nat → Value) (hM : ¬ M b) (hb : b < w.heap.size)
      (hu : ∀ (i : Nat) (c : Tree), x.cells[i]? = some c → w.cell? ⟨b, o + i, none⟩ = some (u i))
      (h1 : ∀ (i : Nat) (c : Tree), x.cells[i]? = some c → c.one = true)
      (h : ∀ (i : Nat) (c : Tree), x.cells[i]? = some c → Rep w M (u i) c) : RepV φ U w M (.pointer (some ⟨b, o + j, none⟩)) (.tp x j)
  | osl {s : Nm} {n : Nat} {ad : Option Addr} (hU : U s = true) (hn : n ≤ (φ s).cap) (ha : 0 < (φ s).cap → ad = some ⟨(φ s).blk, 0, none⟩) : RepV φ U w M (.slice ad n (φ s).cap) (.osl s n)
  | fn {f : FuncId} {vs : List Value} {ds : List DV} (hl : vs.length = ds.length)
      (h : ∀ (i : Nat) (v : Value) (d : DV), vs[i]? = some v → ds[i]? = some d → RepV φ U w M v d) : RepV φ U w M (.func (.func f) #[] vs.toArray) (.fn f ds)
  | mfn {f : FuncId} {us vs : List Value} {cs ds : List DV} (hl0 : us.length = cs.length) (hl : vs.length = ds.length)
      (h0 : ∀ (i : Nat) (v : Value) (d : DV), us[i]? = some v → cs[i]? = some d → RepV φ U w M v d)
      (h : ∀ (i : Nat) (v : Value) (d : DV), vs[i]? = some v → ds[i]? = some d → RepV φ U w M v d) : RepV φ U w M (.func (.func f) us.toArray vs.toArray) (.mfn f cs ds)
  | mp {s : Nm} (hU : U s = true) : RepV φ U w M (.map (some (φ s).blk)) (.mp s)
  | yl (hU : U .yl = true) : RepV φ U w M (.func (.yield (φ .yl).blk) #[] #[]) .yl
  | wh {b want : Bool} {v : Value} {d : DV} (h : b = want → RepV φ U w M v d) : RepV φ U w M v (.wh b want d)
  | junk {v : Value} : RepV φ U w M v .junk

theorem RepV.mono {φ φ' : Nm → Place} {U U' : Nm → Bool} {w w' : World} {M M' : Nat → Prop} {v : Value} {d : DV} (h : RepV φ U w M v d)
    (hs : w.heap.size ≤ w'.heap.size) (hw : ∀ b, b < w.heap.size → ¬ M b → w'.heap[b]? = w.heap[b]? ∧ ¬ M' b)
    (hU : ∀ s, U s = true → U' s = true ∧ φ' s = φ s) : RepV φ' U' w' M' v d := by
  induction h with
  | t h => exact .t (h.mono hs hw)
  | agg hl h1 _ ih => exact .agg hl h1 fun i v d hv hd => ih i v d hv hd
  | tup hl _ ih => exact .tup hl fun i v d hv hd => ih i v d hv hd
  | ptr h => obtain ⟨h1, h2⟩ := hU _ h; rw [← h2]; exact .ptr h1
  | tp u hM hb hu h1 h =>
    refine .tp u (hw _ hb hM).2 (by omega) ?_ h1 (fun i c hc => (h i c hc).mono hs hw)
    intro i c hc
    have := hu i c hc
    unfold World.cell? at *
    rw [(hw _ hb hM).1]
    exact this
  | osl h hn ha => obtain ⟨h1, h2⟩ := hU _ h; rw [← h2]; exact .osl h1 (by rw [h2]; exact hn) (by rw [h2]; exact ha)
  | fn hl _ ih => exact .fn hl fun i v d hv hd => ih i v d hv hd
  | mfn hl0 hl _ _ ih0 ih => exact .mfn hl0 hl (fun i v d hv hd => ih0 i v d hv hd) fun i v d hv hd => ih i v d hv hd
  | mp h => obtain ⟨h1, h2⟩ := hU _ h; rw [← h2]; exact .mp h1
  | yl h => obtain ⟨h1, h2⟩ := hU _ h; rw [← h2]; exact .yl h1
  | wh _ ih => exact .wh fun e => ih e
  | junk => exact .junk

theorem RepV.one {φ : Nm → Place} {U : Nm → Bool} {w : World} {M : Nat → Prop} {v : Value} {d : DV} (h : RepV φ U w M v d) (hd : d.one = true) : one1 v = true := by
  cases h <;> simp [DV.one] at hd <;> first | rfl | (rename_i h; rw [h.one]; exact hd)

/-- A block reads as this. -/
def BlockRep (φ : Nm → Place) (U : Nm → Bool) (M : Nat → Prop) (w : World) (pl : Place) : Row → Prop
  | .box e d _ => ∃ cs : List Value, w.heap[pl.blk]? = some (.cells cs.toArray e (0, 0)) ∧ cs.length = d.cells.length ∧ (∀ v ∈ cs, one1 v = true) ∧
      ∀ (i : Nat) (v : Value) (x : DV), cs[i]? = some v → d.cells[i]? = some x → RepV φ U w M v x
  | .rows e m l _ => (pl.cap = 0 ∧ l = [] ∧ pl.m = m ∧ 0 < m) ∨ ∃ cs : List Value, 0 < pl.cap ∧ w.heap[pl.blk]? = some (.cells cs.toArray e (0, 0)) ∧ pl.m = m ∧ 0 < m ∧ cs.length = pl.cap * m ∧ l.length ≤ pl.cap ∧ pl.cap ≤ maxLen ∧
      (∀ t ∈ l, t.cells.length = m) ∧
      ∀ (k : Nat) (t : Tree) (j : Nat) (c : Tree), l[k]? = some t → t.cells[j]? = some c → c.one = true ∧ ∃ v, cs[k * m + j]? = some v ∧ Rep w M v c

  | .obj (.mp es c) _ => ∃ ents : Array MapEntry, w.heap[pl.blk]? = some (.map ents c) ∧ ents.size = es.length ∧
      ∀ (i : Nat) (e : MapEntry) (x : Value × DV × Nat), ents[i]? = some e → es[i]? = some x → e.key = x.1 ∧ e.born = x.2.2 ∧ RepV φ U w M e.val x.2.1
  | .obj (.it s pos) _ => w.heap[pl.blk]? = some (.stringIter s pos)
  | .obj .dfr _ => False

/-- A row of capacity 0 has no block. -/
def Row.real : Row → Place → Bool
  | .box _ _ _, _ => true
  | .obj _ _, _ => true
  | .rows _ _ _ _, pl => decide (0 < pl.cap)
theorem BlockRep.lt {φ : Nm → Place} {U : Nm → Bool} {M : Nat → Prop} {w : World} {pl : Place} {r : Row} (h : BlockRep φ U M w pl r) (hr : r.real pl = true) : pl.blk < w.heap.size := by
  cases r with
  | box e d fz => obtain ⟨cs, h, _⟩ := h; exact (Array.getElem?_eq_some_iff.1 h).1
  | rows e m l fz =>
    simp [Row.real] at hr
    rcases h with ⟨h, _⟩ | ⟨cs, _, h, _⟩
    · omega
    · exact (Array.getElem?_eq_some_iff.1 h).1
  | obj o fz =>
    cases o with
    | mp es c => obtain ⟨ents, h, _⟩ := h; exact (Array.getElem?_eq_some_iff.1 h).1
    | it s p => exact (Array.getElem?_eq_some_iff.1 h).1
    | dfr => exact h.elim
/-- No row is a list of deferred calls that is kept aside. -/
theorem BlockRep.nodf {φ : Nm → Place} {U : Nm → Bool} {M : Nat → Prop} {w : World} {pl : Place} {r : Row} (h : BlockRep φ U M w pl r) (hr : r.real pl = true) : w.heap[pl.blk]? ≠ some (.deferred (some [])) := by
  intro he
  cases r with
  | box e d fz => obtain ⟨cs, h, _⟩ := h; rw [he] at h; cases h
  | rows e m l fz =>
    simp [Row.real] at hr
    rcases h with ⟨h, _⟩ | ⟨cs, _, h, _⟩
    · omega
    · rw [he] at h; cases h
  | obj o fz =>
    cases o with
    | mp es c => obtain ⟨ents, h, _⟩ := h; rw [he] at h; cases h
    | it s p => have h : w.heap[pl.blk]? = some (.stringIter s p) := h; rw [he] at h; cases h
    | dfr => exact h
theorem BlockRep.mono {φ φ' : Nm → Place} {U U' : Nm → Bool} {w w' : World} {M M' : Nat → Prop} {pl : Place} {r : Row} (h : BlockRep φ U M w pl r)
    (hs : w.heap.size ≤ w'.heap.size) (hw : ∀ b, b < w.heap.size → ¬ M b → w'.heap[b]? = w.heap[b]? ∧ ¬ M' b)
    (hU : ∀ s, U s = true → U' s = true ∧ φ' s = φ s) (hb : r.real pl = true → w'.heap[pl.blk]? = w.heap[pl.blk]?) : BlockRep φ' U' M' w' pl r := by
  cases r with
  | box e d fz =>
    obtain ⟨cs, h1, h2, h0, h3⟩ := h
    exact ⟨cs, by rw [hb rfl]; exact h1, h2, h0, fun i v x hv hx => (h3 i v x hv hx).mono hs hw hU⟩
  | rows e m l fz =>
    rcases h with h | ⟨cs, hc, h1, h2, h3, h4, h5, h6, h7, h8⟩
    · exact .inl h
    · refine .inr ⟨cs, hc, by rw [hb (by simpa [Row.real] using hc)]; exact h1, h2, h3, h4, h5, h6, h7, fun k t j c hk hj => ?_⟩
      obtain ⟨h9, v, h10, h11⟩ := h8 k t j c hk hj
      exact ⟨h9, v, h10, h11.mono hs hw⟩
  | obj o fz =>
    cases o with
    | mp es c =>
      obtain ⟨ents, h1, h2, h3⟩ := h
      refine ⟨ents, by rw [hb rfl]; exact h1, h2, fun i e x he hx => ?_⟩
      obtain ⟨h4, h5, h6⟩ := h3 i e x he hx
      exact ⟨h4, h5, h6.mono hs hw hU⟩
    | it s p => exact (hb rfl).trans h
    | dfr => exact h

/-- Where a walk began: the world, the blocks of others that may still change, and those of them that this walk may change; the slots of the frame. -/
structure Ctx where
  w0 : World
  M0 : Nat → Prop
  X : Nat → Prop
  n : Nat
  pin : Nm → Place
  /-- the least block of the deferred calls that are kept aside -/
  dl : Option Nat := some 0
/-- The blocks that may still change. -/
def Mut (c : Ctx) (φ : Nm → Place) (sl : Nm → Option Row) (b : Nat) : Prop := (c.M0 b ∧ ¬ c.X b) ∨ ∃ s r, sl s = some r ∧ r.mut = true ∧ r.real (φ s) = true ∧ (φ s).blk = b
structure SimW (c : Ctx) (φ : Nm → Place) (E : Env) (w : World) : Prop where
  size : c.w0.heap.size ≤ w.heap.size
  os : w.os = c.w0.os
  tape : w.tape = c.w0.tape
  output : w.output = c.w0.output
  old : ∀ b, b < c.w0.heap.size → ¬ c.X b → w.heap[b]? = c.w0.heap[b]?
  m0 : ∀ b, c.M0 b → b < c.w0.heap.size
  row : ∀ s r, E.slots s = some r → E.used s = true ∧ BlockRep φ E.used (Mut c φ E.slots) w (φ s) r ∧ (r.real (φ s) = true → (r.mut = true → c.X (φ s).blk ∨ c.w0.heap.size ≤ (φ s).blk) ∧ (c.X (φ s).blk ∨ ¬ c.M0 (φ s).blk))
  inj : ∀ s s' r r', E.slots s = some r → E.slots s' = some r' → r.mut = true → r.real (φ s) = true → r'.real (φ s') = true → (φ s).blk = (φ s').blk → s = s'
  fix : ∀ s, s.fixed = true → E.used s = true → φ s = c.pin s
  gl : ∀ g, c.pin (.glob g) = ⟨g, 0, 0⟩
theorem SimW.glob {c : Ctx} {φ : Nm → Place} {E : Env} {w : World} (h : SimW c φ E w) (g : Nat) (hu : E.used (.glob g) = true) : φ (.glob g) = ⟨g, 0, 0⟩ := (h.fix _ rfl hu).trans (h.gl g)
structure SimA (c : Ctx) (φ : Nm → Place) (E : Env) (a : Act) (w : World) : Prop extends SimW c φ E w where
  tm : ∀ t, RepV φ E.used w (Mut c φ E.slots) (a.tmps.getD t undef) (E.tmps t)
  sz : a.tmps.size = c.n
  df : ∃ bs : List Nat, a.defers = bs.map (fun b => { target := .collected b, args := #[] }) ∧ bs.Nodup ∧ ∀ b ∈ bs, (∃ l, c.dl = some l ∧ l ≤ b) ∧ w.heap[b]? = some (.deferred (some []))

theorem SimA.put {c : Ctx} {φ : Nm → Place} {E : Env} {a : Act} {w : World} (h : SimA c φ E a w) {dst : Option Nat} {v : Value} {d : DV} (hd : dst.all (· < c.n) = true)
    (hv : RepV φ E.used w (Mut c φ E.slots) v d) : SimA c φ (E.putO dst d) (a.put dst v) w := by
  cases dst with
  | none => exact h
  | some t =>
    simp at hd
    refine { h with tm := fun u => ?_, sz := by simpa [Act.put] using h.sz }
    show RepV φ E.used w (Mut c φ E.slots) ((a.tmps.setIfInBounds t v).getD u undef) (if u = t then d else E.tmps u)
    by_cases hu : u = t
    · subst hu
      have : u < a.tmps.size := by rw [h.sz]; exact hd
      simpa [Array.getD_eq_getD_getElem?, Array.getElem?_setIfInBounds, this] using hv
    · have := h.tm u
      simp only [hu, if_false]
      simpa [Array.getD_eq_getD_getElem?, Array.getElem?_setIfInBounds, Ne.symm hu] using this
end Go.Wt
/- How a state that reads as an abstract state goes on when blocks are made and written. -/
namespace Go.Wt
open Go.RowKit
variable {c : Ctx} {φ φ' : Nm → Place} {E : Env} {a : Act} {w w' : World} {ups : List (Nm × Option Row)}

theorem upd_slots (s : Nm) : (E.upd ups).slots s = match ups.lookup s with | some r => r | none => E.slots s := rfl
theorem upd_used (s : Nm) : (E.upd ups).used s = ((ups.lookup s).isSome || E.used s) := rfl

theorem SimA.upd (h : SimA c φ E a w) (hs : w.heap.size ≤ w'.heap.size) (hos : w'.os = w.os) (htape : w'.tape = w.tape) (hout : w'.output = w.output)
    (hb : ∀ b, b < w.heap.size → w'.heap[b]? = w.heap[b]? ∨ ∃ s r, E.slots s = some r ∧ r.mut = true ∧ r.real (φ s) = true ∧ (φ s).blk = b ∧ (ups.lookup s).isSome = true)
    (hφ : ∀ s, E.used s = true → φ' s = φ s)
    (hnew : ∀ s r, ups.lookup s = some (some r) → BlockRep φ' (E.upd ups).used (Mut c φ' (E.upd ups).slots) w' (φ' s) r ∧ (r.real (φ' s) = true → (r.mut = true → c.X (φ' s).blk ∨ c.w0.heap.size ≤ (φ' s).blk) ∧ (c.X (φ' s).blk ∨ ¬ c.M0 (φ' s).blk)))
    (hinj : ∀ s s' r r', (E.upd ups).slots s = some r → (E.upd ups).slots s' = some r' → r.mut = true → r.real (φ' s) = true → r'.real (φ' s') = true → (φ' s).blk = (φ' s').blk → s = s')
    (hmut : ∀ b, b < w.heap.size → Mut c φ' (E.upd ups).slots b → Mut c φ E.slots b)
    (hglob : ∀ s, s.fixed = true → (ups.lookup s).isSome = true → E.used s = true) : SimA c φ' (E.upd ups) a w' := by
  have hw : ∀ b, b < w.heap.size → ¬ Mut c φ E.slots b → w'.heap[b]? = w.heap[b]? ∧ ¬ Mut c φ' (E.upd ups).slots b := by
    intro b hlt hM
    refine ⟨?_, fun h' => hM (hmut b hlt h')⟩
    rcases hb b hlt with h1 | ⟨s, r, h1, h2, h2', h3, _⟩
    · exact h1
    · exact absurd (.inr ⟨s, r, h1, h2, h2', h3⟩) hM
  have hU : ∀ s, E.used s = true → (E.upd ups).used s = true ∧ φ' s = φ s := fun s hu => ⟨by rw [upd_used, hu, Bool.or_true], hφ s hu⟩
  refine ⟨⟨Nat.le_trans h.size hs, hos.trans h.os, htape.trans h.tape, hout.trans h.output, ?_, h.m0, ?_, hinj, ?_, h.gl⟩, fun t => (h.tm t).mono hs hw hU, h.sz, ?_⟩
  · intro b hlt hX
    rcases hb b (Nat.lt_of_lt_of_le hlt h.size) with h1 | ⟨s, r, h1, h2, h2', h3, _⟩
    · rw [h1]; exact h.old b hlt hX
    · rcases ((h.row s r h1).2.2 h2').1 h2 with h4 | h4
      · rw [h3] at h4; exact absurd h4 hX
      · omega
  · intro s r hr
    rw [upd_slots] at hr
    cases hl : ups.lookup s with
    | some x =>
      rw [hl] at hr
      simp only at hr
      subst hr
      exact ⟨by rw [upd_used, hl]; rfl, hnew s r hl⟩
    | none =>
      rw [hl] at hr
      simp only at hr
      obtain ⟨h1, h2, h3⟩ := h.row s r hr
      have e := hφ s h1
      refine ⟨(hU s h1).1, ?_, by rw [e]; exact h3⟩
      rw [e]
      refine h2.mono hs hw hU fun hre => ?_
      rcases hb _ (h2.lt hre) with h4 | ⟨s', r', h4, h5, h5', h6, h7⟩
      · exact h4
      · have := h.inj s' s r' r h4 hr h5 h5' hre h6
        rw [this, hl] at h7
        simp at h7
  · intro s hf hg
    rw [upd_used, Bool.or_eq_true] at hg
    have hu : E.used s = true := hg.elim (hglob s hf) id
    rw [hφ _ hu]; exact h.fix s hf hu
  · obtain ⟨bs, h1, hnd, h2⟩ := h.df
    refine ⟨bs, h1, hnd, fun b hb' => ?_⟩
    obtain ⟨h30, h3⟩ := h2 b hb'
    refine ⟨h30, ?_⟩
    rcases hb b (Array.getElem?_eq_some_iff.1 h3).1 with h4 | ⟨s, r, h4, h5, h6, h7, _⟩
    · rw [h4]; exact h3
    · rw [← h7] at h3; exact absurd h3 ((h.row s r h4).2.1.nodf h6)

/-- A new block under a new name. -/
theorem SimA.new (h : SimA c φ E a w) {s : Nm} {r : Row} {pl : Place} (hu : E.used s = false) (hg : s.fixed = false)
    (hs : w.heap.size ≤ w'.heap.size) (hos : w'.os = w.os) (htape : w'.tape = w.tape) (hout : w'.output = w.output)
    (hb : ∀ b, b < w.heap.size → w'.heap[b]? = w.heap[b]?) (hpl : r.real pl = true → w.heap.size ≤ pl.blk)
    (hrow : ∀ φ' U' M', (∀ x, E.used x = true → U' x = true ∧ φ' x = φ x) → (∀ b, b < w.heap.size → ¬ Mut c φ E.slots b → ¬ M' b) → BlockRep φ' U' M' w' pl r) :
    ∃ φ', (∀ x, E.used x = true → φ' x = φ x) ∧ φ' s = pl ∧ SimA c φ' (E.upd [(s, some r)]) a w' := by
  have hlk : ∀ x, ([(s, some r)] : List (Nm × Option Row)).lookup x = if x = s then some (some r) else none := by
    intro x
    by_cases hx : x = s
    · subst hx; simp [List.lookup]
    · have hb : (x == s) = false := by simpa using hx
      simp [List.lookup, hb, hx]
  have hsl : ∀ x, (E.upd [(s, some r)]).slots x = if x = s then some r else E.slots x := by
    intro x; rw [upd_slots, hlk]; by_cases hx : x = s <;> simp [hx]
  let φ' : Nm → Place := fun x => if x = s then pl else φ x
  have hφ : ∀ x, E.used x = true → φ' x = φ x := by
    intro x hx
    have : x ≠ s := fun e => by subst e; rw [hu] at hx; simp at hx
    simp [φ', this]
  have hφs : φ' s = pl := by simp [φ']
  have hslot : ∀ x y, E.slots x = some y → x ≠ s := fun x y hxy e => by
    have := (h.row x y hxy).1; rw [e, hu] at this; simp at this
  have hmut : ∀ b, b < w.heap.size → Mut c φ' (E.upd [(s, some r)]).slots b → Mut c φ E.slots b := by
    intro b hlt hM
    rcases hM with hM | ⟨x, y, h1, h2, h2', h3⟩
    · exact .inl hM
    · rw [hsl] at h1
      by_cases hx : x = s
      · subst hx
        simp at h1
        subst h1
        rw [hφs] at h3 h2'
        have := hpl h2'
        omega
      · simp only [hx, if_false] at h1
        have e := hφ x (h.row x y h1).1
        exact .inr ⟨x, y, h1, h2, by rw [← e]; exact h2', by rw [← e]; exact h3⟩
  refine ⟨φ', hφ, hφs, h.upd hs hos htape hout (fun b hlt => .inl (hb b hlt)) hφ ?_ ?_ hmut ?_⟩
  · intro x y hxy
    rw [hlk] at hxy
    by_cases hx : x = s
    · subst hx
      simp at hxy
      subst hxy
      rw [hφs]
      refine ⟨hrow _ _ _ (fun x' hx' => ⟨by rw [upd_used, hx', Bool.or_true], hφ x' hx'⟩) (fun b hlt hM hM' => hM (hmut b hlt hM')), fun hre => ⟨fun _ => .inr (Nat.le_trans h.size (hpl hre)), .inr fun hm0 => by have := h.m0 _ hm0; have := hpl hre; have := h.size; omega⟩⟩
    · simp [hx] at hxy
  · intro x x' y y' h1 h2 hm hr1 hr2 he
    rw [hsl] at h1 h2
    by_cases hx : x = s
    · by_cases hx' : x' = s
      · rw [hx, hx']
      · simp only [hx', if_false] at h2
        simp only [hx, if_true, Option.some.injEq] at h1
        subst h1
        rw [hx, hφs] at he hr1
        have e := hφ x' (h.row x' y' h2).1
        rw [e] at he hr2
        have := (h.row x' y' h2).2.1.lt hr2
        have := hpl hr1
        omega
    · simp only [hx, if_false] at h1
      have e := hφ x (h.row x y h1).1
      rw [e] at he hr1
      by_cases hx' : x' = s
      · simp only [hx', if_true, Option.some.injEq] at h2
        subst h2
        rw [hx', hφs] at he hr2
        have := (h.row x y h1).2.1.lt hr1
        have := hpl hr2
        omega
      · simp only [hx', if_false] at h2
        have e' := hφ x' (h.row x' y' h2).1
        rw [e'] at he hr2
        exact h.inj x x' y y' h1 h2 hm hr1 hr2 he
  · intro x hf hgl
    rw [hlk] at hgl
    by_cases hx : x = s
    · subst hx; rw [hg] at hf; simp at hf
    · simp [hx] at hgl

/-- A block of one's own is written, or is not to be written any more. -/
theorem SimA.set (h : SimA c φ E a w) {s : Nm} {r r' : Row} (hsl0 : E.slots s = some r) (hm : r.mut = true) (hre : r.real (φ s) = true)
    (hs : w.heap.size = w'.heap.size) (hos : w'.os = w.os) (htape : w'.tape = w.tape) (hout : w'.output = w.output)
    (hb : ∀ b, b ≠ (φ s).blk → w'.heap[b]? = w.heap[b]?)
    (hrow : ∀ M', (∀ b, b < w.heap.size → ¬ Mut c φ E.slots b → ¬ M' b) → BlockRep φ E.used M' w' (φ s) r') :
    SimA c φ (E.upd [(s, some r')]) a w' := by
  have hlk : ∀ x, ([(s, some r')] : List (Nm × Option Row)).lookup x = if x = s then some (some r') else none := by
    intro x
    by_cases hx : x = s
    · subst hx; simp [List.lookup]
    · have hb : (x == s) = false := by simpa using hx
      simp [List.lookup, hb, hx]
  have hsl : ∀ x, (E.upd [(s, some r')]).slots x = if x = s then some r' else E.slots x := by
    intro x; rw [upd_slots, hlk]; by_cases hx : x = s <;> simp [hx]
  have hus : ∀ x, (E.upd [(s, some r')]).used x = E.used x := by
    intro x
    rw [upd_used, hlk]
    by_cases hx : x = s
    · subst hx; simp [(h.row x r hsl0).1]
    · simp [hx]
  have hmut : ∀ b, b < w.heap.size → Mut c φ (E.upd [(s, some r')]).slots b → Mut c φ E.slots b := by
    intro b hlt hM
    rcases hM with hM | ⟨x, y, h1, h2, h2', h3⟩
    · exact .inl hM
    · rw [hsl] at h1
      by_cases hx : x = s
      · subst hx; exact .inr ⟨x, r, hsl0, hm, hre, h3⟩
      · simp only [hx, if_false] at h1
        exact .inr ⟨x, y, h1, h2, h2', h3⟩
  refine h.upd (by omega) hos htape hout ?_ (fun _ _ => rfl) ?_ ?_ hmut ?_
  · intro b _
    by_cases hbs : b = (φ s).blk
    · exact .inr ⟨s, r, hsl0, hm, hre, hbs.symm, by rw [hlk]; simp⟩
    · exact .inl (hb b hbs)
  · intro x y hxy
    rw [hlk] at hxy
    by_cases hx : x = s
    · subst hx
      simp at hxy
      subst hxy
      refine ⟨?_, fun _ => ⟨fun _ => ((h.row x r hsl0).2.2 hre).1 hm, ((h.row x r hsl0).2.2 hre).2⟩⟩
      have : (E.upd [(x, some r')]).used = E.used := funext hus
      rw [this]
      exact hrow _ fun b hlt hM hM' => hM (hmut b hlt hM')
    · simp [hx] at hxy
  · intro x x' y y' h1 h2 hm' hr1 hr2 he
    rw [hsl] at h1 h2
    by_cases hx : x = s
    · by_cases hx' : x' = s
      · rw [hx, hx']
      · simp only [hx', if_false] at h2
        subst hx
        exact h.inj x x' r y' hsl0 h2 hm hre hr2 he
    · simp only [hx, if_false] at h1
      by_cases hx' : x' = s
      · subst hx'
        exact h.inj x x' y r h1 hsl0 hm' hr1 hre he
      · simp only [hx', if_false] at h2
        exact h.inj x x' y y' h1 h2 hm' hr1 hr2 he
  · intro x hf hgl
    rw [hlk] at hgl
    by_cases hx : x = s
    · rw [hx]; exact (h.row s r hsl0).1
    · simp [hx] at hgl
end Go.Wt
/- Each operation that only makes a value does what is told of trees. -/
namespace Go.Wt
open Go.RowKit
variable {P : Program} {c : Ctx} {φ : Nm → Place} {E : Env} {a : Act} {w : World} {o : Oper}
/-- The operation leaves a state that reads as this. -/
def Sound (P : Program) (c : Ctx) (E : Env) (a : Act) (w : World) (o : Oper) (r : Res) : Prop :=
  ∃ v w', ((execOp a.eval o).run P w = .ok (.value v) w' ∨ ((execOp a.eval o).run P w = .ok .skip w' ∧ v = undef)) ∧ ∃ φ', SimA c φ' (r.apply o.dst E) (a.put o.dst v) w'
theorem sound_val {v : Value} {d : DV} {rd : List Nm} (h : SimA c φ E a w) (hd : o.dst.all (· < c.n) = true) (hrun : (execOp a.eval o).run P w = .ok (.value v) w)
    (hv : RepV φ E.used w (Mut c φ E.slots) v d) : Sound P c E a w o ⟨d, rd, []⟩ := ⟨v, w, .inl hrun, φ, h.put hd hv⟩
theorem sound_opt {x : Option DV} {r : Res} (hx : opt x = some r) : ∃ d, x = some d ∧ r = ⟨d, [], []⟩ := by
  cases x with
  | none => simp [opt] at hx
  | some d => simp [opt, val] at hx; exact ⟨d, rfl, hx.symm⟩

theorem rep_ofVal1 {M : Nat → Prop} {v : Value} {t : Tree} (h : Tree.ofVal1 v = some t) : Rep w M v t ∧ t.one = true := by
  unfold Tree.ofVal1 at h
  split at h
  · simp at h; subst h; exact ⟨.e0, rfl⟩
  · split at h
    · rename_i hp
      simp at h; subst h; exact ⟨.v hp, rfl⟩
    · simp at h
theorem mapM_some {α β : Type} {f : α → Option β} : ∀ {l : List α} {m : List β}, l.mapM f = some m → l.length = m.length ∧ ∀ (i : Nat) (x : α) (y : β), l[i]? = some x → m[i]? = some y → f x = some y
  | [], m, h => by simp at h; subst h; simp
  | x :: l, m, h => by
    simp only [List.mapM_cons, Option.pure_def, Option.bind_eq_bind] at h
    cases hx : f x with
    | none => simp [hx] at h
    | some y =>
      cases hl : l.mapM f with
      | none => simp [hx, hl] at h
      | some m' =>
        simp [hx, hl] at h
        subst h
        obtain ⟨h1, h2⟩ := mapM_some hl
        refine ⟨by simp [h1], fun i x' y' hi hj => ?_⟩
        cases i with
        | zero => simp at hi hj; subst hi; subst hj; exact hx
        | succ i => exact h2 i x' y' (by simpa using hi) (by simpa using hj)
theorem rep_ofVal {M : Nat → Prop} {v : Value} {t : Tree} (h : Tree.ofVal v = some t) : Rep w M v t := by
  unfold Tree.ofVal at h
  split at h
  · rename_i cs
    cases hm : cs.toList.mapM Tree.ofVal1 with
    | none => simp [hm] at h
    | some l =>
      simp [hm] at h
      subst h
      obtain ⟨h1, h2⟩ := mapM_some hm
      have e : cs = cs.toList.toArray := by simp
      rw [e]
      refine .agg h1 (fun t ht => ?_) (fun i v t hv ht => (rep_ofVal1 (h2 i v t hv ht)).1)
      obtain ⟨i, hi, rfl⟩ := List.getElem_of_mem ht
      have hi' : i < cs.toList.length := by omega
      exact (rep_ofVal1 (w := w) (M := M) (h2 i _ _ (List.getElem?_eq_getElem hi') (List.getElem?_eq_getElem hi))).2
  · exact (rep_ofVal1 h).1
theorem SimA.ev (h : SimA c φ E a w) (x : Operand) : RepV φ E.used w (Mut c φ E.slots) (a.eval x) (E.ev x) := by
  cases x with
  | tmp t => exact h.tm t
  | const v =>
    show RepV φ E.used w _ v (ofVal v)
    unfold ofVal
    cases ht : Tree.ofVal v with
    | none => exact .junk
    | some t => exact .t (rep_ofVal ht)
  | global g =>
    show RepV φ E.used w _ (.pointer (some ⟨g, 0, none⟩)) (if E.used (.glob g) = true then .ptr (.glob g) 0 0 else .junk)
    by_cases hg : E.used (.glob g) = true
    · rw [if_pos hg]
      have := RepV.ptr (φ := φ) (w := w) (M := Mut c φ E.slots) (s := .glob g) (k := 0) (j := 0) hg
      rw [h.glob g hg] at this
      simpa using this
    · rw [if_neg hg]; exact .junk
  | func f =>
    show RepV φ E.used w _ (.func (.func f) #[] #[]) (.fn f [])
    exact RepV.fn (vs := []) rfl (fun i v d hv => by simp at hv)

section inv
variable {U : Nm → Bool} {M : Nat → Prop} {v : Value}
theorem RepV.v_inv {x : Value} (h : RepV φ U w M v (.t (.v x))) : v = x ∧ plain x = true := by
  cases h with | t h => cases h with | v h => exact ⟨rfl, h⟩
theorem RepV.e0_inv (h : RepV φ U w M v (.t .e0)) : ∃ a, v = .slice a 0 0 := by
  cases h with | t h => cases h with | e0 => exact ⟨_, rfl⟩
theorem RepV.ptr_inv {s : Nm} {k j : Nat} (h : RepV φ U w M v (.ptr s k j)) : v = .pointer (some ⟨(φ s).blk, k * (φ s).m + j, none⟩) ∧ U s = true := by
  cases h with | ptr h => exact ⟨rfl, h⟩
theorem RepV.osl_inv {s : Nm} {n : Nat} (h : RepV φ U w M v (.osl s n)) : ∃ ad, v = .slice ad n (φ s).cap ∧ U s = true ∧ n ≤ (φ s).cap ∧ (0 < (φ s).cap → ad = some ⟨(φ s).blk, 0, none⟩) := by
  cases h with | osl h hn ha => exact ⟨_, rfl, h, hn, ha⟩
theorem RepV.tup_inv {l : List DV} (h : RepV φ U w M v (.tup l)) : ∃ vs : List Value, v = .tuple vs.toArray ∧ vs.length = l.length ∧ ∀ (i : Nat) (v : Value) (d : DV), vs[i]? = some v → l[i]? = some d → RepV φ U w M v d := by
  cases h with | tup hl h => exact ⟨_, rfl, hl, h⟩
theorem RepV.sl_inv {m : Nat} {l : List Tree} (h : RepV φ U w M v (.t (.sl m l))) : ∃ a cap, v = .slice a l.length cap ∧ Rep w M v (.sl m l) ∧ cap ≤ maxLen := by
  cases h with | t h => cases h with
    | sl0 hc => exact ⟨_, _, rfl, .sl0 hc, hc⟩
    | sl u hM hb hn hc hm hu h1 h => exact ⟨_, _, rfl, .sl u hM hb hn hc hm hu h1 h, hc⟩
/-- The cells of an aggregate. -/
theorem RepV.agg_inv {d : DV} (h : RepV φ U w M v d) (hd : d.isAgg = true) : ∃ vs : List Value, v = .agg vs.toArray ∧ vs.length = d.cells.length ∧ (∀ u ∈ vs, one1 u = true) ∧
    ∀ (i : Nat) (u : Value) (x : DV), vs[i]? = some u → d.cells[i]? = some x → RepV φ U w M u x := by
  cases h with
  | t h =>
    cases h with
    | agg hl h1 h =>
      rename_i vs ts
      refine ⟨vs, rfl, by simp [DV.cells, hl], ?_, fun i u x hu hx => ?_⟩
      · intro u hu
        obtain ⟨i, hi, rfl⟩ := List.getElem_of_mem hu
        have hi' : i < ts.length := by omega
        rw [(h i _ _ (List.getElem?_eq_getElem hi) (List.getElem?_eq_getElem hi')).one]
        exact h1 _ (List.getElem_mem hi')
      · simp only [DV.cells, List.getElem?_map, Option.map_eq_some_iff] at hx
        obtain ⟨t, ht, rfl⟩ := hx
        exact .t (h i u t hu ht)
    | _ => simp [DV.isAgg] at hd
  | agg hl h1 h => exact ⟨_, rfl, hl, h1, h⟩
  | _ => simp [DV.isAgg] at hd
/-- An aggregate of cells that read so. -/
theorem RepV.mk_agg {vs : List Value} {ds : List DV} (hl : vs.length = ds.length) (h1 : ∀ u ∈ vs, one1 u = true)
    (h : ∀ (i : Nat) (u : Value) (x : DV), vs[i]? = some u → ds[i]? = some x → RepV φ U w M u x) : RepV φ U w M (.agg vs.toArray) (.agg ds) := .agg hl h1 h
theorem RepV.mk_tagg {vs : List Value} {ts : List Tree} (hl : vs.length = ts.length) (h1 : ∀ u ∈ vs, one1 u = true)
    (h : ∀ (i : Nat) (u : Value) (x : Tree), vs[i]? = some u → ts[i]? = some x → RepV φ U w M u (.t x)) : RepV φ U w M (.agg vs.toArray) (.t (.agg ts)) := by
  have h' : ∀ (i : Nat) (u : Value) (x : Tree), vs[i]? = some u → ts[i]? = some x → Rep w M u x := fun i u x hu hx => by
    have := h i u x hu hx; cases this with | t h => exact h
  refine .t (.agg hl (fun t ht => ?_) h')
  obtain ⟨i, hi, rfl⟩ := List.getElem_of_mem ht
  have hi' : i < vs.length := by omega
  rw [← (h' i _ _ (List.getElem?_eq_getElem hi') (List.getElem?_eq_getElem hi)).one]
  exact h1 _ (List.getElem_mem hi')
/-- Cells of an aggregate, one behind the other, that read as its cells, make it. -/
theorem RepV.of_cells {vs : List Value} {d : DV} (hd : d.isAgg = true) (hl : vs.length = d.cells.length) (h1 : ∀ u ∈ vs, one1 u = true)
    (h : ∀ (i : Nat) (u : Value) (x : DV), vs[i]? = some u → d.cells[i]? = some x → RepV φ U w M u x) : RepV φ U w M (.agg vs.toArray) d := by
  cases d with
  | t x =>
    cases x with
    | agg l =>
      refine .mk_tagg (by simpa [DV.cells] using hl) h1 fun i u x hu hx => h i u (.t x) hu ?_
      simp [DV.cells, hx]
    | _ => simp [DV.isAgg] at hd
  | agg l => exact .agg hl h1 h
  | _ => simp [DV.isAgg] at hd
/-- A part of cells, as a part is read. -/
theorem rep_part {vs : List Value} {d y : DV} {off n : Nat} (hl : vs.length = d.cells.length) (h1 : ∀ u ∈ vs, one1 u = true)
    (h : ∀ (i : Nat) (u : Value) (x : DV), vs[i]? = some u → d.cells[i]? = some x → RepV φ U w M u x) (hy : d.part off n true = some y) :
    off + n ≤ vs.length ∧ RepV φ U w M (.agg ((vs.drop off).take n).toArray) y := by
  unfold DV.part at hy
  simp only [if_true] at hy
  split at hy
  · simp at hy
  · rename_i hag
    simp at hag
    split at hy
    · rename_i h0
      obtain ⟨rfl, rfl⟩ := h0
      simp at hy
      subst hy
      refine ⟨by omega, ?_⟩
      have e : (vs.drop 0).take d.cells.length = vs := by rw [List.drop_zero, ← hl, List.take_length]
      rw [e]
      exact .of_cells hag hl h1 h
    · split at hy
      · rename_i hle
        refine ⟨by omega, ?_⟩
        have hlen : ((vs.drop off).take n).length = n := by simp; omega
        have hone : ∀ u ∈ (vs.drop off).take n, one1 u = true := fun u hu => h1 u (List.mem_of_mem_drop (List.mem_of_mem_take hu))
        have hget : ∀ (i : Nat) (u : Value), ((vs.drop off).take n)[i]? = some u → i < n ∧ vs[off + i]? = some u := by
          intro i u hu
          rw [List.getElem?_take] at hu
          split at hu
          · rename_i hin; rw [List.getElem?_drop] at hu; exact ⟨hin, hu⟩
          · simp at hu
        split at hy
        · rename_i l
          simp at hy
          subst hy
          simp only [DV.cells, List.length_map] at hle hl
          refine .mk_tagg (by rw [hlen]; simp; omega) hone fun i u x hu hx => ?_
          obtain ⟨hin, hu⟩ := hget i u hu
          rw [List.getElem?_take, if_pos hin, List.getElem?_drop] at hx
          exact h (off + i) u (.t x) hu (by simp [DV.cells, hx])
        · simp at hy
          subst hy
          refine .agg (by rw [hlen]; simp; omega) hone fun i u x hu hx => ?_
          obtain ⟨hin, hu⟩ := hget i u hu
          rw [List.getElem?_take, if_pos hin, List.getElem?_drop] at hx
          exact h (off + i) u x hu hx
      · simp at hy
theorem rep_part1 {vs : List Value} {d y : DV} {off n : Nat} (hl : vs.length = d.cells.length)
    (h : ∀ (i : Nat) (u : Value) (x : DV), vs[i]? = some u → d.cells[i]? = some x → RepV φ U w M u x) (hy : d.part off n false = some y) :
    ∃ u, vs[off]? = some u ∧ RepV φ U w M u y := by
  unfold DV.part at hy
  simp at hy
  have hlt : off < d.cells.length := (List.getElem?_eq_some_iff.1 hy).1
  exact ⟨vs[off]'(by omega), List.getElem?_eq_getElem (by omega), h off _ y (List.getElem?_eq_getElem (by omega)) hy⟩
end inv
end Go.Wt
/- Each operation of the model does what is told of trees: those that only make a value. -/
namespace Go.Wt
open Go.RowKit
variable {P : Program} {c : Ctx} {φ : Nm → Place} {E : Env} {a : Act} {w : World} {dst : Option Nat} {ty : TypeId} {pos : String} {after : Array Edge} {g : Option (Nat × Bool)} {r : Res}
theorem szT_spec {t : TypeId} {n : Nat} (h : szT P t = some n) : ∃ i d, P.info? t = some i ∧ i.size = n ∧ P.underlying t = some d := by
  unfold szT at h
  split at h
  · rename_i hu
    obtain ⟨d, hd⟩ := Option.isSome_iff_exists.1 hu
    cases hi : P.info? t with
    | none => simp [hi] at h
    | some i => simp [hi] at h; exact ⟨i, d, rfl, h, hd⟩
  · simp at h
theorem run_sizeOf' {t : TypeId} {n : Nat} (h : szT P t = some n) (w : World) : (sizeOf t).run P w = .ok n w := by
  obtain ⟨i, d, h1, h2, _⟩ := szT_spec h
  simp [sizeOf, typeInfo, h1, h2]
theorem run_isAgg' {t : TypeId} {n : Nat} (h : szT P t = some n) (w : World) : (isAgg t).run P w = .ok (aggT P t) w := by
  obtain ⟨i, d, _, _, h3⟩ := szT_spec h
  simp only [isAgg, aggT, h3, Sem.run_bind, run_underlying h3, Result.andThen_ok]
  cases d <;> rfl
theorem extract_list (vs : List Value) (off n : Nat) : vs.toArray.extract off (off + n) = ((vs.drop off).take n).toArray := by
  apply Array.ext'
  simp [List.extract_eq_take_drop]
theorem run_part' {t : TypeId} {n : Nat} (h : szT P t = some n) (vs : List Value) (off : Nat) {u : Value} (w : World)
    (hu : if aggT P t = true then u = .agg ((vs.drop off).take n).toArray else vs[off]? = some u) : (part t vs.toArray off).run P w = .ok u w := by
  unfold part
  simp only [Sem.run_bind, run_isAgg' h, Result.andThen_ok]
  by_cases ha : aggT P t = true
  · rw [if_pos ha] at hu
    simp only [ha, if_true, Sem.run_bind, run_sizeOf' h, Result.andThen_ok, Sem.run_pure, extract_list, hu]
  · rw [if_neg ha] at hu
    simp [ha, hu]
theorem fieldT_spec {t : TypeId} {f : Nat} {fd : Field} (h : fieldT P t f = some fd) : ∃ fs, P.underlying t = some (.struct fs) ∧ fs[f]? = some fd := by
  unfold fieldT at h
  split at h
  · rename_i fs hfs; exact ⟨fs, hfs, h⟩
  · simp at h

theorem rep_mux {b : Bool} {x y : DV} {v : Value} {U : Nm → Bool} {M : Nat → Prop} (hm : RepV φ U w M v (bif b then x else y)) : RepV φ U w M v (dMux b x y) := by
  unfold dMux
  split
  · cases b <;> simpa using hm
  · split
    · rename_i hk
      cases hk
      cases b <;> simpa using hm
    · exact hm
  · exact hm
theorem RepV.flat_inv {U : Nm → Bool} {M : Nat → Prop} {v u : Value} {d : DV} (hv : RepV φ U w M v d) (hd : d.flat? = some u) : v = u := by
  unfold DV.flat? at hd
  split at hd
  · simp at hd; rw [← hd]; exact hv.v_inv.1
  · rename_i l
    simp only [Option.map_eq_some_iff] at hd
    obtain ⟨us, h1, rfl⟩ := hd
    obtain ⟨h2, h3⟩ := mapM_some h1
    cases hv with
    | t hv =>
      cases hv with
      | agg hl ho hp =>
        rename_i vs
        congr 2
        refine List.ext_getElem (by omega) fun i h4 h5 => ?_
        have h6 := h3 i l[i] us[i] (List.getElem?_eq_getElem (by omega)) (List.getElem?_eq_getElem h5)
        have h7 := hp i vs[i] l[i] (List.getElem?_eq_getElem h4) (List.getElem?_eq_getElem (by omega))
        generalize l[i] = x at h6 h7
        cases x <;> simp [Tree.val1?] at h6
        rw [← h6]
        exact (RepV.t (φ := φ) (U := U) h7).v_inv.1
  · simp at hd
section ops
variable (h : SimA c φ E a w) (hd : dst.all (· < c.n) = true)
include h hd
theorem s_mv {x : Operand} {op : Op} (hop : op = .move x ∨ op = .assign x) (hr : (SOp.mv x).den P E dst = some r) : Sound P c E a w ⟨dst, op, ty, pos, after, g⟩ r := by
  simp only [SOp.den, val, Option.some.injEq] at hr
  subst hr
  refine sound_val h hd (v := a.eval x) ?_ (h.ev x)
  rcases hop with rfl | rfl <;> rfl
theorem s_nilc {x : Operand} (hr : (SOp.nilc x).den P E dst = some r) : Sound P c E a w ⟨dst, .nilCheck x, ty, pos, after, g⟩ r := by
  have hx := h.ev x
  simp only [SOp.den] at hr
  split at hr
  · rename_i s k j he
    simp only [val, Option.some.injEq] at hr
    subst hr
    rw [he] at hx
    obtain ⟨hv, _⟩ := hx.ptr_inv
    exact sound_val h hd (v := a.eval x) (by simp [execOp, hv]) hx
  · rename_i y j he
    simp only [val, Option.some.injEq] at hr
    subst hr
    rw [he] at hx
    generalize hv : a.eval x = v at hx
    cases hx with
    | tp u hM hb hu h1 h2 => exact sound_val h hd (by simp [execOp, hv]) (.tp u hM hb hu h1 h2)
  · rename_i f l he
    simp only [val, Option.some.injEq] at hr
    subst hr
    rw [he] at hx
    generalize hv : a.eval x = v at hx
    cases hx with
    | fn hl h2 => exact sound_val h hd (by simp [execOp, hv]) (.fn hl h2)
  · rename_i f p l he
    simp only [val, Option.some.injEq] at hr
    subst hr
    rw [he] at hx
    generalize hv : a.eval x = v at hx
    cases hx with
    | mfn hl0 hl h1 h2 => exact sound_val h hd (by simp [execOp, hv]) (.mfn hl0 hl h1 h2)
  · rename_i he
    simp only [val, Option.some.injEq] at hr
    subst hr
    rw [he] at hx
    generalize hv : a.eval x = v at hx
    cases hx with
    | yl hu => exact sound_val h hd (by simp [execOp, hv]) (.yl hu)
  · simp at hr
theorem rep_arm {b cc : Bool} {d x : DV} {v : Value} {U : Nm → Bool} {M : Nat → Prop} (hx : d.arm b cc = some x) (hb : b = cc) (hv : RepV φ U w M v d) : RepV φ U w M v x := by
  have _ := h; have _ := hd
  unfold DV.arm at hx
  split at hx
  · split at hx
    · rename_i hc
      simp at hx
      subst hx
      cases hv with | wh hw => exact hw (by rw [hc.1, hb, hc.2])
    · simp at hx
  · simp at hx; subst hx; exact hv
theorem s_pick {p x y : Operand} (hr : (SOp.pick p x y).den P E dst = some r) : Sound P c E a w ⟨dst, .pick p x y, ty, pos, after, g⟩ r := by
  have hp := h.ev p
  have hx := h.ev x
  have hy := h.ev y
  simp only [SOp.den] at hr
  unfold dPick at hr
  split at hr
  · rename_i b he
    rw [he] at hp
    obtain ⟨hv, _⟩ := hp.v_inv
    split at hr
    · rename_i x' y' hx' hy'
      simp only [val, Option.some.injEq] at hr
      subst hr
      refine sound_val h hd (v := if b = true then a.eval x else a.eval y) (by simp [execOp, hv, asBool]) ?_
      have hmain : RepV φ E.used w (Mut c φ E.slots) (if b = true then a.eval x else a.eval y) (bif b then x' else y') := by
        cases b with
        | true => simpa using rep_arm h hd hx' rfl hx
        | false => simpa using rep_arm h hd hy' rfl hy
      exact rep_mux hmain
    · simp at hr
  · simp at hr
theorem s_chk {x : Option Value} {s : Sem Value} {op : Op} (hx : x = pureRun P s) (hc : chk x = some r) (hop : ∀ w, (execOp a.eval ⟨dst, op, ty, pos, after, g⟩).run P w = (s.run P w).andThen fun v w' => .ok (.value v) w') : Sound P c E a w ⟨dst, op, ty, pos, after, g⟩ r := by
  unfold chk at hc
  split at hc
  · rename_i v
    split at hc
    · rename_i hp
      simp only [val, Option.some.injEq] at hc
      subst hc
      refine sound_val h hd (v := v) ?_ (.t (.v hp))
      rw [hop, pureRun_run hx.symm w]; rfl
    · simp at hc
  · simp at hc
omit h hd in
theorem run_eq_ptrnil {t e : TypeId} (hu : P.underlying t = some (.pointer e)) (ad : Addr) (w : World) : (Op.equal t (.pointer (some ad)) (.pointer none)).run P w = .ok false w := by
  have key : ∀ n, (Op.equalIn (n + 1) t (.pointer (some ad)) (.pointer none)).run P w = .ok false w := by
    intro n
    unfold Op.equalIn
    simp only [Sem.run_bind, run_underlying hu, Result.andThen_ok]
    rfl
  exact key (Op.maxDepth - 1)
theorem s_ptrnil {op : BinOp} {t yt : TypeId} {x y : Operand} {ad : Addr} (hp : ptrT P t = true) (hx : a.eval x = .pointer (some ad)) (hy : a.eval y = .pointer none) (hr : ((isEq op).bind fun b => val (.t (.v (.bool b)))) = some r) :
    Sound P c E a w ⟨dst, .binOp op t x y yt, ty, pos, after, g⟩ r := by
  have hu : ∃ e, P.underlying t = some (.pointer e) := by
    unfold ptrT at hp
    split at hp
    · rename_i e he; exact ⟨e, he⟩
    · simp at hp
  obtain ⟨e, hu⟩ := hu
  cases op <;> simp [isEq, val] at hr
  · subst hr
    refine sound_val h hd (v := .bool false) ?_ (.t (.v rfl))
    have := run_eq_ptrnil hu ad w
    simp only [execOp, hx, hy, eqGuard, binOp, Sem.run_bind]
    have e : ∀ (b : Bool), (Sem.run P (if b = true then (pure () : Sem Unit) else pure ()) w) = .ok () w := by intro b; cases b <;> rfl
    simp [e, this]
  · subst hr
    refine sound_val h hd (v := .bool true) ?_ (.t (.v rfl))
    have := run_eq_ptrnil hu ad w
    simp only [execOp, hx, hy, eqGuard, binOp, Sem.run_bind]
    have e : ∀ (b : Bool), (Sem.run P (if b = true then (pure () : Sem Unit) else pure ()) w) = .ok () w := by intro b; cases b <;> rfl
    simp [e, this]
theorem s_bin {op : BinOp} {t yt : TypeId} {x y : Operand} (hr : (SOp.bin op t x y).den P E dst = some r) : Sound P c E a w ⟨dst, .binOp op t x y yt, ty, pos, after, g⟩ r := by
  have hx := h.ev x
  have hy := h.ev y
  simp only [SOp.den] at hr
  unfold dBin at hr
  split at hr
  · rename_i u v hu hv
    rw [hu] at hx
    rw [hv] at hy
    refine s_chk h hd rfl hr fun w => ?_
    simp only [execOp, (hx.v_inv).1, (hy.v_inv).1, Sem.run_bind]
    cases h1 : (eqGuard op t x y u v).run P w <;> simp [Result.andThen]
  · rename_i l l' hu hv
    rw [hu] at hx
    rw [hv] at hy
    split at hr
    · rename_i u v hfu hfv
      refine s_chk h hd rfl hr fun w => ?_
      simp only [execOp, hx.flat_inv hfu, hy.flat_inv hfv, Sem.run_bind]
      cases h1 : (eqGuard op t x y u v).run P w <;> simp [Result.andThen]
    · simp at hr
  · rename_i s k j hu hv
    rw [hu] at hx
    rw [hv] at hy
    obtain ⟨h1, _⟩ := hx.ptr_inv
    split at hr
    · rename_i hp
      exact s_ptrnil h hd hp h1 hy.v_inv.1 hr
    · simp at hr
  · rename_i z j hu hv
    rw [hu] at hx
    rw [hv] at hy
    generalize hxv : a.eval x = xv at hx
    cases hx with
    | tp u hM hb hu h1 h2 =>
      split at hr
      · rename_i hp
        exact s_ptrnil h hd hp hxv hy.v_inv.1 hr
      · simp at hr
  · simp at hr
theorem s_un {op : UnOp} {t : TypeId} {x : Operand} (hr : (SOp.un op x).den P E dst = some r) : Sound P c E a w ⟨dst, .unOp op t x, ty, pos, after, g⟩ r := by
  have hx := h.ev x
  simp only [SOp.den] at hr
  unfold dUn at hr
  split at hr
  · rename_i u hu
    rw [hu] at hx
    refine s_chk h hd rfl hr fun w => ?_
    simp only [execOp, (hx.v_inv).1, Sem.run_bind]
    cases h1 : (Op.unary op u).run P w <;> simp [Result.andThen]
  · simp at hr
theorem s_conv {src d : TypeId} {k k0 : IntKind} {x : Operand} (hs : P.underlying src = some (.int k0)) (hk : P.underlying d = some (.int k)) (hr : (SOp.conv k x).den P E dst = some r) : Sound P c E a w ⟨dst, .convert src d x, ty, pos, after, g⟩ r := by
  have hx := h.ev x
  simp only [SOp.den] at hr
  unfold dConv at hr
  split at hr
  · rename_i k1 n hu
    simp only [val, Option.some.injEq] at hr
    subst hr
    rw [hu] at hx
    refine sound_val h hd (v := .int k (k.wrap n)) ?_ (.t (.v rfl))
    simp [execOp, (hx.v_inv).1, convert, run_underlying hs, run_underlying hk, Conv.intToInt]
  · simp at hr
theorem s_part {t : TypeId} {f n : Nat} {fd : Field} {x : Operand} (hf : fieldT P t f = some fd) (hn : szT P fd.type = some n) (hr : (SOp.part x fd.offset n (aggT P fd.type)).den P E dst = some r) :
    Sound P c E a w ⟨dst, .field t x f, ty, pos, after, g⟩ r := by
  have hx := h.ev x
  simp only [SOp.den] at hr
  split at hr
  · rename_i hag
    obtain ⟨y, hy, rfl⟩ := sound_opt hr
    obtain ⟨vs, hv, hl, h1, h2⟩ := hx.agg_inv hag
    obtain ⟨fs, hfs, hfd⟩ := fieldT_spec hf
    have hrun : ∀ u, (if aggT P fd.type = true then u = .agg ((vs.drop fd.offset).take n).toArray else vs[fd.offset]? = some u) → (execOp a.eval ⟨dst, .field t x f, ty, pos, after, g⟩).run P w = .ok (.value u) w := by
      intro u hu
      simp [execOp, hv, Instr.field, run_underlying hfs, hfd, asAgg, run_part' hn vs fd.offset w hu]
    by_cases ha : aggT P fd.type = true
    · rw [ha] at hy
      obtain ⟨_, hrep⟩ := rep_part hl h1 h2 hy
      exact sound_val h hd (hrun _ (by rw [if_pos ha])) hrep
    · have ha' : aggT P fd.type = false := by simpa using ha
      rw [ha'] at hy
      obtain ⟨u, hu, hrep⟩ := rep_part1 hl h2 hy
      exact sound_val h hd (hrun u (by rw [if_neg ha]; exact hu)) hrep
  · simp at hr
theorem s_aidx {t e : TypeId} {len m : Nat} {x i : Operand} (ht : P.underlying t = some (.array len e)) (hm : szT P e = some m) (hr : (SOp.aidx x i len m (aggT P e)).den P E dst = some r) :
    Sound P c E a w ⟨dst, .index t x i, ty, pos, after, g⟩ r := by
  have hx := h.ev x
  have hi := h.ev i
  simp only [SOp.den] at hr
  unfold dAidx at hr
  split at hr
  · rename_i k n hin
    rw [hin] at hi
    split at hr
    · rename_i hc
      obtain ⟨hc1, hc2, hag⟩ := hc
      obtain ⟨y, hy, rfl⟩ := sound_opt hr
      obtain ⟨vs, hv, hl, h1, h2⟩ := hx.agg_inv hag
      have hrun : ∀ u, (if aggT P e = true then u = .agg ((vs.drop (n.toNat * m)).take m).toArray else vs[n.toNat * m]? = some u) → (execOp a.eval ⟨dst, .index t x i, ty, pos, after, g⟩).run P w = .ok (.value u) w := by
        intro u hu
        simp [execOp, hv, (hi.v_inv).1, Instr.index, asIntOf, run_underlying ht, hc1, hc2, run_sizeOf' hm, run_part' hm vs _ w hu]
      by_cases ha : aggT P e = true
      · rw [ha] at hy
        obtain ⟨_, hrep⟩ := rep_part hl h1 h2 hy
        exact sound_val h hd (hrun _ (by rw [if_pos ha])) hrep
      · have ha' : aggT P e = false := by simpa using ha
        rw [ha'] at hy
        obtain ⟨u, hu, hrep⟩ := rep_part1 hl h2 hy
        exact sound_val h hd (hrun u (by rw [if_neg ha]; exact hu)) hrep
    · simp at hr
  · simp at hr
theorem s_sidx {t : TypeId} {x i : Operand} (ht : P.underlying t = some .string) (hr : (SOp.sidx x i).den P E dst = some r) :
    Sound P c E a w ⟨dst, .index t x i, ty, pos, after, g⟩ r := by
  have hx := h.ev x
  have hi := h.ev i
  simp only [SOp.den] at hr
  unfold dSidx at hr
  split at hr
  · rename_i s k n hs hin
    rw [hin] at hi
    rw [hs] at hx
    split at hr
    · rename_i hn
      split at hr
      · rename_i b hb
        simp only [val, Option.some.injEq] at hr
        subst hr
        refine sound_val h hd (v := .int .u8 b.toNat) ?_ (.t (.v rfl))
        simp only [execOp, (hx.v_inv).1, (hi.v_inv).1, Instr.index, asIntOf, Sem.run_bind, Sem.run_pure, Result.andThen_ok, run_underlying ht]
        simp [hn, hb]
      · simp at hr
    · simp at hr
  · simp at hr
theorem s_ext {x : Operand} {i : Nat} (hr : (SOp.ext x i).den P E dst = some r) : Sound P c E a w ⟨dst, .extract x i, ty, pos, after, g⟩ r := by
  have hx := h.ev x
  simp only [SOp.den] at hr
  unfold dExt at hr
  split at hr
  · rename_i l hl
    rw [hl] at hx
    obtain ⟨y, hy, rfl⟩ := sound_opt hr
    obtain ⟨vs, hv, hlen, h2⟩ := hx.tup_inv
    have hlt : i < l.length := (List.getElem?_eq_some_iff.1 hy).1
    have hu : vs[i]? = some (vs[i]'(by omega)) := List.getElem?_eq_getElem (by omega)
    exact sound_val h hd (v := vs[i]'(by omega)) (by simp [execOp, hv, Instr.extract, hu]) (h2 i _ y hu hy)
  · simp at hr
end ops
end Go.Wt
/- Addresses, parts of slices and strings, lengths, closures. -/
namespace Go.Wt
open Go.RowKit
variable {P : Program} {c : Ctx} {φ : Nm → Place} {E : Env} {a : Act} {w : World} {dst : Option Nat} {ty : TypeId} {pos : String} {after : Array Edge} {g : Option (Nat × Bool)} {r : Res}
theorem addr_add' (b o j : Nat) : (⟨b, o, none⟩ : Addr).add j = ⟨b, o + j, none⟩ := by simp only [Addr.add]; split <;> simp_all
section ops
variable (h : SimA c φ E a w) (hd : dst.all (· < c.n) = true)
include h hd
theorem s_fld {t : TypeId} {f n : Nat} {fd : Field} {x : Operand} (hf : fieldT P t f = some fd) (hn : szT P fd.type = some n) (h0 : n ≠ 0) (hr : (SOp.fld x fd.offset).den P E dst = some r) :
    Sound P c E a w ⟨dst, .fieldAddr t x f, ty, pos, after, g⟩ r := by
  have hx := h.ev x
  simp only [SOp.den] at hr
  obtain ⟨fs, hfs, hfd⟩ := fieldT_spec hf
  have hrun : ∀ b o, a.eval x = .pointer (some ⟨b, o, none⟩) → (execOp a.eval ⟨dst, .fieldAddr t x f, ty, pos, after, g⟩).run P w = .ok (.value (.pointer (some ⟨b, o + fd.offset, none⟩))) w := by
    intro b o hv
    simp [execOp, hv, Instr.fieldAt, run_underlying hfs, hfd, Instr.sureAddr, fieldPlace, run_sizeOf' hn, h0, addr_add']
  unfold dFld at hr
  split at hr
  · rename_i s k j he
    simp only [val, Option.some.injEq] at hr
    subst hr
    rw [he] at hx
    obtain ⟨hv, hU⟩ := hx.ptr_inv
    exact sound_val h hd (hrun _ _ hv) (by rw [Nat.add_assoc]; exact .ptr hU)
  · rename_i y j he
    simp only [val, Option.some.injEq] at hr
    subst hr
    rw [he] at hx
    generalize hv : a.eval x = v at hx
    cases hx with
    | tp u hM hb hu h1 h2 => exact sound_val h hd (hrun _ _ hv) (by rw [Nat.add_assoc]; exact .tp u hM hb hu h1 h2)
  · simp at hr
theorem s_aadr {t e : TypeId} {len m : Nat} {x i : Operand} (ht : P.underlying t = some (.array len e)) (hm : szT P e = some m) (hr : (SOp.aadr x i len m).den P E dst = some r) :
    Sound P c E a w ⟨dst, .indexAddr t x i, ty, pos, after, g⟩ r := by
  have hx := h.ev x
  have hi := h.ev i
  simp only [SOp.den] at hr
  unfold dAadr at hr
  split at hr
  · rename_i s k j κ n hs hin
    rw [hin] at hi
    rw [hs] at hx
    split at hr
    · rename_i hc
      obtain ⟨hc1, hc2⟩ := hc
      simp only [val, Option.some.injEq] at hr
      subst hr
      obtain ⟨hv, hU⟩ := hx.ptr_inv
      refine sound_val h hd (v := .pointer (some ⟨(φ s).blk, k * (φ s).m + j + n.toNat * m, none⟩)) ?_ (by rw [Nat.add_assoc]; exact .ptr hU)
      simp [execOp, hv, (hi.v_inv).1, Instr.indexAt, asIntOf, run_underlying ht, Instr.sureAddr, hc1, hc2, run_sizeOf' hm, addr_add']
    · simp at hr
  · simp at hr
theorem s_eadr {t e : TypeId} {m : Nat} {x i : Operand} (ht : P.underlying t = some (.slice e)) (hm : szT P e = some m) (h0 : m ≠ 0) (hr : (SOp.eadr x i m).den P E dst = some r) :
    Sound P c E a w ⟨dst, .indexAddr t x i, ty, pos, after, g⟩ r := by
  have hx := h.ev x
  have hi := h.ev i
  simp only [SOp.den] at hr
  have hrun : ∀ b o len cap n κ, a.eval x = .slice (some ⟨b, o, none⟩) len cap → a.eval i = .int κ n → 0 ≤ n → n < len →
      (execOp a.eval ⟨dst, .indexAddr t x i, ty, pos, after, g⟩).run P w = .ok (.value (.pointer (some ⟨b, o + n.toNat * m, none⟩))) w := by
    intro b o len cap n κ hv hn h1 h2
    simp [execOp, hv, hn, Instr.indexAt, asIntOf, run_underlying ht, h1, h2, run_sizeOf' hm, addr_add']
  unfold dEadr at hr
  split at hr
  · rename_i s n κ iv hs hin
    rw [hin] at hi
    rw [hs] at hx
    split at hr
    · rename_i e' m' l fz hsl
      split at hr
      · rename_i hc
        obtain ⟨hc1, hc2, rfl, hc4⟩ := hc
        simp only [Option.some.injEq] at hr
        subst hr
        obtain ⟨ad, hv, hU, hncap, had⟩ := hx.osl_inv
        have hcap : 0 < (φ s).cap := by omega
        rw [had hcap] at hv
        obtain ⟨_, hB, _⟩ := h.row s _ hsl
        rcases hB with ⟨hB, _⟩ | ⟨cs, _, _, hpm, _⟩
        · omega
        have hrep : RepV φ E.used w (Mut c φ E.slots) (.pointer (some ⟨(φ s).blk, iv.toNat * (φ s).m + 0, none⟩)) (.ptr s iv.toNat 0) := .ptr hU
        refine sound_val h hd (v := .pointer (some ⟨(φ s).blk, iv.toNat * (φ s).m + 0, none⟩)) ?_ hrep
        rw [hrun _ _ _ _ _ _ hv (hi.v_inv).1 hc1 hc2, hpm]
        simp
      · simp at hr
    · simp at hr
  · rename_i m' l κ iv hs hin
    rw [hin] at hi
    rw [hs] at hx
    split at hr
    · rename_i hc
      obtain ⟨hc1, hc2, rfl⟩ := hc
      split at hr
      · rename_i y hy
        simp only [val, Option.some.injEq] at hr
        subst hr
        generalize hv : a.eval x = v at hx
        cases hx with | t hx =>
        cases hx with
        | sl0 _ => simp at hy
        | sl u hM hb hn hcap hmm hu h1 h2 =>
          refine sound_val h hd (hrun _ _ _ _ _ _ hv (hi.v_inv).1 hc1 hc2) ?_
          have := RepV.tp (φ := φ) (U := E.used) (w := w) (M := Mut c φ E.slots) (x := y) (j := 0) (u iv.toNat) hM hb (fun j cc hcc => hu iv.toNat y j cc hy hcc) (fun j cc hcc => h1 iv.toNat y j cc hy hcc) (fun j cc hcc => h2 iv.toNat y j cc hy hcc)
          simpa using this
      · simp at hr
    · simp at hr
  · simp at hr
theorem s_len {t tt : TypeId} {d : TypeDesc} {str : Bool} {x : Operand} (ht : P.underlying t = some d) (hs : if str = true then d = .string else ∃ e, d = .slice e) (hr : (SOp.len str x).den P E dst = some r) :
    Sound P c E a w ⟨dst, .call { callee := .builtin .len, args := #[x], argTypes := #[t] }, tt, pos, after, g⟩ r := by
  have hx := h.ev x
  simp only [SOp.den] at hr
  have hsl : ∀ b n cap, str = false → a.eval x = .slice b n cap → (execOp a.eval ⟨dst, .call { callee := .builtin .len, args := #[x], argTypes := #[t] }, tt, pos, after, g⟩).run P w = .ok (.value (.int .i64 n)) w := by
    intro b n cap hf hv
    rw [hf] at hs
    obtain ⟨e, rfl⟩ := by simpa using hs
    simp [execOp, resolve, invoke, builtin, Builtin.len_, hv, run_underlying ht, goInt]
  unfold dLen at hr
  split at hr
  · rename_i s he
    simp only [val, Option.some.injEq] at hr
    subst hr
    rw [he] at hx
    have hs : d = .string := by simpa using hs
    subst hs
    refine sound_val h hd (v := .int .i64 s.size) ?_ (.t (.v rfl))
    simp [execOp, resolve, invoke, builtin, Builtin.len_, (hx.v_inv).1, run_underlying ht, goInt]
  · rename_i m l he
    simp only [val, Option.some.injEq] at hr
    subst hr
    rw [he] at hx
    obtain ⟨b, cap, hv, _⟩ := hx.sl_inv
    exact sound_val h hd (hsl _ _ _ rfl hv) (.t (.v rfl))
  · rename_i he
    simp only [val, Option.some.injEq] at hr
    subst hr
    rw [he] at hx
    obtain ⟨b, hv⟩ := hx.e0_inv
    exact sound_val h hd (hsl _ _ _ rfl hv) (.t (.v rfl))
  · rename_i s n he
    simp only [val, Option.some.injEq] at hr
    subst hr
    rw [he] at hx
    obtain ⟨ad, hv, _⟩ := hx.osl_inv
    exact sound_val h hd (hsl _ _ _ rfl hv) (.t (.v rfl))
  · simp at hr
theorem s_mkfn {f : FuncId} {caps : Array Operand} (hr : (SOp.mkfn f caps.toList).den P E dst = some r) : Sound P c E a w ⟨dst, .makeFunc (.func f) #[] caps, ty, pos, after, g⟩ r := by
  simp only [SOp.den, val, Option.some.injEq] at hr
  subst hr
  have e : caps.map a.eval = (caps.toList.map a.eval).toArray := by apply Array.ext'; simp
  refine sound_val h hd (v := .func (.func f) #[] (caps.toList.map a.eval).toArray) ?_ ?_
  · simp only [execOp, Instr.makeFunc, e]; simp
  · refine .fn (by simp) fun i v d hv hd' => ?_
    simp only [List.getElem?_map, Option.map_eq_some_iff] at hv hd'
    obtain ⟨o1, h1, rfl⟩ := hv
    obtain ⟨o2, h2, rfl⟩ := hd'
    rw [h1] at h2
    cases h2
    exact h.ev o1
theorem s_mkif {t : TypeId} {d : TypeDesc} {x : Operand} (ht : P.underlying t = some d) (hi : ∀ m, d ≠ .interface m) (hr : (SOp.mkif t x).den P E dst = some r) : Sound P c E a w ⟨dst, .makeInterface t x, ty, pos, after, g⟩ r := by
  have hx := h.ev x
  simp only [SOp.den] at hr
  unfold dMkif at hr
  split at hr
  · rename_i v he
    split at hr
    · rename_i hp
      simp only [val, Option.some.injEq] at hr
      subst hr
      rw [he] at hx
      refine sound_val h hd (v := .iface t v) ?_ (.t (.v (by simpa [plain] using hp)))
      simp only [execOp, Instr.makeInterface, (hx.v_inv).1, Sem.run_bind, run_underlying ht, Result.andThen_ok]
      cases d <;> first | rfl | (exact absurd rfl (hi _))
    · simp at hr
  · simp at hr
theorem s_mm {mx : Bool} {x y : Operand} {ts : Array TypeId} {tt : TypeId} (hr : (SOp.mm mx x y).den P E dst = some r) :
    Sound P c E a w ⟨dst, .call { callee := .builtin (if mx then .max else .min), args := #[x, y], argTypes := ts }, tt, pos, after, g⟩ r := by
  have hx := h.ev x
  have hy := h.ev y
  simp only [SOp.den] at hr
  unfold dMm at hr
  split at hr
  · rename_i k u k' v hu hv
    simp only [val, Option.some.injEq] at hr
    subst hr
    rw [hu] at hx
    rw [hv] at hy
    cases mx
    · refine sound_val h hd (v := .int k (if v < u then v else u)) ?_ (.t (.v rfl))
      simp [execOp, resolve, invoke, builtin, Builtin.min_, (hx.v_inv).1, (hy.v_inv).1, Builtin.min2]
    · refine sound_val h hd (v := .int k (if u < v then v else u)) ?_ (.t (.v rfl))
      simp [execOp, resolve, invoke, builtin, Builtin.max_, (hx.v_inv).1, (hy.v_inv).1, Builtin.max2]
  · simp at hr
end ops
end Go.Wt
/- Loads, stores and new blocks. -/
namespace Go.Wt
open Go.RowKit
variable {P : Program} {c : Ctx} {φ : Nm → Place} {E : Env} {a : Act} {w : World} {dst : Option Nat} {ty : TypeId} {pos : String} {after : Array Edge} {g : Option (Nat × Bool)} {r : Res}
theorem one1_cell {v : Value} : one1 v = v.oneCell' := by cases v <;> rfl
theorem one_cells {v : Value} (h : one1 v = true) : v.cells = #[v] := by cases v <;> first | rfl | simp [one1] at h
theorem run_load_agg {t : TypeId} {n : Nat} (hn : szT P t = some n) (ha : aggT P t = true) (b o : Nat) (vs : List Value) (hl : vs.length = n) (hc : ∀ i v, vs[i]? = some v → w.cell? ⟨b, o + i, none⟩ = some v) :
    (Instr.loadAt t (.pointer (some ⟨b, o, none⟩))).run P w = .ok (.agg vs.toArray) w := by
  have hlc := run_loadCells_list (P := P) w ⟨b, o, none⟩ vs (fun j v hv => by rw [addr_add']; exact hc j v hv)
  simp only [Instr.loadAt, Instr.sureAddr, loadVar, Sem.run_bind, Sem.run_pure, Result.andThen_ok, run_isAgg' hn, ha, if_true, run_sizeOf' hn]
  rw [← hl, hlc]
  rfl
theorem run_load_one {t : TypeId} {n : Nat} (hn : szT P t = some n) (ha : aggT P t = false) (b o : Nat) {v : Value} (hc : w.cell? ⟨b, o, none⟩ = some v) :
    (Instr.loadAt t (.pointer (some ⟨b, o, none⟩))).run P w = .ok v w := by
  simp [Instr.loadAt, Instr.sureAddr, loadVar, run_isAgg' hn, ha, load, Sem.run, hc]
theorem cell_of_heap {b o : Nat} {cs : List Value} {e : TypeId} {fr : Nat × Nat} (hg : w.heap[b]? = some (.cells cs.toArray e fr)) : w.cell? ⟨b, o, none⟩ = cs[o]? := by
  simp [World.cell?, hg]
/-- What is loaded of cells that read so is what is read. -/
theorem run_load_part {U : Nm → Bool} {M : Nat → Prop} {t : TypeId} {n : Nat} (hn : szT P t = some n) (b o : Nat) (vs : List Value) (hc : ∀ i v, vs[i]? = some v → w.cell? ⟨b, o + i, none⟩ = some v)
    {d y : DV} {j : Nat} (hl : vs.length = d.cells.length) (h1 : ∀ u ∈ vs, one1 u = true)
    (hp : ∀ (i : Nat) (u : Value) (x : DV), vs[i]? = some u → d.cells[i]? = some x → RepV φ U w M u x) (hy : d.part j n (aggT P t) = some y) :
    ∃ v, (Instr.loadAt t (.pointer (some ⟨b, o + j, none⟩))).run P w = .ok v w ∧ RepV φ U w M v y := by
  by_cases ha : aggT P t = true
  · rw [ha] at hy
    obtain ⟨hle, hrep⟩ := rep_part hl h1 hp hy
    refine ⟨_, run_load_agg hn ha b (o + j) ((vs.drop j).take n) (by simp; omega) (fun i v hv => ?_), hrep⟩
    rw [List.getElem?_take] at hv
    split at hv
    · rw [List.getElem?_drop] at hv
      rw [Nat.add_assoc]; exact hc _ _ hv
    · simp at hv
  · have ha' : aggT P t = false := by simpa using ha
    rw [ha'] at hy
    obtain ⟨u, hu, hrep⟩ := rep_part1 hl hp hy
    exact ⟨u, run_load_one hn ha' b (o + j) (hc j u hu), hrep⟩
/-- The cells of an element of a row. -/
theorem row_cells {φ : Nm → Place} {U : Nm → Bool} {M : Nat → Prop} {pl : Place} {e : TypeId} {m : Nat} {l : List Tree} {fz : Bool} (hB : BlockRep φ U M w pl (.rows e m l fz)) {k : Nat} {x : Tree} (hk : l[k]? = some x) :
    ∃ vs : List Value, vs.length = x.cells.length ∧ (∀ u ∈ vs, one1 u = true) ∧ (∀ i v, vs[i]? = some v → w.cell? ⟨pl.blk, k * m + i, none⟩ = some v) ∧
      ∀ (i : Nat) (u : Value) (y : DV), vs[i]? = some u → (DV.t x).cells[i]? = some y → RepV φ U w M u y := by
  rcases hB with ⟨_, hB, _⟩ | ⟨cs, _, hg, _, _, hcs, hlc, _, hm, hr⟩
  · rw [hB] at hk; simp at hk
  have hxm : x.cells.length = m := hm x (List.mem_of_getElem? hk)
  have hcl : (DV.t x).cells = x.cells.map .t := by cases x <;> rfl
  have hget : ∀ i u, ((cs.drop (k * m)).take m)[i]? = some u → i < m ∧ cs[k * m + i]? = some u := by
    intro i u hu
    rw [List.getElem?_take] at hu
    split at hu
    · rename_i hi; rw [List.getElem?_drop] at hu; exact ⟨hi, hu⟩
    · simp at hu
  have hrep : ∀ (i : Nat) (u : Value), ((cs.drop (k * m)).take m)[i]? = some u → ∃ cc, x.cells[i]? = some cc ∧ cc.one = true ∧ Rep w M u cc := by
    intro i u hu
    obtain ⟨hi, hu⟩ := hget i u hu
    have hcc : x.cells[i]? = some (x.cells[i]'(by omega)) := List.getElem?_eq_getElem (by omega)
    obtain ⟨h1, v, hv, hR⟩ := hr k x i _ hk hcc
    rw [hu] at hv
    cases hv
    exact ⟨_, hcc, h1, hR⟩
  have hklt : k < l.length := (List.getElem?_eq_some_iff.1 hk).1
  have hfit : k * m + m ≤ cs.length := by
    rw [hcs]
    calc k * m + m = (k + 1) * m := by rw [Nat.succ_mul]
      _ ≤ pl.cap * m := Nat.mul_le_mul_right _ (by omega)
  refine ⟨(cs.drop (k * m)).take m, by simp; omega, fun u hu => ?_, fun i v hv => ?_, fun i u y hu hy => ?_⟩
  · obtain ⟨i, hi, rfl⟩ := List.getElem_of_mem hu
    obtain ⟨cc, _, h1, hR⟩ := hrep i _ (List.getElem?_eq_getElem hi)
    rw [hR.one]; exact h1
  · rw [cell_of_heap hg]; exact (hget i v hv).2
  · obtain ⟨cc, hcc, h1, hR⟩ := hrep i u hu
    rw [hcl, List.getElem?_map, hcc] at hy
    simp at hy
    subst hy
    exact .t hR
section ops
variable (h : SimA c φ E a w) (hd : dst.all (· < c.n) = true)
include h hd
theorem s_load {t : TypeId} {n : Nat} {x : Operand} (hn : szT P t = some n) (hr : (SOp.load n (aggT P t) x).den P E dst = some r) : Sound P c E a w ⟨dst, .load t x, ty, pos, after, g⟩ r := by
  have hx := h.ev x
  simp only [SOp.den] at hr
  have hfin : ∀ {b o : Nat} {v : Value} {y : DV} {rd : List Nm}, a.eval x = .pointer (some ⟨b, o, none⟩) → (Instr.loadAt t (.pointer (some ⟨b, o, none⟩))).run P w = .ok v w → RepV φ E.used w (Mut c φ E.slots) v y →
      Sound P c E a w ⟨dst, .load t x, ty, pos, after, g⟩ ⟨y, rd, []⟩ := by
    intro b o v y rd hv hrun hrep
    exact sound_val h hd (by simp [execOp, hv, hrun]) hrep
  unfold dLoad at hr
  split at hr
  · rename_i s k j he
    rw [he] at hx
    obtain ⟨hv, hU⟩ := hx.ptr_inv
    split at hr
    · rename_i e d fz hsl
      split at hr
      · rename_i hk
        subst hk
        split at hr
        · rename_i y hy
          simp only [Option.some.injEq] at hr
          subst hr
          obtain ⟨_, ⟨cs, hg, hl, h1, hp⟩, _⟩ := h.row s _ hsl
          obtain ⟨v, hrun, hrep⟩ := run_load_part (φ := φ) (U := E.used) (M := Mut c φ E.slots) hn (φ s).blk 0 cs (fun i v hv => by rw [cell_of_heap hg, Nat.zero_add]; exact hv) hl h1 hp hy
          simp only [Nat.zero_mul, Nat.zero_add] at hv hrun
          exact hfin hv hrun hrep
        · simp at hr
      · simp at hr
    · rename_i e m l fz hsl
      split at hr
      · rename_i y0 hk
        split at hr
        · rename_i y hy
          simp only [Option.some.injEq] at hr
          subst hr
          obtain ⟨_, hB, _⟩ := h.row s _ hsl
          have hpm : (φ s).m = m := by rcases hB with ⟨_, _, hpm, _⟩ | ⟨cs, _, _, hpm, _⟩ <;> exact hpm
          obtain ⟨vs, hl, h1, hc, hp⟩ := row_cells hB hk
          have hcl : (DV.t y0).cells.length = y0.cells.length := by cases y0 <;> simp [DV.cells, Tree.cells]
          obtain ⟨v, hrun, hrep⟩ := run_load_part (φ := φ) (U := E.used) (M := Mut c φ E.slots) hn (φ s).blk (k * m) vs hc (by rw [hcl]; exact hl) h1 hp hy
          rw [hpm] at hv
          exact hfin hv hrun hrep
        · simp at hr
      · simp at hr
    · simp at hr
  · rename_i y0 j he
    rw [he] at hx
    obtain ⟨y, hy, rfl⟩ := sound_opt hr
    generalize hv : a.eval x = v at hx
    cases hx with
    | tp u hM hb hu h1 h2 =>
      have hcl : (DV.t y0).cells = y0.cells.map .t := by cases y0 <;> rfl
      have hget : ∀ i v, ((List.range y0.cells.length).map u)[i]? = some v → i < y0.cells.length ∧ v = u i := by
        intro i v hv
        simp only [List.getElem?_map, Option.map_eq_some_iff] at hv
        obtain ⟨i', h1, rfl⟩ := hv
        have := List.getElem?_eq_some_iff.1 h1
        obtain ⟨h2, h3⟩ := this
        simp at h2 h3
        subst h3
        exact ⟨h2, rfl⟩
      rename_i b o
      obtain ⟨v, hrun, hrep⟩ := run_load_part (φ := φ) (U := E.used) (M := Mut c φ E.slots) hn b o ((List.range y0.cells.length).map u) (fun i v hv => by
          obtain ⟨hi, rfl⟩ := hget i v hv
          exact hu i _ (List.getElem?_eq_getElem hi)) (by rw [hcl]; simp) (fun v hv => by
          obtain ⟨i, hi, rfl⟩ := List.getElem_of_mem hv
          obtain ⟨hi', he⟩ := hget i _ (List.getElem?_eq_getElem hi)
          rw [he, (h2 i _ (List.getElem?_eq_getElem hi')).one]
          exact h1 i _ (List.getElem?_eq_getElem hi')) (fun i v z hv hz => by
          obtain ⟨hi, rfl⟩ := hget i v hv
          rw [hcl, List.getElem?_map, List.getElem?_eq_getElem hi] at hz
          simp at hz
          subst hz
          exact .t (h2 i _ (List.getElem?_eq_getElem hi))) hy
      exact hfin hv hrun hrep
  · simp at hr
end ops
/-- The cells of a value. -/
theorem RepV.cells_inv {φ : Nm → Place} {U : Nm → Bool} {M : Nat → Prop} {v : Value} {d : DV} (h : RepV φ U w M v d) (hd : d.ok1 = true) :
    v.cells.toList.length = d.cells.length ∧ (∀ u ∈ v.cells.toList, one1 u = true) ∧ ∀ (i : Nat) (u : Value) (x : DV), v.cells.toList[i]? = some u → d.cells[i]? = some x → RepV φ U w M u x := by
  by_cases hag : d.isAgg = true
  · obtain ⟨vs, rfl, hl, h1, h2⟩ := h.agg_inv hag
    exact ⟨hl, h1, h2⟩
  · have hone : one1 v = true := by
      cases d with
      | t x => cases h with | t h => rw [h.one]; cases x <;> first | rfl | simp [DV.isAgg] at hag
      | agg l => simp [DV.isAgg] at hag
      | _ => first | exact h.one (by simpa [DV.ok1] using hd) | simp [DV.ok1, DV.one] at hd
    have hcl : d.cells = [d] := by
      cases d with
      | t x => cases x <;> first | rfl | simp [DV.isAgg] at hag
      | agg l => simp [DV.isAgg] at hag
      | _ => rfl
    rw [one_cells hone, hcl]
    refine ⟨rfl, fun u hu => ?_, fun i u x hu hx => ?_⟩
    · simp at hu; subst hu; exact hone
    · cases i with
      | zero => simp at hu hx; subst hu; subst hx; exact h
      | succ i => simp at hu
theorem len_setCells {α : Type} {l new : List α} {off : Nat} (h : off + new.length ≤ l.length) : (setCells l off new).length = l.length := by
  simp [setCells]; omega
theorem get_setCells {α : Type} {l new : List α} {off : Nat} (h : off + new.length ≤ l.length) (i : Nat) :
    (setCells l off new)[i]? = if off ≤ i ∧ i < off + new.length then new[i - off]? else l[i]? := by
  unfold setCells
  rw [List.append_assoc, List.getElem?_append]
  simp only [List.length_take]
  by_cases h1 : i < off
  · rw [if_pos (by omega), if_neg (by omega), List.getElem?_take, if_pos h1]
  · rw [if_neg (by omega), List.getElem?_append]
    have e : i - min off l.length = i - off := by omega
    rw [e]
    by_cases h2 : i < off + new.length
    · rw [if_pos (by omega), if_pos (by omega)]
    · rw [if_neg (by omega), if_neg (by omega), List.getElem?_drop]
      congr 1
      omega
theorem setPart_cells {d y d' : DV} {off : Nat} (hd : d.setPart off y = some d') : off + y.cells.length ≤ d.cells.length ∧ d'.cells = setCells d.cells off y.cells := by
  unfold DV.setPart at hd
  split at hd
  · rename_i hle
    refine ⟨hle, ?_⟩
    split at hd
    · rename_i h0
      simp at hd
      subst hd
      obtain ⟨rfl, h1, _⟩ := h0
      simp [setCells, h1]
    · split at hd
      · simp at hd
      · simp at hd
        subst hd
        rfl
  · simp at hd
/-- Cells some of which are another's. -/
theorem rep_setCells {φ : Nm → Place} {U : Nm → Bool} {M : Nat → Prop} {cs us : List Value} {ds es : List DV} {off : Nat} (hle : off + es.length ≤ ds.length) (hl : cs.length = ds.length) (hl2 : us.length = es.length)
    (h1 : ∀ (i : Nat) (u : Value) (x : DV), cs[i]? = some u → ds[i]? = some x → RepV φ U w M u x) (h2 : ∀ (i : Nat) (u : Value) (x : DV), us[i]? = some u → es[i]? = some x → RepV φ U w M u x) :
    (setCells cs off us).length = (setCells ds off es).length ∧ ∀ (i : Nat) (u : Value) (x : DV), (setCells cs off us)[i]? = some u → (setCells ds off es)[i]? = some x → RepV φ U w M u x := by
  refine ⟨by rw [len_setCells (by omega), len_setCells hle]; exact hl, fun i u x hu hx => ?_⟩
  rw [get_setCells (by omega)] at hu
  rw [get_setCells hle] at hx
  by_cases hc : off ≤ i ∧ i < off + es.length
  · rw [if_pos (by omega)] at hu
    rw [if_pos hc] at hx
    exact h2 _ _ _ hu hx
  · rw [if_neg (by omega)] at hu
    rw [if_neg hc] at hx
    exact h1 _ _ _ hu hx
theorem mem_setCells {α : Type} {l new : List α} {off : Nat} {x : α} (h : x ∈ setCells l off new) : x ∈ l ∨ x ∈ new := by
  simp only [setCells, List.mem_append] at h
  rcases h with (h | h) | h
  · exact .inl (List.mem_of_mem_take h)
  · exact .inr h
  · exact .inl (List.mem_of_mem_drop h)
theorem run_store_row {t : TypeId} {n : Nat} (hn : szT P t = some n) (b o : Nat) (e : TypeId) (cs : List Value) (hg : w.heap[b]? = some (.cells cs.toArray e (0, 0))) {v : Value} (hv : v.cells.toList.length = n)
    (h1 : ∀ u ∈ v.cells.toList, one1 u = true) (hfit : o + n ≤ cs.length) :
    (Instr.storeAt t (.pointer (some ⟨b, o, none⟩)) v).run P w = .ok () (w.setRow b (setCells cs o v.cells.toList).toArray) := by
  have hs := run_storeCells_at P b o e v.cells.toList 0 cs.toArray w hg (by simp at hv ⊢; omega) (fun u hu => by rw [← one1_cell]; exact h1 u hu)
  simp only [Nat.add_zero] at hs
  have hsz : v.cells.size = n := by simpa using hv
  simp only [Instr.storeAt, Instr.sureAddr, storeVar, Sem.run_bind, Sem.run_pure, Result.andThen_ok, run_sizeOf' hn, hsz, ne_eq, not_true_eq_false, if_false, hs]
  rfl
end Go.Wt
