/- A range over a function: two walks take turns. -/
import Derived.Test.YtbeiejanhoiodaaGreatMA7
import Derived.RangeFuncRecord
import Derived.RangeFuncIn
import Derived.RangeFuncLeaves
set_option linter.unusedSimpArgs false
set_option linter.unusedVariables false
namespace Go.Wt
open Go.RowKit
variable {P : Program} {C : CallOk} {c : Ctx} {φ : Nm → Place} {E : Env} {a : Act} {w : World}
/-- A state in another world and context. -/
theorem SimW.move (h : SimW c φ E w) {c' : Ctx} {w' : World} (hpin : c'.pin = c.pin) (hs : w.heap.size ≤ w'.heap.size) (h0 : c'.w0.heap.size ≤ w'.heap.size) (hos : w'.os = c'.w0.os) (htape : w'.tape = c'.w0.tape) (hout : w'.output = c'.w0.output)
    (hold : ∀ b, b < c'.w0.heap.size → ¬ c'.X b → w'.heap[b]? = c'.w0.heap[b]?) (hm0 : ∀ b, c'.M0 b → b < c'.w0.heap.size)
    (hw : ∀ b, b < w.heap.size → ¬ Mut c φ E.slots b → w'.heap[b]? = w.heap[b]? ∧ ¬ Mut c' φ E.slots b)
    (hrow : ∀ s r, E.slots s = some r → r.real (φ s) = true → w'.heap[(φ s).blk]? = w.heap[(φ s).blk]? ∧ (r.mut = true → c'.X (φ s).blk ∨ c'.w0.heap.size ≤ (φ s).blk) ∧ (c'.X (φ s).blk ∨ ¬ c'.M0 (φ s).blk)) : SimW c' φ E w' where
  size := h0
  os := hos
  tape := htape
  output := hout
  old := hold
  m0 := hm0
  row s r hr := ⟨(h.row s r hr).1, (h.row s r hr).2.1.mono hs hw (fun _ hu => ⟨hu, rfl⟩) (fun hre => (hrow s r hr hre).1), fun hre => (hrow s r hr hre).2⟩
  inj := h.inj
  fix s hf hu := by rw [hpin]; exact h.fix s hf hu
  gl g := by rw [hpin]; exact h.gl g
/-- The blocks of one's own rows that may change. -/
def Own (φ : Nm → Place) (sl : Nm → Option Row) (b : Nat) : Prop := ∃ s r, sl s = some r ∧ r.mut = true ∧ r.real (φ s) = true ∧ (φ s).blk = b
def cw (w : World) (M X : Nat → Prop) (n : Nat) (pin : Nm → Place) : Ctx := ⟨w, M, X, n, pin, some 0⟩
theorem SimW.own_lt (h : SimW c φ E w) {b : Nat} (hb : Own φ E.slots b) : b < w.heap.size := by
  obtain ⟨s, r, h1, h2, h3, rfl⟩ := hb
  exact (h.row s r h1).2.1.lt h3
theorem SimW.own_x (h : SimW c φ E w) {b : Nat} (hb : Own φ E.slots b) : c.X b ∨ c.w0.heap.size ≤ b := by
  obtain ⟨s, r, h1, h2, h3, rfl⟩ := hb
  exact ((h.row s r h1).2.2 h3).1 h2
/-- What is fixed while a range goes on. -/
structure RFix where
  w0 : World
  M1 : Nat → Prop
  X1 : Nat → Prop
  n : Nat
  pin : Nm → Place
  L : Nat
  D : Nat
/-- Between two rounds. -/
structure Rest (R : RFix) (E : Env) (φ : Nm → Place) (w : World) (M O : Nat → Prop) : Prop where
  sim : SimW (cw w M (Own φ E.slots) R.n R.pin) φ E w
  o : ∀ b, O b ↔ Own φ E.slots b ∨ b = R.L
  oM : ∀ b, O b → M b
  lt : ∀ b, M b → b < w.heap.size
  size : R.w0.heap.size ≤ w.heap.size
  os : w.os = R.w0.os
  tape : w.tape = R.w0.tape
  output : w.output = R.w0.output
  old : ∀ b, b < R.w0.heap.size → ¬ R.X1 b → w.heap[b]? = R.w0.heap[b]?
  m1 : ∀ b, R.M1 b → ¬ R.X1 b → M b
  m2 : ∀ b, b < R.w0.heap.size → M b → R.M1 b
  x1 : ∀ b, Own φ E.slots b → R.X1 b ∨ R.w0.heap.size ≤ b
  dk : w.heap[R.D]? = some (.deferred (some []))
  dm : ¬ M R.D
structure ROk (R : RFix) (w1 : World) : Prop where
  m1 : ∀ b, R.M1 b → b < R.w0.heap.size
  L : R.w0.heap.size ≤ R.L
  D : R.w0.heap.size ≤ R.D
  LD : R.L ≠ R.D
  sz : R.w0.heap.size ≤ w1.heap.size
  Dw : R.D < w1.heap.size
theorem Rest.frozen {R : RFix} {M O : Nat → Prop} (h : Rest R E φ w M O) {s : Nm} {r : Row} (hs : E.slots s = some r) (hre : r.real (φ s) = true) : O (φ s).blk ∨ ¬ M (φ s).blk := by
  rcases ((h.sim.row s r hs).2.2 hre).2 with h1 | h1
  · exact .inl ((h.o _).2 (.inl h1))
  · exact .inr h1
theorem Rest.mutM {R : RFix} {M O : Nat → Prop} (h : Rest R E φ w M O) {b : Nat} : Mut (cw w M (Own φ E.slots) R.n R.pin) φ E.slots b ↔ M b := by
  constructor
  · rintro (⟨h1, _⟩ | h1)
    · exact h1
    · exact h.oM b ((h.o b).2 (.inl h1))
  · intro h1
    by_cases h2 : Own φ E.slots b
    · exact .inr h2
    · exact .inl ⟨h1, h2⟩
theorem Rest.stab {R : RFix} {w1 : World} (hR : ROk R w1) {M O : Nat → Prop} (h : Rest R E φ w M O) {w2 : World} {M2 : Nat → Prop} (hm : MovesF w1 w M O w2 M2) : Rest R E φ w2 M2 O where
  sim := by
    refine h.sim.move rfl hm.size (Nat.le_refl _) rfl rfl rfl (fun _ _ _ => rfl) hm.lt (fun b hb hM => ?_) (fun s r hs hre => ?_)
    · have hM : ¬ M b := fun h1 => hM (h.mutM.2 h1)
      refine ⟨hm.keep b hb (.inr (.inr hM)), ?_⟩
      rintro (⟨h1, _⟩ | h1)
      · exact hM (hm.sub b hb h1)
      · exact hM (h.oM b ((h.o b).2 (.inl h1)))
    · have hlt := (h.sim.row s r hs).2.1.lt hre
      refine ⟨?_, fun hmu => .inl ⟨s, r, hs, hmu, hre, rfl⟩, ?_⟩
      · rcases h.frozen hs hre with h1 | h1
        · exact hm.keep _ hlt (.inr (.inl h1))
        · exact hm.keep _ hlt (.inr (.inr h1))
      · rcases ((h.sim.row s r hs).2.2 hre).2 with h1 | h1
        · exact .inl h1
        · exact .inr fun h2 => h1 (hm.sub _ hlt h2)
  o := h.o
  oM b hb := hm.own b hb
  lt := hm.lt
  size := Nat.le_trans h.size hm.size
  os := hm.os.trans h.os
  tape := hm.tape.trans h.tape
  output := hm.output.trans h.output
  old b hb hx := (hm.keep b (Nat.lt_of_lt_of_le hb h.size) (.inl (Nat.lt_of_lt_of_le hb hR.sz))).trans (h.old b hb hx)
  m1 b hb hx := hm.base b (Nat.lt_of_lt_of_le (hR.m1 b hb) hR.sz) (h.m1 b hb hx)
  m2 b hb h1 := h.m2 b hb (hm.sub b (Nat.lt_of_lt_of_le hb h.size) h1)
  x1 := h.x1
  dk := by rw [hm.keep _ (Array.getElem?_eq_some_iff.1 h.dk).1 (.inr (.inr h.dm))]; exact h.dk
  dm h1 := h.dm (hm.sub _ (Array.getElem?_eq_some_iff.1 h.dk).1 h1)
theorem Rest.lk {R : RFix} {w1 : World} {M O : Nat → Prop} (h : Rest R E φ w M O) {w2 : World} {M2 : Nat → Prop} (hm : MovesF w1 w M O w2 M2) {o : Obj} (hl : w.heap[R.L]? = some o) : w2.heap[R.L]? = some o := by
  rw [hm.keep _ (Array.getElem?_eq_some_iff.1 hl).1 (.inr (.inl ((h.o _).2 (.inr rfl))))]; exact hl
/-- The record of the range is changed. -/
theorem Rest.put {R : RFix} {M O : Nat → Prop} (hL : R.w0.heap.size ≤ R.L) (hLD : R.L ≠ R.D) (h : Rest R E φ w M O) {o1 o : Loop} (hl : w.heap[R.L]? = some (.loop o1)) : Rest R E φ (w.putObj R.L (.loop o)) M O := by
  have hne : ∀ s r, E.slots s = some r → r.real (φ s) = true → (φ s).blk ≠ R.L := by
    intro s r hs hre he
    have hB := (h.sim.row s r hs).2.1
    rw [he.symm] at hl
    cases r with
    | box e d fz => obtain ⟨cs, h1, _⟩ := hB; rw [hl] at h1; cases h1
    | rows e m l fz =>
      simp [Row.real] at hre
      rcases hB with ⟨h1, _⟩ | ⟨cs, _, h1, _⟩
      · omega
      · rw [hl] at h1; cases h1
    | obj ob fz =>
      cases ob with
      | mp es c => obtain ⟨ents, h1, _⟩ := hB; rw [hl] at h1; cases h1
      | it str p => have h1 : w.heap[(φ s).blk]? = some (.stringIter str p) := hB; rw [hl] at h1; cases h1
      | dfr => exact hB
  have hoth : ∀ b, b ≠ R.L → (w.putObj R.L (.loop o)).heap[b]? = w.heap[b]? := fun b hb => World.putObj_heap_other hb
  have hMut : ∀ b, Mut (cw (w.putObj R.L (.loop o)) M (Own φ E.slots) R.n R.pin) φ E.slots b ↔ M b := fun b => h.mutM (b := b)
  refine ⟨?_, h.o, h.oM, fun b hb => by rw [World.putObj_size]; exact h.lt b hb, by rw [World.putObj_size]; exact h.size, h.os, h.tape, h.output, fun b hb hx => ?_, h.m1, h.m2, h.x1, ?_, h.dm⟩
  · refine h.sim.move rfl (by simp) (Nat.le_refl _) rfl rfl rfl (fun _ _ _ => rfl) (fun b hb => by show b < (w.putObj R.L _).heap.size; rw [World.putObj_size]; exact h.lt b hb) (fun b hb hM => ?_) (fun s r hs hre => ?_)
    · have hM : ¬ M b := fun h1 => hM (h.mutM.2 h1)
      exact ⟨hoth b fun e => hM (e ▸ h.oM _ ((h.o _).2 (.inr rfl))), fun h1 => hM ((hMut b).1 h1)⟩
    · refine ⟨hoth _ (hne s r hs hre), fun hmu => .inl ⟨s, r, hs, hmu, hre, rfl⟩, ((h.sim.row s r hs).2.2 hre).2⟩
  · rw [hoth b (by omega)]; exact h.old b hb hx
  · rw [hoth _ (Ne.symm hLD)]; exact h.dk
/-- Back where the range was begun. -/
theorem Rest.base {R : RFix} {w1 : World} (hR : ROk R w1) {M O : Nat → Prop} (h : Rest R E φ w M O) (n : Nat) : SimW ⟨R.w0, R.M1, R.X1, n, R.pin, some 0⟩ φ E w := by
  refine h.sim.move rfl (Nat.le_refl _) h.size h.os h.tape h.output h.old hR.m1 (fun b hb hM => ⟨rfl, ?_⟩) (fun s r hs hre => ⟨rfl, fun hmu => h.x1 _ ⟨s, r, hs, hmu, hre, rfl⟩, ?_⟩)
  · rintro (⟨h1, h2⟩ | h1)
    · exact hM (h.mutM.2 (h.m1 b h1 h2))
    · exact hM (.inr h1)
  · rcases ((h.sim.row s r hs).2.2 hre).2 with h1 | h1
    · rcases h.x1 _ h1 with h2 | h2
      · exact .inl h2
      · exact .inr fun h3 => by have := hR.m1 _ h3; have : R.w0.heap.size ≤ (φ s).blk := h2; omega
    · by_cases h2 : R.X1 (φ s).blk
      · exact .inl h2
      · exact .inr fun h3 => h1 (h.m1 _ h3 h2)
end Go.Wt
/- One round of a range over a function. -/
namespace Go.Wt
open Go.RowKit
variable {P : Program} {C : CallOk} {c : Ctx} {φ : Nm → Place} {E : Env} {a : Act} {w : World}

theorem SimW.noloop (h : SimW c φ E w) {L : Nat} {rec : Loop} (hl : w.heap[L]? = some (.loop rec)) {s : Nm} {r : Row} (hs : E.slots s = some r) (hre : r.real (φ s) = true) : (φ s).blk ≠ L := by
  intro he
  have hB := (h.row s r hs).2.1
  rw [he.symm] at hl
  cases r with
  | box e d fz => obtain ⟨cs, h1, _⟩ := hB; rw [hl] at h1; cases h1
  | rows e m l fz =>
    simp [Row.real] at hre
    rcases hB with ⟨h1, _⟩ | ⟨cs, _, h1, _⟩
    · omega
    · rw [hl] at h1; cases h1
  | obj ob fz =>
    cases ob with
    | mp es c => obtain ⟨ents, h1, _⟩ := hB; rw [hl] at h1; cases h1
    | it str p => have h1 : w.heap[(φ s).blk]? = some (.stringIter str p) := hB; rw [hl] at h1; cases h1
    | dfr => exact hB
theorem SimW.noloop' (h : SimW c φ E w) {L : Nat} {rec : Loop} (hl : w.heap[L]? = some (.loop rec)) : ¬ Own φ E.slots L := by
  rintro ⟨s, r, h1, h2, h3, h4⟩
  exact h.noloop hl h1 h3 h4
/-- The temporaries, in another world. -/
theorem SimA.move (h : SimA c φ E a w) {c' : Ctx} {w' : World} (h' : SimW c' φ E w') (hn : c'.n = c.n) (hdl : ∀ l, c.dl = some l → ∃ l', c'.dl = some l' ∧ l' ≤ l) (hs : w.heap.size ≤ w'.heap.size)
    (hw : ∀ b, b < w.heap.size → ¬ Mut c φ E.slots b → w'.heap[b]? = w.heap[b]? ∧ ¬ Mut c' φ E.slots b) (hd : ∀ b : Nat, w.heap[b]? = some (Obj.deferred (some [])) → w'.heap[b]? = some (Obj.deferred (some []))) : SimA c' φ E a w' where
  toSimW := h'
  tm t := (h.tm t).mono hs hw (fun _ hu => ⟨hu, rfl⟩)
  sz := by rw [hn]; exact h.sz
  df := by
    obtain ⟨bs, h1, hnd, h2⟩ := h.df
    refine ⟨bs, h1, hnd, fun b hb => ⟨?_, hd b (h2 b hb).2⟩⟩
    obtain ⟨l, h3, h4⟩ := (h2 b hb).1
    obtain ⟨l', h5, h6⟩ := hdl l h3
    exact ⟨l', h5, Nat.le_trans h6 h4⟩
/-- From one context to another in one world. -/
theorem SimA.rebase (h : SimA c φ E a w) (w' : World) {L : Nat} {rec rec' : Loop} (hl : w.heap[L]? = some (.loop rec)) (hM : Mut c φ E.slots L) (hw' : w' = w.putObj L (.loop rec')) :
    SimA (cw w' (Mut c φ E.slots) (Own φ E.slots) c.n c.pin) φ E a w' := by
  have hlt : ∀ b, Mut c φ E.slots b → b < w.heap.size := by
    rintro b (⟨h1, _⟩ | h1)
    · exact Nat.lt_of_lt_of_le (h.m0 b h1) h.size
    · exact h.toSimW.own_lt h1
  subst hw'
  have hoth : ∀ b, b ≠ L → (w.putObj L (.loop rec')).heap[b]? = w.heap[b]? := fun b hb => World.putObj_heap_other hb
  have hw : ∀ b, b < w.heap.size → ¬ Mut c φ E.slots b → (w.putObj L (.loop rec')).heap[b]? = w.heap[b]? ∧ ¬ Mut (cw (w.putObj L (.loop rec')) (Mut c φ E.slots) (Own φ E.slots) c.n c.pin) φ E.slots b := by
    intro b _ hb
    refine ⟨hoth b fun e => hb (e ▸ hM), ?_⟩
    rintro (⟨h1, _⟩ | h1)
    · exact hb h1
    · exact hb (.inr h1)
  refine h.move ?_ rfl (fun l _ => ⟨0, rfl, Nat.zero_le _⟩) (by simp) hw (fun b hb => ?_)
  · refine h.toSimW.move (c' := cw (w.putObj L (.loop rec')) (Mut c φ E.slots) (Own φ E.slots) c.n c.pin) (w' := w.putObj L (.loop rec')) rfl (by simp) (Nat.le_refl _) rfl rfl rfl (fun _ _ _ => rfl) (fun b hb => by show b < (w.putObj L (.loop rec')).heap.size; rw [World.putObj_size]; exact hlt b hb) hw (fun s r hs hre => ?_)
    refine ⟨hoth _ (h.toSimW.noloop hl hs hre), fun hmu => .inl ⟨s, r, hs, hmu, hre, rfl⟩, ?_⟩
    by_cases hmu : r.mut = true
    · exact .inl ⟨s, r, hs, hmu, hre, rfl⟩
    · exact .inr (h.toSimW.frozen_nm hs hmu hre)
  · rw [hoth b fun e => by subst e; rw [hl] at hb; cases hb]; exact hb
theorem putAll_sim {U : Nm → Bool} {M : Nat → Prop} {n : Nat} : ∀ (ps : List Nat) (us : List Value) (x : List Tree) (tmps : Array Value) (f : Nat → DV), us.length = ps.length → x.length = ps.length → ps.all (· < n) = true → tmps.size = n →
    (∀ t, RepV φ U w M (tmps.getD t undef) (f t)) → (∀ (j : Nat) (v : Value) (t : Tree), us[j]? = some v → x[j]? = some t → Rep w M v t) →
    ((ps.zip us).foldl (fun tmps (t, a) => tmps.setIfInBounds t a) tmps).size = n ∧ ∀ t, RepV φ U w M (((ps.zip us).foldl (fun tmps (t, a) => tmps.setIfInBounds t a) tmps).getD t undef) (putAll ps x f t)
  | [], us, x, tmps, f, _, _, _, hn, h, _ => ⟨hn, h⟩
  | p :: ps, [], x, tmps, f, hu, _, _, _, _, _ => by simp at hu
  | p :: ps, u :: us, [], tmps, f, _, hx, _, _, _, _ => by simp at hx
  | p :: ps, u :: us, y :: x, tmps, f, hu, hx, hp, hn, h, hr => by
    simp only [List.all_cons, Bool.and_eq_true, decide_eq_true_eq] at hp
    simp only [List.zip_cons_cons, List.foldl_cons]
    refine putAll_sim ps us x (tmps.setIfInBounds p u) _ (by simpa using hu) (by simpa using hx) hp.2 (by simpa using hn) (fun t => ?_) (fun j v tr hv ht => hr (j + 1) v tr (by simpa using hv) (by simpa using ht))
    have hps : p < tmps.size := by rw [hn]; exact hp.1
    by_cases ht : t = p
    · subst ht
      simp only [if_true]
      have := RepV.t (φ := φ) (U := U) (hr 0 u y rfl rfl)
      simpa [Array.getD_eq_getD_getElem?, Array.getElem?_setIfInBounds, hps] using this
    · simp only [ht, if_false]
      have := h t
      simpa [Array.getD_eq_getD_getElem?, Array.getElem?_setIfInBounds, Ne.symm ht] using this
/-- What is left to do behind a range. -/
def jumpOf : Exit → Option Code
  | .ret => some .ret
  | .exit id => some (.exit id)
  | _ => none
def isOut : Exit → Prop
  | .normal | .ret | .exit _ => True
  | _ => False
/-- That code does what is told of trees, in a round. -/
def BSound (P : Program) (C : CallOk) (n L : Nat) (code : Code) (s : SCode) : Prop := ∀ (c : Ctx) (E : Env) (K : Exit → Env → Prop) (Q : Exit → Act → World → Prop) (φ : Nm → Place) (a : Act) (w : World), c.n = n → (∀ l, c.dl = some l → l ≤ c.w0.heap.size) →
  (∀ e E φ a w, K e E → SimA c φ E a w → Q e a w) → SimA c φ E a w → W P C.noY s E K → code.wpIn (FW (some L)) 0 P Q a w
theorem round_sound {R : RFix} {w1 : World} (hR : ROk R w1) {ca cb : Code} {sa sb : SCode} (hA : BSound P C R.n R.L ca sa) (hB : BSound P C R.n R.L cb sb) {rec : Loop} (hca : rec.assign = ca) (hcb : rec.body = cb) (hst : rec.state = .ready) {ps : List Nat} (hps : rec.params = ps.toArray) (hpn : ps.all (· < R.n) = true)
    {f0 : Nat → DV} {U0 : Nm → Bool} (hU0 : ∀ s, U0 s = true → s.fixed = true) (htsz : rec.tmps.size = R.n) (htm : ∀ t, RepV R.pin U0 R.w0 R.M1 (rec.tmps.getD t undef) (f0 t)) (hX1 : ∀ b, R.X1 b → R.M1 b)
    {E1 : Env} {M O : Nat → Prop} (h : Rest R E1 φ w M O) (hh : ∀ s, U0 s = true → E1.used s = true) (hl : w.heap[R.L]? = some (.loop rec)) {us : List Value} {x : List Tree} (hul : us.length = ps.length) (hxl : x.length = ps.length)
    (hus : ∀ (j : Nat) (v : Value) (t : Tree), us[j]? = some v → x[j]? = some t → Rep w M v t) {KK G : Exit → Env → Prop} (hKK : ∀ e E3, KK e E3 → isOut e ∧ ∃ ρ, okRen ρ = true ∧ G e (E3.canon ρ))
    (hW : W P C.noY sa ⟨putAll ps x f0, E1.slots, E1.used⟩ (fun e E2 => e = .normal ∧ W P C.noY sb E2 KK)) :
    YCall P R.L us w fun e w2 => ∃ M2 O2, MovesR w M O w2 M2 O2 ∧ ∃ ex E3 φ3, G ex E3 ∧ Rest R E3 φ3 w2 M2 O2 ∧ e = .returned (.bool (jumpOf ex).isNone) ∧ isOut ex ∧
      w2.heap[R.L]? = some (.loop { rec with state := if (jumpOf ex).isNone then .ready else .done, pending := jumpOf ex }) := by
  subst hca hcb
  have hpsz : us.toArray.size = rec.params.size := by rw [hps]; simp [hul]
  refine ⟨_, _, _, _, run_yield hl hpsz, roundIn_of_wpIn trivial ?_⟩
  have hfold : (rec.params.zip us.toArray).foldl (fun tmps (t, a) => tmps.setIfInBounds t a) rec.tmps = (ps.zip us).foldl (fun tmps (t, a) => tmps.setIfInBounds t a) rec.tmps := by
    rw [hps, ← Array.foldl_toList]
    congr 1
    simp
  have hML : M R.L := h.oM _ ((h.o _).2 (.inr rfl))
  have hOL : ¬ Own φ E1.slots R.L := h.sim.noloop' hl
  have htm1 : ∀ t, RepV φ E1.used w M (rec.tmps.getD t undef) (f0 t) := by
    intro t
    refine (htm t).mono h.size (fun b hb hM => ⟨h.old b hb fun hx => hM (hX1 b hx), fun h1 => hM (h.m2 b hb h1)⟩) (fun s hs => ⟨hh s hs, ?_⟩)
    exact h.sim.fix s (hU0 s hs) (hh s hs)
  obtain ⟨hsz, htm2⟩ := putAll_sim ps us x rec.tmps f0 hul hxl hpn htsz htm1 hus
  have hMut1 : Mut (cw w M (Own φ E1.slots) R.n R.pin) φ E1.slots = M := funext fun b => propext h.mutM
  have hsA : SimA (cw w M (Own φ E1.slots) R.n R.pin) φ ⟨putAll ps x f0, E1.slots, E1.used⟩ { tmps := (rec.params.zip us.toArray).foldl (fun tmps (t, a) => tmps.setIfInBounds t a) rec.tmps, defers := [] } w := by
    refine ⟨h.sim.congr rfl rfl, fun t => ?_, ?_, [], rfl, by simp, by simp⟩
    · rw [hfold]
      show RepV φ E1.used w (Mut (cw w M (Own φ E1.slots) R.n R.pin) φ E1.slots) _ _
      rw [hMut1]
      exact htm2 t
    · rw [hfold]; exact hsz
  refine hA _ _ _ _ φ _ w rfl (fun l hl => by cases hl; exact Nat.zero_le _) (fun e E2 φ2 a2 w2 hk hs2 => ?_) hsA hW
  obtain ⟨rfl, hw2⟩ := hk
  have hown1 : ∀ b, Own φ2 E2.slots b → Own φ E1.slots b ∨ w.heap.size ≤ b := fun b hb => hs2.toSimW.own_x hb
  have hLlt : R.L < w.heap.size := (Array.getElem?_eq_some_iff.1 hl).1
  have hl2 : w2.heap[R.L]? = some (.loop rec) := by
    have := hs2.old R.L hLlt hOL
    exact this.trans hl
  have hM2L : Mut (cw w M (Own φ E1.slots) R.n R.pin) φ2 E2.slots R.L := .inl ⟨hML, hOL⟩
  have hO2L : ¬ Own φ2 E2.slots R.L := hs2.toSimW.noloop' hl2
  refine ⟨_, run_beginRound hl2 hst, ?_⟩
  obtain ⟨w2', hw2'⟩ : ∃ w', w' = w2.putObj R.L (.loop { rec with state := .busy }) := ⟨_, rfl⟩
  have hsB := hs2.rebase w2' hl2 hM2L hw2'
  have hl2' : w2'.heap[R.L]? = some (.loop { rec with state := .busy }) := by
    rw [hw2']; exact World.putObj_heap_same (Array.getElem?_eq_some_iff.1 hl2).1
  have hoth2 : ∀ b, b ≠ R.L → w2'.heap[b]? = w2.heap[b]? := fun b hb => by rw [hw2']; exact World.putObj_heap_other hb
  have hsz2 : w2'.heap.size = w2.heap.size := by rw [hw2']; simp
  rw [← hw2']
  refine hB _ _ _ _ φ2 _ w2' rfl (fun l hl => by cases hl; exact Nat.zero_le _) (fun e E3 φ3 a3 w3 hk hs3 => ?_) hsB hw2
  obtain ⟨hout, ρ, hρ, hG⟩ := hKK e E3 hk
  obtain ⟨φ4, hs4⟩ := canon_sim hs3 hρ
  have hl3 : w3.heap[R.L]? = some (.loop { rec with state := .busy }) := by
    have := hs3.old R.L (Array.getElem?_eq_some_iff.1 hl2').1 hO2L
    exact this.trans hl2'
  have hend : (Instr.endRound R.L (jumpOf e)).run P w3 = .ok (.bool (jumpOf e).isNone) (w3.putObj R.L (.loop { rec with state := if (jumpOf e).isNone then .ready else .done, pending := jumpOf e })) := run_endRound (P := P) (r := { rec with state := .busy }) (jumpOf e) hl3
  -- the state behind the round
  have hown2 : ∀ b, Own φ4 (E3.canon ρ).slots b → Own φ2 E2.slots b ∨ w2'.heap.size ≤ b := fun b hb => hs4.toSimW.own_x hb
  have hsz23 : w2'.heap.size ≤ w3.heap.size := hs3.size
  have hszw : w.heap.size ≤ w2.heap.size := hs2.size
  have hkeep : ∀ b, b < w.heap.size → ¬ Own φ E1.slots b → b ≠ R.L → w3.heap[b]? = w.heap[b]? := by
    intro b hb ho hbL
    have ho2 : ¬ Own φ2 E2.slots b := fun h1 => by
      rcases hown1 b h1 with h2 | h2
      · exact ho h2
      · omega
    have e1 := hs3.old b (by show b < w2'.heap.size; omega) ho2
    have e2 := hs2.old b hb ho
    exact e1.trans ((hoth2 b hbL).trans e2)
  obtain ⟨M4, hM4⟩ : ∃ M4, M4 = Mut (cw w2' (Mut (cw w M (Own φ E1.slots) R.n R.pin) φ2 E2.slots) (Own φ2 E2.slots) R.n R.pin) φ4 (E3.canon ρ).slots := ⟨_, rfl⟩
  have hm4 : ∀ b, M4 b ↔ ((M b ∧ ¬ Own φ E1.slots b) ∧ ¬ Own φ2 E2.slots b) ∨ Own φ4 (E3.canon ρ).slots b := by
    intro b
    rw [hM4]
    constructor
    · rintro (⟨(h1 | h1), h2⟩ | h1)
      · exact .inl ⟨h1, h2⟩
      · exact absurd h1 h2
      · exact .inr h1
    · rintro (⟨h1, h2⟩ | h1)
      · exact .inl ⟨.inl h1, h2⟩
      · exact .inr h1
  have ho2 : ∀ b, b < w.heap.size → ¬ Own φ E1.slots b → ¬ Own φ2 E2.slots b := fun b hb h1 h2 => by
    rcases hown1 b h2 with h3 | h3
    · exact h1 h3
    · omega
  have ho4 : ∀ b, b < w.heap.size → ¬ Own φ E1.slots b → ¬ Own φ4 (E3.canon ρ).slots b := fun b hb h1 h2 => by
    rcases hown2 b h2 with h3 | h3
    · exact ho2 b hb h1 h3
    · omega
  have hlt4 : ∀ b, M4 b → b < w3.heap.size := by
    intro b hb
    rcases (hm4 b).1 hb with ⟨⟨h1, _⟩, _⟩ | h1
    · have := h.lt b h1; omega
    · exact hs4.toSimW.own_lt h1
  have hDlt : R.D < w.heap.size := (Array.getElem?_eq_some_iff.1 h.dk).1
  have hOD : ¬ Own φ E1.slots R.D := fun h1 => h.dm (h.oM _ ((h.o _).2 (.inl h1)))
  have hrest : Rest R (E3.canon ρ) φ4 w3 M4 (fun b => Own φ4 (E3.canon ρ).slots b ∨ b = R.L) := by
    refine ⟨?_, fun b => Iff.rfl, ?_, hlt4, ?_, ?_, ?_, ?_, ?_, ?_, ?_, ?_, ?_, ?_⟩
    · have hw' : ∀ b, b < w3.heap.size → ¬ M4 b → w3.heap[b]? = w3.heap[b]? ∧ ¬ Mut (cw w3 M4 (Own φ4 (E3.canon ρ).slots) R.n R.pin) φ4 (E3.canon ρ).slots b := by
        intro b _ hb
        refine ⟨rfl, ?_⟩
        rintro (⟨h1, _⟩ | h1)
        · exact hb h1
        · exact hb ((hm4 b).2 (.inr h1))
      refine hs4.toSimW.move rfl (Nat.le_refl _) (Nat.le_refl _) rfl rfl rfl (fun _ _ _ => rfl) hlt4 (fun b hb hM => hw' b hb (by rw [hM4]; exact hM)) (fun s r hs hre => ⟨rfl, fun hmu => .inl ⟨s, r, hs, hmu, hre, rfl⟩, ?_⟩)
      by_cases hmu : r.mut = true
      · exact .inl ⟨s, r, hs, hmu, hre, rfl⟩
      · refine .inr fun h1 => ?_
        have h1 : M4 (φ4 s).blk := h1
        rw [hM4] at h1
        exact hs4.toSimW.frozen_nm hs hmu hre h1
    · rintro b (hb | rfl)
      · exact (hm4 b).2 (.inr hb)
      · exact (hm4 _).2 (.inl ⟨⟨hML, hOL⟩, hO2L⟩)
    · have := h.size; omega
    · rw [hs4.os]
      show w2'.os = _
      rw [hw2']
      exact (show w2.os = R.w0.os from (hs2.os).trans h.os)
    · rw [hs4.tape]
      show w2'.tape = _
      rw [hw2']
      exact (show w2.tape = R.w0.tape from (hs2.tape).trans h.tape)
    · rw [hs4.output]
      show w2'.output = _
      rw [hw2']
      exact (show w2.output = R.w0.output from (hs2.output).trans h.output)
    · intro b hb hx
      have ho : ¬ Own φ E1.slots b := fun h1 => by
        rcases h.x1 b h1 with h2 | h2
        · exact hx h2
        · omega
      rw [hkeep b (Nat.lt_of_lt_of_le hb h.size) ho (fun e => by have := hR.L; omega)]
      exact h.old b hb hx
    · intro b hb hx
      have ho : ¬ Own φ E1.slots b := fun h1 => by
        rcases h.x1 b h1 with h2 | h2
        · exact hx h2
        · have := hR.m1 b hb; omega
      have hMb := h.m1 b hb hx
      exact (hm4 b).2 (.inl ⟨⟨hMb, ho⟩, ho2 b (h.lt b hMb) ho⟩)
    · intro b hb h1
      rcases (hm4 b).1 h1 with ⟨⟨h2, _⟩, _⟩ | h2
      · exact h.m2 b hb h2
      · by_cases ho : Own φ E1.slots b
        · exact h.m2 b hb (h.oM b ((h.o b).2 (.inl ho)))
        · exact absurd h2 (ho4 b (Nat.lt_of_lt_of_le hb h.size) ho)
    · intro b hb
      rcases hown2 b hb with h1 | h1
      · rcases hown1 b h1 with h2 | h2
        · exact h.x1 b h2
        · have := h.size; exact .inr (by omega)
      · have := h.size; exact .inr (by omega)
    · rw [hkeep R.D hDlt hOD (Ne.symm hR.LD)]; exact h.dk
    · intro h1
      rcases (hm4 _).1 h1 with ⟨⟨h2, _⟩, _⟩ | h2
      · exact h.dm h2
      · exact ho4 _ hDlt hOD h2
  have hput := hrest.put hR.L hR.LD (o := { rec with state := if (jumpOf e).isNone then .ready else .done, pending := jumpOf e }) hl3
  have hlast : (w3.putObj R.L (.loop { rec with state := if (jumpOf e).isNone then .ready else .done, pending := jumpOf e })).heap[R.L]? = some (.loop { rec with state := if (jumpOf e).isNone then .ready else .done, pending := jumpOf e }) := World.putObj_heap_same (Array.getElem?_eq_some_iff.1 hl3).1
  have hmoves : MovesR w M O (w3.putObj R.L (.loop { rec with state := if (jumpOf e).isNone then .ready else .done, pending := jumpOf e })) M4 (fun b => Own φ4 (E3.canon ρ).slots b ∨ b = R.L) := by
    refine ⟨by rw [World.putObj_size]; omega, ?_, ?_, ?_, ?_, ?_, ?_, ?_⟩
    · exact (hrest.os).trans h.os.symm
    · exact (hrest.tape).trans h.tape.symm
    · exact (hrest.output).trans h.output.symm
    · intro b hb ho
      have h1 : ¬ Own φ E1.slots b := fun h2 => ho ((h.o b).2 (.inl h2))
      have h2 : b ≠ R.L := fun e => ho ((h.o b).2 (.inr e))
      rw [World.putObj_heap_other h2]
      exact hkeep b hb h1 h2
    · intro b
      rw [hm4 b]
      constructor
      · rintro (⟨⟨h1, h2⟩, h3⟩ | h1)
        · by_cases hbL : b = R.L
          · exact .inr (.inr hbL)
          · refine .inl ⟨h1, fun h4 => ?_⟩
            rcases (h.o b).1 h4 with h5 | h5
            · exact h2 h5
            · exact hbL h5
        · exact .inr (.inl h1)
      · rintro (⟨h1, h2⟩ | h1 | h1)
        · have h3 : ¬ Own φ E1.slots b := fun h4 => h2 ((h.o b).2 (.inl h4))
          exact .inl ⟨⟨h1, h3⟩, ho2 b (h.lt b h1) h3⟩
        · exact .inr h1
        · subst h1
          exact .inl ⟨⟨hML, hOL⟩, hO2L⟩
    · rintro b (hb | hb)
      · rcases hown2 b hb with h1 | h1
        · rcases hown1 b h1 with h2 | h2
          · exact .inl ((h.o b).2 (.inl h2))
          · exact .inr h2
        · exact .inr (by omega)
      · exact .inl ((h.o b).2 (.inr hb))
    · rintro b (hb | hb)
      · rw [World.putObj_size]; exact hs4.toSimW.own_lt hb
      · rw [hb, World.putObj_size]; exact (Array.getElem?_eq_some_iff.1 hl3).1
  cases e with
  | normal => exact ⟨_, _, hend, M4, _, hmoves, .normal, _, φ4, hG, hput, rfl, trivial, hlast⟩
  | ret => exact ⟨_, _, hend, M4, _, hmoves, .ret, _, φ4, hG, hput, rfl, trivial, hlast⟩
  | exit id => exact ⟨_, _, hend, M4, _, hmoves, .exit id, _, φ4, hG, hput, rfl, trivial, hlast⟩
  | _ => exact hout.elim
end Go.Wt
/- A range over a function, told of trees. -/
namespace Go.Wt
open Go.RowKit
variable {P : Program} {C : CallOk} {c : Ctx} {φ : Nm → Place} {E : Env} {a : Act} {w : World}
theorem SimW.canonW (h : SimW c φ E w) {ρ : List (Nm × Nm)} (hρ : okRen ρ = true) : ∃ φ', SimW c φ' (E.canon ρ) w := by
  have h1 : SimA c φ { E with tmps := fun _ => .junk } { tmps := Array.replicate c.n undef, defers := [] } w := ⟨h.congr rfl rfl, fun _ => .junk, by simp, [], rfl, by simp, by simp⟩
  obtain ⟨φ', h2⟩ := canon_sim h1 hρ
  exact ⟨φ', h2.toSimW.congr rfl rfl⟩
theorem marks_inj {l1 l2 : List Nat} (h : l1.map (fun b => ({ target := .collected b, args := #[] } : Deferred)) = l2.map (fun b => { target := .collected b, args := #[] })) : l1 = l2 := by
  induction l1 generalizing l2 with
  | nil => cases l2 with
    | nil => rfl
    | cons x l2 => simp at h
  | cons x l1 ih => cases l2 with
    | nil => simp at h
    | cons y l2 =>
      simp only [List.map_cons, List.cons.injEq, Deferred.mk.injEq, Target.collected.injEq, and_true] at h
      rw [h.1, ih h.2]
theorem used0_fixed (k : Ct) : ∀ s, k.env.used s = true → s.fixed = true := by
  intro s hs
  cases s with
  | arg i => rfl
  | glob g => rfl
  | yl => rfl
  | loc d i => simp [Ct.env, Ct.used0] at hs
  | head l i => simp [Ct.env, Ct.used0] at hs
/-- The arguments of a function that is ranged over. -/
theorem views_rep (h : SimA c φ E a w) {caps : List DV} {ts : List DV} {F : List Nm} (hv : E.viewps caps = some (ts, F)) {vs : List Value} (hl : vs.length = caps.length)
    (hp : ∀ (i : Nat) (v : Value) (d : DV), vs[i]? = some v → caps[i]? = some d → RepV φ E.used w (Mut c φ E.slots) v d) {M' : Nat → Prop} (hM : ∀ b, M' b → Mut c φ E.slots b)
    (hF : ∀ s ∈ F, ∀ r, E.slots s = some r → r.real (φ s) = true → ¬ M' (φ s).blk) :
    vs.length = ts.length ∧ ∀ (i : Nat) (v : Value) (t : DV), vs[i]? = some v → ts[i]? = some t → RepC w M' v t := by
  simp only [Env.viewps, Option.map_eq_some_iff, Prod.mk.injEq] at hv
  obtain ⟨ps, h1, rfl, rfl⟩ := hv
  obtain ⟨h2, h3⟩ := mapM_some h1
  refine ⟨by simp; omega, fun i v t hvi hti => ?_⟩
  simp only [List.getElem?_map, Option.map_eq_some_iff] at hti
  obtain ⟨p, hpi, rfl⟩ := hti
  have hil : i < caps.length := by
    have := (List.getElem?_eq_some_iff.1 hpi).1
    omega
  have hci := List.getElem?_eq_getElem hil
  have hview := h3 i _ p hci hpi
  have hin : ∀ s ∈ p.2, s ∈ ps.flatMap (·.2) := fun s hs => List.mem_flatMap.2 ⟨p, List.mem_of_getElem? hpi, hs⟩
  have hrep := hp i v _ hvi hci
  have hM0 : ∀ b, ¬ Mut c φ E.slots b → ¬ M' b := fun b hb hb' => hb (hM b hb')
  have hother : (E.view caps[i]).map (fun p => (DV.t p.1, p.2)) = some p → RepC w M' v p.1 := by
    intro hview
    obtain ⟨⟨x, rd⟩, hx, rfl⟩ := Option.map_eq_some_iff.1 hview
    refine .t (h.toSimW.view hM hrep (x := x) (rd := rd) hx fun s hs hcap hb => ?_)
    obtain ⟨e, m, l, fz, hsl⟩ := view_rd hx s hs
    exact hF s (hin s hs) _ hsl (by simpa [Row.real] using hcap) hb
  generalize caps[i] = d at hview hrep hother
  cases d with
  | ptr s k j =>
    simp only [Env.viewp] at hview
    split at hview
    · rename_i hk
      subst hk
      split at hview
      · rename_i e x fz hsl
        simp only [Option.some.injEq] at hview
        subst hview
        obtain ⟨rfl, hU⟩ := hrep.ptr_inv
        obtain ⟨_, ⟨cs, hg, hl, h1, hpc⟩, _⟩ := h.row s _ hsl
        have hcl : (DV.t x).cells = x.cells.map .t := by cases x <;> rfl
        have hget : ∀ (i : Nat) (cc : Tree), x.cells[i]? = some cc → ∃ hi : i < cs.length, RepV φ E.used w (Mut c φ E.slots) cs[i] (.t cc) := by
          intro i cc hcc
          have hi : i < cs.length := by rw [hl, hcl, List.length_map]; exact (List.getElem?_eq_some_iff.1 hcc).1
          exact ⟨hi, hpc i _ _ (List.getElem?_eq_getElem hi) (by rw [hcl, List.getElem?_map, hcc]; rfl)⟩
        have := RepV.tp (φ := fun _ => ⟨0, 0, 0⟩) (U := fun _ => false) (w := w) (M := M') (b := (φ s).blk) (o := 0) (j := j) (x := x) (fun i => cs.getD i undef) (hF s (hin s (by simp)) _ hsl rfl) (Array.getElem?_eq_some_iff.1 hg).1 (fun i cc hcc => by
            obtain ⟨hi, _⟩ := hget i cc hcc
            rw [cell_of_heap hg]; simp [hi]) (fun i cc hcc => by
            obtain ⟨hi, hr⟩ := hget i cc hcc
            rw [← hr.t_inv.one]; exact h1 _ (List.getElem_mem hi)) (fun i cc hcc => by
            obtain ⟨hi, hr⟩ := hget i cc hcc
            simp only [List.getD_eq_getElem?_getD, List.getElem?_eq_getElem hi, Option.getD_some]
            exact hr.t_inv.mono (Nat.le_refl _) (fun b _ hb => ⟨rfl, hM0 b hb⟩))
        simp only [Nat.zero_mul, Nat.zero_add] at this ⊢
        exact this
      · simp at hview
    · simp at hview
  | tp x j =>
    simp only [Env.viewp, Option.some.injEq] at hview
    subst hview
    cases hrep with
    | tp u hMb hb hu h1 h2 => exact .tp u (hM0 _ hMb) hb hu h1 (fun i cc hcc => (h2 i cc hcc).mono (Nat.le_refl _) (fun b _ hb => ⟨rfl, hM0 b hb⟩))
  | _ => exact hother hview
theorem rng_sound (hCI : ∀ f ts xs, C.it P f ts xs → IterL P f ts xs) {ca cb : Code} {sa sb : SCode} (hA : ∀ L, BSound P C c.n L ca sa) (hB : ∀ L, BSound P C c.n L cb sb) {g : Operand} {ps : List Nat} (hpn : ps.all (· < c.n) = true) (hdl : ∃ l, c.dl = some l ∧ l ≤ c.w0.heap.size)
    {K : Exit → Env → Prop} {Q : Exit → Act → World → Prop} (h : SimA c φ E a w) (hw : W P C (.rangef g ps sa sb) E K) (hK : ∀ e ups φ' a' w', K e (E.upd ups) → SimA c φ' (E.upd ups) a' w' → Q e a' w') :
    (Code.rangeFunc g ps.toArray ca cb).wpIn (FW none) 0 P Q a w := by
  obtain ⟨f, caps, ts, F, xs, S, k, d, I, h1, h2, h3, h4, hm, h5, h6, h7⟩ := hw
  have hfu : ∀ s ∈ F, E.used s = true := fun s hs => by
    obtain ⟨r, hr⟩ := Option.isSome_iff_exists.1 (hm.fu s hs)
    exact (h.row s r hr).1
  have hf1 : SimA c φ (E.upd (frz E F)) a w := h.freeze hfu
  have hgo := hm.goes
  obtain ⟨hen, hren, hMs⟩ := hf1.toSimW.enter hgo
  have hs3 : SimW (enterCtx c φ (E.upd (frz E F)) w (inRen S k.gs)) (enterPl φ (inRen S k.gs)) k.env w := hen.congr hm.slots hm.used
  rw [hm.slots] at hMs
  have hM1 : ∀ b, Mut c φ (E.upd (frz E F)).slots b → Mut c φ E.slots b := by
    rintro b (hb | ⟨s, r, h4, h5, h6, h7⟩)
    · exact .inl hb
    · obtain ⟨r0, h8, h9⟩ := frz_slots h4
      rcases h9 with rfl | rfl
      · exact .inr ⟨s, r, h8, h5, h6, h7⟩
      · rw [frozen_mut] at h5; simp at h5
  have hF : ∀ s ∈ F, ∀ r, E.slots s = some r → r.real (φ s) = true → ¬ Mut c φ (E.upd (frz E F)).slots (φ s).blk := by
    rintro s hs r hsl hre (⟨hb1, hb2⟩ | ⟨s2, r2, h4, h5, h6, h7⟩)
    · exact ((h.row s r hsl).2.2 hre).2.elim hb2 (fun hh => hh hb1)
    · obtain ⟨r0, h8, h9⟩ := frz_slots h4
      rcases h9 with rfl | rfl
      · have := h.inj s2 s r2 r h8 hsl h5 h6 hre h7
        subst this
        rw [upd_slots, frz_lookup, if_pos hs] at h4
        simp only [Option.map_eq_some_iff] at h4
        obtain ⟨y, _, h10⟩ := h4
        rw [← h10, frozen_mut] at h5
        simp at h5
      · rw [frozen_mut] at h5; simp at h5
  have hMlt : ∀ b, Mut c φ (E.upd (frz E F)).slots b → b < w.heap.size := by
    rintro b (⟨hb, _⟩ | hb)
    · exact Nat.lt_of_lt_of_le (hf1.m0 b hb) hf1.size
    · exact hf1.toSimW.own_lt hb
  have hXo : ∀ b, (enterCtx c φ (E.upd (frz E F)) w (inRen S k.gs)).X b → Own (enterPl φ (inRen S k.gs)) k.env.slots b := by
    rintro b ⟨s, s', r, g1, g2, g3, g4, g5⟩
    refine ⟨s', r.ren (inRen S k.gs), ?_, by rw [ren_mut]; exact g3, ?_, ?_⟩
    · rw [← hm.slots]; exact hgo.slot' g1 g2
    · rw [ren_real, hgo.pl hf1.toSimW g1]; exact g4
    · rw [hgo.pl hf1.toSimW g1]; exact g5
  have hx := h.ev g
  rw [h1] at hx
  generalize hgv : a.eval g = gv at hx
  cases hx with
  | fn hl hp =>
  rename_i vs
  have hit := hCI _ _ _ h3
  refine wpIn_rangeFunc fun fn hfn => ?_
  obtain ⟨rec, hrec⟩ : ∃ rec : Loop, rec = { state := .ready, pending := none, fn, tmps := a.tmps, params := ps.toArray, assign := ca, body := cb, defers := w.heap.size } := ⟨_, rfl⟩
  obtain ⟨W1, hW1⟩ : ∃ W1, W1 = (w.alloc (.deferred (some []))).alloc (.loop rec) := ⟨_, rfl⟩
  have hsz1 : W1.heap.size = w.heap.size + 2 := by rw [hW1]; simp
  have hold1 : ∀ b, b < w.heap.size → W1.heap[b]? = w.heap[b]? := by
    intro b hb
    rw [hW1, heap_alloc_old _ _ (by simp; omega), heap_alloc_old _ _ hb]
  have hL1 : W1.heap[w.heap.size + 1]? = some (.loop rec) := by
    rw [hW1]
    have := heap_alloc_new (w.alloc (.deferred (some []))) (.loop rec)
    simpa using this
  have hD1 : W1.heap[w.heap.size]? = some (.deferred (some [])) := by
    rw [hW1, heap_alloc_old _ _ (by simp), heap_alloc_new]
  let R : RFix := ⟨w, Mut c φ (E.upd (frz E F)).slots, (enterCtx c φ (E.upd (frz E F)) w (inRen S k.gs)).X, c.n, enterPl φ (inRen S k.gs), w.heap.size + 1, w.heap.size⟩
  have hR : ROk R W1 := ⟨hMlt, Nat.le_succ _, Nat.le_refl _, by show w.heap.size + 1 ≠ w.heap.size; omega, by show w.heap.size ≤ _; omega, by show w.heap.size < _; omega⟩
  have hM1own : ∀ b, Mut c φ (E.upd (frz E F)).slots b → Mut (enterCtx c φ (E.upd (frz E F)) w (inRen S k.gs)) (enterPl φ (inRen S k.gs)) k.env.slots b := by
    intro b hb
    by_cases hX : (enterCtx c φ (E.upd (frz E F)) w (inRen S k.gs)).X b
    · exact .inr (hXo b hX)
    · exact .inl ⟨hb, hX⟩
  have hrest : Rest R k.env (enterPl φ (inRen S k.gs)) W1 (fun b => Mut c φ (E.upd (frz E F)).slots b ∨ b = w.heap.size + 1) (fun b => Own (enterPl φ (inRen S k.gs)) k.env.slots b ∨ b = w.heap.size + 1) := by
    refine ⟨?_, fun b => Iff.rfl, ?_, ?_, by show w.heap.size ≤ _; omega, by rw [hW1]; rfl, by rw [hW1]; rfl, by rw [hW1]; rfl, fun b hb _ => hold1 b hb, fun b hb _ => .inl hb, ?_, fun b hb => hs3.own_x hb, hD1, ?_⟩
    · refine hs3.move rfl (by omega) (Nat.le_refl _) rfl rfl rfl (fun _ _ _ => rfl) ?_ (fun b hb hM => ⟨hold1 b hb, ?_⟩) (fun s r hs hre => ?_)
      · rintro b (hb | hb)
        · have := hMlt b hb; show b < W1.heap.size; omega
        · show b < W1.heap.size; omega
      · rintro (⟨g1 | g1, _⟩ | g1)
        · exact hM (hM1own b g1)
        · omega
        · exact hM (.inr g1)
      · have hlt := (hs3.row s r hs).2.1.lt hre
        refine ⟨hold1 _ hlt, fun hmu => .inl ⟨s, r, hs, hmu, hre, rfl⟩, ?_⟩
        by_cases hmu : r.mut = true
        · exact .inl ⟨s, r, hs, hmu, hre, rfl⟩
        · refine .inr ?_
          rintro (g1 | g1)
          · exact hs3.frozen_nm hs hmu hre (hM1own _ g1)
          · omega
    · rintro b (hb | hb)
      · exact .inl (hMs b (.inr hb))
      · exact .inr hb
    · rintro b (hb | hb)
      · have := hMlt b hb; omega
      · omega
    · rintro b hb (g1 | g1)
      · exact g1
      · have hb : b < w.heap.size := hb; omega
    · rintro (g1 | g1)
      · exact absurd (hMlt _ g1) (Nat.lt_irrefl _)
      · have g1 : w.heap.size = w.heap.size + 1 := g1
        omega
  have hmk : a.defers = a.defers := rfl
  -- behind the range
  let GX : Exit → Env → Prop := fun ex E3 => ∃ k' : Ct, E3.slots = k'.out ∧ (∀ j, j < k'.new.length → E.used (.loc d j) = false) ∧ K ex (E.upd (outUps S d k' ++ frz E F))
  have hfin : ∀ (ex : Exit) (E3 : Env) (φ3 : Nm → Place) (w3 : World) (M O : Nat → Prop) (rec3 : Loop), GX ex E3 → Rest R E3 φ3 w3 M O → w3.heap[w.heap.size + 1]? = some (.loop rec3) → ∀ o,
      Q ex { a with defers := [{ target := .collected w.heap.size, args := #[] }] ++ a.defers } (w3.putObj (w.heap.size + 1) (.loop o)) := by
    intro ex E3 φ3 w3 M O rec3 hg hr hl3 o
    obtain ⟨k', hsl, hfr, hk⟩ := hg
    have hr4 := hr.put hR.L hR.LD (o := o) hl3
    have hb := hr4.base hR 0
    obtain ⟨φ5, hs5⟩ := hf1.exit hgo (E' := E3) hb (comes_ct hm hfu hfr hsl) (v := undef) (d := .junk) .junk (dst := none) rfl
    have hs5 : SimA c φ5 ((E.upd (frz E F)).upd (outUps S d k')) a (w3.putObj (w.heap.size + 1) (.loop o)) := hs5
    rw [← upd_append] at hs5
    refine hK ex _ φ5 _ _ hk ⟨hs5.toSimW, hs5.tm, hs5.sz, ?_⟩
    obtain ⟨bs, g1, hnd, g2⟩ := hs5.df
    obtain ⟨bs0, g1', _, g3⟩ := h.df
    have hbb : bs = bs0 := marks_inj (g1.symm.trans g1')
    refine ⟨w.heap.size :: bs, by simp [g1], List.nodup_cons.2 ⟨fun hin => ?_, hnd⟩, fun b hb => ?_⟩
    · rw [hbb] at hin
      have := (Array.getElem?_eq_some_iff.1 (g3 _ hin).2).1
      omega
    rcases List.mem_cons.1 hb with hb | hb
    · subst hb; exact ⟨(let ⟨l, q1, q2⟩ := hdl; ⟨l, q1, Nat.le_trans q2 h.size⟩), hr4.dk⟩
    · exact g2 b hb
  refine ⟨w.heap.size + 1, [{ target := .collected w.heap.size, args := #[] }], W1, { target := .fn (.func f) vs.toArray, args := #[.func (.yield (w.heap.size + 1)) #[] #[]] }, W1, f,
    #[.func (.yield (w.heap.size + 1)) #[] #[]] ++ vs.toArray, W1, ?_, ?_, fun _ _ => trivial, ?_, fun h => by simp [FW, Fence.wide] at h, ?_⟩
  · rw [hW1, hrec]; exact run_enterLoop_outer _ _ _ _ _
  · simp only [resolve, hgv]
    simp [Deferred.ofValue, Act.eval]
  · simp [invoke, run_callFunc' hit.1]
  · obtain ⟨hvl, hvr⟩ := views_rep h h2 hl hp hM1 hF
    have hcalls := hit.2 W1 _ _ vs (w.heap.size + 1)
      (fun i w' M O => ∃ E1 φ1, I i E1 ∧ RHead k E1 ∧ Rest R E1 φ1 w' M O ∧ w'.heap[w.heap.size + 1]? = some (.loop rec))
      (fun w' M O => ∃ ex E3 φ3, GX ex E3 ∧ Rest R E3 φ3 w' M O ∧ isOut ex ∧ (jumpOf ex).isNone = false ∧ w'.heap[w.heap.size + 1]? = some (.loop { rec with state := .done, pending := jumpOf ex }))
      hrest.lt hrest.oM hvl (fun i v t hv ht => (hvr i v t hv ht).mono (by omega) (fun b hb hM => ⟨hold1 b hb, by rintro (g1 | g1); exact hM g1; omega⟩) (fun _ hu => by cases hu))
      ?_ ?_ ?_ ⟨k.env, enterPl φ (inRen S k.gs), h5, fun _ hs => hs, hrest, hL1⟩
    · refine (callsIn_wide (n := 0 - 1).2 hcalls).mono fun e w' he => ?_
      obtain ⟨v, M', O', rfl, hj⟩ := he
      rcases hj with ⟨E1, φ1, g1, g2, g3, g4⟩ | ⟨ex, E3, φ3, g1, g2, g3, g4, g5⟩
      · refine ⟨none, w'.putObj (w.heap.size + 1) (.loop { rec with state := .exhausted }), ?_, ?_⟩
        · have := run_endLoop (P := P) g4 (by rw [hrec]; simp)
          rw [this, show rec.pending = none by rw [hrec]]
        obtain ⟨k', ρ, q1, q3, q4, q5⟩ := h7 E1 g1 g2
        -- other names for what is there
        have hr4 := g3.put hR.L hR.LD (o := { rec with state := .exhausted }) g4
        have hb := hr4.base hR 0
        obtain ⟨φ2, hb2⟩ := hb.canonW q1
        obtain ⟨φ5, hs5⟩ := hf1.exit hgo (E' := E1.canon ρ) hb2 (comes_ct hm hfu q4 q3) (v := undef) (d := .junk) .junk (dst := none) rfl
        have hs5 : SimA c φ5 ((E.upd (frz E F)).upd (outUps S d k')) a (w'.putObj (w.heap.size + 1) (.loop { rec with state := .exhausted })) := hs5
        rw [← upd_append] at hs5
        refine hK .normal _ φ5 _ _ q5 ⟨hs5.toSimW, hs5.tm, hs5.sz, ?_⟩
        obtain ⟨bs, r1, hnd, r2⟩ := hs5.df
        obtain ⟨bs0, r1', _, r3⟩ := h.df
        have hbb : bs = bs0 := marks_inj (r1.symm.trans r1')
        refine ⟨w.heap.size :: bs, by simp [r1], List.nodup_cons.2 ⟨fun hin => ?_, hnd⟩, fun b hb => ?_⟩
        · rw [hbb] at hin
          have := (Array.getElem?_eq_some_iff.1 (r3 _ hin).2).1
          omega
        rcases List.mem_cons.1 hb with hb | hb
        · subst hb; exact ⟨(let ⟨l, q1, q2⟩ := hdl; ⟨l, q1, Nat.le_trans q2 h.size⟩), hr4.dk⟩
        · exact r2 b hb
      · refine ⟨jumpOf ex, _, by have := run_endLoop (P := P) g5 (by simp); exact this, ?_⟩
        have := hfin ex E3 φ3 w' M' O' _ g1 g2 g5 { rec with state := .exhausted, pending := jumpOf ex }
        cases ex with
        | normal => simp [jumpOf] at g4
        | ret => exact wpIn_ret this
        | exit id => exact wpIn_exit this
        | _ => exact g3.elim
    · rintro i w1 M2 O1 w2 M3 ⟨E1, φ1, g1, g2, g3, g4⟩ hmv
      exact ⟨E1, φ1, g1, g2, g3.stab hR hmv, g3.lk hmv g4⟩
    · rintro w1 M2 O1 w2 M3 ⟨ex, E3, φ3, g1, g2, g3, g4, g5⟩ hmv
      exact ⟨ex, E3, φ3, g1, g2.stab hR hmv, g3, g4, g2.lk hmv g5⟩
    · rintro i x w2 M2 O2 us hxi ⟨E1, φ1, g1, g2, g3, g4⟩ hul hus
      have hxl := h4 x (List.mem_of_getElem? hxi)
      have hround := round_sound (R := R) hR (hA _) (hB _) (rec := rec) (by rw [hrec]) (by rw [hrec]) (by rw [hrec]) (ps := ps) (by rw [hrec]) hpn (f0 := fun t => (E.tmps t).ren (inRen S k.gs)) (U0 := k.env.used) (used0_fixed k)
        (by rw [hrec]; exact h.sz) (fun t => ?_) (fun b hb => hMs b (.inr (hXo b hb))) g3 g2 g4 (hul.trans hxl) hxl hus
        (KK := fun e E3 => match e with
           | .normal => ∃ ρ, okRen ρ = true ∧ RHead k (E3.canon ρ) ∧ I (i + 1) (E3.canon ρ)
           | .ret => RDone E S F d (K .ret) E3
           | .exit id => RDone E S F d (K (.exit id)) E3
           | _ => False)
        (G := fun e E4 => (e = .normal ∧ RHead k E4 ∧ I (i + 1) E4) ∨ ((jumpOf e).isNone = false ∧ GX e E4)) (fun e E3 hk => ?_) (h6 i x E1 hxi g1 g2)
      · obtain ⟨fn', tmps, asg, bd, y1, y2⟩ := hround
        refine ⟨fn', tmps, asg, bd, y1, y2.mono fun e w3 he => ?_⟩
        obtain ⟨M4, O4, q1, ex, E4, φ4, q2, q3, q4, q5, q6⟩ := he
        refine ⟨M4, O4, q1, ?_⟩
        rcases q2 with ⟨rfl, q7, q8⟩ | ⟨q7, q8⟩
        · refine .inl ⟨q4, E4, φ4, q8, q7, q3, ?_⟩
          have q6 : w3.heap[w.heap.size + 1]? = _ := q6
          rw [q6, hrec]
          rfl
        · refine .inr ⟨by rw [q4, q7], ex, E4, φ4, q8, q3, q5, q7, ?_⟩
          have q6 : w3.heap[w.heap.size + 1]? = _ := q6
          rw [q6, q7]
          rfl
      · have e1 : rec.tmps = a.tmps := by rw [hrec]
        rw [e1]
        refine (hf1.tm t).ren (fun b hb => hb) (fun s s' hs hu => ⟨?_, hgo.pl hf1.toSimW (lookup_mem hs)⟩) hgo.hy
        rw [← hm.used]
        exact hgo.usd.2 ⟨s, lookup_mem hs⟩
      · cases e with
        | normal =>
          obtain ⟨ρ, q1, q2, q3⟩ := hk
          exact ⟨trivial, ρ, q1, .inl ⟨rfl, q2, q3⟩⟩
        | ret =>
          obtain ⟨k', ρ, q1, q3, q4, q5⟩ := hk
          exact ⟨trivial, ρ, q1, .inr ⟨rfl, k', q3, q4, q5⟩⟩
        | exit id =>
          obtain ⟨k', ρ, q1, q3, q4, q5⟩ := hk
          exact ⟨trivial, ρ, q1, .inr ⟨rfl, k', q3, q4, q5⟩⟩
        | _ => exact hk.elim
end Go.Wt
/- Code does what is told of trees. -/
namespace Go.Wt
open Go.RowKit
variable {P : Program} {C : CallOk} {c : Ctx}
theorem code_sound (hC : CSound P C) (hL : CLocal C) (hCI : ∀ f ts xs, C.it P f ts xs → IterL P f ts xs) (hm : P.follows .mixedOrders = true) {Rl : Ctx → Env → Prop} {n : Nat} (hR : RlOk Rl n) (hY : YSnd P C Rl) {rd : Option Nat} {rf : Bool} (hrf : rf = true → rd = none ∧ ∀ c E, Rl c E → c.dl.isSome = true)
    (hCs : ∀ (code : Code) (s : SCode), rf = true → compile P n false code = some s → ∀ L, BSound P C n L code s) :
    ∀ (code : Code) (s : SCode), compile P n rf code = some s → ∀ (c : Ctx) (E : Env) (K : Exit → Env → Prop) (Q : Exit → Act → World → Prop) (φ : Nm → Place) (a : Act) (w : World), Rl c E →
    (∀ c e E φ a w, Rl c E → K e E → SimA c φ E a w → Q e a w) → SimA c φ E a w → W P C s E K → code.wpIn (FW rd) 0 P Q a w
  | .skip, s, hc, c, E, K, Q, φ, a, w, hRl, hK, h, hw => by
    simp only [compile, Option.some.injEq] at hc
    subst hc
    exact wpIn_skip (hK _ _ _ _ _ _ hRl hw h)
  | .region id ops false, s, hc, c, E, K, Q, φ, a, w, hRl, hK, h, hw => by
    simp only [compile, Option.map_eq_some_iff] at hc
    obtain ⟨sl, h1, rfl⟩ := hc
    exact wpIn_region_list (ops_sound hR hY hC (fun c E φ a w hr hk hs => hK c _ E φ a w hr hk hs) ops.toList sl 0 [] c φ E a w hRl h1 h hw)
  | .region id ops true, s, hc, c, E, K, Q, φ, a, w, hRl, hK, h, hw => by
    simp only [compile] at hc
    split at hc
    · rename_i hB
      simp only [Option.map_eq_some_iff] at hc
      obtain ⟨sl, h1, rfl⟩ := hc
      have hn := hR.nn _ _ hRl
      subst hn
      exact drawn_sound hR hRl hC hL hm hB h1 (fun E φ a w hr hk hs => hK c _ E φ a w hr hk hs) h hw.2
    · simp only [Option.some.injEq] at hc; subst hc; exact hw.elim
  | .seq x y, s, hc, c, E, K, Q, φ, a, w, hRl, hK, h, hw => by
    simp only [compile, Option.bind_eq_bind, Option.bind_eq_some_iff, Option.pure_def, Option.some.injEq] at hc
    obtain ⟨sx, h1, sy, h2, rfl⟩ := hc
    refine wpIn_seq (code_sound hC hL hCI hm hR hY hrf hCs x sx h1 c E _ _ φ a w hRl (fun c e E φ a w hr hk hs => ?_) h hw)
    cases e with
    | normal => exact code_sound hC hL hCI hm hR hY hrf hCs y sy h2 c E K Q φ a w hr hK hs hk
    | _ => exact hK c _ E φ a w hr hk hs
  | .cond t x y, s, hc, c, E, K, Q, φ, a, w, hRl, hK, h, hw => by
    simp only [compile, Option.bind_eq_bind, Option.bind_eq_some_iff, Option.pure_def, Option.some.injEq] at hc
    obtain ⟨sx, h1, sy, h2, rfl⟩ := hc
    obtain ⟨b, hb, hx, hy⟩ := hw
    have hv := h.ev t
    rw [hb] at hv
    refine wpIn_cond hv.v_inv.1 ?_
    cases b with
    | true => exact code_sound hC hL hCI hm hR hY hrf hCs x sx h1 c E K Q φ a w hRl hK h (hx rfl)
    | false => exact code_sound hC hL hCI hm hR hY hrf hCs y sy h2 c E K Q φ a w hRl hK h (hy rfl)
  | .block id b, s, hc, c, E, K, Q, φ, a, w, hRl, hK, h, hw => by
    simp only [compile, Option.map_eq_some_iff] at hc
    obtain ⟨sb, h1, rfl⟩ := hc
    refine wpIn_block (code_sound hC hL hCI hm hR hY hrf hCs b sb h1 c E _ _ φ a w hRl (fun c e E φ a w hr hk hs => ?_) h hw)
    cases e with
    | exit i =>
      have hk : if i = id then K .normal E else K (.exit i) E := hk
      show if i = id then Q .normal a w else Q (.exit i) a w
      split
      · rename_i hi; rw [if_pos hi] at hk; exact hK c _ E φ a w hr hk hs
      · rename_i hi; rw [if_neg hi] at hk; exact hK c _ E φ a w hr hk hs
    | _ => exact hK c _ E φ a w hr hk hs
  | .loop b, s, hc, c, E, K, Q, φ, a, w, hRl, hK, h, hw => by
    simp only [compile, Option.map_eq_some_iff] at hc
    obtain ⟨sb, h1, rfl⟩ := hc
    obtain ⟨I, m, ⟨ρ, hρ, hI⟩, hround⟩ := hw
    obtain ⟨φ0, hs0⟩ := canon_sim h hρ
    refine wpIn_loop_ghost (fun n a w => ∃ c1 E1 φ1, m E1 = n ∧ I E1 ∧ SimA c1 φ1 E1 a w ∧ Rl c1 E1) (m (E.canon ρ)) ⟨c, E.canon ρ, φ0, rfl, hI, hs0, hR.can _ _ _ hRl⟩ ?_
    rintro n1 a1 w1 ⟨c1, E1, φ1, rfl, hI1, hs1, hr1⟩
    refine code_sound hC hL hCI hm hR hY hrf hCs b sb h1 c1 E1 _ _ φ1 a1 w1 hr1 (fun c2 e E2 φ2 a2 w2 hr2 hk hs2 => ?_) hs1 (hround E1 hI1)
    cases e with
    | normal =>
      obtain ⟨ρ2, h2, h4, h5⟩ := hk
      obtain ⟨φ3, hs3⟩ := canon_sim hs2 h2
      exact ⟨m (E2.canon ρ2), h5, c2, E2.canon ρ2, φ3, rfl, h4, hs3, hR.can _ _ _ hr2⟩
    | _ => exact hK c2 _ E2 φ2 a2 w2 hr2 hk hs2
  | .exit id, s, hc, c, E, K, Q, φ, a, w, hRl, hK, h, hw => by
    simp only [compile, Option.some.injEq] at hc
    subst hc
    exact wpIn_exit (hK _ _ _ _ _ _ hRl hw h)
  | .ret, s, hc, c, E, K, Q, φ, a, w, hRl, hK, h, hw => by
    simp only [compile, Option.some.injEq] at hc
    subst hc
    exact wpIn_ret (hK _ _ _ _ _ _ hRl hw h)
  | .rangeFunc g ps x y, s, hc, c, E, K, Q, φ, a, w, hRl, hK, h, hw => by
    simp only [compile] at hc
    split at hc
    · rename_i hcond
      simp only [Option.bind_eq_bind, Option.bind_eq_some_iff, Option.pure_def, Option.some.injEq] at hc
      obtain ⟨sx, h1, sy, h2, rfl⟩ := hc
      have hn := hR.nn _ _ hRl
      subst hn
      obtain ⟨hrd, hsome⟩ := hrf hcond.1
      subst hrd
      obtain ⟨dl, hdl⟩ := Option.isSome_iff_exists.1 (hsome _ _ hRl)
      exact rng_sound hCI (hCs x sx hcond.1 h1) (hCs y sy hcond.1 h2) hcond.2 ⟨dl, hdl, hR.dl _ _ dl hRl hdl⟩ h hw fun e ups φ' a' w' hk hs => hK c e _ φ' a' w' (hR.upd _ _ _ hRl) hk hs
    · simp only [Option.some.injEq] at hc; subst hc; exact hw.elim
  | .scope _, s, hc, _, _, _, _, _, _, _, _, _, _, hw => by simp only [compile, Option.some.injEq] at hc; subst hc; exact hw.elim
  | .label _, s, hc, _, _, _, _, _, _, _, _, _, _, hw => by simp only [compile, Option.some.injEq] at hc; subst hc; exact hw.elim
  | .goto _, s, hc, _, _, _, _, _, _, _, _, _, _, hw => by simp only [compile, Option.some.injEq] at hc; subst hc; exact hw.elim
  | .refuse _, s, hc, _, _, _, _, _, _, _, _, _, _, hw => by simp only [compile, Option.some.injEq] at hc; subst hc; exact hw.elim
theorem rl_eq (c : Ctx) (hd : ∀ l, c.dl = some l → l ≤ c.w0.heap.size) : RlOk (fun c' (_ : Env) => c' = c) c.n := ⟨fun _ _ h => by rw [h], fun _ _ l h => by rw [h]; exact hd l, fun _ _ _ _ h _ => h, fun _ _ _ h => h, fun _ _ _ h => h⟩
theorem noY_snd (C : CallOk) (Rl : Ctx → Env → Prop) : YSnd P C.noY Rl := fun _ _ _ _ _ _ _ _ _ _ h => h.elim
theorem noY_sound {C : CallOk} (h : CSound P C) : CSound P C.noY := h
theorem noY_local {C : CallOk} (h : CLocal C) : CLocal C.noY := h
/-- In a round there is no other range over a function. -/
theorem bsound (hC : CSound P C) (hL : CLocal C) (hCI : ∀ f ts xs, C.it P f ts xs → IterL P f ts xs) (hm : P.follows .mixedOrders = true) {n : Nat} (code : Code) (s : SCode) (hc : compile P n false code = some s) (L : Nat) : BSound P C n L code s := by
  intro c E K Q φ a w hn hd hK h hw
  subst hn
  exact code_sound (C := C.noY) (noY_sound hC) (noY_local hL) hCI hm (rl_eq c hd) (noY_snd C _) (rd := some L) (rf := false) (fun hh => by simp at hh) (fun _ _ hh => by simp at hh) code s hc c E K Q φ a w rfl (fun c' e E φ a w hr hk hs => by subst hr; exact hK e E φ a w hk hs) h hw
/-- Code of a function. -/
theorem code_sound' (hC : CSound P C) (hL : CLocal C) (hCI : ∀ f ts xs, C.it P f ts xs → IterL P f ts xs) (hm : P.follows .mixedOrders = true) {Rl : Ctx → Env → Prop} {n : Nat} (hR : RlOk Rl n) (hsome : ∀ c E, Rl c E → c.dl.isSome = true) (hY : YSnd P C Rl) (code : Code) (s : SCode) (hc : compile P n true code = some s) (c : Ctx) (E : Env) (K : Exit → Env → Prop) (Q : Exit → Act → World → Prop) (φ : Nm → Place) (a : Act) (w : World) (hRl : Rl c E)
    (hK : ∀ c e E φ a w, Rl c E → K e E → SimA c φ E a w → Q e a w) (h : SimA c φ E a w) (hw : W P C s E K) : code.wpIn (FW none) 0 P Q a w :=
  code_sound hC hL hCI hm hR hY (fun _ => ⟨rfl, hsome⟩) (fun code s _ hc L => bsound hC hL hCI hm code s hc L) code s hc c E K Q φ a w hRl hK h hw
end Go.Wt
/- A contract of a function from its code. -/
namespace Go.Wt
open Go.RowKit
variable {P : Program} {C : CallOk} {c : Ctx} {φ : Nm → Place} {E : Env} {a : Act} {w : World}
/-- A load, as a value that is handed back is read. -/
theorem dLoad_run (h : SimW c φ E w) {t : TypeId} {n : Nat} {x : Value} {d : DV} {r : Res} (hn : szT P t = some n) (hx : RepV φ E.used w (Mut c φ E.slots) x d) (hr : dLoad E n (aggT P t) d = some r) :
    ∃ ad v, x = .pointer (some ad) ∧ (loadVar t ad).run P w = .ok v w ∧ RepV φ E.used w (Mut c φ E.slots) v r.d := by
  have hfin : ∀ {b o : Nat} {v : Value} {y : DV} {rd : List Nm}, x = .pointer (some ⟨b, o, none⟩) → (Instr.loadAt t (.pointer (some ⟨b, o, none⟩))).run P w = .ok v w → RepV φ E.used w (Mut c φ E.slots) v y →
      ∃ ad v, x = .pointer (some ad) ∧ (loadVar t ad).run P w = .ok v w ∧ RepV φ E.used w (Mut c φ E.slots) v (Res.mk y rd []).d := by
    intro b o v y rd hv hrun hrep
    exact ⟨_, v, hv, hrun, hrep⟩
  unfold dLoad at hr
  split at hr
  · rename_i s k j
    obtain ⟨hv, hU⟩ := hx.ptr_inv
    split at hr
    · rename_i e d fz hsl
      split at hr
      · rename_i hk
        subst hk
        split at hr
        · rename_i y hy
          simp only [Option.some.injEq] at hr
          subst hr
          obtain ⟨_, ⟨cs, hg, hl, h1, hp⟩, _⟩ := h.row s _ hsl
          obtain ⟨v, hrun, hrep⟩ := run_load_part (φ := φ) (U := E.used) (M := Mut c φ E.slots) hn (φ s).blk 0 cs (fun i v hv => by rw [cell_of_heap hg, Nat.zero_add]; exact hv) hl h1 hp hy
          simp only [Nat.zero_mul, Nat.zero_add] at hv hrun
          exact hfin hv hrun hrep
        · simp at hr
      · simp at hr
    · rename_i e m l fz hsl
      split at hr
      · rename_i y0 hk
        split at hr
        · rename_i y hy
          simp only [Option.some.injEq] at hr
          subst hr
          obtain ⟨_, hB, _⟩ := h.row s _ hsl
          have hpm : (φ s).m = m := by rcases hB with ⟨_, _, hpm, _⟩ | ⟨cs, _, _, hpm, _⟩ <;> exact hpm
          obtain ⟨vs, hl, h1, hc, hp⟩ := row_cells hB hk
          have hcl : (DV.t y0).cells.length = y0.cells.length := by cases y0 <;> simp [DV.cells, Tree.cells]
          obtain ⟨v, hrun, hrep⟩ := run_load_part (φ := φ) (U := E.used) (M := Mut c φ E.slots) hn (φ s).blk (k * m) vs hc (by rw [hcl]; exact hl) h1 hp hy
          rw [hpm] at hv
          exact hfin hv hrun hrep
        · simp at hr
      · simp at hr
    · simp at hr
  · rename_i y0 j
    obtain ⟨y, hy, rfl⟩ := sound_opt hr
    cases hx with
    | tp u hM hb hu h1 h2 =>
      have hcl : (DV.t y0).cells = y0.cells.map .t := by cases y0 <;> rfl
      have hget : ∀ i v, ((List.range y0.cells.length).map u)[i]? = some v → i < y0.cells.length ∧ v = u i := by
        intro i v hv
        simp only [List.getElem?_map, Option.map_eq_some_iff] at hv
        obtain ⟨i', h1, rfl⟩ := hv
        have := List.getElem?_eq_some_iff.1 h1
        obtain ⟨h2, h3⟩ := this
        simp at h2 h3
        subst h3
        exact ⟨h2, rfl⟩
      rename_i b o
      obtain ⟨v, hrun, hrep⟩ := run_load_part (φ := φ) (U := E.used) (M := Mut c φ E.slots) hn b o ((List.range y0.cells.length).map u) (fun i v hv => by
          obtain ⟨hi, rfl⟩ := hget i v hv
          exact hu i _ (List.getElem?_eq_getElem hi)) (by rw [hcl]; simp) (fun v hv => by
          obtain ⟨i, hi, rfl⟩ := List.getElem_of_mem hv
          obtain ⟨hi', he⟩ := hget i _ (List.getElem?_eq_getElem hi)
          rw [he, (h2 i _ (List.getElem?_eq_getElem hi')).one]
          exact h1 i _ (List.getElem?_eq_getElem hi')) (fun i v z hv hz => by
          obtain ⟨hi, rfl⟩ := hget i v hv
          rw [hcl, List.getElem?_map, List.getElem?_eq_getElem hi] at hz
          simp at hz
          subst hz
          exact .t (h2 i _ (List.getElem?_eq_getElem hi))) hy
      exact hfin rfl hrun hrep
  · simp at hr
/-- What a function hands back, its types looked up. -/
def cresult (P : Program) : ResultVar → Option SRes
  | .tmp t => some (.tmp t)
  | .cell a t => (szT P t).map fun n => .cell a n (aggT P t)
def cresults (P : Program) (fn : Func) : Option (List SRes) := fn.results.toList.mapM (cresult P)
theorem asAddr_ptr (ad : Addr) (P : Program) (w : World) : (asAddr (.pointer (some ad))).run P w = .ok ad w := rfl
/-- A result, read. -/
def readRes (tmps : Array Value) : ResultVar → Sem Value
  | .tmp t => pure (tmps.getD t undef)
  | .cell ad t => do loadVar t (← asAddr (tmps.getD ad undef))
theorem results_eq (fn : Func) (tmps : Array Value) : results fn tmps = (do let vs ← fn.results.mapM (readRes tmps); pure (if h : vs.size = 1 then vs[0] else .tuple vs)) := by
  have : (fun | .tmp t => pure (tmps.getD t undef) | .cell a t => do loadVar t (← asAddr (tmps.getD a undef)) : ResultVar → Sem Value) = readRes tmps := by
    funext x; cases x <;> rfl
  rw [← this]
  rfl
theorem result_run (h : SimA c φ E a w) {rv : ResultVar} {sr : SRes} (hc : cresult P rv = some sr) {d : DV} (hd : sr.val E = some d) :
    ∃ v, (readRes a.tmps rv).run P w = .ok v w ∧ RepV φ E.used w (Mut c φ E.slots) v d := by
  cases rv with
  | tmp t =>
    simp only [cresult, Option.some.injEq] at hc
    subst hc
    simp only [SRes.val, Option.some.injEq] at hd
    subst hd
    exact ⟨_, rfl, h.tm t⟩
  | cell ad t =>
    simp only [cresult, Option.map_eq_some_iff] at hc
    obtain ⟨n, hn, rfl⟩ := hc
    simp only [SRes.val, Option.map_eq_some_iff] at hd
    obtain ⟨r, hr, rfl⟩ := hd
    obtain ⟨p, v, h1, h2, h3⟩ := dLoad_run h.toSimW hn (h.tm ad) hr
    refine ⟨v, ?_, h3⟩
    simp only [readRes, Sem.run_bind, h1, asAddr_ptr, Result.andThen_ok, h2]
theorem mapM_run {α : Type} (f : α → Sem Value) : ∀ (l : List α) (vs : List Value) (w : World), l.length = vs.length → (∀ (i : Nat) (x : α) (v : Value), l[i]? = some x → vs[i]? = some v → (f x).run P w = .ok v w) → (l.mapM f).run P w = .ok vs w
  | [], [], w, _, _ => rfl
  | x :: l, v :: vs, w, hl, h => by
    have h1 := h 0 x v rfl rfl
    have h2 := mapM_run f l vs w (by simpa using hl) (fun i y u hy hu => h (i + 1) y u (by simpa using hy) (by simpa using hu))
    simp only [List.mapM_cons, Sem.run_bind, h1, Result.andThen_ok, h2, Sem.run_pure]
/-- What is handed back. -/
theorem results_run (h : SimA c φ E a w) {fn : Func} {rs : List SRes} (hc : cresults P fn = some rs) {d : DV} (hd : resV E rs = some d) :
    ∃ v, (results fn a.tmps).run P w = .ok v w ∧ RepV φ E.used w (Mut c φ E.slots) v d := by
  obtain ⟨hl, hget⟩ := mapM_some hc
  -- the values, one by one
  have hone : ∀ (ds : List DV), rs.mapM (SRes.val E) = some ds → ∃ vs : List Value, vs.length = ds.length ∧ (∀ (i : Nat) (v : Value) (d : DV), vs[i]? = some v → ds[i]? = some d → RepV φ E.used w (Mut c φ E.slots) v d) ∧
      (fn.results.toList.mapM (readRes a.tmps)).run P w = .ok vs w := by
    intro ds hds
    obtain ⟨hl2, hget2⟩ := mapM_some hds
    have hex : ∀ i, i < ds.length → ∃ v, ∀ (rv : ResultVar) (d : DV), fn.results.toList[i]? = some rv → ds[i]? = some d → (readRes a.tmps rv).run P w = .ok v w ∧ RepV φ E.used w (Mut c φ E.slots) v d := by
      intro i hi
      have h1 : i < rs.length := by omega
      have h2 : i < fn.results.toList.length := by omega
      obtain ⟨v, h3, h4⟩ := result_run h (hget i _ _ (List.getElem?_eq_getElem h2) (List.getElem?_eq_getElem h1)) (hget2 i _ _ (List.getElem?_eq_getElem h1) (List.getElem?_eq_getElem hi))
      refine ⟨v, fun rv d hrv hdi => ?_⟩
      rw [List.getElem?_eq_getElem h2] at hrv
      rw [List.getElem?_eq_getElem hi] at hdi
      cases hrv
      cases hdi
      exact ⟨h3, h4⟩
    let V : Nat → Value := fun i => if hi : i < ds.length then (hex i hi).choose else undef
    refine ⟨(List.range ds.length).map V, by simp, fun i v d hv hd => ?_, mapM_run _ _ _ _ (by rw [List.length_map, List.length_range]; omega) fun i rv v hrv hv => ?_⟩
    · have hi := (List.getElem?_eq_some_iff.1 hd).1
      have h2 : i < fn.results.toList.length := by omega
      rw [List.getElem?_map, List.getElem?_range hi] at hv
      simp only [Option.map_some, Option.some.injEq, V, hi, dif_pos] at hv
      rw [← hv]
      exact ((hex i hi).choose_spec _ d (List.getElem?_eq_getElem h2) hd).2
    · have hi : i < ds.length := by
        have := (List.getElem?_eq_some_iff.1 hv).1
        simpa using this
      rw [List.getElem?_map, List.getElem?_range hi] at hv
      simp only [Option.map_some, Option.some.injEq, V, hi, dif_pos] at hv
      rw [← hv]
      exact ((hex i hi).choose_spec rv _ hrv (List.getElem?_eq_getElem hi)).1
  have hrun : ∀ vs : List Value, (fn.results.toList.mapM (readRes a.tmps)).run P w = .ok vs w →
      (results fn a.tmps).run P w = .ok (if h : vs.toArray.size = 1 then vs.toArray[0] else .tuple vs.toArray) w := by
    intro vs hvs
    rw [results_eq, Sem.run_bind, Array.mapM_eq_mapM_toList, Sem.run_map, hvs]
    rfl
  unfold resV at hd
  split at hd
  · simp only [Option.some.injEq] at hd
    subst hd
    obtain ⟨vs, h1, h2, h3⟩ := hone [] rfl
    have : vs = [] := List.length_eq_zero_iff.1 h1
    subst this
    exact ⟨_, hrun _ h3, .tup (vs := []) rfl (fun i v d hv => by simp at hv)⟩
  · rename_i sr
    obtain ⟨vs, h1, h2, h3⟩ := hone [d] (by simp [hd])
    match vs, h1 with
    | [v], _ => exact ⟨v, hrun _ h3, h2 0 v d rfl rfl⟩
  · rename_i l hne1 hne2
    simp only [Option.map_eq_some_iff] at hd
    obtain ⟨ds, h4, rfl⟩ := hd
    obtain ⟨vs, h1, h2, h3⟩ := hone ds h4
    have hne : vs.length ≠ 1 := by
      intro he
      have h5 := (mapM_some h4).1
      have hlen : rs.length = 1 := by omega
      obtain ⟨x, hx⟩ := List.length_eq_one_iff.1 hlen
      exact hne2 x hx
    refine ⟨.tuple vs.toArray, ?_, .tup h1 h2⟩
    rw [hrun _ h3, dif_neg (by simpa using hne)]
/-- A result under the names of a contract: read through where it can be, else renamed. -/
def Env.out1 (E : Env) (ρ : List (Nm × Nm)) (d : DV) : DV := match E.view d with
  | some (x, rd) => if rd.all (fun s => (ρ.lookup s).isNone) = true then .t x else d.ren ρ
  | none => d.ren ρ
def Env.outD (E : Env) (ρ : List (Nm × Nm)) : DV → DV
  | .tup l => .tup (l.map (E.out1 ρ))
  | d => E.out1 ρ d
/-- How a function ends, by its contract. -/
def Ends (k : Ct) (d : DV) (E : Env) : Prop := (∃ ρ, okRen ρ = true ∧ (E.canon ρ).slots = k.out ∧ E.outD ρ d = k.d) ∨
  (d = .t .e0 ∧ k.d = .osl (.loc 0 0) 0 ∧ ∃ ρ e m, okRen ρ = true ∧ 0 < m ∧ k.new = [.rows e m [] false] ∧ (E.canon ρ).used (.loc 0 0) = false ∧ (E.canon ρ).slots = ctSlots [] k.rows' [])
theorem out1_rep (h : SimA c φ E a w) {ρ : List (Nm × Nm)} {φ' : Nm → Place} (h1 : ∀ v d, RepV φ E.used w (Mut c φ E.slots) v d → RepV φ' (E.canon ρ).used w (Mut c φ' (E.canon ρ).slots) v (d.ren ρ))
    (h2 : ∀ b, Mut c φ' (E.canon ρ).slots b → Mut c φ E.slots b) (h3 : ∀ s r, E.slots s = some r → r.real (φ s) = true → ρ.lookup s = none → ¬ Mut c φ' (E.canon ρ).slots (φ s).blk) {v : Value} {d : DV}
    (hv : RepV φ E.used w (Mut c φ E.slots) v d) : RepV φ' (E.canon ρ).used w (Mut c φ' (E.canon ρ).slots) v (E.out1 ρ d) := by
  unfold Env.out1
  split
  · rename_i x rd hx
    split
    · rename_i hall
      refine .t (h.toSimW.view h2 hv hx fun s hs hcap => ?_)
      obtain ⟨e, m, l, fz, hsl⟩ := view_rd hx s hs
      exact h3 s _ hsl (by simpa [Row.real] using hcap) (by simpa using List.all_eq_true.1 hall s hs)
    · exact h1 v d hv
  · exact h1 v d hv
theorem outD_rep (h : SimA c φ E a w) {ρ : List (Nm × Nm)} {φ' : Nm → Place} (h1 : ∀ v d, RepV φ E.used w (Mut c φ E.slots) v d → RepV φ' (E.canon ρ).used w (Mut c φ' (E.canon ρ).slots) v (d.ren ρ))
    (h2 : ∀ b, Mut c φ' (E.canon ρ).slots b → Mut c φ E.slots b) (h3 : ∀ s r, E.slots s = some r → r.real (φ s) = true → ρ.lookup s = none → ¬ Mut c φ' (E.canon ρ).slots (φ s).blk) {v : Value} {d : DV}
    (hv : RepV φ E.used w (Mut c φ E.slots) v d) : RepV φ' (E.canon ρ).used w (Mut c φ' (E.canon ρ).slots) v (E.outD ρ d) := by
  cases d with
  | tup l =>
    cases hv with
    | tup hl hp =>
      refine .tup (by simpa using hl) fun i u d hu hd => ?_
      simp only [List.getElem?_map, Option.map_eq_some_iff] at hd
      obtain ⟨d0, hd0, rfl⟩ := hd
      exact out1_rep h h1 h2 h3 (hp i u d0 hu hd0)
  | _ => exact out1_rep h h1 h2 h3 hv
theorem Rep.world {w' : World} {M : Nat → Prop} {v : Value} {t : Tree} (h : Rep w M v t) (hs : w.heap.size ≤ w'.heap.size) (hw : ∀ (b : Nat) cs e z, w.heap[b]? = some (Obj.cells cs e z) → w'.heap[b]? = w.heap[b]?) : Rep w' M v t := by
  have hc : ∀ (p : Addr) (x : Value), w.cell? p = some x → w'.cell? p = some x := by
    intro p x hx
    unfold World.cell? at *
    cases ho : w.heap[p.block]? with
    | none => rw [ho] at hx; simp at hx
    | some o =>
      cases o with
      | cells cs e z => rw [hw _ _ _ _ ho]; exact hx
      | _ => rw [ho] at hx; simp at hx
  induction h with
  | v h => exact .v h
  | agg hl h1 _ ih => exact .agg hl h1 fun i v t hv ht => ih i v t hv ht
  | e0 => exact .e0
  | sl0 hc => exact .sl0 hc
  | sl u hM hb hn hcap hm hu h1 _ ih => exact .sl u hM (by omega) hn hcap hm (fun k t j c hk hj => hc _ _ (hu k t j c hk hj)) h1 ih
theorem RepV.world {U : Nm → Bool} {w' : World} {M : Nat → Prop} {v : Value} {d : DV} (h : RepV φ U w M v d) (hs : w.heap.size ≤ w'.heap.size) (hw : ∀ (b : Nat) cs e z, w.heap[b]? = some (Obj.cells cs e z) → w'.heap[b]? = w.heap[b]?) : RepV φ U w' M v d := by
  have hc : ∀ (p : Addr) (x : Value), w.cell? p = some x → w'.cell? p = some x := by
    intro p x hx
    unfold World.cell? at *
    cases ho : w.heap[p.block]? with
    | none => rw [ho] at hx; simp at hx
    | some o =>
      cases o with
      | cells cs e z => rw [hw _ _ _ _ ho]; exact hx
      | _ => rw [ho] at hx; simp at hx
  induction h with
  | t h => exact .t (h.world hs hw)
  | agg hl h1 _ ih => exact .agg hl h1 fun i v d hv hd => ih i v d hv hd
  | tup hl _ ih => exact .tup hl fun i v d hv hd => ih i v d hv hd
  | ptr h => exact .ptr h
  | tp u hM hb hu h1 h => exact .tp u hM (by omega) (fun i c hi => hc _ _ (hu i c hi)) h1 (fun i c hi => (h i c hi).world hs hw)
  | osl h hn ha => exact .osl h hn ha
  | fn hl _ ih => exact .fn hl fun i v d hv hd => ih i v d hv hd
  | mfn hl0 hl _ _ ih0 ih => exact .mfn hl0 hl (fun i v d hv hd => ih0 i v d hv hd) fun i v d hv hd => ih i v d hv hd
  | mp h => exact .mp h
  | yl h => exact .yl h
  | wh _ ih => exact .wh fun e => ih e
  | junk => exact .junk
/-- Lists of deferred calls are taken over. -/
theorem SimA.taken (h : SimA c φ E a w) {bs : List Nat} (hb0 : ∀ b ∈ bs, c.w0.heap.size ≤ b ∧ w.heap[b]? = some (.deferred (some []))) {w' : World} (hs : w'.heap.size = w.heap.size) (hos : w'.os = w.os) (htape : w'.tape = w.tape) (hout : w'.output = w.output)
    (hb : ∀ b, b ∉ bs → w'.heap[b]? = w.heap[b]?) : SimA c φ E { a with defers := [] } w' := by
  have hw : ∀ (b : Nat) cs e z, w.heap[b]? = some (Obj.cells cs e z) → w'.heap[b]? = w.heap[b]? := by
    intro b cs e z ho
    refine hb b fun hin => ?_
    rw [(hb0 b hin).2] at ho
    cases ho
  have hle : w.heap.size ≤ w'.heap.size := by omega
  refine ⟨⟨by rw [hs]; exact h.size, hos.trans h.os, htape.trans h.tape, hout.trans h.output, fun b hlt hx => ?_, h.m0, fun s r hr => ?_, h.inj, h.fix, h.gl⟩, fun t => (h.tm t).world hle hw, h.sz, [], rfl, by simp, by simp⟩
  · rw [hb b fun hin => by have := (hb0 b hin).1; omega]
    exact h.old b hlt hx
  · obtain ⟨h1, h2, h3⟩ := h.row s r hr
    refine ⟨h1, ?_, h3⟩
    cases r with
    | box e d fz =>
      obtain ⟨cs, g1, g2, g3, g4⟩ := h2
      exact ⟨cs, by rw [hw _ _ _ _ g1]; exact g1, g2, g3, fun i v x hv hx => (g4 i v x hv hx).world hle hw⟩
    | rows e m l fz =>
      rcases h2 with h2 | ⟨cs, g0, g1, g2, g3, g4, g5, g6, g7, g8⟩
      · exact .inl h2
      · refine .inr ⟨cs, g0, by rw [hw _ _ _ _ g1]; exact g1, g2, g3, g4, g5, g6, g7, fun k t j cc hk hj => ?_⟩
        obtain ⟨q1, v, q2, q3⟩ := g8 k t j cc hk hj
        exact ⟨q1, v, q2, q3.world hle hw⟩
    | obj o fz =>
      have hnb : ∀ ob, w.heap[(φ s).blk]? = some ob → (∀ l, ob ≠ .deferred l) → w'.heap[(φ s).blk]? = some ob := by
        intro ob ho hne
        rw [hb _ fun hin => ?_]
        · exact ho
        · rw [(hb0 _ hin).2] at ho; cases ho; exact hne _ rfl
      cases o with
      | mp es cl =>
        obtain ⟨ents, g1, g2, g3⟩ := h2
        refine ⟨ents, hnb _ g1 (fun _ => by simp), g2, fun i e x he hx => ?_⟩
        obtain ⟨q1, q2, q3⟩ := g3 i e x he hx
        exact ⟨q1, q2, q3.world hle hw⟩
      | it str p => exact hnb _ h2 (fun _ => by simp)
      | dfr => exact h2
theorem leaves_marks {fn : Func} {tmps : Array Value} {R : Ending → World → Prop} : ∀ (bs : List Nat) (w : World), bs.Nodup → (∀ b ∈ bs, w.heap[b]? = some (.deferred (some []))) →
    (∀ w', w'.heap.size = w.heap.size → w'.os = w.os → w'.tape = w.tape → w'.output = w.output → (∀ b, b ∉ bs → w'.heap[b]? = w.heap[b]?) → ∃ v, (results fn tmps).run P w' = .ok v w' ∧ R (.returned v) w') →
    LeavesInM Fence.wide 0 P fn tmps R (bs.map fun b => { target := .collected b, args := #[] }) .returning w
  | [], w, _, _, h => h w rfl rfl rfl rfl (fun _ _ => rfl)
  | b :: bs, w, hn, hb, h => by
    have hb0 := hb b List.mem_cons_self
    refine ⟨by simp, .inl ⟨b, _, rfl, run_takeDeferred hb0, ?_⟩⟩
    rw [List.nodup_cons] at hn
    refine leaves_marks bs _ hn.2 (fun x hx => ?_) (fun w' h1 h2 h3 h4 h5 => ?_)
    · rw [World.putObj_heap_other (fun e : x = b => hn.1 (by rw [← e]; exact hx))]; exact hb x (List.mem_cons_of_mem _ hx)
    · refine h w' (by rw [h1]; simp) h2 h3 h4 (fun x hx => ?_)
      rw [h5 x (fun hh => hx (List.mem_cons_of_mem _ hh)), World.putObj_heap_other (fun e : x = b => hx (by rw [e]; exact List.mem_cons_self))]
theorem holds_of (hC : CSound P C) (hL : CLocal C) (hCI : ∀ f ts xs, C.it P f ts xs → IterL P f ts xs) (hCy : ∀ E ds Kb, ¬ C.yl E ds Kb) (hm : P.follows .mixedOrders = true) {f : FuncId} {fn : Func} {code : Code} {s : SCode} {rs : List SRes} (hf : P.funcs[f]? = some fn) (hng : (fn.name == "runtime.NumGoroutine") = false)
    (hb : fn.body = some code) (hs : compile P fn.ntmps true code = some s) (hr : cresults P fn = some rs) (k : Ct) (hn : k.ds.length ≤ fn.ntmps) (hw : W P C s k.env (Fin rs (Ends k))) : HoldsG P f k := by
  refine ⟨⟨fn, code, hf, hng, hb⟩, fun c φ w vs hw0 hsim hl hv => ?_⟩
  refine callsIn_wide (n := 0).1 (callsIn_of_wp_marks hf hb trivial ?_)
  let c' : Ctx := { c with n := fn.ntmps, dl := some w.heap.size }
  have hdl : w.heap.size = c'.w0.heap.size := by show w.heap.size = c.w0.heap.size; rw [hw0]
  have hsim' : SimW c' φ k.env w := ⟨hsim.size, hsim.os, hsim.tape, hsim.output, hsim.old, hsim.m0, hsim.row, hsim.inj, hsim.fix, hsim.gl⟩
  have hA : SimA c' φ k.env { tmps := vs.toArray ++ Array.replicate (fn.ntmps - vs.toArray.size) undef, defers := [] } w := by
    refine ⟨hsim', fun t => ?_, by show (vs.toArray ++ Array.replicate (fn.ntmps - vs.toArray.size) undef).size = fn.ntmps; simp; omega, [], rfl, by simp, by simp⟩
    show RepV φ k.env.used w (Mut c' φ k.env.slots) _ (k.ds.getD t .junk)
    by_cases ht : t < vs.length
    · have htd : t < k.ds.length := by omega
      have e1 : (vs.toArray ++ Array.replicate (fn.ntmps - vs.toArray.size) undef).getD t undef = vs[t] := by
        rw [Array.getD_eq_getD_getElem?, Array.getElem?_append]
        simp [ht]
      have e2 : k.ds.getD t .junk = k.ds[t] := by simp [htd]
      rw [e1, e2]
      exact hv t _ _ (List.getElem?_eq_getElem ht) (List.getElem?_eq_getElem htd)
    · have e2 : k.ds.getD t .junk = .junk := by simp [List.getElem?_eq_none (show k.ds.length ≤ t by omega)]
      rw [e2]
      exact .junk
  have hfin : ∀ (E : Env) (φ1 : Nm → Place) (a1 : Act) (w1 : World) (o : Option DV), resV E rs = o → FinK (Ends k) E o → SimA c' φ1 E a1 w1 → LeavesInM Fence.wide 0 P fn a1.tmps (fun e w' => ∃ v, e = .returned v ∧ ∃ (φ' : Nm → Place) (E' : Env), E'.slots = k.out ∧ SimW c φ' E' w' ∧ RepV φ' E'.used w' (Mut c φ' E'.slots) v k.d) a1.defers .returning w1 := by
    intro E φ1 a1 w1 o ho hk hs1
    cases o with
    | none => exact hk.elim
    | some d =>
      obtain ⟨bs, hbs, hnd, hbd⟩ := hs1.df
      rw [hbs]
      refine leaves_marks bs w1 hnd (fun b hb => (hbd b hb).2) (fun w' g1 g2 g3 g4 g5 => ?_)
      have hs2 := hs1.taken (fun b hb => ⟨by obtain ⟨l, q1, q2⟩ := (hbd b hb).1; cases q1; rw [← hdl]; exact q2, (hbd b hb).2⟩) g1 g2 g3 g4 g5
      obtain ⟨v, h1, h2⟩ := results_run hs2 hr ho
      rcases hk with ⟨ρ, hρ, hsl, hd⟩ | ⟨rfl, hd, ρ, e, m, hρ, hm0, hnew, hus, hsl⟩
      · obtain ⟨φ', h3, h4, h5, h6⟩ := canon_sim' hs2 hρ
        refine ⟨v, h1, v, rfl, φ', E.canon ρ, hsl, ?_, ?_⟩
        · exact ⟨h3.size, h3.os, h3.tape, h3.output, h3.old, h3.m0, h3.row, h3.inj, h3.fix, h3.gl⟩
        · rw [← hd]; exact outD_rep hs2 h4 h5 h6 h2
      · obtain ⟨φ', h3, h4, h5, h6⟩ := canon_sim' hs2 hρ
        obtain ⟨ad, rfl⟩ := h2.e0_inv
        obtain ⟨φ2, q1, q2, q3⟩ := h3.new (w' := w') (s := .loc 0 0) (r := .rows e m [] false) (pl := ⟨0, 0, m⟩) hus rfl (Nat.le_refl _) rfl rfl rfl (fun _ _ => rfl) (fun hr => by simp [Row.real] at hr) (by
          intro φ' U' M' hU hM
          exact .inl ⟨rfl, rfl, rfl, hm0⟩)
        refine ⟨_, h1, _, rfl, φ2, (E.canon ρ).upd [(.loc 0 0, some (.rows e m [] false))], ?_, ⟨q3.size, q3.os, q3.tape, q3.output, q3.old, q3.m0, q3.row, q3.inj, q3.fix, q3.gl⟩, ?_⟩
        · funext s
          rw [upd_slots, lookup1, hsl]
          show _ = ctSlots [] k.rows' k.new s
          rw [hnew]
          by_cases hs : s = .loc 0 0
          · subst hs; rfl
          · rw [if_neg hs]
            cases s with
            | loc d i =>
              simp only [ctSlots]
              by_cases hd0 : d = 0
              · subst hd0
                cases i with
                | zero => exact absurd rfl hs
                | succ i => simp
              · simp [hd0]
            | _ => rfl
        · rw [hd]
          have := RepV.osl (φ := φ2) (U := ((E.canon ρ).upd [(.loc 0 0, some (.rows e m [] false))]).used) (w := w') (M := Mut c' φ2 ((E.canon ρ).upd [(.loc 0 0, some (.rows e m [] false))]).slots) (s := .loc 0 0) (n := 0) (ad := ad) (by
            rw [upd_used, lookup1]; simp) (by rw [q2]; exact Nat.le_refl _) (by rw [q2]; intro hh; exact absurd hh (by simp))
          rw [q2] at this
          exact this
  have hY : YSnd P C (fun c'' (_ : Env) => c'' = c') := fun _ _ _ _ _ _ _ _ _ _ h => absurd h (hCy _ _ _)
  refine code_sound' hC hL hCI hm (rl_eq c' (fun l hl => by cases hl; rw [hdl]; exact Nat.le_refl _)) (fun _ _ hc => by subst hc; rfl) hY code s hs c' k.env _ _ φ _ w rfl (fun c'' e E φ1 a1 w1 hc hk hs1 => ?_) hA hw
  subst hc
  cases e with
  | normal => exact hfin E φ1 a1 w1 _ rfl hk hs1
  | ret => exact hfin E φ1 a1 w1 _ rfl hk hs1
  | _ => exact hk.elim
end Go.Wt
