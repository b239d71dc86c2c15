/- Into a call and out of it: the names of a caller and of a callee. -/
import Derived.Test.YtbeiejanhoiodaaGreatMA6
set_option linter.unusedSimpArgs false
set_option linter.unusedVariables false
namespace Go.Wt
open Go.RowKit
variable {P : Program} {C : CallOk} {c : Ctx} {φ : Nm → Place} {E : Env} {a : Act} {w : World}
theorem ren_mut (ρ : List (Nm × Nm)) (r : Row) : (r.ren ρ).mut = r.mut := by cases r <;> rfl
theorem ren_real (ρ : List (Nm × Nm)) (r : Row) (pl : Place) : (r.ren ρ).real pl = r.real pl := by cases r <;> rfl
/-- Values under other names. -/
theorem RepV.ren {φ' : Nm → Place} {U U' : Nm → Bool} {M M' : Nat → Prop} {ρ : List (Nm × Nm)} {v : Value} {d : DV} (hv : RepV φ U w M v d) (hM : ∀ b, M' b → M b)
    (hres : ∀ s s', ρ.lookup s = some s' → U s = true → U' s' = true ∧ φ' s' = φ s) (hyl : ∀ s', ρ.lookup .yl = some s' → s' = .yl) : RepV φ' U' w M' v (d.ren ρ) := by
  induction hv with
  | t h => exact .t (h.mono (Nat.le_refl _) (fun b _ hb => ⟨rfl, fun hb' => hb (hM b hb')⟩))
  | agg hl h1 _ ih =>
    simp only [DV.ren, renL_map]
    refine .agg (by simpa using hl) h1 fun i v d hv hd => ?_
    simp only [List.getElem?_map, Option.map_eq_some_iff] at hd
    obtain ⟨d0, hd0, rfl⟩ := hd
    exact ih i v d0 hv hd0
  | tup hl _ ih =>
    simp only [DV.ren, renL_map]
    refine .tup (by simpa using hl) fun i v d hv hd => ?_
    simp only [List.getElem?_map, Option.map_eq_some_iff] at hd
    obtain ⟨d0, hd0, rfl⟩ := hd
    exact ih i v d0 hv hd0
  | ptr hu =>
    rename_i s k j
    simp only [DV.ren]
    split
    · rename_i s' hs'
      obtain ⟨h1, h2⟩ := hres s s' hs' hu
      rw [← h2]
      exact .ptr h1
    · exact .junk
  | tp u hM' hb hu h1 h2 =>
    simp only [DV.ren]
    exact .tp u (fun hb' => hM' (hM _ hb')) hb hu h1 (fun i cc hcc => (h2 i cc hcc).mono (Nat.le_refl _) (fun b _ hb => ⟨rfl, fun hb' => hb (hM b hb')⟩))
  | osl hu hn ha =>
    rename_i s n ad
    simp only [DV.ren]
    split
    · rename_i s' hs'
      obtain ⟨h1, h2⟩ := hres s s' hs' hu
      rw [← h2]
      exact .osl h1 (by rw [h2]; exact hn) (by rw [h2]; exact ha)
    · exact .junk
  | fn hl _ ih =>
    simp only [DV.ren, renL_map]
    refine .fn (by simpa using hl) fun i v d hv hd => ?_
    simp only [List.getElem?_map, Option.map_eq_some_iff] at hd
    obtain ⟨d0, hd0, rfl⟩ := hd
    exact ih i v d0 hv hd0
  | mfn hl0 hl _ _ ih0 ih =>
    simp only [DV.ren, renL_map]
    refine .mfn (by simpa using hl0) (by simpa using hl) (fun i v d hv hd => ?_) fun i v d hv hd => ?_
    · simp only [List.getElem?_map, Option.map_eq_some_iff] at hd
      obtain ⟨d0, hd0, rfl⟩ := hd
      exact ih0 i v d0 hv hd0
    · simp only [List.getElem?_map, Option.map_eq_some_iff] at hd
      obtain ⟨d0, hd0, rfl⟩ := hd
      exact ih i v d0 hv hd0
  | mp hu =>
    rename_i s
    simp only [DV.ren]
    split
    · rename_i s' hs'
      obtain ⟨h1, h2⟩ := hres s s' hs' hu
      rw [← h2]
      exact .mp h1
    · exact .junk
  | yl hu =>
    simp only [DV.ren]
    split
    · rename_i s' hs'
      have he : s' = Nm.yl := hyl s' hs'
      subst he
      obtain ⟨h1, h2⟩ := hres .yl .yl hs' hu
      rw [← h2]
      exact .yl h1
    · exact .junk
  | wh _ ih => simp only [DV.ren]; exact .wh fun e => ih e
  | junk => simp only [DV.ren]; exact .junk
theorem BlockRep.ren {φ' : Nm → Place} {U U' : Nm → Bool} {M M' : Nat → Prop} {ρ : List (Nm × Nm)} {pl : Place} {r : Row} (h : BlockRep φ U M w pl r) (hM : ∀ b, M' b → M b)
    (hres : ∀ s s', ρ.lookup s = some s' → U s = true → U' s' = true ∧ φ' s' = φ s) (hyl : ∀ s', ρ.lookup .yl = some s' → s' = .yl) : BlockRep φ' U' M' w pl (r.ren ρ) := by
  cases r with
  | box e d fz =>
    obtain ⟨cs, h7, h8, h9, h10⟩ := h
    refine ⟨cs, h7, by rw [cells_ren, List.length_map]; exact h8, h9, fun i v x hv hx => ?_⟩
    rw [cells_ren, List.getElem?_map, Option.map_eq_some_iff] at hx
    obtain ⟨x0, hx0, rfl⟩ := hx
    exact (h10 i v x0 hv hx0).ren hM hres hyl
  | rows e m l fz =>
    rcases h with h5 | ⟨cs, h7, h8, h9, h10, h11, h12, h13, h14, h15⟩
    · exact .inl h5
    · refine .inr ⟨cs, h7, h8, h9, h10, h11, h12, h13, h14, fun k t j cc hk hj => ?_⟩
      obtain ⟨h16, v, h17, h18⟩ := h15 k t j cc hk hj
      exact ⟨h16, v, h17, h18.mono (Nat.le_refl _) (fun b _ hb => ⟨rfl, fun hb' => hb (hM b hb')⟩)⟩
  | obj o fz =>
    cases o with
    | mp es cl =>
      obtain ⟨ents, h7, h8, h9⟩ := h
      refine ⟨ents, h7, by rw [List.length_map]; exact h8, fun i e x he hx => ?_⟩
      rw [List.getElem?_map, Option.map_eq_some_iff] at hx
      obtain ⟨x0, hx0, rfl⟩ := hx
      obtain ⟨h10, h11, h12⟩ := h9 i e x0 he hx0
      exact ⟨h10, h11, h12.ren hM hres hyl⟩
    | it str p => exact h
    | dfr => exact h

/-- Where a callee's names lie. -/
def enterPl (φ : Nm → Place) (ρ : List (Nm × Nm)) : Nm → Place := fun s' => match s' with
  | .glob g => ⟨g, 0, 0⟩
  | s' => match (flip ρ).lookup s' with | some s => φ s | none => ⟨0, 0, 0⟩
def enterCtx (c : Ctx) (φ : Nm → Place) (E : Env) (w : World) (ρ : List (Nm × Nm)) : Ctx where
  w0 := w
  M0 := Mut c φ E.slots
  X := fun b => ∃ s s' r, (s, s') ∈ ρ ∧ E.slots s = some r ∧ r.mut = true ∧ r.real (φ s) = true ∧ (φ s).blk = b
  n := 0
  pin := enterPl φ ρ
/-- Names that may go in. -/
structure Goes (E : Env) (ρ : List (Nm × Nm)) : Prop where
  n1 : (ρ.map (·.1)).Nodup
  n2 : (ρ.map (·.2)).Nodup
  hg : ∀ s s', (s, s') ∈ ρ → (s'.isGlob = true ∨ s.isGlob = true) → s = s'
  hu : ∀ s s', (s, s') ∈ ρ → E.used s = true
  hy : ∀ s', ρ.lookup .yl = some s' → s' = .yl
theorem Goes.mem {ρ : List (Nm × Nm)} (h : Goes E ρ) (s s' : Nm) : (s, s') ∈ ρ ↔ (flip ρ).lookup s' = some s := by
  have hfl : ((flip ρ).map (·.1)).Nodup := by simpa [flip, List.map_map, Function.comp_def] using h.n2
  constructor
  · intro hm
    exact lookup_of_mem hfl (by simp only [flip, List.mem_map]; exact ⟨_, hm, rfl⟩)
  · intro hl
    have := lookup_mem hl
    simp only [flip, List.mem_map] at this
    obtain ⟨⟨x, y⟩, h1, h2⟩ := this
    simp only [Prod.mk.injEq] at h2
    obtain ⟨rfl, rfl⟩ := h2
    exact h1
theorem Goes.pl {ρ : List (Nm × Nm)} (h : Goes E ρ) (hs : SimW c φ E w) {s s' : Nm} (hm : (s, s') ∈ ρ) : enterPl φ ρ s' = φ s := by
  have hl := (h.mem s s').1 hm
  cases s' with
  | glob g =>
    have := h.hg _ _ hm (.inl rfl)
    subst this
    exact (hs.glob g (h.hu _ _ hm)).symm
  | _ => simp only [enterPl, hl]
theorem Goes.slot {ρ : List (Nm × Nm)} (h : Goes E ρ) {s' : Nm} {r' : Row} (hr : (E.canon ρ).slots s' = some r') : ∃ s r, (s, s') ∈ ρ ∧ E.slots s = some r ∧ r' = r.ren ρ := by
  have hr : (match (flip ρ).lookup s' with | some s0 => (E.slots s0).map (Row.ren ρ) | none => none) = some r' := hr
  split at hr
  · rename_i s hs
    rw [Option.map_eq_some_iff] at hr
    obtain ⟨r, h1, rfl⟩ := hr
    exact ⟨s, r, (h.mem _ _).2 hs, h1, rfl⟩
  · simp at hr
theorem Goes.slot' {ρ : List (Nm × Nm)} (h : Goes E ρ) {s s' : Nm} {r : Row} (hm : (s, s') ∈ ρ) (hr : E.slots s = some r) : (E.canon ρ).slots s' = some (r.ren ρ) := by
  show (match (flip ρ).lookup s' with | some s0 => (E.slots s0).map (Row.ren ρ) | none => none) = _
  rw [(h.mem _ _).1 hm]
  simp [hr]
theorem Goes.usd {ρ : List (Nm × Nm)} (h : Goes E ρ) {s' : Nm} : (E.canon ρ).used s' = true ↔ ∃ s, (s, s') ∈ ρ := by
  show ((flip ρ).lookup s').isSome = true ↔ _
  rw [Option.isSome_iff_exists]
  exact ⟨fun ⟨s, hs⟩ => ⟨s, (h.mem _ _).2 hs⟩, fun ⟨s, hs⟩ => ⟨s, (h.mem _ _).1 hs⟩⟩
theorem SimW.enter (h : SimW c φ E w) {ρ : List (Nm × Nm)} (hρ : Goes E ρ) :
    SimW (enterCtx c φ E w ρ) (enterPl φ ρ) (E.canon ρ) w ∧ (∀ v d, RepV φ E.used w (Mut c φ E.slots) v d → RepV (enterPl φ ρ) (E.canon ρ).used w (Mut (enterCtx c φ E w ρ) (enterPl φ ρ) (E.canon ρ).slots) v (d.ren ρ)) ∧
    (∀ b, Mut (enterCtx c φ E w ρ) (enterPl φ ρ) (E.canon ρ).slots b → Mut c φ E.slots b) := by
  have hM : ∀ b, Mut (enterCtx c φ E w ρ) (enterPl φ ρ) (E.canon ρ).slots b → Mut c φ E.slots b := by
    rintro b (⟨hb, _⟩ | ⟨s', r', h1, h2, h3, h4⟩)
    · exact hb
    · obtain ⟨s, r, h5, h6, rfl⟩ := hρ.slot h1
      rw [ren_mut] at h2
      rw [ren_real, hρ.pl h h5] at h3
      rw [hρ.pl h h5] at h4
      exact .inr ⟨s, r, h6, h2, h3, h4⟩
  have hres : ∀ s s', ρ.lookup s = some s' → E.used s = true → (E.canon ρ).used s' = true ∧ enterPl φ ρ s' = φ s := fun s s' hl _ => ⟨hρ.usd.2 ⟨s, lookup_mem hl⟩, hρ.pl h (lookup_mem hl)⟩
  refine ⟨⟨Nat.le_refl _, rfl, rfl, rfl, fun _ _ _ => rfl, ?_, ?_, ?_, ?_, fun _ => rfl⟩, fun v d hv => hv.ren hM hres hρ.hy, hM⟩
  · rintro b (⟨hb, _⟩ | ⟨s, r, h1, h2, h3, h4⟩)
    · exact Nat.lt_of_lt_of_le (h.m0 b hb) h.size
    · rw [← h4]; exact (h.row s r h1).2.1.lt h3
  · intro s' r' hr
    obtain ⟨s, r, h1, h2, rfl⟩ := hρ.slot hr
    obtain ⟨h3, h4, h5⟩ := h.row s r h2
    have e := hρ.pl h h1
    refine ⟨hρ.usd.2 ⟨s, h1⟩, ?_, fun hre => ⟨fun hm => ?_, ?_⟩⟩
    · rw [e]; exact h4.ren hM hres hρ.hy
    · rw [ren_mut] at hm
      rw [ren_real, e] at hre
      rw [e]
      exact .inl ⟨s, s', r, h1, h2, hm, hre, rfl⟩
    · rw [ren_real, e] at hre
      rw [e]
      by_cases hm : r.mut = true
      · exact .inl ⟨s, s', r, h1, h2, hm, hre, rfl⟩
      · refine .inr ?_
        rintro (⟨hb1, hb2⟩ | ⟨s2, r2, h6, h7, h8, h9⟩)
        · exact (h5 hre).2.elim hb2 (fun hh => hh hb1)
        · have := h.inj s2 s r2 r h6 h2 h7 h8 hre h9
          subst this
          rw [h6] at h2
          cases h2
          exact hm h7
  · intro s1 s2 r1 r2 h1 h2 hm hr1 hr2 he
    obtain ⟨x1, y1, h3, h4, rfl⟩ := hρ.slot h1
    obtain ⟨x2, y2, h5, h6, rfl⟩ := hρ.slot h2
    rw [ren_mut] at hm
    rw [ren_real, hρ.pl h h3] at hr1
    rw [ren_real, hρ.pl h h5] at hr2
    rw [hρ.pl h h3, hρ.pl h h5] at he
    have := h.inj x1 x2 y1 y2 h4 h6 hm hr1 hr2 he
    subst this
    have e1 := lookup_of_mem hρ.n1 h3
    have e2 := lookup_of_mem hρ.n1 h5
    rw [e1] at e2
    exact Option.some.inj e2
  · intro s _ _; rfl
end Go.Wt
/- Out of a call: the caller's state behind it. -/
namespace Go.Wt
open Go.RowKit
variable {P : Program} {C : CallOk} {c : Ctx} {φ : Nm → Place} {E : Env} {a : Act} {w : World}
/-- What comes out of a call: σ names the callee's rows in the caller's words. -/
structure Comes (E E' : Env) (ρ σ : List (Nm × Nm)) (ups : List (Nm × Option Row)) : Prop where
  n1 : (σ.map (·.1)).Nodup
  n2 : (σ.map (·.2)).Nodup
  old : ∀ s' s, (s', s) ∈ σ → ((s, s') ∈ ρ ∧ s'.fixed = true) ∨ (E.used s = false ∧ s.fixed = false ∧ (ups.lookup s).isSome = true)
  up : ∀ s x, ups.lookup s = some x → ∃ s', (s', s) ∈ σ ∧ x = (E'.slots s').map (Row.ren σ)
  cov : ∀ s s' r, (s, s') ∈ ρ → E.slots s = some r → r.mut = true → (ups.lookup s).isSome = true
  hy : ∀ s', σ.lookup .yl = some s' → s' = .yl
theorem SimA.exit (h : SimA c φ E a w) {ρ σ : List (Nm × Nm)} (hρ : Goes E ρ) {φ1 : Nm → Place} {E' : Env} {w1 : World} (h1 : SimW (enterCtx c φ E w ρ) φ1 E' w1) {ups : List (Nm × Option Row)} (hσ : Comes E E' ρ σ ups)
    {v : Value} {d : DV} (hv : RepV φ1 E'.used w1 (Mut (enterCtx c φ E w ρ) φ1 E'.slots) v d) {dst : Option Nat} (hd : dst.all (· < c.n) = true) :
    ∃ φ2, SimA c φ2 ((E.upd ups).putO dst (d.ren σ)) (a.put dst v) w1 := by
  have hfl : ((flip σ).map (·.1)).Nodup := by simpa [flip, List.map_map, Function.comp_def] using hσ.n2
  have hmem : ∀ s s', (s', s) ∈ σ → (flip σ).lookup s = some s' := by
    intro s s' hm
    exact lookup_of_mem hfl (by simp only [flip, List.mem_map]; exact ⟨_, hm, rfl⟩)
  let φ2 : Nm → Place := fun s => if E.used s = true then φ s else match (flip σ).lookup s with | some s' => φ1 s' | none => φ s
  have hφ : ∀ s, E.used s = true → φ2 s = φ s := fun s hu => by simp [φ2, hu]
  have hφ1 : ∀ s s', (s', s) ∈ σ → E'.used s' = true → φ2 s = φ1 s' := by
    intro s s' hm hu
    rcases hσ.old s' s hm with ⟨h2, h3⟩ | ⟨h2, _⟩
    · rw [hφ s (hρ.hu _ _ h2), h1.fix s' h3 hu]
      exact (hρ.pl h.toSimW h2).symm
    · simp [φ2, h2, hmem s s' hm]
  have hups : ∀ s r, ups.lookup s = some (some r) → ∃ s' r', (s', s) ∈ σ ∧ E'.slots s' = some r' ∧ r = r'.ren σ ∧ φ2 s = φ1 s' := by
    intro s r hl
    obtain ⟨s', h2, h3⟩ := hσ.up s _ hl
    cases hr : E'.slots s' with
    | none => rw [hr] at h3; simp at h3
    | some r' =>
      rw [hr] at h3
      simp only [Option.map_some, Option.some.injEq] at h3
      exact ⟨s', r', h2, hr, h3, hφ1 _ _ h2 (h1.row s' r' hr).1⟩
  have hX : ∀ b, (enterCtx c φ E w ρ).X b → ∃ s r, E.slots s = some r ∧ r.mut = true ∧ r.real (φ s) = true ∧ (φ s).blk = b ∧ (ups.lookup s).isSome = true :=
    fun b ⟨s, s', r, h2, h3, h4, h5, h6⟩ => ⟨s, r, h3, h4, h5, h6, hσ.cov s s' r h2 h3 h4⟩
  have hXM : ∀ b, (enterCtx c φ E w ρ).X b → Mut c φ E.slots b := fun b hb => by
    obtain ⟨s, r, h2, h3, h4, h5, _⟩ := hX b hb
    exact .inr ⟨s, r, h2, h3, h4, h5⟩
  have hXo : ∀ s r, E.slots s = some r → r.real (φ s) = true → (ups.lookup s) = none → ¬ (enterCtx c φ E w ρ).X (φ s).blk := by
    intro s r h2 h3 h4 hb
    obtain ⟨s2, r2, h5, h6, h7, h8, h9⟩ := hX _ hb
    have := h.inj s2 s r2 r h5 h2 h6 h7 h3 h8
    rw [this, h4] at h9
    simp at h9
  have hM : ∀ b, Mut c φ2 (E.upd ups).slots b → Mut (enterCtx c φ E w ρ) φ1 E'.slots b := by
    rintro b (⟨hb1, hb2⟩ | ⟨s, r, h2, h3, h4, h5⟩)
    · refine .inl ⟨.inl ⟨hb1, hb2⟩, fun hb => ?_⟩
      obtain ⟨s2, r2, h5, h6, h7, h8, _⟩ := hX _ hb
      rcases ((h.row s2 r2 h5).2.2 h7).1 h6 with h9 | h9
      · rw [h8] at h9; exact hb2 h9
      · rw [h8] at h9; exact absurd (h.m0 b hb1) (by omega)
    · rw [upd_slots] at h2
      cases hl : ups.lookup s with
      | some x =>
        rw [hl] at h2
        simp only at h2
        subst h2
        obtain ⟨s', r', h6, h7, rfl, h8⟩ := hups s r hl
        rw [ren_mut] at h3
        rw [ren_real, h8] at h4
        rw [h8] at h5
        exact .inr ⟨s', r', h7, h3, h4, h5⟩
      | none =>
        rw [hl] at h2
        simp only at h2
        have e := hφ s (h.row s r h2).1
        rw [e] at h4 h5
        refine .inl ⟨.inr ⟨s, r, h2, h3, h4, h5⟩, ?_⟩
        rw [← h5]
        exact hXo s r h2 h4 hl
  have hw : ∀ b, b < w.heap.size → ¬ Mut c φ E.slots b → w1.heap[b]? = w.heap[b]? ∧ ¬ Mut c φ2 (E.upd ups).slots b := by
    intro b hlt hb
    refine ⟨h1.old b hlt (fun hx => hb (hXM b hx)), fun hb' => ?_⟩
    rcases hM b hb' with ⟨h2, _⟩ | ⟨s', r', h2, h3, h4, h5⟩
    · exact hb h2
    · rcases ((h1.row s' r' h2).2.2 h4).1 h3 with h6 | h6
      · rw [h5] at h6; exact hb (hXM b h6)
      · rw [h5] at h6
        have : w.heap.size ≤ b := h6
        omega
  have hU : ∀ s, E.used s = true → (E.upd ups).used s = true ∧ φ2 s = φ s := fun s hu => ⟨by rw [upd_used, hu, Bool.or_true], hφ s hu⟩
  have hres : ∀ s' s, σ.lookup s' = some s → E'.used s' = true → (E.upd ups).used s = true ∧ φ2 s = φ1 s' := by
    intro s' s hl hu
    have hm := lookup_mem hl
    refine ⟨?_, hφ1 s s' hm hu⟩
    rw [upd_used]
    rcases hσ.old s' s hm with ⟨h2, _⟩ | ⟨_, _, h2⟩
    · rw [hρ.hu _ _ h2, Bool.or_true]
    · rw [h2, Bool.true_or]
  have hslot : ∀ s r, (E.upd ups).slots s = some r → (∃ s' r', (s', s) ∈ σ ∧ E'.slots s' = some r' ∧ r = r'.ren σ ∧ φ2 s = φ1 s' ∧ (ups.lookup s).isSome = true) ∨ (ups.lookup s = none ∧ E.slots s = some r ∧ φ2 s = φ s) := by
    intro s r hr
    rw [upd_slots] at hr
    cases hl : ups.lookup s with
    | some x =>
      rw [hl] at hr
      simp only at hr
      subst hr
      obtain ⟨s', r', h2, h3, h4, h5⟩ := hups s r hl
      exact .inl ⟨s', r', h2, h3, h4, h5, rfl⟩
    | none =>
      rw [hl] at hr
      simp only at hr
      exact .inr ⟨rfl, hr, hφ s (h.row s r hr).1⟩
  -- a row that came out and one that stayed do not meet
  have hmix : ∀ s' r', E'.slots s' = some r' → r'.real (φ1 s') = true → ∀ s r, E.slots s = some r → r.real (φ s) = true → ups.lookup s = none → (φ1 s').blk = (φ s).blk → (r'.mut = true ∨ r.mut = true) → False := by
    intro s' r' h2 h3 s r h4 h5 h6 h7 hm
    have hlt := (h.row s r h4).2.1.lt h5
    have hno := hXo s r h4 h5 h6
    obtain ⟨_, _, h8⟩ := h1.row s' r' h2
    have h8 := h8 h3
    rw [h7] at h8
    rcases hm with hm | hm
    · rcases h8.1 hm with h9 | h9
      · exact hno h9
      · have : w.heap.size ≤ (φ s).blk := h9
        omega
    · rcases h8.2 with h9 | h9
      · exact hno h9
      · exact h9 (.inr ⟨s, r, h4, hm, h5, rfl⟩)
  have hsim : SimA c φ2 (E.upd ups) a w1 := by
    refine ⟨⟨Nat.le_trans h.size h1.size, h1.os.trans h.os, h1.tape.trans h.tape, h1.output.trans h.output, ?_, h.m0, ?_, ?_, ?_, h.gl⟩, fun t => (h.tm t).mono h1.size hw hU, h.sz, ?_⟩
    · intro b hlt hX'
      have hlt' : b < w.heap.size := Nat.lt_of_lt_of_le hlt h.size
      have : ¬ (enterCtx c φ E w ρ).X b := by
        intro hb
        obtain ⟨s, r, h2, h3, h4, h5, _⟩ := hX b hb
        rcases ((h.row s r h2).2.2 h4).1 h3 with h6 | h6
        · rw [h5] at h6; exact hX' h6
        · rw [h5] at h6; omega
      exact (h1.old b hlt' this).trans (h.old b hlt hX')
    · intro s r hr
      rcases hslot s r hr with ⟨s', r', h2, h3, rfl, h4, h5⟩ | ⟨h2, h3, h4⟩
      · obtain ⟨h6, h7, h8⟩ := h1.row s' r' h3
        refine ⟨by rw [upd_used, h5, Bool.true_or], ?_, ?_⟩
        · rw [h4]; exact h7.ren hM hres hσ.hy
        · rw [ren_real, ren_mut, h4]
          intro hre
          obtain ⟨h9, h10⟩ := h8 hre
          have hx : ∀ b, (enterCtx c φ E w ρ).X b → (c.X b ∨ c.w0.heap.size ≤ b) ∧ (c.X b ∨ ¬ c.M0 b) := by
            intro b hb
            obtain ⟨s2, r2, h11, h12, h13, h14, _⟩ := hX b hb
            obtain ⟨h15, h16⟩ := (h.row s2 r2 h11).2.2 h13
            rw [h14] at h15 h16
            exact ⟨h15 h12, h16⟩
          refine ⟨fun hm => ?_, ?_⟩
          · rcases h9 hm with h11 | h11
            · exact (hx _ h11).1
            · exact .inr (Nat.le_trans h.size h11)
          · rcases h10 with h11 | h11
            · exact (hx _ h11).2
            · by_cases hcx : c.X (φ1 s').blk
              · exact .inl hcx
              · exact .inr fun hcm => h11 (.inl ⟨hcm, hcx⟩)
      · obtain ⟨h5, h6, h7⟩ := h.row s r h3
        refine ⟨(hU s h5).1, ?_, by rw [h4]; exact h7⟩
        rw [h4]
        exact h6.mono h1.size hw hU fun hre => h1.old _ (h6.lt hre) (hXo s r h3 hre h2)
    · intro s1 s2 r1 r2 h2 h3 hm hr1 hr2 he
      rcases hslot s1 r1 h2 with ⟨x1, y1, h4, h5, rfl, h6, _⟩ | ⟨h4, h5, h6⟩ <;> rcases hslot s2 r2 h3 with ⟨x2, y2, h7, h8, rfl, h9, _⟩ | ⟨h7, h8, h9⟩
      · rw [ren_mut] at hm
        rw [ren_real, h6] at hr1
        rw [ren_real, h9] at hr2
        rw [h6, h9] at he
        have := h1.inj x1 x2 y1 y2 h5 h8 hm hr1 hr2 he
        subst this
        have e1 := lookup_of_mem hσ.n1 h4
        have e2 := lookup_of_mem hσ.n1 h7
        rw [e1] at e2
        exact Option.some.inj e2
      · rw [ren_mut] at hm
        rw [ren_real, h6] at hr1
        rw [h9] at hr2
        rw [h6, h9] at he
        exact (hmix x1 y1 h5 hr1 s2 r2 h8 hr2 h7 he (.inl hm)).elim
      · rw [h6] at hr1
        rw [ren_real, h9] at hr2
        rw [h6, h9] at he
        exact (hmix x2 y2 h8 hr2 s1 r1 h5 hr1 h4 he.symm (.inr hm)).elim
      · rw [h6] at hr1
        rw [h9] at hr2
        rw [h6, h9] at he
        exact h.inj s1 s2 r1 r2 h5 h8 hm hr1 hr2 he
    · intro s hf hu
      rw [upd_used, Bool.or_eq_true] at hu
      have hu' : E.used s = true := by
        rcases hu with hu | hu
        · cases hl : ups.lookup s with
          | none => rw [hl] at hu; simp at hu
          | some x =>
            obtain ⟨s', h2, _⟩ := hσ.up s x hl
            rcases hσ.old s' s h2 with ⟨h3, _⟩ | ⟨_, h3, _⟩
            · exact hρ.hu _ _ h3
            · rw [h3] at hf; simp at hf
        · exact hu
      rw [hφ s hu']
      exact h.fix s hf hu'
    · obtain ⟨bs, h2, hnd, h3⟩ := h.df
      refine ⟨bs, h2, hnd, fun b hb => ?_⟩
      obtain ⟨h40, h4⟩ := h3 b hb
      refine ⟨h40, ?_⟩
      rw [h1.old b (Array.getElem?_eq_some_iff.1 h4).1 (fun hx => ?_)]
      · exact h4
      · obtain ⟨s, r, h5, h6, h7, h8, _⟩ := hX b hx
        rw [← h8] at h4
        exact (h.row s r h5).2.1.nodf h7 h4
  exact ⟨φ2, hsim.put hd (hv.ren hM hres hσ.hy)⟩
end Go.Wt
/- Contracts of functions, told of trees and rows; that they serve every caller. -/
namespace Go.Wt
open Go.RowKit
variable {P : Program} {C : CallOk} {c : Ctx} {φ : Nm → Place} {E : Env} {a : Act} {w : World}
/-- A contract holds. -/
def HoldsG (P : Program) (f : FuncId) (k : Ct) : Prop := callable P f ∧ ∀ (c : Ctx) (φ : Nm → Place) (w : World) (vs : List Value), c.w0 = w → SimW c φ k.env w → vs.length = k.ds.length →
  (∀ (i : Nat) (v : Value) (d : DV), vs[i]? = some v → k.ds[i]? = some d → RepV φ k.env.used w (Mut c φ k.env.slots) v d) →
  Calls P f vs.toArray w fun e w' => ∃ v, e = .returned v ∧ ∃ (φ' : Nm → Place) (E' : Env), E'.slots = k.out ∧ SimW c φ' E' w' ∧ RepV φ' E'.used w' (Mut c φ' E'.slots) v k.d

theorem mem_inRen {S : List Nm} {gs : List (Nat × TypeId × Tree)} {s s' : Nm} : (s, s') ∈ inRen S gs ↔ (∃ i, S[i]? = some s ∧ s' = .arg i) ∨ ∃ p ∈ gs, s = .glob p.1 ∧ s' = .glob p.1 := by
  unfold inRen
  rw [List.mem_append, List.mem_map, List.mem_map]
  constructor
  · rintro (⟨⟨x, i⟩, h1, h2⟩ | ⟨p, h1, h2⟩)
    · rw [List.mem_zipIdx_iff_getElem?] at h1
      simp only [Prod.mk.injEq] at h2
      obtain ⟨rfl, rfl⟩ := h2
      exact .inl ⟨i, h1, rfl⟩
    · simp only [Prod.mk.injEq] at h2
      exact .inr ⟨p, h1, h2.1.symm, h2.2.symm⟩
  · rintro (⟨i, h1, rfl⟩ | ⟨p, h1, rfl, rfl⟩)
    · exact .inl ⟨(s, i), List.mem_zipIdx_iff_getElem?.2 h1, rfl⟩
    · exact .inr ⟨p, h1, rfl⟩
theorem mem_outRen {S : List Nm} {d n : Nat} {s s' : Nm} : (s', s) ∈ outRen S d n ↔ (∃ i, S[i]? = some s ∧ s' = .arg i) ∨ ∃ j, j < n ∧ s' = .loc 0 j ∧ s = .loc d j := by
  unfold outRen
  rw [List.mem_append, List.mem_map, List.mem_map]
  constructor
  · rintro (⟨⟨x, i⟩, h1, h2⟩ | ⟨j, h1, h2⟩)
    · rw [List.mem_zipIdx_iff_getElem?] at h1
      simp only [Prod.mk.injEq] at h2
      obtain ⟨rfl, rfl⟩ := h2
      exact .inl ⟨i, h1, rfl⟩
    · simp only [Prod.mk.injEq] at h2
      exact .inr ⟨j, List.mem_range.1 h1, h2.1.symm, h2.2.symm⟩
  · rintro (⟨i, h1, rfl⟩ | ⟨j, h1, rfl, rfl⟩)
    · exact .inl ⟨(s, i), List.mem_zipIdx_iff_getElem?.2 h1, rfl⟩
    · exact .inr ⟨j, List.mem_range.2 h1, rfl⟩
theorem nodup_map {α β : Type} {f : α → β} {l : List α} (h : l.Nodup) (hf : ∀ x ∈ l, ∀ y ∈ l, f x = f y → x = y) : (l.map f).Nodup := by
  induction l with
  | nil => simp
  | cons x l ih =>
    simp only [List.nodup_cons] at h
    simp only [List.map_cons, List.nodup_cons, List.mem_map, not_exists, not_and]
    refine ⟨fun y hy he => ?_, ih h.2 fun a ha b hb => hf a (List.mem_cons_of_mem _ ha) b (List.mem_cons_of_mem _ hb)⟩
    have := hf y (List.mem_cons_of_mem _ hy) x List.mem_cons_self he
    exact h.1 (this ▸ hy)
theorem zip_fst (S : List Nm) : S.zipIdx.map (·.1) = S := by simp
theorem zip_nodup (S : List Nm) : (S.zipIdx.map fun p => Nm.arg p.2).Nodup := by
  have : (S.zipIdx.map fun p => Nm.arg p.2) = (List.range S.length).map Nm.arg := by
    have e : (S.zipIdx.map fun p => Nm.arg p.2) = (S.zipIdx.map (fun p : Nm × Nat => p.2)).map Nm.arg := by rw [List.map_map]; rfl
    rw [e]
    congr 1
    rw [List.range_eq_range']
    exact List.zipIdx_map_snd 0 S
  rw [this]
  exact nodup_map List.nodup_range fun x _ y _ h => by simpa using h
theorem nodup_app {α : Type} {l1 l2 : List α} (h1 : l1.Nodup) (h2 : l2.Nodup) (h : ∀ x ∈ l1, x ∉ l2) : (l1 ++ l2).Nodup := by
  rw [List.nodup_append]
  exact ⟨h1, h2, fun x hx y hy e => h x hx (e ▸ hy)⟩
/-- Flat values: nothing of them lies in memory. -/
def Tree.flat1 : Tree → Bool
  | .v _ | .e0 => true
  | _ => false
def Tree.flat : Tree → Bool
  | .agg l => l.all Tree.flat1
  | x => x.flat1
def DV.flat : DV → Bool
  | .t x => x.flat
  | .tup l => l.all fun d => match d with | .t x => x.flat | _ => false
  | .junk => true
  | _ => false
theorem Rep.flat1 {M M' : Nat → Prop} {w' : World} {v : Value} {x : Tree} (h : Rep w M v x) (hx : x.flat1 = true) : Rep w' M' v x := by
  cases h with
  | v h => exact .v h
  | e0 => exact .e0
  | _ => simp [Tree.flat1] at hx
theorem Rep.flat {M M' : Nat → Prop} {w' : World} {v : Value} {x : Tree} (h : Rep w M v x) (hx : x.flat = true) : Rep w' M' v x := by
  cases h with
  | agg hl h1 h2 =>
    simp only [Tree.flat, List.all_eq_true] at hx
    exact .agg hl h1 fun i v t hv ht => (h2 i v t hv ht).flat1 (hx t (List.mem_of_getElem? ht))
  | v h => exact .v h
  | e0 => exact .e0
  | _ => simp [Tree.flat, Tree.flat1] at hx
theorem RepV.flat {φ φ' : Nm → Place} {U U' : Nm → Bool} {M M' : Nat → Prop} {w' : World} {v : Value} {d : DV} (h : RepV φ U w M v d) (hd : d.flat = true) : RepV φ' U' w' M' v d := by
  cases h with
  | t h => exact .t (h.flat hd)
  | tup hl h =>
    simp only [DV.flat, List.all_eq_true] at hd
    refine .tup hl fun i v d hv hdi => ?_
    have h1 := hd d (List.mem_of_getElem? hdi)
    have h2 := h i v d hv hdi
    cases d with
    | t x => exact .t (h2.t_inv.flat h1)
    | _ => simp at h1
  | junk => exact .junk
  | _ => simp [DV.flat] at hd
theorem SimW.congr {E' : Env} (h : SimW c φ E w) (h1 : E.slots = E'.slots) (h2 : E.used = E'.used) : SimW c φ E' w := by
  obtain ⟨t1, s1, u1⟩ := E
  obtain ⟨t2, s2, u2⟩ := E'
  simp only at h1 h2
  subst h1 h2
  exact ⟨h.size, h.os, h.tape, h.output, h.old, h.m0, h.row, h.inj, h.fix, h.gl⟩
/-- A call that meets a contract. -/
def CtrCl (P : Program) (E : Env) (f : FuncId) (ds : List DV) (dst : Option Nat) (r : Res) : Prop := ∃ (k : Ct) (S F : List Nm), HoldsG P f k ∧ Meets E ds k S F ∧
  ((S = [] ∧ k.new = [] ∧ k.d.flat = true ∧ r = ⟨k.d, F ++ k.gn, []⟩) ∨
   ((∀ j, j < k.new.length → E.used (.loc (dst.getD 0) j) = false) ∧ r = ⟨k.d.ren (outRen S (dst.getD 0) k.new.length), F ++ (S ++ k.gn), outUps S (dst.getD 0) k ++ frz E F⟩))
/-! functions that are ranged over: two walks take turns in one memory; M is all that either may change, O what the one that ranges may -/
/-- What the function that is ranged over does meanwhile. -/
structure MovesF (w0 w1 : World) (M1 O1 : Nat → Prop) (w2 : World) (M2 : Nat → Prop) : Prop where
  size : w1.heap.size ≤ w2.heap.size
  os : w2.os = w1.os
  tape : w2.tape = w1.tape
  output : w2.output = w1.output
  keep : ∀ b, b < w1.heap.size → (b < w0.heap.size ∨ O1 b ∨ ¬ M1 b) → w2.heap[b]? = w1.heap[b]?
  sub : ∀ b, b < w1.heap.size → M2 b → M1 b
  base : ∀ b, b < w0.heap.size → M1 b → M2 b
  own : ∀ b, O1 b → M2 b
  lt : ∀ b, M2 b → b < w2.heap.size
/-- What a round does. -/
structure MovesR (w1 : World) (M1 O1 : Nat → Prop) (w2 : World) (M2 O2 : Nat → Prop) : Prop where
  size : w1.heap.size ≤ w2.heap.size
  os : w2.os = w1.os
  tape : w2.tape = w1.tape
  output : w2.output = w1.output
  keep : ∀ b, b < w1.heap.size → ¬ O1 b → w2.heap[b]? = w1.heap[b]?
  all : ∀ b, M2 b ↔ (M1 b ∧ ¬ O1 b) ∨ O2 b
  own : ∀ b, O2 b → O1 b ∨ w1.heap.size ≤ b
  lt : ∀ b, O2 b → b < w2.heap.size
def Stab (w0 : World) (J : World → (Nat → Prop) → (Nat → Prop) → Prop) : Prop := ∀ w1 M1 O1 w2 M2, J w1 M1 O1 → MovesF w0 w1 M1 O1 w2 M2 → J w2 M2 O1
/-- One call of what a range gives. -/
def YCall (P : Program) (l : Nat) (us : List Value) (w : World) (R : Ending → World → Prop) : Prop :=
  ∃ fn tmps assign body, (Instr.yield l us.toArray).run P w = .ok (.round l fn tmps assign body) w ∧ RoundIn Fence.wide 0 P l fn tmps assign body w R
/-- A function that is ranged over hands out these, one after the other. -/
def RepC (w : World) (M : Nat → Prop) (v : Value) (d : DV) : Prop := RepV (fun _ => ⟨0, 0, 0⟩) (fun _ => false) w M v d
def IterL (P : Program) (f : FuncId) (ts : List DV) (xs : List (List Tree)) : Prop :=
  callable P f ∧ ∀ (w : World) (M O : Nat → Prop) (vs : List Value) (l : Nat) (J : Nat → World → (Nat → Prop) → (Nat → Prop) → Prop) (Jx : World → (Nat → Prop) → (Nat → Prop) → Prop),
    (∀ b, M b → b < w.heap.size) → (∀ b, O b → M b) → vs.length = ts.length → (∀ (i : Nat) (v : Value) (t : DV), vs[i]? = some v → ts[i]? = some t → RepC w M v t) →
    (∀ i, Stab w (J i)) → Stab w Jx →
    (∀ (i : Nat) (x : List Tree) (w1 : World) (M1 O1 : Nat → Prop) (us : List Value), xs[i]? = some x → J i w1 M1 O1 → us.length = x.length → (∀ (j : Nat) (v : Value) (t : Tree), us[j]? = some v → x[j]? = some t → Rep w1 M1 v t) →
      YCall P l us w1 fun e w2 => ∃ M2 O2, MovesR w1 M1 O1 w2 M2 O2 ∧ ((e = .returned (.bool true) ∧ J (i + 1) w2 M2 O2) ∨ (e = .returned (.bool false) ∧ Jx w2 M2 O2))) →
    J 0 w M O →
    Calls P f (#[.func (.yield l) #[] #[]] ++ vs.toArray) w fun e w' => ∃ v M' O', e = .returned v ∧ (J xs.length w' M' O' ∨ Jx w' M' O')
def Ctr : CallOk := ⟨CtrCl, fun _ _ _ => False, IterL⟩
def CtrY (yl : Env → List DV → (Bool → Env → Prop) → Prop) : CallOk := ⟨CtrCl, yl, IterL⟩
theorem Meets.goes {ds : List DV} {k : Ct} {S F : List Nm} (hm : Meets E ds k S F) : Goes (E.upd (frz E F)) (inRen S k.gs) := by
  refine ⟨?_, ?_, ?_, ?_, ?_⟩
  · have : (inRen S k.gs).map (·.1) = S ++ k.gs.map fun p => Nm.glob p.1 := by
      unfold inRen
      rw [List.map_append, List.map_map, List.map_map]
      congr 1
      exact zip_fst S
    rw [this]
    refine nodup_app hm.nd ?_ fun s hs hg => ?_
    · have : (k.gs.map fun p => Nm.glob p.1) = (k.gs.map (·.1)).map Nm.glob := by rw [List.map_map]; rfl
      rw [this]
      exact nodup_map hm.gnd fun x _ y _ h => by simpa using h
    · obtain ⟨p, _, rfl⟩ := List.mem_map.1 hg
      have := (hm.ng _ hs).1
      simp [Nm.isGlob] at this
  · have : (inRen S k.gs).map (·.2) = (S.zipIdx.map fun p => Nm.arg p.2) ++ k.gs.map fun p => Nm.glob p.1 := by
      unfold inRen
      rw [List.map_append, List.map_map, List.map_map]
      rfl
    rw [this]
    refine nodup_app (zip_nodup S) ?_ fun s hs hg => ?_
    · have : (k.gs.map fun p => Nm.glob p.1) = (k.gs.map (·.1)).map Nm.glob := by rw [List.map_map]; rfl
      rw [this]
      exact nodup_map hm.gnd fun x _ y _ h => by simpa using h
    · obtain ⟨p, _, rfl⟩ := List.mem_map.1 hg
      obtain ⟨q, _, h2⟩ := List.mem_map.1 hs
      simp at h2
  · intro s s' h hg
    rcases mem_inRen.1 h with ⟨i, h1, rfl⟩ | ⟨p, h1, rfl, rfl⟩
    · rcases hg with hg | hg
      · simp [Nm.isGlob] at hg
      · have := (hm.ng s (List.mem_of_getElem? h1)).1
        rw [this] at hg; simp at hg
    · rfl
  · intro s s' h
    have : E.used s = true := by
      rcases mem_inRen.1 h with ⟨i, h1, rfl⟩ | ⟨p, h1, rfl, rfl⟩
      · exact hm.su s (List.mem_of_getElem? h1)
      · exact hm.gu p h1
    rw [upd_used, this, Bool.or_true]
  · intro s' hl
    rcases mem_inRen.1 (lookup_mem hl) with ⟨i, h1, rfl⟩ | ⟨p, h1, h2, _⟩
    · exact absurd rfl (hm.ny _ (List.mem_of_getElem? h1))
    · cases h2
theorem glookup {gs : List (Nat × TypeId × Tree)} (hn : (gs.map (·.1)).Nodup) {p : Nat × TypeId × Tree} (hp : p ∈ gs) : gs.lookup p.1 = some p.2 := lookup_of_mem hn hp
theorem Meets.slots {ds : List DV} {k : Ct} {S F : List Nm} (hm : Meets E ds k S F) : ((E.upd (frz E F)).canon (inRen S k.gs)).slots = k.env.slots := by
  have hgo := hm.goes
  have hs1 : ∀ (i : Nat) (s : Nm), S[i]? = some s → (E.upd (frz E F)).slots s = E.slots s := by
    intro i s hs
    rw [upd_slots, frz_lookup, if_neg (hm.ng s (List.mem_of_getElem? hs)).2]
  have hs2 : ∀ p ∈ k.gs, (E.upd (frz E F)).slots (.glob p.1) = some (.box p.2.1 (.t p.2.2) true) := by
    intro p hp
    rw [upd_slots, frz_lookup]
    split
    · rename_i x hx
      split at hx
      · simp only [Option.some.injEq] at hx
        rw [← hx, hm.gs p hp]
        rfl
      · simp at hx
    · exact hm.gs p hp
  funext s'
  have hno : (∀ s, (s, s') ∉ inRen S k.gs) → ((E.upd (frz E F)).canon (inRen S k.gs)).slots s' = none := by
    intro h
    cases hx : ((E.upd (frz E F)).canon (inRen S k.gs)).slots s' with
    | none => rfl
    | some r =>
      obtain ⟨s, _, h1, _⟩ := hgo.slot hx
      exact absurd h1 (h s)
  cases s' with
  | arg i =>
    show _ = ((k.rows.map some)[i]?).join
    by_cases hi : i < S.length
    · have hsi := List.getElem?_eq_getElem hi
      obtain ⟨r, h1, h2⟩ := hm.rw i _ hsi
      rw [hgo.slot' (mem_inRen.2 (.inl ⟨i, hsi, rfl⟩)) ((hs1 i _ hsi).trans h1)]
      simp [h2]
    · rw [hno fun s h => ?_]
      · have : k.rows[i]? = none := List.getElem?_eq_none (by rw [hm.ln]; omega)
        simp [this]
      · rcases mem_inRen.1 h with ⟨j, h1, h2⟩ | ⟨p, _, _, h2⟩
        · simp only [Nm.arg.injEq] at h2
          subst h2
          exact hi (List.getElem?_eq_some_iff.1 h1).1
        · simp at h2
  | glob g =>
    show _ = (k.gs.lookup g).map _
    cases hl : k.gs.lookup g with
    | some y =>
      have hp := lookup_mem hl
      rw [hgo.slot' (mem_inRen.2 (.inr ⟨_, hp, rfl, rfl⟩)) (hs2 _ hp)]
      rfl
    | none =>
      rw [hno fun s h => ?_]
      · rfl
      · rcases mem_inRen.1 h with ⟨j, h1, h2⟩ | ⟨p, h1, _, h2⟩
        · simp at h2
        · simp only [Nm.glob.injEq] at h2
          subst h2
          rw [glookup hm.gnd h1] at hl
          simp at hl
  | loc d j =>
    rw [hno fun s h => ?_]
    · simp [Ct.env, ctSlots]
    · rcases mem_inRen.1 h with ⟨j, h1, h2⟩ | ⟨p, h1, _, h2⟩ <;> simp at h2
  | head l i =>
    rw [hno fun s h => ?_]
    · rfl
    · rcases mem_inRen.1 h with ⟨j, h1, h2⟩ | ⟨p, h1, _, h2⟩ <;> simp at h2
  | yl =>
    rw [hno fun s h => ?_]
    · rfl
    · rcases mem_inRen.1 h with ⟨j, h1, h2⟩ | ⟨p, h1, _, h2⟩ <;> simp at h2
theorem Meets.used {ds : List DV} {k : Ct} {S F : List Nm} (hm : Meets E ds k S F) : ((E.upd (frz E F)).canon (inRen S k.gs)).used = k.env.used := by
  have hgo := hm.goes
  funext s'
  rw [Bool.eq_iff_iff, hgo.usd]
  cases s' with
  | arg i =>
    show _ ↔ decide (i < k.rows.length) = true
    rw [decide_eq_true_eq, hm.ln]
    constructor
    · rintro ⟨s, h⟩
      rcases mem_inRen.1 h with ⟨j, h1, h2⟩ | ⟨p, _, _, h2⟩
      · simp only [Nm.arg.injEq] at h2
        subst h2
        exact (List.getElem?_eq_some_iff.1 h1).1
      · simp at h2
    · intro hi
      exact ⟨_, mem_inRen.2 (.inl ⟨i, List.getElem?_eq_getElem hi, rfl⟩)⟩
  | glob g =>
    show _ ↔ (k.gs.lookup g).isSome = true
    constructor
    · rintro ⟨s, h⟩
      rcases mem_inRen.1 h with ⟨j, h1, h2⟩ | ⟨p, h1, _, h2⟩
      · simp at h2
      · simp only [Nm.glob.injEq] at h2
        subst h2
        rw [glookup hm.gnd h1]
        rfl
    · intro h
      obtain ⟨y, hy⟩ := Option.isSome_iff_exists.1 h
      exact ⟨_, mem_inRen.2 (.inr ⟨_, lookup_mem hy, rfl, rfl⟩)⟩
  | loc d j =>
    constructor
    · rintro ⟨s, h⟩
      rcases mem_inRen.1 h with ⟨j, h1, h2⟩ | ⟨p, h1, _, h2⟩ <;> simp at h2
    · intro h; simp [Ct.env, Ct.used0] at h
  | head l i =>
    constructor
    · rintro ⟨s, h⟩
      rcases mem_inRen.1 h with ⟨j, h1, h2⟩ | ⟨p, h1, _, h2⟩ <;> simp at h2
    · intro h; simp [Ct.env, Ct.used0] at h
  | yl =>
    constructor
    · rintro ⟨s, h⟩
      rcases mem_inRen.1 h with ⟨j, h1, h2⟩ | ⟨p, h1, _, h2⟩ <;> simp at h2
    · intro h; simp [Ct.env, Ct.used0] at h
/-- A pure function of trees. -/
def Holds (P : Program) (f : FuncId) (ts : List Tree) (d : DV) : Prop := HoldsG P f ⟨[], ts.map .t, [], d, [], []⟩
theorem meets_pure {ds : List DV} {ts : List Tree} {rd : List Nm} {d : DV} {new : List Row} (hv : E.views ds = some (ts, rd)) : Meets E ds ⟨[], ts.map .t, [], d, [], new⟩ [] rd := by
  simp only [Env.views, Option.map_eq_some_iff, Prod.mk.injEq] at hv
  obtain ⟨ps, h1, rfl, rfl⟩ := hv
  obtain ⟨h2, h3⟩ := mapM_some h1
  refine ⟨List.nodup_nil, by simp, by simp, by simp, by simp, List.nodup_nil, rfl, by simp, by simp, by simp; omega, fun i d d0 hd hd0 => ?_, fun s hs => ?_⟩
  · simp only [List.getElem?_map, Option.map_eq_some_iff] at hd0
    obtain ⟨t, ⟨p, hp, rfl⟩, rfl⟩ := hd0
    refine .inr ⟨p.1, p.2, h3 i d p hd hp, rfl, fun s hs => List.mem_flatMap.2 ⟨p, List.mem_of_getElem? hp, hs⟩⟩
  · obtain ⟨p, hp, hs⟩ := List.mem_flatMap.1 hs
    obtain ⟨i, hi, rfl⟩ := List.getElem_of_mem hp
    have hil : i < ds.length := by omega
    obtain ⟨e, m, l, fz, hsl⟩ := view_rd (h3 i _ ps[i] (List.getElem?_eq_getElem hil) (List.getElem?_eq_getElem hi)) s hs
    rw [hsl]; rfl
theorem call_flat {f : FuncId} {ds : List DV} {ts : List Tree} {rd : List Nm} {d : DV} {dst : Option Nat} (h : Holds P f ts d) (hv : E.views ds = some (ts, rd)) (hf : d.flat = true) : Ctr P E f ds dst ⟨d, rd ++ [], []⟩ :=
  ⟨_, [], rd, h, meets_pure hv, .inl ⟨rfl, rfl, hf, rfl⟩⟩
theorem call_own {f : FuncId} {ds : List DV} {ts : List Tree} {rd : List Nm} {d : DV} {dst : Option Nat} (h : Holds P f ts d) (hv : E.views ds = some (ts, rd)) : Ctr P E f ds dst ⟨d.ren [], rd ++ [], frz E rd⟩ :=
  ⟨_, [], rd, h, meets_pure hv, .inr ⟨by simp, rfl⟩⟩
theorem call_new {f : FuncId} {ds : List DV} {ts : List Tree} {rd : List Nm} {d : DV} {new : List Row} {dst : Option Nat} (h : HoldsG P f ⟨[], ts.map .t, [], d, [], new⟩) (hv : E.views ds = some (ts, rd)) (hn : ∀ j, j < new.length → E.used (.loc (dst.getD 0) j) = false) :
    CtrCl P E f ds dst ⟨d.ren (outRen [] (dst.getD 0) new.length), rd ++ ([] ++ []), outUps [] (dst.getD 0) ⟨[], ts.map .t, [], d, [], new⟩ ++ frz E rd⟩ :=
  ⟨⟨[], ts.map .t, [], d, [], new⟩, [], rd, h, meets_pure hv, .inr ⟨hn, rfl⟩⟩
end Go.Wt
/- Contracts serve every caller: what holds of a function is what its calls do. -/
namespace Go.Wt
open Go.RowKit
variable {P : Program} {C : CallOk} {c : Ctx} {φ : Nm → Place} {E : Env} {a : Act} {w : World}
theorem lookup_app {l1 l2 : List (Nm × Option Row)} {s : Nm} : (l1 ++ l2).lookup s = match l1.lookup s with | some x => some x | none => l2.lookup s := by
  induction l1 with
  | nil => rfl
  | cons p l1 ih =>
    obtain ⟨u, x⟩ := p
    simp only [List.cons_append, List.lookup]
    split
    · rfl
    · exact ih
theorem lookup_some_of_mem {l : List (Nm × Option Row)} {s : Nm} (h : s ∈ l.map (·.1)) : (l.lookup s).isSome = true := by
  cases hl : l.lookup s with
  | some x => rfl
  | none =>
    exfalso
    induction l with
    | nil => simp at h
    | cons p l ih =>
      obtain ⟨u, x⟩ := p
      simp only [List.lookup] at hl
      split at hl
      · simp at hl
      · rename_i hb
        simp only [List.map_cons, List.mem_cons] at h
        rcases h with h | h
        · rw [h] at hb; simp at hb
        · exact ih h hl
theorem outUps_mem {S : List Nm} {d : Nat} {k : Ct} {s : Nm} {x : Option Row} (h : (s, x) ∈ outUps S d k) : (∃ i : Nat, S[i]? = some s ∧ x = ((k.rows'[i]?).join).map (Row.ren (outRen S d k.new.length))) ∨ ∃ (j : Nat) (r : Row), k.new[j]? = some r ∧ s = .loc d j ∧ x = some (r.ren (outRen S d k.new.length)) := by
  unfold outUps at h
  rw [List.mem_append, List.mem_map, List.mem_map] at h
  rcases h with ⟨⟨y, i⟩, h1, h2⟩ | ⟨⟨y, j⟩, h1, h2⟩
  · rw [List.mem_zipIdx_iff_getElem?] at h1
    simp only [Prod.mk.injEq] at h2
    obtain ⟨rfl, rfl⟩ := h2
    exact .inl ⟨i, h1, rfl⟩
  · rw [List.mem_zipIdx_iff_getElem?] at h1
    simp only [Prod.mk.injEq] at h2
    obtain ⟨rfl, rfl⟩ := h2
    exact .inr ⟨j, y, h1, rfl, rfl⟩
theorem outUps_has {S : List Nm} {d : Nat} {k : Ct} {s : Nm} (h : s ∈ S) : s ∈ (outUps S d k).map (·.1) := by
  unfold outUps
  rw [List.map_append, List.mem_append, List.map_map]
  refine .inl ?_
  have : S.zipIdx.map ((fun p : Nm × Option Row => p.1) ∘ fun p : Nm × Nat => (p.1, ((k.rows'[p.2]?).join).map (Row.ren (outRen S d k.new.length)))) = S := zip_fst S
  rw [this]; exact h
theorem outUps_has' {S : List Nm} {d : Nat} {k : Ct} {j : Nat} (h : j < k.new.length) : Nm.loc d j ∈ (outUps S d k).map (·.1) := by
  unfold outUps
  rw [List.map_append, List.mem_append]
  refine .inr ?_
  rw [List.map_map, List.mem_map]
  exact ⟨(k.new[j], j), List.mem_zipIdx_iff_getElem?.2 (List.getElem?_eq_getElem h), rfl⟩
theorem comes_ct {ds : List DV} {k k' : Ct} {S F : List Nm} {d : Nat} {E' : Env} (hm : Meets E ds k S F) (hfu : ∀ s ∈ F, E.used s = true) (hfr : ∀ j, j < k'.new.length → E.used (.loc d j) = false) (hsl : E'.slots = k'.out) :
    Comes (E.upd (frz E F)) E' (inRen S k.gs) (outRen S d k'.new.length) (outUps S d k') := by
  refine ⟨?_, ?_, ?_, ?_, ?_, ?_⟩
  · have : (outRen S d k'.new.length).map (·.1) = (S.zipIdx.map fun p => Nm.arg p.2) ++ (List.range k'.new.length).map fun j => Nm.loc 0 j := by
      unfold outRen
      rw [List.map_append, List.map_map, List.map_map]
      rfl
    rw [this]
    refine nodup_app (zip_nodup S) (nodup_map List.nodup_range fun x _ y _ h => by simpa using h) fun s hs hg => ?_
    obtain ⟨p, _, rfl⟩ := List.mem_map.1 hg
    obtain ⟨q, _, h2⟩ := List.mem_map.1 hs
    simp at h2
  · have : (outRen S d k'.new.length).map (·.2) = S ++ (List.range k'.new.length).map fun j => Nm.loc d j := by
      unfold outRen
      rw [List.map_append, List.map_map, List.map_map]
      congr 1
      exact zip_fst S
    rw [this]
    refine nodup_app hm.nd (nodup_map List.nodup_range fun x _ y _ h => by simpa using h) fun s hs hg => ?_
    obtain ⟨j, hj, rfl⟩ := List.mem_map.1 hg
    have := hfr j (List.mem_range.1 hj)
    rw [hm.su _ hs] at this
    simp at this
  · intro s' s hmem
    rcases mem_outRen.1 hmem with ⟨i, h4, rfl⟩ | ⟨j, h4, rfl, rfl⟩
    · exact .inl ⟨mem_inRen.2 (.inl ⟨i, h4, rfl⟩), rfl⟩
    · refine .inr ⟨?_, rfl, lookup_some_of_mem (outUps_has' h4)⟩
      rw [upd_used, frz_lookup, hfr j h4]
      split
      · rename_i hs
        have := hfu _ hs
        rw [hfr j h4] at this
        simp at this
      · rfl
  · intro s x hlk
    rcases outUps_mem (lookup_mem hlk) with ⟨i, h4, rfl⟩ | ⟨j, r, h4, rfl, rfl⟩
    · refine ⟨.arg i, mem_outRen.2 (.inl ⟨i, h4, rfl⟩), ?_⟩
      rw [hsl]
      rfl
    · refine ⟨.loc 0 j, mem_outRen.2 (.inr ⟨j, (List.getElem?_eq_some_iff.1 h4).1, rfl, rfl⟩), ?_⟩
      rw [hsl]
      show _ = Option.map _ (if (0 : Nat) = 0 then k'.new[j]? else none)
      rw [if_pos rfl, h4]
      rfl
  · intro s s' r h4 h5 h6
    rcases mem_inRen.1 h4 with ⟨i, h7, rfl⟩ | ⟨p, h7, rfl, rfl⟩
    · exact lookup_some_of_mem (outUps_has (List.mem_of_getElem? h7))
    · exfalso
      obtain ⟨r0, h8, h9⟩ := frz_slots h5
      rw [hm.gs p h7] at h8
      simp only [Option.some.injEq] at h8
      subst h8
      rcases h9 with rfl | rfl <;> simp [Row.mut, Row.frozen] at h6
  · intro s' hl
    rcases mem_outRen.1 (lookup_mem hl) with ⟨i, _, h2⟩ | ⟨j, _, h2, _⟩ <;> cases h2
theorem ctr_sound : CSound P Ctr := by
  rintro E f ds dst r ⟨k, S, F, hh, hm, hr⟩
  refine ⟨hh.1, fun c φ a w vs h hd hl hv => ?_⟩
  have hfu : ∀ s ∈ F, E.used s = true := fun s hs => by
    obtain ⟨r, hr⟩ := Option.isSome_iff_exists.1 (hm.fu s hs)
    exact (h.row s r hr).1
  have h1 : SimA c φ (E.upd (frz E F)) a w := h.freeze hfu
  have hgo := hm.goes
  obtain ⟨h2, hren, hMs⟩ := h1.toSimW.enter hgo
  have h3 : SimW (enterCtx c φ (E.upd (frz E F)) w (inRen S k.gs)) (enterPl φ (inRen S k.gs)) k.env w := h2.congr hm.slots hm.used
  rw [hm.slots, hm.used] at hren
  rw [hm.slots] at hMs
  have hM1 : ∀ b, Mut c φ (E.upd (frz E F)).slots b → Mut c φ E.slots b := by
    rintro b (hb | ⟨s, r, h4, h5, h6, h7⟩)
    · exact .inl hb
    · obtain ⟨r0, h8, h9⟩ := frz_slots h4
      rcases h9 with rfl | rfl
      · exact .inr ⟨s, r, h8, h5, h6, h7⟩
      · rw [frozen_mut] at h5; simp at h5
  have hF : ∀ s ∈ F, ∀ r, E.slots s = some r → r.real (φ s) = true → ¬ Mut c φ (E.upd (frz E F)).slots (φ s).blk := by
    rintro s hs r hsl hre (⟨hb1, hb2⟩ | ⟨s2, r2, h4, h5, h6, h7⟩)
    · exact ((h.row s r hsl).2.2 hre).2.elim hb2 (fun hh => hh hb1)
    · obtain ⟨r0, h8, h9⟩ := frz_slots h4
      rcases h9 with rfl | rfl
      · have := h.inj s2 s r2 r h8 hsl h5 h6 hre h7
        subst this
        rw [upd_slots, frz_lookup, if_pos hs] at h4
        simp only [Option.map_eq_some_iff] at h4
        obtain ⟨y, _, h10⟩ := h4
        rw [← h10, frozen_mut] at h5
        simp at h5
      · rw [frozen_mut] at h5; simp at h5
  refine (hh.2 _ _ w vs rfl h3 (hl.trans hm.la) (fun i v d0 hvi hdi => ?_)).mono fun e w1 he => ?_
  · have hil : i < ds.length := by
      have := (List.getElem?_eq_some_iff.1 hdi).1
      rw [hm.la]; exact this
    have hdsi := List.getElem?_eq_getElem hil
    have hvd := hv i v _ hvi hdsi
    rcases hm.ar i _ d0 hdsi hdi with rfl | ⟨x, rd, h4, rfl, h5⟩
    · refine hren v _ (hvd.mono (Nat.le_refl _) (fun b _ hb => ⟨rfl, fun hb' => hb (hM1 b hb')⟩) (fun s hu => ⟨by rw [upd_used, hu, Bool.or_true], rfl⟩))
    · refine .t ?_
      refine h.toSimW.view (fun b hb => hM1 b (hMs b hb)) hvd h4 fun s hs hcap hb => ?_
      obtain ⟨e, m, l, fz, hsl⟩ := view_rd h4 s hs
      exact hF s (h5 s hs) _ hsl (by simpa [Row.real] using hcap) (hMs _ hb)
  · obtain ⟨v, rfl, φ1, E', hsl, hsim, hrv⟩ := he
    refine ⟨v, rfl, ?_⟩
    rcases hr with ⟨rfl, hnew, hfl, rfl⟩ | ⟨hfr, rfl⟩
    · refine ⟨φ, ?_⟩
      have hsame : ∀ b, b < w.heap.size → w1.heap[b]? = w.heap[b]? := by
        intro b hb
        refine hsim.old b hb ?_
        rintro ⟨s, s', r, h4, h5, h6, _⟩
        rcases mem_inRen.1 h4 with ⟨i, h7, _⟩ | ⟨p, h7, rfl, _⟩
        · simp at h7
        · obtain ⟨r0, h8, h9⟩ := frz_slots h5
          rw [hm.gs p h7] at h8
          simp only [Option.some.injEq] at h8
          subst h8
          rcases h9 with rfl | rfl <;> simp [Row.mut, Row.frozen] at h6
      have hk : SimA c φ (E.upd []) a w1 := h.upd hsim.size hsim.os hsim.tape hsim.output (fun b hb => .inl (hsame b hb)) (fun _ _ => rfl) (by simp) h.inj (fun b _ hb => hb) (by simp)
      exact hk.put hd (hrv.flat hfl)
    · show ∃ φ', SimA c φ' ((E.upd (outUps S (dst.getD 0) k ++ frz E F)).putO dst _) (a.put dst v) w1
      rw [upd_append]
      exact h1.exit hgo hsim (comes_ct hm hfu hfr hsl) hrv hd
theorem ctr_local : CLocal Ctr := by
  rintro P E G f ds dst r ⟨k, S, F, hh, hm, hr⟩ hs
  have hS : ∀ s, s ∈ F ∨ s ∈ S ∨ s ∈ k.gn → G.slots s = E.slots s ∧ G.used s = E.used s := by
    intro s h
    refine hs s ?_
    rcases hr with ⟨rfl, _, _, rfl⟩ | ⟨_, rfl⟩
    · simp only [List.map_nil, List.append_nil, List.mem_append]
      rcases h with h | h | h
      · exact .inl h
      · simp at h
      · exact .inr h
    · simp only [List.mem_append]
      exact .inl h
  have hgn : ∀ p ∈ k.gs, Nm.glob p.1 ∈ k.gn := fun p hp => List.mem_map.2 ⟨p, hp, rfl⟩
  have hm' : Meets G ds k S F := by
    refine ⟨hm.nd, hm.ng, hm.ny, fun p hp => ?_, fun p hp => ?_, hm.gnd, hm.ln, fun i s hi => ?_, fun s h => ?_, hm.la, fun i d d0 h1 h2 => ?_, fun s h => ?_⟩
    · rw [(hS _ (.inr (.inr (hgn p hp)))).1]; exact hm.gs p hp
    · rw [(hS _ (.inr (.inr (hgn p hp)))).2]; exact hm.gu p hp
    · obtain ⟨r, h1, h2⟩ := hm.rw i s hi
      exact ⟨r, by rw [(hS _ (.inr (.inl (List.mem_of_getElem? hi)))).1]; exact h1, h2⟩
    · rw [(hS _ (.inr (.inl h))).2]; exact hm.su s h
    · rcases hm.ar i d d0 h1 h2 with h3 | ⟨x, rd, h3, h4, h5⟩
      · exact .inl h3
      · exact .inr ⟨x, rd, view_local h3 (fun s h => hS s (.inl (h5 s h))), h4, h5⟩
    · rw [(hS _ (.inl h)).1]; exact hm.fu s h
  refine ⟨k, S, F, hh, hm', ?_⟩
  rcases hr with h | ⟨h1, h2⟩
  · exact .inl h
  · refine .inr ⟨fun j hj => ?_, ?_⟩
    · have : Nm.loc (dst.getD 0) j ∈ r.ups.map (·.1) := by
        rw [h2]
        simp only [List.map_append, List.mem_append]
        exact .inl (outUps_has' hj)
      rw [(hs _ (List.mem_append.2 (.inr this))).2]
      exact h1 j hj
    · rw [h2]
      have : frz G F = frz E F := List.map_congr_left fun s h => by rw [(hS s (.inl h)).1]
      rw [this]
end Go.Wt
