/- What is one's own, read through. -/
import Derived.Test.YtbeiejanhoiodaaGreatMA2
set_option linter.unusedSimpArgs false
set_option linter.unusedVariables false
namespace Go.Wt
open Go.RowKit
variable {P : Program} {C : CallOk} {c : Ctx}
variable {φ : Nm → Place} {E : Env} {a : Act} {w : World}
theorem RepV.t_inv {φ : Nm → Place} {U : Nm → Bool} {M : Nat → Prop} {v : Value} {x : Tree} (h : RepV φ U w M v (.t x)) : Rep w M v x := by
  cases h with | t h => exact h
theorem SimW.stable (h : SimW c φ E w) {s : Nm} {e : TypeId} {m : Nat} {l : List Tree} {fz : Bool} (hsl : E.slots s = some (.rows e m l fz)) {M' : Nat → Prop} (hM : ∀ b, M' b → Mut c φ E.slots b) (hs : 0 < (φ s).cap → ¬ M' (φ s).blk) {n : Nat} (hn : n ≤ l.length) (hnc : n ≤ (φ s).cap) {ad : Option Addr} (had : 0 < (φ s).cap → ad = some ⟨(φ s).blk, 0, none⟩) :
    Rep w M' (.slice ad n (φ s).cap) (.sl m (l.take n)) := by
  obtain ⟨_, hB, _⟩ := h.row s _ hsl
  rcases hB with ⟨h1, h2, _⟩ | ⟨cs, h1, h2, h3, h4, h5, h6, h7, h8, h9⟩
  · have : n = 0 := by omega
    subst this h2
    rw [h1]
    exact .sl0 (by simp [maxLen])
  · rw [had h1]
    have hlen : (l.take n).length = n := by simp; omega
    have hget : ∀ (k : Nat) (t : Tree), (l.take n)[k]? = some t → l[k]? = some t := by
      intro k t hk
      rw [List.getElem?_take] at hk
      split at hk
      · exact hk
      · simp at hk
    have hlt : (φ s).blk < w.heap.size := (Array.getElem?_eq_some_iff.1 h2).1
    have : Rep w M' (.slice (some ⟨(φ s).blk, 0, none⟩) (l.take n).length (φ s).cap) (.sl m (l.take n)) := by
      refine .sl (fun k j => cs.getD (k * m + j) undef) (hs h1) hlt (by omega) h7 (fun t ht => h8 t (List.mem_of_mem_take ht)) (fun k t j cc hk hj => ?_) (fun k t j cc hk hj => (h9 k t j cc (hget k t hk) hj).1) (fun k t j cc hk hj => ?_)
      · obtain ⟨_, v, h10, _⟩ := h9 k t j cc (hget k t hk) hj
        rw [cell_of_heap h2, Nat.zero_add, h10]
        simp [List.getD, h10]
      · obtain ⟨_, v, h10, h11⟩ := h9 k t j cc (hget k t hk) hj
        simp only [List.getD, h10, Option.getD_some]
        exact h11.mono (Nat.le_refl _) (fun b _ hb => ⟨rfl, fun hb' => hb (hM b hb')⟩)
    rw [hlen] at this
    exact this
theorem SimW.view1 (h : SimW c φ E w) {M' : Nat → Prop} (hM : ∀ b, M' b → Mut c φ E.slots b) {v : Value} {d : DV} {x : Tree} {rd : List Nm} (hv : RepV φ E.used w (Mut c φ E.slots) v d) (hx : E.view1 d = some (x, rd)) (hs : ∀ s ∈ rd, 0 < (φ s).cap → ¬ M' (φ s).blk) :
    Rep w M' v x ∧ x.one = true := by
  unfold Env.view1 at hx
  split at hx
  · split at hx
    · rename_i ho
      simp only [Option.some.injEq, Prod.mk.injEq] at hx
      obtain ⟨rfl, rfl⟩ := hx
      exact ⟨hv.t_inv.mono (Nat.le_refl _) (fun b _ hb => ⟨rfl, fun hb' => hb (hM b hb')⟩), ho⟩
    · simp at hx
  · rename_i s n
    split at hx
    · rename_i e m l fz hsl
      split at hx
      · rename_i hn
        simp only [Option.some.injEq, Prod.mk.injEq] at hx
        obtain ⟨rfl, rfl⟩ := hx
        obtain ⟨ad, rfl, _, hnc, had⟩ := hv.osl_inv
        exact ⟨h.stable hsl hM (hs s List.mem_cons_self) hn hnc had, rfl⟩
      · simp at hx
    · simp at hx
  · simp at hx
theorem SimW.view (h : SimW c φ E w) {M' : Nat → Prop} (hM : ∀ b, M' b → Mut c φ E.slots b) {v : Value} {d : DV} {x : Tree} {rd : List Nm} (hv : RepV φ E.used w (Mut c φ E.slots) v d) (hx : E.view d = some (x, rd)) (hs : ∀ s ∈ rd, 0 < (φ s).cap → ¬ M' (φ s).blk) :
    Rep w M' v x := by
  cases d with
  | t y =>
    simp only [Env.view, Option.some.injEq, Prod.mk.injEq] at hx
    obtain ⟨rfl, rfl⟩ := hx
    exact hv.t_inv.mono (Nat.le_refl _) (fun b _ hb => ⟨rfl, fun hb' => hb (hM b hb')⟩)
  | agg l =>
    simp only [Env.view, Option.map_eq_some_iff, Prod.mk.injEq] at hx
    obtain ⟨ps, h1, rfl, rfl⟩ := hx
    obtain ⟨h2, h3⟩ := mapM_some h1
    cases hv with
    | agg hl h4 h5 =>
      rename_i vs
      have hone : ∀ (i : Nat) (v : Value) (t : Tree), vs[i]? = some v → (ps.map (·.1))[i]? = some t → Rep w M' v t ∧ t.one = true := by
        intro i v t hvi ht
        simp only [List.getElem?_map, Option.map_eq_some_iff] at ht
        obtain ⟨p, hp, rfl⟩ := ht
        have hil : i < l.length := by rw [h2]; exact (List.getElem?_eq_some_iff.1 hp).1
        have h6 := h3 i _ p (List.getElem?_eq_getElem hil) hp
        refine h.view1 hM (h5 i v _ hvi (List.getElem?_eq_getElem hil)) (x := p.1) (rd := p.2) h6 (fun s hs' => hs s ?_)
        exact List.mem_flatMap.2 ⟨p, List.mem_of_getElem? hp, hs'⟩
      refine .agg (by simp; omega) (fun t ht => ?_) (fun i v t hvi ht => (hone i v t hvi ht).1)
      obtain ⟨i, hi, rfl⟩ := List.getElem_of_mem ht
      have hi' : i < vs.length := by simp at hi; omega
      exact (hone i _ _ (List.getElem?_eq_getElem hi') (List.getElem?_eq_getElem hi)).2
  | _ => simp only [Env.view] at hx; exact (h.view1 hM hv hx hs).1
end Go.Wt
/- Rows that are only looked at from some point on. -/
namespace Go.Wt
open Go.RowKit
variable {P : Program} {C : CallOk} {c : Ctx} {φ : Nm → Place} {E : Env} {a : Act} {w : World}
theorem Env.ext' {E F : Env} (h1 : E.tmps = F.tmps) (h2 : E.slots = F.slots) (h3 : E.used = F.used) : E = F := by cases E; cases F; simp_all
theorem SimW.frozen_nm (h : SimW c φ E w) {s : Nm} {r : Row} (hs : E.slots s = some r) (hm : ¬ r.mut = true) (hre : r.real (φ s) = true) : ¬ Mut c φ E.slots (φ s).blk := by
  rintro (⟨h1, h2⟩ | ⟨s2, r2, h3, h4, h5, h6⟩)
  · rcases ((h.row s r hs).2.2 hre).2 with h3 | h3
    · exact h2 h3
    · exact h3 h1
  · have := h.inj s2 s r2 r h3 hs h4 h5 hre h6
    subst this
    rw [h3] at hs
    cases hs
    exact hm h4
theorem upd_append (l1 l2 : List (Nm × Option Row)) : E.upd (l1 ++ l2) = (E.upd l2).upd l1 := by
  have hl : ∀ s, (l1 ++ l2).lookup s = match l1.lookup s with | some x => some x | none => l2.lookup s := by
    intro s
    induction l1 with
    | nil => rfl
    | cons p l1 ih =>
      obtain ⟨u, x⟩ := p
      simp only [List.cons_append, List.lookup]
      split
      · rfl
      · exact ih
  refine Env.ext' rfl (funext fun s => ?_) (funext fun s => ?_)
  · rw [upd_slots, upd_slots, upd_slots, hl]
    cases l1.lookup s <;> rfl
  · rw [upd_used, upd_used, upd_used, hl]
    cases l1.lookup s <;> simp
theorem view1_rd {d : DV} {x : Tree} {rd : List Nm} (h : E.view1 d = some (x, rd)) : ∀ s ∈ rd, ∃ e m l fz, E.slots s = some (.rows e m l fz) := by
  unfold Env.view1 at h
  split at h
  · split at h <;> simp at h
    obtain ⟨_, rfl⟩ := h
    simp
  · split at h
    · rename_i e m l fz hs
      split at h <;> simp at h
      obtain ⟨_, rfl⟩ := h
      intro s hs'
      simp at hs'
      subst hs'
      exact ⟨e, m, l, fz, hs⟩
    · simp at h
  · simp at h
theorem view_rd {d : DV} {x : Tree} {rd : List Nm} (h : E.view d = some (x, rd)) : ∀ s ∈ rd, ∃ e m l fz, E.slots s = some (.rows e m l fz) := by
  cases d with
  | t y =>
    simp only [Env.view, Option.some.injEq, Prod.mk.injEq] at h
    obtain ⟨_, rfl⟩ := h
    simp
  | agg l =>
    simp only [Env.view, Option.map_eq_some_iff, Prod.mk.injEq] at h
    obtain ⟨ps, h1, _, rfl⟩ := h
    obtain ⟨h2, h3⟩ := mapM_some h1
    intro s hs
    obtain ⟨p, hp, hs⟩ := List.mem_flatMap.1 hs
    obtain ⟨i, hi, rfl⟩ := List.getElem_of_mem hp
    have hil : i < l.length := by omega
    exact view1_rd (h3 i _ ps[i] (List.getElem?_eq_getElem hil) (List.getElem?_eq_getElem hi)) s hs
  | _ => simp only [Env.view] at h; exact view1_rd h
theorem frozen_mut (r : Row) : r.frozen.mut = false := by cases r <;> rfl
theorem frozen_real (r : Row) (pl : Place) : r.frozen.real pl = r.real pl := by cases r <;> rfl
theorem frozen_rep {U : Nm → Bool} {M : Nat → Prop} {pl : Place} {r : Row} (h : BlockRep φ U M w pl r) : BlockRep φ U M w pl r.frozen := by
  cases r with
  | obj o fz => cases o <;> exact h
  | _ => exact h
theorem frz_lookup (E : Env) : ∀ (F : List Nm) (s : Nm), (frz E F).lookup s = if s ∈ F then some ((E.slots s).map Row.frozen) else none
  | [], s => by simp [frz]
  | x :: F, s => by
    have ih := frz_lookup E F s
    unfold frz at ih ⊢
    simp only [List.map_cons, List.lookup]
    by_cases hs : s = x
    · subst hs; simp
    · have hb : (s == x) = false := by simpa using hs
      rw [hb]
      simp only [ih, List.mem_cons, hs, false_or]
theorem frz_slots {F : List Nm} {s : Nm} {r : Row} (h : (E.upd (frz E F)).slots s = some r) : ∃ r0, E.slots s = some r0 ∧ (r = r0 ∨ r = r0.frozen) := by
  rw [upd_slots, frz_lookup] at h
  split at h
  · rename_i x hx
    split at hx
    · simp only [Option.some.injEq] at hx
      subst hx
      rw [Option.map_eq_some_iff] at h
      obtain ⟨r0, h1, h2⟩ := h
      exact ⟨r0, h1, .inr h2.symm⟩
    · simp at hx
  · exact ⟨r, h, .inl rfl⟩
theorem SimA.freeze (h : SimA c φ E a w) {F : List Nm} (hF : ∀ s ∈ F, E.used s = true) : SimA c φ (E.upd (frz E F)) a w := by
  have hm : ∀ (s : Nm) (r : Row), (E.upd (frz E F)).slots s = some r → r.mut = true → E.slots s = some r := by
    intro s r hr hmu
    obtain ⟨r0, h1, h2⟩ := frz_slots hr
    rcases h2 with rfl | rfl
    · exact h1
    · rw [frozen_mut] at hmu; simp at hmu
  have hM : ∀ b, Mut c φ (E.upd (frz E F)).slots b → Mut c φ E.slots b := by
    rintro b (hb | ⟨s, r, h1, h2, h3, h4⟩)
    · exact .inl hb
    · exact .inr ⟨s, r, hm s r h1 h2, h2, h3, h4⟩
  refine h.upd (Nat.le_refl _) rfl rfl rfl (fun b _ => .inl rfl) (fun _ _ => rfl) ?_ ?_ (fun b _ => hM b) ?_
  · intro s r hl
    rw [frz_lookup] at hl
    split at hl
    · simp only [Option.some.injEq, Option.map_eq_some_iff] at hl
      obtain ⟨r0, h1, rfl⟩ := hl
      obtain ⟨h2, h3, h4⟩ := h.row s r0 h1
      refine ⟨frozen_rep (h3.mono (Nat.le_refl _) (fun b _ hb => ⟨rfl, fun hb' => hb (hM b hb')⟩) (fun s hu => ⟨by rw [upd_used, hu, Bool.or_true], rfl⟩) (fun _ => rfl)), fun hre => ⟨fun hmu => ?_, ?_⟩⟩
      · rw [frozen_mut] at hmu; simp at hmu
      · rw [frozen_real] at hre; exact (h4 hre).2
    · simp at hl
  · intro s s' r r' h1 h2 hmu hr1 hr2 he
    obtain ⟨r0, h3, h4⟩ := frz_slots h2
    have : r0.real (φ s') = true := by
      rcases h4 with rfl | rfl
      · exact hr2
      · rw [frozen_real] at hr2; exact hr2
    exact h.inj s s' r r0 (hm s r h1 hmu) h3 hmu hr1 this he
  · intro s _ hl
    rw [frz_lookup] at hl
    split at hl
    · rename_i hs; exact hF s hs
    · simp at hl
end Go.Wt
/- Stores, new blocks, parts of slices and strings, literals. -/
namespace Go.Wt
open Go.RowKit
variable {P : Program} {c : Ctx} {φ : Nm → Place} {E : Env} {a : Act} {w : World} {dst : Option Nat} {ty : TypeId} {pos : String} {after : Array Edge} {g : Option (Nat × Bool)} {r : Res}
theorem nmOf_fix (d : Option Nat) : (nmOf d).fixed = false := by cases d <;> rfl
theorem tree?_cells {d : DV} {x : Tree} (h : d.tree? = some x) : d.cells = x.cells.map .t := by
  cases d with
  | t y => simp [DV.tree?] at h; subst h; cases y <;> rfl
  | agg l =>
    simp only [DV.tree?, Option.map_eq_some_iff] at h
    obtain ⟨ts, hts, rfl⟩ := h
    obtain ⟨h1, h2⟩ := mapM_some hts
    simp only [DV.cells, Tree.cells]
    apply List.ext_getElem (by simp [h1])
    intro i hi hi'
    have hi2 : i < ts.length := by simpa using hi'
    have := h2 i _ _ (List.getElem?_eq_getElem hi) (List.getElem?_eq_getElem hi2)
    simp only [List.getElem_map]
    generalize l[i] = z at this
    cases z <;> simp [DV.t1?] at this
    rw [this.2]
  | _ => simp [DV.tree?] at h
section ops
variable (h : SimA c φ E a w) (hd : dst.all (· < c.n) = true)
include h hd
theorem s_storeG {t : TypeId} {n : Nat} {x y : Operand} {E0 : Env} {q : DV} (hx : RepV φ E.used w (Mut c φ E.slots) (a.eval x) (E0.ev x)) (hy : RepV φ E.used w (Mut c φ E.slots) (a.eval y) q) (hn : szT P t = some n) (hr : dStore E n (E0.ev x) q = some r) : Sound P c E a w ⟨dst, .store t x y, ty, pos, after, g⟩ r := by
  unfold dStore at hr
  split at hr
  · rename_i q _ _ s k j he
    rw [he] at hx
    obtain ⟨hv, hU⟩ := hx.ptr_inv
    split at hr
    · rename_i hyn
      obtain ⟨hyn, hok⟩ := hyn
      obtain ⟨hul, hu1, hup⟩ := hy.cells_inv hok
      split at hr
      · rename_i e d hsl
        split at hr
        · rename_i hk
          subst hk
          split at hr
          · rename_i d' hd'
            simp only [Option.some.injEq] at hr
            subst hr
            obtain ⟨hle, hcells⟩ := setPart_cells hd'
            obtain ⟨_, ⟨cs, hg, hl, h1, hp⟩, _⟩ := h.row s _ hsl
            have hrun := run_store_row (P := P) hn (φ s).blk j e cs hg (hul.trans hyn) hu1 (by omega)
            simp only [Nat.zero_mul, Nat.zero_add] at hv
            refine ⟨undef, w.setRow (φ s).blk (setCells cs j (a.eval y).cells.toList).toArray, .inr ⟨by simp [execOp, hv, hrun], rfl⟩, φ, ?_⟩
            refine SimA.put (h.set (w' := w.setRow (φ s).blk (setCells cs j (a.eval y).cells.toList).toArray) hsl rfl rfl (by simp) rfl rfl rfl (fun b hb => setRow_other w _ b _ hb) ?_) hd .junk
            intro M' hM'
            have hg' := setRow_heap w (φ s).blk _ (setCells cs j (a.eval y).cells.toList).toArray e _ hg
            have hmono : ∀ v x, RepV φ E.used w (Mut c φ E.slots) v x → RepV φ E.used (w.setRow (φ s).blk (setCells cs j (a.eval y).cells.toList).toArray) M' v x := fun v x hvx =>
              hvx.mono (by simp) (fun b hlt hM => ⟨setRow_other w _ b _ (fun e => hM (.inr ⟨s, _, hsl, rfl, rfl, e.symm⟩)), hM' b hlt hM⟩) (fun _ hu => ⟨hu, rfl⟩)
            obtain ⟨h3, h4⟩ := rep_setCells hle hl hul hp hup
            refine ⟨_, hg', by rw [hcells]; exact h3, fun v hv => ?_, fun i v z hv hz => hmono _ _ (h4 i v z hv (by rw [← hcells]; exact hz))⟩
            rcases mem_setCells hv with hv | hv
            · exact h1 v hv
            · exact hu1 v hv
          · simp at hr
        · simp at hr
      · rename_i e m l hsl
        split at hr
        · rename_i x0 hk
          split at hr
          · rename_i x' hx'
            simp only [Option.some.injEq] at hr
            subst hr
            obtain ⟨d', hd', ht'⟩ := Option.bind_eq_some_iff.1 hx'
            obtain ⟨hle, hcells⟩ := setPart_cells hd'
            have hcl : (DV.t x0).cells = x0.cells.map .t := by cases x0 <;> rfl
            obtain ⟨_, hB, _⟩ := h.row s _ hsl
            rcases hB with ⟨_, hB, _⟩ | ⟨cs, hcap0, hg, hpm, hm0, hcs, hlc, hcap, hm, hR⟩
            · rw [hB] at hk; simp at hk
            have hxm : x0.cells.length = m := hm x0 (List.mem_of_getElem? hk)
            have hklt : k < l.length := (List.getElem?_eq_some_iff.1 hk).1
            have hfit : k * m + m ≤ cs.length := by
              rw [hcs]
              calc k * m + m = (k + 1) * m := by rw [Nat.succ_mul]
                _ ≤ (φ s).cap * m := Nat.mul_le_mul_right _ (by omega)
            rw [hcl, List.length_map, hxm] at hle
            rw [hpm] at hv
            have hrun := run_store_row (P := P) hn (φ s).blk (k * m + j) e cs hg (hul.trans hyn) hu1 (by omega)
            refine ⟨undef, w.setRow (φ s).blk (setCells cs (k * m + j) (a.eval y).cells.toList).toArray, .inr ⟨by simp [execOp, hv, hrun], rfl⟩, φ, ?_⟩
            refine SimA.put (h.set (w' := w.setRow (φ s).blk (setCells cs (k * m + j) (a.eval y).cells.toList).toArray) hsl rfl (by simpa [Row.real] using hcap0) (by simp) rfl rfl rfl (fun b hb => setRow_other w _ b _ hb) ?_) hd .junk
            intro M' hM'
            have hg' := setRow_heap w (φ s).blk _ (setCells cs (k * m + j) (a.eval y).cells.toList).toArray e _ hg
            have hmono : ∀ v x, Rep w (Mut c φ E.slots) v x → Rep (w.setRow (φ s).blk (setCells cs (k * m + j) (a.eval y).cells.toList).toArray) M' v x := fun v x hvx =>
              hvx.mono (by simp) (fun b hlt hM => ⟨setRow_other w _ b _ (fun e => hM (.inr ⟨s, _, hsl, rfl, by simpa [Row.real] using hcap0, e.symm⟩)), hM' b hlt hM⟩)
            have hx'c : x'.cells.map DV.t = setCells (x0.cells.map DV.t) j q.cells := by rw [← tree?_cells ht', hcells, hcl]
            have hx'l : x'.cells.length = m := by
              have := congrArg List.length hx'c
              rw [len_setCells (by simp; omega)] at this
              simpa [hxm] using this
            have hfit2 : k * m + j + (a.eval y).cells.toList.length ≤ cs.length := by omega
            refine .inr ⟨_, hcap0, hg', hpm, hm0, by rw [len_setCells hfit2]; exact hcs, by simpa using hlc, hcap, fun t ht => ?_, fun k' t j' cc hk' hj' => ?_⟩
            · rcases List.mem_or_eq_of_mem_set ht with ht | rfl
              · exact hm t ht
              · exact hx'l
            · rw [get_setCells hfit2]
              by_cases hkk : k' = k
              · subst hkk
                rw [List.getElem?_set_self hklt] at hk'
                simp at hk'
                subst hk'
                have hj'm : j' < m := by rw [← hx'l]; exact (List.getElem?_eq_some_iff.1 hj').1
                have hz : (x'.cells.map DV.t)[j']? = some (.t cc) := by simp [hj']
                rw [hx'c, get_setCells (by simp; omega)] at hz
                by_cases hin : j ≤ j' ∧ j' < j + q.cells.length
                · rw [if_pos hin] at hz
                  rw [if_pos (by omega)]
                  have e1 : k' * m + j' - (k' * m + j) = j' - j := by omega
                  have hlt : j' - j < (a.eval y).cells.toList.length := by omega
                  rw [e1, List.getElem?_eq_getElem hlt]
                  have hrep := (hup (j' - j) _ _ (List.getElem?_eq_getElem hlt) hz).t_inv
                  refine ⟨?_, _, rfl, hmono _ _ hrep⟩
                  rw [← hrep.one]; exact hu1 _ (List.getElem_mem hlt)
                · rw [if_neg hin] at hz
                  rw [if_neg (by omega)]
                  simp only [List.getElem?_map, Option.map_eq_some_iff] at hz
                  obtain ⟨cc', hcc', hh⟩ := hz
                  cases hh
                  obtain ⟨h5, v, h6, h7⟩ := hR k' x0 j' cc hk hcc'
                  exact ⟨h5, v, h6, hmono _ _ h7⟩
              · rw [List.getElem?_set_ne (Ne.symm hkk)] at hk'
                obtain ⟨h5, v, h6, h7⟩ := hR k' t j' cc hk' hj'
                have hj'm : j' < m := by rw [← hm t (List.mem_of_getElem? hk')]; exact (List.getElem?_eq_some_iff.1 hj').1
                refine ⟨h5, v, ?_, hmono _ _ h7⟩
                rw [if_neg]
                · exact h6
                · intro hc
                  rcases Nat.lt_or_ge k' k with hlt | hge
                  · have : (k' + 1) * m ≤ k * m := Nat.mul_le_mul_right _ hlt
                    rw [Nat.succ_mul] at this
                    omega
                  · have : (k + 1) * m ≤ k' * m := Nat.mul_le_mul_right _ (by omega)
                    rw [Nat.succ_mul] at this
                    omega
          · simp at hr
        · simp at hr
      · simp at hr
    · simp at hr
  · simp at hr
theorem s_store {t : TypeId} {n : Nat} {x y : Operand} (hn : szT P t = some n) (hr : (SOp.store n x y).den P E dst = some r) : Sound P c E a w ⟨dst, .store t x y, ty, pos, after, g⟩ r := by
  simp only [SOp.den] at hr
  unfold dStoreV at hr
  split at hr
  · rename_i r0 h0
    simp only [Option.some.injEq] at hr
    subst hr
    exact s_storeG h hd (h.ev x) (h.ev y) hn h0
  · split at hr
    · rename_i tr rdn hv
      split at hr
      · rename_i r0 h0
        simp only [Option.some.injEq] at hr
        subst hr
        have hF : ∀ s ∈ rdn, E.used s = true := fun s hs => by
          obtain ⟨e, m, l, fz, hsl⟩ := view_rd hv s hs
          exact (h.row s _ hsl).1
        have h' := h.freeze hF
        have hM : ∀ b, Mut c φ (E.upd (frz E rdn)).slots b → Mut c φ E.slots b := by
          rintro b (hb | ⟨s, r, h1, h2, h3, h4⟩)
          · exact .inl hb
          · obtain ⟨r0, h5, h6⟩ := frz_slots h1
            rcases h6 with rfl | rfl
            · exact .inr ⟨s, _, h5, h2, h3, h4⟩
            · rw [frozen_mut] at h2; simp at h2
        have hmono : ∀ v d, RepV φ E.used w (Mut c φ E.slots) v d → RepV φ (E.upd (frz E rdn)).used w (Mut c φ (E.upd (frz E rdn)).slots) v d := fun v d hvd =>
          hvd.mono (Nat.le_refl _) (fun b _ hb => ⟨rfl, fun hb' => hb (hM b hb')⟩) (fun s hu => ⟨by rw [upd_used, hu, Bool.or_true], rfl⟩)
        have hy : RepV φ (E.upd (frz E rdn)).used w (Mut c φ (E.upd (frz E rdn)).slots) (a.eval y) (.t tr) := by
          refine .t (h.toSimW.view hM (h.ev y) hv fun s hs hcap => ?_)
          obtain ⟨e, m, l, fz, hsl⟩ := view_rd hv s hs
          have hsl' : (E.upd (frz E rdn)).slots s = some (.rows e m l true) := by
            rw [upd_slots, frz_lookup, if_pos hs, hsl]; rfl
          exact h'.toSimW.frozen_nm hsl' (by simp [Row.mut]) (by simpa [Row.real] using hcap)
        obtain ⟨v, w', hrun, φ', hs⟩ := s_storeG (E0 := E) h' hd (hmono _ _ (h.ev x)) hy hn h0
        refine ⟨v, w', hrun, φ', ?_⟩
        have : (Res.mk r0.d (rdn ++ r0.rd) (r0.ups ++ frz E rdn)).apply dst E = r0.apply dst (E.upd (frz E rdn)) := by
          unfold Res.apply
          rw [upd_append]
        rw [this]
        exact hs
      · simp at hr
    · simp at hr
theorem s_newbox {e : TypeId} {v : Value} {d : DV} {op : Op} (hrep : RepV φ E.used w (Mut c φ E.slots) v d) (hr : dBox E e (nmOf dst) d = some r)
    (hrun : (execOp a.eval ⟨dst, op, ty, pos, after, g⟩).run P w = .ok (.value (.pointer (some ⟨w.heap.size, 0, none⟩))) (w.alloc (.cells v.cells e))) : Sound P c E a w ⟨dst, op, ty, pos, after, g⟩ r := by
  unfold dBox at hr
  split at hr
  · rename_i hf
    obtain ⟨hf, hok⟩ := hf
    simp only [Option.some.injEq] at hr
    subst hr
    obtain ⟨hl, h1, hp⟩ := hrep.cells_inv hok
    have hu : E.used (nmOf dst) = false := by simpa [Env.fresh] using hf
    have hnew : (w.alloc (.cells v.cells e)).heap[w.heap.size]? = some (.cells v.cells e) := heap_alloc_new w _
    have hold : ∀ b, b < w.heap.size → (w.alloc (.cells v.cells e)).heap[b]? = w.heap[b]? := fun b hb => heap_alloc_old w _ hb
    obtain ⟨φ', h2, h3, h4⟩ := h.new (w' := w.alloc (.cells v.cells e)) (s := nmOf dst) (r := .box e d false) (pl := ⟨w.heap.size, 0, 0⟩) hu (nmOf_fix dst) (by simp) rfl rfl rfl hold (fun _ => Nat.le_refl _) (by
      intro φ' U' M' hU hM
      refine ⟨v.cells.toList, by simpa using hnew, hl, h1, fun i u x hu hx => ?_⟩
      exact (hp i u x hu hx).mono (by simp) (fun b hlt hm => ⟨hold b hlt, hM b hlt hm⟩) hU)
    refine ⟨_, _, .inl hrun, φ', h4.put hd ?_⟩
    have := RepV.ptr (φ := φ') (U := (E.upd [(nmOf dst, some (.box e d false))]).used) (w := w.alloc (.cells v.cells e)) (M := Mut c φ' (E.upd [(nmOf dst, some (.box e d false))]).slots) (s := nmOf dst) (k := 0) (j := 0) (by
      rw [upd_used]; simp [List.lookup])
    rw [h3] at this
    simpa using this
  · simp at hr
theorem s_box {e : TypeId} {x : Operand} (hr : (SOp.box e x).den P E dst = some r) : Sound P c E a w ⟨dst, .box e x, ty, pos, after, g⟩ r := by
  simp only [SOp.den] at hr
  exact s_newbox h hd (h.ev x) hr (by simp [execOp, Instr.box, newVar, newRow, newObj, Sem.run])
theorem s_alloc {e : TypeId} {z : Tree} (hz : zeroT P e = some z) (hr : (SOp.alloc e z).den P E dst = some r) : Sound P c E a w ⟨dst, .alloc e, ty, pos, after, g⟩ r := by
  simp only [SOp.den] at hr
  unfold zeroT at hz
  obtain ⟨v, hv, hz⟩ := Option.bind_eq_some_iff.1 hz
  obtain ⟨i, hi, hv⟩ := Option.bind_eq_some_iff.1 hv
  exact s_newbox h hd (.t (rep_ofVal hz)) hr (by simp [execOp, Instr.alloc, zeroValue, typeInfo, hi, hv, newVar, newRow, newObj, Sem.run])
end ops
end Go.Wt
/- Names that go and names that change; append. -/
namespace Go.Wt
open Go.RowKit
variable {P : Program} {c : Ctx} {φ : Nm → Place} {E : Env} {a : Act} {w : World} {dst : Option Nat} {ty : TypeId} {pos : String} {after : Array Edge} {g : Option (Nat × Bool)} {r : Res}
theorem lookup2 {s s' x : Nm} {r r' : Option Row} : ([(s, r), (s', r')] : List (Nm × Option Row)).lookup x = if x = s then some r else if x = s' then some r' else none := by
  by_cases h : x = s
  · subst h; simp [List.lookup]
  · have hb : (x == s) = false := by simpa using h
    by_cases h' : x = s'
    · subst h'; simp [List.lookup, hb, h]
    · have hb' : (x == s') = false := by simpa using h'
      simp [List.lookup, hb, hb', h, h']
theorem lookup1 {s x : Nm} {r : Option Row} : ([(s, r)] : List (Nm × Option Row)).lookup x = if x = s then some r else none := by
  by_cases h : x = s
  · subst h; simp [List.lookup]
  · have hb : (x == s) = false := by simpa using h
    simp [List.lookup, hb, h]
/-- A name is given up. -/
theorem SimA.drop (h : SimA c φ E a w) {s : Nm} (hu : E.used s = true) : SimA c φ (E.upd [(s, none)]) a w := by
  have hsl : ∀ x y, (E.upd [(s, none)]).slots x = some y → x ≠ s ∧ E.slots x = some y := by
    intro x y hy
    rw [upd_slots, lookup1] at hy
    by_cases hx : x = s
    · simp [hx] at hy
    · simp [hx] at hy; exact ⟨hx, hy⟩
  refine h.upd (Nat.le_refl _) rfl rfl rfl (fun _ _ => .inl rfl) (fun _ _ => rfl) ?_ ?_ ?_ ?_
  · intro x y hxy
    rw [lookup1] at hxy
    by_cases hx : x = s <;> simp [hx] at hxy
  · intro x x' y y' h1 h2 hm hr1 hr2 he
    exact h.inj x x' y y' (hsl x y h1).2 (hsl x' y' h2).2 hm hr1 hr2 he
  · intro b _ hM
    rcases hM with hM | ⟨x, y, h1, h2⟩
    · exact .inl hM
    · exact .inr ⟨x, y, (hsl x y h1).2, h2⟩
  · intro x _ hg
    rw [lookup1] at hg
    by_cases hx : x = s
    · rw [hx]; exact hu
    · simp [hx] at hg
/-- A name is given up for another one. -/
theorem SimA.rename (h : SimA c φ E a w) {s s' : Nm} {r : Row} (hsl0 : E.slots s = some r) (hu : E.used s' = false) (hg : s'.fixed = false) :
    ∃ φ', (∀ x, E.used x = true → φ' x = φ x) ∧ φ' s' = φ s ∧ SimA c φ' (E.upd [(s, none), (s', some r)]) a w := by
  have hus : E.used s = true := (h.row s r hsl0).1
  have hne : s' ≠ s := fun e => by subst e; rw [hu] at hus; simp at hus
  let φ' : Nm → Place := fun x => if x = s' then φ s else φ x
  have hφ : ∀ x, E.used x = true → φ' x = φ x := by
    intro x hx
    have : x ≠ s' := fun e => by subst e; rw [hu] at hx; simp at hx
    simp [φ', this]
  have hφs : φ' s' = φ s := by simp [φ']
  have hsl : ∀ x y, (E.upd [(s, none), (s', some r)]).slots x = some y → ∃ x0, E.slots x0 = some y ∧ φ' x = φ x0 ∧ (x = s' ∧ x0 = s ∨ x ≠ s' ∧ x ≠ s ∧ x0 = x) := by
    intro x y hy
    rw [upd_slots, lookup2] at hy
    by_cases hx : x = s
    · simp [hx] at hy
    · by_cases hx' : x = s'
      · subst hx'
        simp [hne] at hy
        subst hy
        exact ⟨s, hsl0, hφs, .inl ⟨rfl, rfl⟩⟩
      · simp [hx, hx'] at hy
        exact ⟨x, hy, hφ x (h.row x y hy).1, .inr ⟨hx', hx, rfl⟩⟩
  have hmut : ∀ b, Mut c φ' (E.upd [(s, none), (s', some r)]).slots b → Mut c φ E.slots b := by
    intro b hM
    rcases hM with hM | ⟨x, y, h1, h2, h3, h4⟩
    · exact .inl hM
    · obtain ⟨x0, h5, h6, _⟩ := hsl x y h1
      rw [h6] at h3 h4
      exact .inr ⟨x0, y, h5, h2, h3, h4⟩
  refine ⟨φ', hφ, hφs, h.upd (Nat.le_refl _) rfl rfl rfl (fun _ _ => .inl rfl) hφ ?_ ?_ (fun b _ => hmut b) ?_⟩
  · intro x y hxy
    rw [lookup2] at hxy
    by_cases hx : x = s
    · simp [hx] at hxy
    · by_cases hx' : x = s'
      · subst hx'
        simp [hne] at hxy
        subst hxy
        rw [hφs]
        obtain ⟨_, h2, h3⟩ := h.row s r hsl0
        exact ⟨h2.mono (Nat.le_refl _) (fun b _ hM => ⟨rfl, fun hM' => hM (hmut b hM')⟩) (fun x hx => ⟨by rw [upd_used, hx, Bool.or_true], hφ x hx⟩) (fun _ => rfl), h3⟩
      · simp [hx, hx'] at hxy
  · intro x x' y y' h1 h2 hm hr1 hr2 he
    obtain ⟨x0, h3, h4, h5⟩ := hsl x y h1
    obtain ⟨x0', h6, h7, h8⟩ := hsl x' y' h2
    rw [h4] at hr1 he
    rw [h7] at hr2 he
    have := h.inj x0 x0' y y' h3 h6 hm hr1 hr2 he
    rcases h5 with ⟨rfl, rfl⟩ | ⟨h5, h5', rfl⟩
    · rcases h8 with ⟨rfl, rfl⟩ | ⟨h8, h8', rfl⟩
      · rfl
      · exact absurd this.symm h8'
    · rcases h8 with ⟨rfl, rfl⟩ | ⟨h8, h8', rfl⟩
      · exact absurd this h5'
      · exact this
  · intro x hf hgl
    rw [lookup2] at hgl
    by_cases hx : x = s
    · rw [hx]; exact hus
    · by_cases hx' : x = s'
      · rw [hx', hg] at hf; simp at hf
      · simp [hx, hx'] at hgl

/-- The cells of what is put behind, stored where there is room. -/
def storeAtEnd (ad : Option Addr) (k : Nat) (news : List Value) : Sem Unit := match ad with | some a => storeCells (a.add k) news | none => pure ()
/-- append, whatever is put behind: in the row that is there, or in a new one. -/
theorem run_app (w : World) (t u ty e : TypeId) (i : TypeInfo) (z : Value) (du : TypeDesc) (ht : P.underlying t = some (.slice e)) (hu : P.underlying u = some du) (hdu : ∀ k, du ≠ .int k) (hi : P.info? e = some i) (hz : i.zero = some z)
    (ad : Option Addr) (n cap : Nat) (x : Value) (m : Nat) (olds news : List Value) (hlo : olds.length = n * i.size) (hl : news.length = m * i.size)
    (hlen : ∀ w, (Builtin.lenOf x).run P w = .ok m w) (hnew : ∀ w2, w2.heap = w.heap → (Builtin.firstCells i.size m x).run P w2 = .ok news.toArray w2)
    (hold : ∀ w2, w2.heap = w.heap → (Builtin.firstCells i.size n (.slice ad n cap)).run P w2 = .ok olds.toArray w2)
    (hst : n + m ≤ cap → ∃ w', (storeAtEnd ad (n * i.size) news).run P w = .ok () w')
    (h63 : n + m ≤ maxLen) (hbytes : (n + m) * i.bytes ≤ 140737488355328) :
    (n + m ≤ cap ∧ ∃ w', (storeAtEnd ad (n * i.size) news).run P w = .ok () w' ∧ (Builtin.append_ #[t, u] ty #[.slice ad n cap, x]).run P w = .ok (.slice ad (n + m) cap) w') ∨
    (cap < n + m ∧ n + m ≤ grownCap w (n + m) cap e ∧ grownCap w (n + m) cap e ≤ maxLen ∧ (Builtin.append_ #[t, u] ty #[.slice ad n cap, x]).run P w = .ok (.slice (some ⟨w.heap.size, 0, none⟩) (n + m) (grownCap w (n + m) cap e))
        (w.drew.alloc (.cells (olds ++ news ++ (Builtin.zeroCells z.cells (grownCap w (n + m) cap e - (n + m))).toList).toArray e))) := by
  have hz0 : (match du with | .int _ => true | _ => false) = false := by cases du <;> first | rfl | exact absurd rfl (hdu _)
  by_cases hroom : n + m ≤ cap
  · left
    obtain ⟨w', hw'⟩ := hst hroom
    refine ⟨hroom, w', hw', ?_⟩
    cases ad with
    | none =>
      simp only [storeAtEnd, Sem.run_pure, Result.ok.injEq, true_and] at hw'
      subst hw'
      simp [Builtin.append_, run_underlying ht, run_underlying hu, hz0, sizeOf, typeInfo, hi, hlen, hroom, hnew w rfl]
    | some ad =>
      simp only [storeAtEnd] at hw'
      simp [Builtin.append_, run_underlying ht, run_underlying hu, hz0, sizeOf, typeInfo, hi, hlen, hroom, hnew w rfl, hw']
  · right
    have h63' : ¬ (9223372036854775807 < ((n : Int) + (m : Int))) := by simp only [maxLen] at h63; omega
    have h48 := growslice_fits (need := n + m) (old := cap) (by omega) hbytes
    have h48' : ¬ (281474976710656 < Builtin.nextslicecap (n + m) cap * i.bytes) := by omega
    refine ⟨by omega, grownCap_ge w (n + m) cap e, grownCap_le_maxLen w (n + m) cap e h63, ?_⟩
    simp [Builtin.append_, run_underlying ht, run_underlying hu, hz0, sizeOf, typeInfo, zeroValue, hi, hz, hlen, hroom, h63', h48', Question.forced, hnew w.drew rfl, hold w.drew rfl, newRow, grownCap]
    congr 2
    apply Array.ext'
    simp [List.append_assoc]
end Go.Wt
/- What is put behind a row; append does what is told of trees. -/
namespace Go.Wt
open Go.RowKit
variable {P : Program} {c : Ctx} {φ : Nm → Place} {E : Env} {a : Act} {w : World} {dst : Option Nat} {ty : TypeId} {pos : String} {after : Array Edge} {g : Option (Nat × Bool)} {r : Res}
/-- Cells in a row read as the elements. -/
def RowRep (w : World) (M : Nat → Prop) (m : Nat) (cs : List Value) (l : List Tree) : Prop :=
  (∀ t ∈ l, t.cells.length = m) ∧ ∀ (k : Nat) (t : Tree) (j : Nat) (cc : Tree), l[k]? = some t → t.cells[j]? = some cc → cc.one = true ∧ ∃ v, cs[k * m + j]? = some v ∧ Rep w M v cc
theorem RowRep.mono {w' : World} {M M' : Nat → Prop} {m : Nat} {cs : List Value} {l : List Tree} (h : RowRep w M m cs l) (hs : w.heap.size ≤ w'.heap.size)
    (hw : ∀ b, b < w.heap.size → ¬ M b → w'.heap[b]? = w.heap[b]? ∧ ¬ M' b) : RowRep w' M' m cs l :=
  ⟨h.1, fun k t j cc hk hj => let ⟨h1, v, h2, h3⟩ := h.2 k t j cc hk hj; ⟨h1, v, h2, h3.mono hs hw⟩⟩
theorem RowRep.take {M : Nat → Prop} {m : Nat} {cs : List Value} {l : List Tree} (h : RowRep w M m cs l) (n : Nat) : RowRep w M m cs (l.take n) := by
  refine ⟨fun t ht => h.1 t (List.mem_of_mem_take ht), fun k t j cc hk hj => h.2 k t j cc ?_ hj⟩
  rw [List.getElem?_take] at hk
  split at hk
  · exact hk
  · simp at hk
theorem RowRep.ext {M : Nat → Prop} {m : Nat} {cs cs' : List Value} {l : List Tree} (h : RowRep w M m cs l) (he : ∀ i, i < l.length * m → cs'[i]? = cs[i]?) : RowRep w M m cs' l := by
  refine ⟨h.1, fun k t j cc hk hj => ?_⟩
  obtain ⟨h1, v, h2, h3⟩ := h.2 k t j cc hk hj
  refine ⟨h1, v, ?_, h3⟩
  rw [he]
  · exact h2
  · have hkl : k < l.length := (List.getElem?_eq_some_iff.1 hk).1
    have hjm : j < m := by rw [← h.1 t (List.mem_of_getElem? hk)]; exact (List.getElem?_eq_some_iff.1 hj).1
    have : (k + 1) * m ≤ l.length * m := Nat.mul_le_mul_right _ hkl
    rw [Nat.succ_mul] at this
    omega
theorem RowRep.append {M : Nat → Prop} {m : Nat} {cs ds rest : List Value} {l k : List Tree} (h1 : RowRep w M m cs l) (h2 : RowRep w M m ds k) (hc : cs.length = l.length * m) : RowRep w M m (cs ++ ds ++ rest) (l ++ k) := by
  refine ⟨fun t ht => (List.mem_append.1 ht).elim (h1.1 t) (h2.1 t), fun i t j cc hi hj => ?_⟩
  rw [List.getElem?_append] at hi
  split at hi
  · obtain ⟨h3, v, h4, h5⟩ := h1.2 i t j cc hi hj
    refine ⟨h3, v, ?_, h5⟩
    have hlt := (List.getElem?_eq_some_iff.1 h4).1
    rw [List.append_assoc, List.getElem?_append_left hlt]
    exact h4
  · rename_i hge
    obtain ⟨h3, v, h4, h5⟩ := h2.2 (i - l.length) t j cc hi hj
    refine ⟨h3, v, ?_, h5⟩
    have hlt := (List.getElem?_eq_some_iff.1 h4).1
    have e : i * m + j - cs.length = (i - l.length) * m + j := by
      rw [hc, Nat.sub_mul]
      have : l.length * m ≤ i * m := Nat.mul_le_mul_right _ (by omega)
      omega
    have : l.length * m ≤ i * m := Nat.mul_le_mul_right _ (by omega)
    rw [List.append_assoc, List.getElem?_append_right (by omega), e, List.getElem?_append_left hlt]
    exact h4
/-- The cells at an address, as a list. -/
theorem cells_list {M : Nat → Prop} {m b o : Nat} {l : List Tree} (h0 : 0 < m) (hm : ∀ t ∈ l, t.cells.length = m) (u : Nat → Nat → Value)
    (hu : ∀ (k : Nat) (t : Tree) (j : Nat) (cc : Tree), l[k]? = some t → t.cells[j]? = some cc → w.cell? ⟨b, o + k * m + j, none⟩ = some (u k j))
    (h1 : ∀ (k : Nat) (t : Tree) (j : Nat) (cc : Tree), l[k]? = some t → t.cells[j]? = some cc → cc.one = true)
    (h : ∀ (k : Nat) (t : Tree) (j : Nat) (cc : Tree), l[k]? = some t → t.cells[j]? = some cc → Rep w M (u k j) cc) :
    ∃ news : List Value, news.length = l.length * m ∧ (∀ v ∈ news, one1 v = true) ∧ (∀ j v, news[j]? = some v → w.cell? ⟨b, o + j, none⟩ = some v) ∧ RowRep w M m news l := by
  have hq : ∀ q, q < l.length * m → ∃ t cc, l[q / m]? = some t ∧ t.cells[q % m]? = some cc ∧ q / m * m + q % m = q := by
    intro q hq
    have hk : q / m < l.length := by rw [Nat.div_lt_iff_lt_mul h0]; exact hq
    have hj : q % m < m := Nat.mod_lt _ h0
    have ht := List.getElem?_eq_getElem hk
    have hl : (l[q / m]).cells.length = m := hm _ (List.getElem_mem hk)
    exact ⟨_, _, ht, List.getElem?_eq_getElem (by omega), by rw [Nat.mul_comm]; exact Nat.div_add_mod q m⟩
  have hget : ∀ q v, ((List.range (l.length * m)).map fun q => u (q / m) (q % m))[q]? = some v → q < l.length * m ∧ v = u (q / m) (q % m) := by
    intro q v hv
    simp only [List.getElem?_map, Option.map_eq_some_iff] at hv
    obtain ⟨q', h2, rfl⟩ := hv
    obtain ⟨h3, h4⟩ := List.getElem?_eq_some_iff.1 h2
    simp at h3 h4
    subst h4
    exact ⟨h3, rfl⟩
  refine ⟨(List.range (l.length * m)).map fun q => u (q / m) (q % m), by simp, fun v hv => ?_, fun q v hv => ?_, hm, fun k t j cc hk hj => ⟨h1 k t j cc hk hj, u k j, ?_, h k t j cc hk hj⟩⟩
  · obtain ⟨q, hql, rfl⟩ := List.getElem_of_mem hv
    obtain ⟨hlt, e⟩ := hget q _ (List.getElem?_eq_getElem hql)
    obtain ⟨t, cc, h2, h3, _⟩ := hq q hlt
    rw [e, (h _ _ _ _ h2 h3).one]
    exact h1 _ _ _ _ h2 h3
  · obtain ⟨hlt, rfl⟩ := hget q v hv
    obtain ⟨t, cc, h2, h3, h4⟩ := hq q hlt
    have := hu _ _ _ _ h2 h3
    rw [Nat.add_assoc, h4] at this
    exact this
  · have hkl : k < l.length := (List.getElem?_eq_some_iff.1 hk).1
    have hjm : j < m := by rw [← hm t (List.mem_of_getElem? hk)]; exact (List.getElem?_eq_some_iff.1 hj).1
    have hlt : k * m + j < l.length * m := by
      have : (k + 1) * m ≤ l.length * m := Nat.mul_le_mul_right _ hkl
      rw [Nat.succ_mul] at this
      omega
    simp only [List.getElem?_map]
    rw [List.getElem?_eq_getElem (by simpa using hlt)]
    simp only [List.getElem_range, Option.map_some]
    rw [show (k * m + j) / m = k by rw [Nat.add_comm, Nat.add_mul_div_right _ _ h0, Nat.div_eq_of_lt hjm, Nat.zero_add],
      show (k * m + j) % m = j by rw [Nat.add_comm, Nat.add_mul_mod_self_right, Nat.mod_eq_of_lt hjm]]
theorem cell_heap {w2 : World} (he : w2.heap = w.heap) (p : Addr) : w2.cell? p = w.cell? p := by unfold World.cell?; rw [he]
/-- What a slice's own row holds. -/
theorem own_cells (h : SimA c φ E a w) {s : Nm} {e : TypeId} {m : Nat} {l : List Tree} {fz : Bool} (hsl : E.slots s = some (.rows e m l fz)) : (φ s).m = m ∧ 0 < m ∧
    ((φ s).cap = 0 ∧ l = [] ∨ ∃ cs : List Value, 0 < (φ s).cap ∧ w.heap[(φ s).blk]? = some (.cells cs.toArray e (0, 0)) ∧ cs.length = (φ s).cap * m ∧ l.length ≤ (φ s).cap ∧ (φ s).cap ≤ maxLen ∧ RowRep w (Mut c φ E.slots) m cs l) := by
  obtain ⟨_, hB, _⟩ := h.row s _ hsl
  rcases hB with ⟨h1, h2, h3, h4⟩ | ⟨cs, h1, h2, h3, h4, h5, h6, h7, h8, h9⟩
  · exact ⟨h3, h4, .inl ⟨h1, h2⟩⟩
  · exact ⟨h3, h4, .inr ⟨cs, h1, h2, h5, h6, h7, h8, h9⟩⟩
theorem RowRep.one {M : Nat → Prop} {m : Nat} {cs : List Value} {l : List Tree} (h : RowRep w M m cs l) (h0 : 0 < m) (n : Nat) (hn : n ≤ l.length) : ∀ v ∈ cs.take (n * m), one1 v = true := by
  intro v hv
  obtain ⟨q, hq, rfl⟩ := List.getElem_of_mem hv
  simp only [List.length_take] at hq
  have hk : q / m < l.length := Nat.lt_of_lt_of_le (by rw [Nat.div_lt_iff_lt_mul h0]; omega) hn
  have hj : q % m < m := Nat.mod_lt _ h0
  have hl : (l[q / m]).cells.length = m := h.1 _ (List.getElem_mem hk)
  obtain ⟨h1, v, h2, h3⟩ := h.2 (q / m) _ (q % m) _ (List.getElem?_eq_getElem hk) (List.getElem?_eq_getElem (by omega))
  have e : q / m * m + q % m = q := by rw [Nat.mul_comm]; exact Nat.div_add_mod q m
  rw [e] at h2
  have : (cs.take (n * m))[q]'(by simp; omega) = v := by
    rw [List.getElem_take]
    exact (List.getElem?_eq_some_iff.1 h2).2
  rw [this, h3.one]
  exact h1
theorem firstCells_none (size n len cap : Nat) (w : World) : (Builtin.firstCells size n (.slice none len cap)).run P w = .ok #[] w := by simp [Builtin.firstCells]
theorem firstCells_zero (size len cap : Nat) (ad : Option Addr) (w : World) : (Builtin.firstCells size 0 (.slice ad len cap)).run P w = .ok #[] w := by
  cases ad <;> simp [Builtin.firstCells, loadCells, loadCellsFrom]
/-- What is put behind. -/
theorem more_sound (h : SimA c φ E a w) {m : Nat} {v : Value} {d : DV} {l : List Tree} {rd : List Nm} (h0 : 0 < m) (hv : RepV φ E.used w (Mut c φ E.slots) v d) (hm : E.more m d = some (l, rd)) :
    ∃ news : List Value, (∀ w2, (Builtin.lenOf v).run P w2 = .ok l.length w2) ∧ (∀ w2, w2.heap = w.heap → (Builtin.firstCells m l.length v).run P w2 = .ok news.toArray w2) ∧
      news.length = l.length * m ∧ (∀ v ∈ news, one1 v = true) ∧ RowRep w (Mut c φ E.slots) m news l := by
  have hnil : ∀ ad, v = .slice ad 0 0 → l = [] → ∃ news : List Value, (∀ w2, (Builtin.lenOf v).run P w2 = .ok l.length w2) ∧ (∀ w2, w2.heap = w.heap → (Builtin.firstCells m l.length v).run P w2 = .ok news.toArray w2) ∧
      news.length = l.length * m ∧ (∀ v ∈ news, one1 v = true) ∧ RowRep w (Mut c φ E.slots) m news l := by
    rintro ad rfl rfl
    exact ⟨[], fun w2 => by simp [Builtin.lenOf], fun w2 _ => firstCells_zero _ _ _ _ _, by simp, by simp, by simp, fun k t j cc hk => by simp at hk⟩
  have hcells : ∀ b o n cap (news : List Value), v = .slice (some ⟨b, o, none⟩) n cap → n = l.length → news.length = l.length * m → (∀ v ∈ news, one1 v = true) → (∀ j v, news[j]? = some v → w.cell? ⟨b, o + j, none⟩ = some v) → RowRep w (Mut c φ E.slots) m news l →
      ∃ news : List Value, (∀ w2, (Builtin.lenOf v).run P w2 = .ok l.length w2) ∧ (∀ w2, w2.heap = w.heap → (Builtin.firstCells m l.length v).run P w2 = .ok news.toArray w2) ∧
      news.length = l.length * m ∧ (∀ v ∈ news, one1 v = true) ∧ RowRep w (Mut c φ E.slots) m news l := by
    rintro b o n cap news rfl rfl h1 h2 h3 h4
    refine ⟨news, fun w2 => by simp [Builtin.lenOf], fun w2 hw2 => ?_, h1, h2, h4⟩
    exact run_firstCells_some (P := P) w2 m l.length ⟨b, o, none⟩ l.length cap news h1 (fun j v hv => by rw [addr_add', cell_heap hw2]; exact h3 j v hv)
  unfold Env.more at hm
  split at hm
  · rename_i s
    split at hm
    · rename_i hm1
      simp only [Option.some.injEq, Prod.mk.injEq] at hm
      obtain ⟨rfl, rfl⟩ := hm
      subst hm1
      obtain ⟨rfl, _⟩ := hv.v_inv
      refine ⟨s.data.toList.map fun b => .int .u8 b.toNat, fun w2 => by simp [Builtin.lenOf], fun w2 _ => ?_, by simp, fun v hv => ?_, fun t ht => ?_, fun k t j cc hk hj => ?_⟩
      · have e : s.extract 0 s.data.size = s := by
          have : s.data.size = s.size := rfl
          rw [this]; simp
        simp only [Builtin.firstCells, List.length_map, Array.length_toList, e, Sem.run_pure]
        congr 1
        apply Array.ext'
        simp
      · simp only [List.mem_map] at hv
        obtain ⟨b, _, rfl⟩ := hv
        rfl
      · simp only [List.mem_map] at ht
        obtain ⟨b, _, rfl⟩ := ht
        rfl
      · simp only [List.getElem?_map, Option.map_eq_some_iff] at hk
        obtain ⟨b, hb, rfl⟩ := hk
        cases j with
        | succ j => simp [Tree.cells] at hj
        | zero =>
          simp only [Tree.cells, List.getElem?_cons_zero, Option.some.injEq] at hj
          subst hj
          exact ⟨rfl, .int .u8 b.toNat, by simp [hb], .v rfl⟩
    · simp at hm
  · split at hm
    · rename_i rd' hview
      simp only [Option.some.injEq, Prod.mk.injEq] at hm
      obtain ⟨rfl, rfl⟩ := hm
      cases d with
      | t x =>
        simp only [Env.view, Option.some.injEq, Prod.mk.injEq] at hview
        obtain ⟨rfl, rfl⟩ := hview
        obtain ⟨ad, hv⟩ := hv.e0_inv
        exact hnil ad hv rfl
      | agg l => simp [Env.view] at hview
      | osl s n =>
        simp only [Env.view, Env.view1] at hview
        split at hview
        · split at hview <;> simp at hview
        · simp at hview
      | _ => simp [Env.view, Env.view1] at hview
    · rename_i m' l' rd' hview
      split at hm
      · rename_i hmm
        simp only [Option.some.injEq, Prod.mk.injEq] at hm
        obtain ⟨rfl, rfl⟩ := hm
        subst hmm
        cases d with
        | t x =>
          simp only [Env.view, Option.some.injEq, Prod.mk.injEq] at hview
          obtain ⟨rfl, rfl⟩ := hview
          cases hv.t_inv with
          | sl0 hc => exact ⟨[], fun w2 => by simp [Builtin.lenOf], fun w2 _ => firstCells_zero _ _ _ _ _, by simp, by simp, by simp, fun k t j cc hk => by simp at hk⟩
          | sl u hM hb hn hc hm hu h1 h2 =>
            obtain ⟨news, h3, h4, h5, h6⟩ := cells_list h0 hm u hu h1 h2
            exact hcells _ _ _ _ news rfl rfl h3 h4 h5 h6
        | agg l => simp [Env.view] at hview
        | osl s n =>
          simp only [Env.view, Env.view1] at hview
          split at hview
          · rename_i e m2 l2 fz hsl
            split at hview
            · rename_i hn
              simp only [Option.some.injEq, Prod.mk.injEq, Tree.sl.injEq] at hview
              obtain ⟨⟨rfl, rfl⟩, rfl⟩ := hview
              obtain ⟨ad, rfl, _, hncap, had⟩ := hv.osl_inv
              obtain ⟨_, _, hB⟩ := own_cells h hsl
              rcases hB with ⟨hc0, rfl⟩ | ⟨cs, hcap, hg, hcs, hlc, _, hR⟩
              · have : n = 0 := by omega
                subst this
                rw [hc0]
                rw [hc0] at hnil
                exact hnil ad rfl (by simp)
              · rw [had hcap]
                rw [had hcap] at hcells
                have hle : n * m2 ≤ cs.length := by rw [hcs]; exact Nat.mul_le_mul_right _ hncap
                refine hcells (φ s).blk 0 n _ (cs.take (n * m2)) rfl (by simp; omega) (by simp; rw [Nat.min_eq_left hn, Nat.min_eq_left hle]) (hR.one h0 n hn) (fun j v hv => ?_) ((hR.take n).ext (fun i hi => ?_))
                · rw [cell_of_heap hg, Nat.zero_add]
                  rw [List.getElem?_take] at hv
                  split at hv
                  · exact hv
                  · simp at hv
                · rw [List.getElem?_take, if_pos]
                  simp at hi
                  rw [Nat.min_eq_left hn] at hi
                  exact hi
            · simp at hview
          · simp at hview
        | _ => simp [Env.view, Env.view1] at hview
      · simp at hm
    · simp at hm
end Go.Wt
/- Append. -/
namespace Go.Wt
open Go.RowKit
variable {P : Program} {c : Ctx} {φ : Nm → Place} {E : Env} {a : Act} {w : World} {dst : Option Nat} {ty : TypeId} {pos : String} {after : Array Edge} {g : Option (Nat × Bool)} {r : Res}
theorem upd_set_rename {s s' : Nm} {x y : Option Row} : (E.upd [(s, x)]).upd [(s, none), (s', y)] = E.upd [(s, none), (s', y)] := by
  refine Env.ext' rfl (funext fun q => ?_) (funext fun q => ?_)
  · simp only [upd_slots, lookup1, lookup2]
    by_cases h1 : q = s
    · subst h1; simp
    · by_cases h2 : q = s'
      · subst h2; simp [h1]
      · simp [h1, h2]
  · simp only [upd_used, lookup1, lookup2]
    by_cases h1 : q = s
    · subst h1; simp
    · by_cases h2 : q = s'
      · subst h2; simp [h1]
      · simp [h1, h2]
theorem upd_drop_new {s s' : Nm} {y : Option Row} (hne : s ≠ s') : (E.upd [(s, none)]).upd [(s', y)] = E.upd [(s, none), (s', y)] := by
  refine Env.ext' rfl (funext fun q => ?_) (funext fun q => ?_)
  · simp only [upd_slots, lookup1, lookup2]
    by_cases h1 : q = s
    · subst h1; simp [hne]
    · by_cases h2 : q = s'
      · subst h2; simp [h1]
      · simp [h1, h2]
  · simp only [upd_used, lookup1, lookup2]
    by_cases h1 : q = s
    · subst h1; simp
    · by_cases h2 : q = s'
      · subst h2; simp [h1]
      · simp [h1, h2]
section ops
variable (h : SimA c φ E a w) (hd : dst.all (· < c.n) = true)
include h hd
/-- A row in a new block under a new name. -/
theorem SimA.newRow {e : TypeId} {m : Nat} {l : List Tree} {n cap : Nat} {cs : List Value} {s' : Nm} {w1 : World} (hf : E.used s' = false) (hg : s'.fixed = false) (hw1 : w1.heap = w.heap) (hos : w1.os = w.os) (htape : w1.tape = w.tape) (hout : w1.output = w.output)
    (h0 : 0 < m) (hn : n = l.length) (hn0 : 0 < cap) (hle : n ≤ cap) (hcap : cap ≤ maxLen) (hcs : cs.length = cap * m) (hR : RowRep w (Mut c φ E.slots) m cs l) :
    ∃ φ', SimA c φ' ((E.upd [(s', some (.rows e m l false))]).putO dst (.osl s' n)) (a.put dst (.slice (some ⟨w.heap.size, 0, none⟩) n cap)) (w1.alloc (.cells cs.toArray e)) := by
  have hsz : (w1.alloc (.cells cs.toArray e)).heap.size = w.heap.size + 1 := by simp [hw1]
  have hnew : (w1.alloc (.cells cs.toArray e)).heap[w.heap.size]? = some (.cells cs.toArray e) := by rw [← hw1]; exact heap_alloc_new w1 _
  have hold : ∀ b, b < w.heap.size → (w1.alloc (.cells cs.toArray e)).heap[b]? = w.heap[b]? := fun b hb => by rw [heap_alloc_old w1 _ (by rw [hw1]; exact hb), hw1]
  obtain ⟨φ', h2, h3, h4⟩ := h.new (w' := w1.alloc (.cells cs.toArray e)) (s := s') (r := .rows e m l false) (pl := ⟨w.heap.size, cap, m⟩) hf hg (by omega) hos htape hout hold (fun _ => Nat.le_refl _) (by
    intro φ' U' M' hU hM
    have hR' : RowRep (w1.alloc (.cells cs.toArray e)) M' m cs l := hR.mono (by omega) (fun b hlt hm => ⟨hold b hlt, hM b hlt hm⟩)
    exact .inr ⟨cs, by show 0 < cap; omega, hnew, rfl, h0, hcs, by show l.length ≤ cap; omega, hcap, hR'.1, hR'.2⟩)
  refine ⟨φ', h4.put hd ?_⟩
  have := RepV.osl (φ := φ') (U := (E.upd [(s', some (.rows e m l false))]).used) (w := w1.alloc (.cells cs.toArray e)) (M := Mut c φ' (E.upd [(s', some (.rows e m l false))]).slots) (s := s') (n := n) (ad := some ⟨w.heap.size, 0, none⟩) (by
    rw [upd_used, lookup1]; simp) (by rw [h3]; exact hle) (by rw [h3]; intro _; rfl)
  rw [h3] at this
  exact this
/-- An empty row that has no block. -/
theorem SimA.newNil {e : TypeId} {m : Nat} {s' : Nm} {ad : Option Addr} (hf : E.used s' = false) (hg : s'.fixed = false) (h0 : 0 < m) :
    ∃ φ', SimA c φ' ((E.upd [(s', some (.rows e m [] false))]).putO dst (.osl s' 0)) (a.put dst (.slice ad 0 0)) w := by
  obtain ⟨φ', h2, h3, h4⟩ := h.new (w' := w) (s := s') (r := .rows e m [] false) (pl := ⟨0, 0, m⟩) hf hg (Nat.le_refl _) rfl rfl rfl (fun _ _ => rfl) (fun hr => by simp [Row.real] at hr) (by
    intro φ' U' M' hU hM
    exact .inl ⟨rfl, rfl, rfl, h0⟩)
  refine ⟨φ', h4.put hd ?_⟩
  have := RepV.osl (φ := φ') (U := (E.upd [(s', some (.rows e m [] false))]).used) (w := w) (M := Mut c φ' (E.upd [(s', some (.rows e m [] false))]).slots) (s := s') (n := 0) (ad := ad) (by
    rw [upd_used, lookup1]; simp) (by rw [h3]; exact Nat.le_refl _) (by rw [h3]; intro hh; exact absurd hh (by simp))
  rw [h3] at this
  exact this
theorem s_app {t u e : TypeId} {i : TypeInfo} {zt : Tree} {du : TypeDesc} {x y : Operand} {ts : Array TypeId} {tt : TypeId} (hts : ts = #[t, u]) (ht : P.underlying t = some (.slice e)) (hu : P.underlying u = some du) (hdu : ∀ k, du ≠ .int k) (hi : P.info? e = some i) (hz : zeroT P e = some zt)
    (hzs : zt.cells.length = i.size) (hby : i.bytes ≤ 1000) (h0 : i.size ≠ 0)
    (hr : (SOp.app e i.size zt x y).den P E dst = some r) : Sound P c E a w ⟨dst, .call { callee := .builtin .append, args := #[x, y], argTypes := ts }, tt, pos, after, g⟩ r := by
  subst hts
  have hx := h.ev x
  have hy := h.ev y
  have h0 : 0 < i.size := by omega
  simp only [SOp.den] at hr
  unfold zeroT at hz
  obtain ⟨z, hz1, hzt⟩ := Option.bind_eq_some_iff.1 hz
  rw [hi] at hz1
  simp only [Option.bind_some] at hz1
  clear hz
  have hzc : z.cells.size = i.size := by
    have := ((RepV.t (φ := φ) (U := E.used) (rep_ofVal (w := w) (M := fun _ => False) hzt)).cells_inv rfl).1
    have e : (DV.t zt).cells.length = zt.cells.length := by cases zt <;> simp [DV.cells, Tree.cells]
    rw [e, hzs] at this
    simpa using this
  have hexec : ∀ v w', (Builtin.append_ #[t, u] tt #[a.eval x, a.eval y]).run P w = .ok v w' → (execOp a.eval ⟨dst, .call { callee := .builtin .append, args := #[x, y], argTypes := #[t, u] }, tt, pos, after, g⟩).run P w = .ok (.value v) w' := by
    intro v w' hrun
    simp only [execOp, resolve, invoke, builtin, Sem.run_bind, Sem.run_pure, Result.andThen_ok, List.map_toArray, List.map_cons, List.map_nil, hrun]
  have hzl : ∀ n, (Builtin.zeroCells z.cells n).toList.length = n * i.size := fun n => by rw [Array.length_toList, size_zeroCells, hzc]
  unfold dApp at hr
  split at hr
  · -- onto nothing
    rename_i he
    rw [he] at hx
    obtain ⟨ad, hv⟩ := hx.e0_inv
    split at hr
    · rename_i l rd hmore
      split at hr
      · rename_i hc
        obtain ⟨hf, hlim⟩ := hc
        simp only [Option.some.injEq] at hr
        subst hr
        have hf : E.used (nmOf dst) = false := by simpa [Env.fresh] using hf
        obtain ⟨news, h1, h2, h3, h4, h5⟩ := more_sound (P := P) h h0 hy hmore
        unfold LIM at hlim
        have hrun := run_app (P := P) w t u tt e i z du ht hu hdu hi hz1 ad 0 0 (a.eval y) l.length [] news (by simp) h3 h1 h2 (fun w2 _ => firstCells_zero _ _ _ _ _) (fun hle => by
          have : news = [] := List.eq_nil_of_length_eq_zero (by rw [h3]; have : l.length = 0 := by omega
                                                                rw [this]; simp)
          subst this
          cases ad <;> exact ⟨w, by simp [storeAtEnd, storeCells]⟩) (by simp only [maxLen]; omega) (by
            have : (0 + l.length) * i.bytes ≤ 100000000 * 1000 := Nat.mul_le_mul (by omega) hby
            omega)
        rcases hrun with ⟨hle, w', hst, hrun⟩ | ⟨hlt, hge, hcm, hrun⟩
        · have hl0 : l = [] := List.eq_nil_of_length_eq_zero (by omega)
          subst hl0
          have : news = [] := List.eq_nil_of_length_eq_zero (by rw [h3]; simp)
          subst this
          have hw' : w' = w := by cases ad <;> simp [storeAtEnd, storeCells] at hst <;> exact hst.symm
          subst hw'
          obtain ⟨φ', hφ⟩ := SimA.newNil h hd (e := e) (m := i.size) (s' := nmOf dst) (ad := ad) hf (nmOf_fix dst) h0
          exact ⟨_, _, .inl (hexec _ _ (by rw [hv]; exact hrun)), φ', hφ⟩
        · simp only [Nat.zero_add, List.nil_append] at hrun hge hcm hlt
          obtain ⟨φ', hφ⟩ := SimA.newRow h hd (e := e) (m := i.size) (l := l) (n := l.length) (cap := grownCap w l.length 0 e) (cs := news ++ (Builtin.zeroCells z.cells (grownCap w l.length 0 e - l.length)).toList) (s' := nmOf dst) (w1 := w.drew) hf (nmOf_fix dst) rfl rfl rfl rfl h0 rfl (by omega) hge hcm (by
              rw [List.length_append, h3, hzl, ← Nat.add_mul]; congr 1; omega) (h5.ext fun j hj => by rw [List.getElem?_append_left (by omega)])
          exact ⟨_, _, .inl (hexec _ _ (by rw [hv]; exact hrun)), φ', hφ⟩
      · simp at hr
    · simp at hr
  · -- onto a row of one's own
    rename_i s n he
    rw [he] at hx
    obtain ⟨ad, hv, hus, hncap, had⟩ := hx.osl_inv
    split at hr
    · rename_i e' m' l0 l rd hsl hmore
      split at hr
      · rename_i hc
        obtain ⟨hf, hnl, hlim, rfl, rfl, hsr⟩ := hc
        simp only [Option.some.injEq] at hr
        subst hr
        have hf : E.used (nmOf dst) = false := by simpa [Env.fresh] using hf
        have hne : s ≠ nmOf dst := fun e => by rw [← e, hus] at hf; simp at hf
        obtain ⟨news, h1, h2, h3, h4, h5⟩ := more_sound (P := P) h h0 hy hmore
        unfold LIM at hlim
        obtain ⟨hpm, _, hB⟩ := own_cells h hsl
        -- the cells that are there
        obtain ⟨olds, ho1, ho2, ho3⟩ : ∃ olds : List Value, olds.length = n * i.size ∧ RowRep w (Mut c φ E.slots) i.size olds (l0.take n) ∧ (0 < (φ s).cap → ∃ cs : List Value, w.heap[(φ s).blk]? = some (.cells cs.toArray e' (0, 0)) ∧ cs.length = (φ s).cap * i.size ∧ olds = cs.take (n * i.size) ∧ (φ s).cap ≤ maxLen) := by
          rcases hB with ⟨hc0, rfl⟩ | ⟨cs, hcap, hg, hcs, hlc, hcm, hR⟩
          · have : n = 0 := by omega
            subst this
            exact ⟨[], by simp, ⟨by simp, fun k t j cc hk => by simp at hk⟩, fun hh => by omega⟩
          · have hle : n * i.size ≤ cs.length := by rw [hcs]; exact Nat.mul_le_mul_right _ hncap
            refine ⟨cs.take (n * i.size), by simp; omega, (hR.take n).ext (fun j hj => ?_), fun _ => ⟨cs, hg, hcs, rfl, hcm⟩⟩
            rw [List.getElem?_take, if_pos]
            simp at hj
            rw [Nat.min_eq_left hnl] at hj
            exact hj
        have hold : ∀ w2, w2.heap = w.heap → (Builtin.firstCells i.size n (.slice ad n (φ s).cap)).run P w2 = .ok olds.toArray w2 := by
          intro w2 hw2
          by_cases hcap : 0 < (φ s).cap
          · obtain ⟨cs, hg, hcs, hoe, _⟩ := ho3 hcap
            rw [had hcap]
            refine run_firstCells_some (P := P) w2 i.size n ⟨(φ s).blk, 0, none⟩ n _ olds ho1 (fun j v hv => ?_)
            rw [addr_add', cell_heap hw2, cell_of_heap hg, Nat.zero_add]
            rw [hoe, List.getElem?_take] at hv
            split at hv
            · exact hv
            · simp at hv
          · have : n = 0 := by omega
            subst this
            have : olds = [] := List.eq_nil_of_length_eq_zero (by rw [ho1]; simp)
            subst this
            exact firstCells_zero _ _ _ _ _
        have htl : (l0.take n).length = n := by simp; omega
        have hboth : RowRep w (Mut c φ E.slots) i.size (olds ++ news ++ []) (l0.take n ++ l) := ho2.append h5 (by rw [htl]; exact ho1)
        have hll : (l0.take n ++ l).length = n + l.length := by rw [List.length_append, htl]
        have hstore : n + l.length ≤ (φ s).cap → ∃ w', (storeAtEnd ad (n * i.size) news).run P w = .ok () w' ∧
            ((φ s).cap = 0 ∧ w' = w ∨ 0 < (φ s).cap ∧ ∃ cs : List Value, w.heap[(φ s).blk]? = some (.cells cs.toArray e' (0, 0)) ∧ cs.length = (φ s).cap * i.size ∧ (φ s).cap ≤ maxLen ∧ olds = cs.take (n * i.size) ∧
              w' = w.setRow (φ s).blk (olds ++ news ++ cs.drop (n * i.size + news.length)).toArray) := by
          intro hle
          by_cases hcap : 0 < (φ s).cap
          · obtain ⟨cs, hg, hcs, hoe, hcm⟩ := ho3 hcap
            rw [had hcap]
            have hfit : n * i.size + 0 + news.length ≤ cs.toArray.size := by
              simp only [List.size_toArray, hcs, h3, Nat.add_zero, ← Nat.add_mul]
              exact Nat.mul_le_mul_right _ hle
            have hst := run_storeCells_at P (φ s).blk (n * i.size) e' news 0 cs.toArray w hg hfit (fun v hv => by rw [← one1_cell]; exact h4 v hv)
            simp only [Nat.add_zero, ← hoe] at hst
            refine ⟨_, by simp only [storeAtEnd, addr_add', Nat.zero_add]; exact hst, .inr ⟨hcap, cs, hg, hcs, hcm, hoe, rfl⟩⟩
          · have hc0 : (φ s).cap = 0 := by omega
            have hl0 : l.length = 0 := by omega
            have : news = [] := List.eq_nil_of_length_eq_zero (by rw [h3, hl0]; simp)
            subst this
            refine ⟨w, ?_, .inl ⟨hc0, rfl⟩⟩
            cases ad <;> simp [storeAtEnd, storeCells]
        have hrun := run_app (P := P) w t u tt e' i z du ht hu hdu hi hz1 ad n (φ s).cap (a.eval y) l.length olds news ho1 h3 h1 h2 hold (fun hle => let ⟨w', hs, _⟩ := hstore hle; ⟨w', hs⟩) (by simp only [maxLen]; omega) (by
            have : (n + l.length) * i.bytes ≤ 100000000 * 1000 := Nat.mul_le_mul (by omega) hby
            omega)
        rcases hrun with ⟨hle, w', hst, hrun⟩ | ⟨hlt, hge, hcm, hrun⟩
        · obtain ⟨w'', hst', hcase⟩ := hstore hle
          rw [hst] at hst'
          cases hst'
          rcases hcase with ⟨hc0, hww⟩ | ⟨hcap, cs, hg, hcs, hcm, hoe, rfl⟩
          · -- nothing onto nothing
            rw [hww] at hrun
            have hn0 : n = 0 := by omega
            have hl0 : l = [] := List.eq_nil_of_length_eq_zero (by omega)
            subst hn0 hl0
            have hl00 : l0 = [] := by rcases hB with ⟨_, h⟩ | ⟨cs, h, _⟩ <;> first | exact h | omega
            subst hl00
            obtain ⟨φ', h6, h7, h8⟩ := h.rename hsl hf (nmOf_fix dst)
            refine ⟨_, _, .inl (hexec _ _ (by rw [hv]; exact hrun)), φ', h8.put hd ?_⟩
            have := RepV.osl (φ := φ') (U := (E.upd [(s, none), (nmOf dst, some (.rows e' i.size [] false))]).used) (w := w) (M := Mut c φ' (E.upd [(s, none), (nmOf dst, some (.rows e' i.size [] false))]).slots) (s := nmOf dst) (n := 0) (ad := ad) (by
              rw [upd_used, lookup2]; simp [Ne.symm hne]) (Nat.zero_le _) (by rw [h7]; intro hh; omega)
            rw [h7] at this
            exact this
          · -- in its place
            have hset := h.set (w' := w.setRow (φ s).blk (olds ++ news ++ cs.drop (n * i.size + news.length)).toArray) (r' := .rows e' i.size (l0.take n ++ l) false) hsl rfl (by simpa [Row.real] using hcap) (by simp) rfl rfl rfl (fun b hb => setRow_other w _ b _ hb) (by
              intro M' hM'
              have hg' := setRow_heap w (φ s).blk _ (olds ++ news ++ cs.drop (n * i.size + news.length)).toArray e' _ hg
              have hR' : RowRep (w.setRow (φ s).blk (olds ++ news ++ cs.drop (n * i.size + news.length)).toArray) M' i.size (olds ++ news ++ cs.drop (n * i.size + news.length)) (l0.take n ++ l) := by
                refine ((ho2.append h5 (by rw [htl]; exact ho1)).mono (by simp) (fun b hlt hM => ⟨setRow_other w _ b _ (fun e => hM (.inr ⟨s, _, hsl, rfl, by simpa [Row.real] using hcap, e.symm⟩)), hM' b hlt hM⟩))
              refine .inr ⟨_, hcap, hg', hpm, h0, ?_, by rw [hll]; exact hle, hcm, hR'.1, hR'.2⟩
              simp only [List.length_append, List.length_drop, ho1, h3, hcs]
              have : (n + l.length) * i.size ≤ (φ s).cap * i.size := Nat.mul_le_mul_right _ hle
              rw [Nat.add_mul] at this
              omega)
            have hsl' : (E.upd [(s, some (.rows e' i.size (l0.take n ++ l) false))]).slots s = some (.rows e' i.size (l0.take n ++ l) false) := by rw [upd_slots, lookup1]; simp
            have hf' : (E.upd [(s, some (.rows e' i.size (l0.take n ++ l) false))]).used (nmOf dst) = false := by rw [upd_used, lookup1, hf]; simp [Ne.symm hne]
            obtain ⟨φ', h6, h7, h8⟩ := hset.rename hsl' hf' (nmOf_fix dst)
            rw [upd_set_rename] at h8
            refine ⟨_, _, .inl (hexec _ _ (by rw [hv]; exact hrun)), φ', h8.put hd ?_⟩
            have := RepV.osl (φ := φ') (U := (E.upd [(s, none), (nmOf dst, some (.rows e' i.size (l0.take n ++ l) false))]).used) (w := w.setRow (φ s).blk (olds ++ news ++ cs.drop (n * i.size + news.length)).toArray) (M := Mut c φ' (E.upd [(s, none), (nmOf dst, some (.rows e' i.size (l0.take n ++ l) false))]).slots) (s := nmOf dst) (n := n + l.length) (ad := ad) (by
              rw [upd_used, lookup2]; simp [Ne.symm hne]) (by rw [h7]; exact hle) (by rw [h7]; exact had)
            rw [h7] at this
            exact this
        · -- in a new one
          have hdrop := h.drop hus
          have hf' : (E.upd [(s, none)]).used (nmOf dst) = false := by rw [upd_used, lookup1, hf]; simp [Ne.symm hne]
          have hM : ∀ b, Mut c φ (E.upd [(s, none)]).slots b → Mut c φ E.slots b := by
            intro b hM
            rcases hM with hM | ⟨x, y, h1, h2⟩
            · exact .inl hM
            · rw [upd_slots, lookup1] at h1
              by_cases hx : x = s
              · simp [hx] at h1
              · simp [hx] at h1; exact .inr ⟨x, y, h1, h2⟩
          have hR : RowRep w (Mut c φ (E.upd [(s, none)]).slots) i.size (olds ++ news ++ (Builtin.zeroCells z.cells (grownCap w (n + l.length) (φ s).cap e' - (n + l.length))).toList) (l0.take n ++ l) :=
            (ho2.append h5 (by rw [htl]; exact ho1)).mono (Nat.le_refl _) (fun b _ hm => ⟨rfl, fun hm' => hm (hM b hm')⟩)
          obtain ⟨φ', hφ⟩ := SimA.newRow hdrop hd (e := e') (m := i.size) (l := l0.take n ++ l) (n := n + l.length) (cap := grownCap w (n + l.length) (φ s).cap e') (cs := olds ++ news ++ (Builtin.zeroCells z.cells (grownCap w (n + l.length) (φ s).cap e' - (n + l.length))).toList) (s' := nmOf dst) (w1 := w.drew) hf' (nmOf_fix dst) rfl rfl rfl rfl h0 hll.symm (by omega) hge hcm (by
              rw [List.length_append, List.length_append, ho1, h3, hzl, ← Nat.add_mul, ← Nat.add_mul]; congr 1; omega) hR
          rw [upd_drop_new hne] at hφ
          exact ⟨_, _, .inl (hexec _ _ (by rw [hv]; exact hrun)), φ', hφ⟩
      · simp at hr
    · simp at hr
  · simp at hr
end ops
end Go.Wt
