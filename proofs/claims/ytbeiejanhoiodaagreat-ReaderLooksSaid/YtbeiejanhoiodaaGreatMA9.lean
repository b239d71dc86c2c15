/- What a function that is ranged over hands out, from its code. -/
import Derived.Test.YtbeiejanhoiodaaGreatMA8
set_option linter.unusedSimpArgs false
set_option linter.unusedVariables false
namespace Go.Wt
open Go.RowKit
variable {P : Program} {C : CallOk} {c : Ctx} {φ : Nm → Place} {E : Env} {a : Act} {w : World}
/-- Where the walk keeps how many were handed out. -/
def GH : Nat := 1000000000
def gst : Option Nat → DV
  | some i => .wh false true (.t (.v (.int .i64 i)))
  | none => .wh false true .junk
theorem gst_inj {o o' : Option Nat} (h : gst o = gst o') : o = o' := by
  cases o <;> cases o' <;> simp [gst] at h ⊢
  exact_mod_cast h
theorem gst_ren (o : Option Nat) (ρ : List (Nm × Nm)) : (gst o).ren ρ = gst o := by cases o <;> simp [gst, DV.ren]
/-- One more is handed out. -/
def YL (xs : List (List Tree)) (E : Env) (ds : List DV) (Kb : Bool → Env → Prop) : Prop :=
  ∃ i x, E.tmps GH = gst (some i) ∧ xs[i]? = some x ∧ ds = x.map .t ∧ Kb true (E.put GH (gst (some (i + 1)))) ∧ Kb false (E.put GH (gst none))
def itEnv (ts : List DV) : Env where
  tmps := fun t => if t = GH then gst (some 0) else match t with | 0 => .yl | t + 1 => ts.getD t .junk
  slots := fun _ => none
  used := fun s => match s with | .yl => true | _ => false
def FinI (n : Nat) (e : Exit) (E : Env) : Prop := (e = .normal ∨ e = .ret) ∧ (E.tmps GH = gst (some n) ∨ E.tmps GH = gst none)
def itPin (l : Nat) : Nm → Place
  | .yl => ⟨l, 0, 0⟩
  | .glob g => ⟨g, 0, 0⟩
  | _ => ⟨0, 0, 0⟩
theorem iter_of (hm : P.follows .mixedOrders = true) {f : FuncId} {fn : Func} {code : Code} {s : SCode} (hf : P.funcs[f]? = some fn) (hng : (fn.name == "runtime.NumGoroutine") = false) (hb : fn.body = some code) (hs : compile P fn.ntmps false code = some s)
    (hr : cresults P fn = some []) {ts : List DV} {xs : List (List Tree)} (hn : ts.length + 1 ≤ fn.ntmps) (hgh : fn.ntmps ≤ GH) (hw : W P (CtrY (YL xs)) s (itEnv ts) (FinI xs.length)) : IterL P f ts xs := by
  refine ⟨⟨fn, code, hf, hng, hb⟩, fun w M O vs l J Jx hMlt hOM hvl hvr hst hstx hround hJ0 => ?_⟩
  refine callsIn_wide (n := 0).1 (callsIn_of_wp hf hb trivial ?_)
  let GJ : DV → World → (Nat → Prop) → (Nat → Prop) → Prop := fun g w' M' O' => (∃ i, g = gst (some i) ∧ J i w' M' O') ∨ (g = gst none ∧ Jx w' M' O')
  let Rl : Ctx → Env → Prop := fun c E => c.n = fn.ntmps ∧ c.dl = none ∧ c.pin = itPin l ∧ (∃ o, E.tmps GH = gst o) ∧ w.heap.size ≤ c.w0.heap.size ∧ (∀ b, c.X b → w.heap.size ≤ b) ∧ (∀ b, c.X b → c.M0 b) ∧
    ∃ O', GJ (E.tmps GH) c.w0 c.M0 O' ∧ (∀ b, O' b → c.M0 b) ∧ (∀ b, O' b → ¬ c.X b)
  have hcong : ∀ c E E', Rl c E → E'.tmps GH = E.tmps GH → Rl c E' := by
    rintro c E E' ⟨h1, h2, h3, h4, h5, h6, h7, h8⟩ he
    exact ⟨h1, h2, h3, by rw [he]; exact h4, h5, h6, h7, by rw [he]; exact h8⟩
  have hR : RlOk Rl fn.ntmps := by
    refine ⟨fun c E h => h.1, fun c E l h hl => (by rw [h.2.1] at hl; cases hl), fun c E dst d h hd => hcong c E _ h ?_, fun c E ups h => hcong c E _ h rfl, fun c E ρ h => hcong c E _ h ?_⟩
    · cases dst with
      | none => rfl
      | some t =>
        simp at hd
        show (if GH = t then d else E.tmps GH) = E.tmps GH
        rw [if_neg (by omega)]
    · obtain ⟨o, ho⟩ := h.2.2.2.1
      show (E.tmps GH).ren ρ = E.tmps GH
      rw [ho, gst_ren]
  -- from the last turn to this
  have hmove : ∀ {c : Ctx} {φ : Nm → Place} {E : Env} {wy : World} {O' : Nat → Prop}, SimW c φ E wy → w.heap.size ≤ c.w0.heap.size → (∀ b, c.X b → w.heap.size ≤ b) → (∀ b, c.X b → c.M0 b) → (∀ b, O' b → c.M0 b) → (∀ b, O' b → ¬ c.X b) →
      MovesF w c.w0 c.M0 O' wy (Mut c φ E.slots) := by
    intro c φ E wy O' h h5 h6 h7 h8 h9
    refine ⟨h.size, h.os, h.tape, h.output, fun b hb ho => h.old b hb fun hx => ?_, fun b hb hM => ?_, fun b hb hM => .inl ⟨hM, fun hx => ?_⟩, fun b ho => .inl ⟨h8 b ho, h9 b ho⟩, fun b hM => ?_⟩
    · rcases ho with ho | ho | ho
      · have := h6 b hx; omega
      · exact h9 b ho hx
      · exact ho (h7 b hx)
    · rcases hM with hM | hM
      · exact hM.1
      · rcases h.own_x hM with h1 | h1
        · exact h7 b h1
        · omega
    · have := h6 b hx; omega
    · rcases hM with hM | hM
      · exact Nat.lt_of_lt_of_le (h.m0 b hM.1) h.size
      · exact h.own_lt hM
  have hnodf : ∀ {c : Ctx} {φ : Nm → Place} {E : Env} {a : Act} {wy : World}, SimA c φ E a wy → c.dl = none → a.defers = [] := by
    intro c φ E a wy h hd
    obtain ⟨bs, h1, _, h2⟩ := h.df
    cases bs with
    | nil => exact h1
    | cons b bs =>
      obtain ⟨l, h3, _⟩ := (h2 b List.mem_cons_self).1
      rw [hd] at h3; cases h3
  have hY : YSnd P (CtrY (YL xs)) Rl := by
    intro c φ E a wy ds us Kb hRl h hyl hu hul hur
    obtain ⟨h1, h2, h3, h4, h5, h6, h7, O', hg, h8, h9⟩ := hRl
    obtain ⟨i, x, g1, g2, rfl, g4, g5⟩ := hyl
    have hJ : J i c.w0 c.M0 O' := by
      rcases hg with ⟨i', e1, e2⟩ | ⟨e1, _⟩
      · rw [g1] at e1
        have := gst_inj e1
        cases this
        exact e2
      · rw [g1] at e1
        have := gst_inj e1
        cases this
    have hl : (φ .yl).blk = l := by
      rw [h.fix .yl rfl hu, h3]
      rfl
    have hJ2 := hst i _ _ _ _ _ hJ (hmove h.toSimW h5 h6 h7 h8 h9)
    have hcall := hround i x wy _ O' us g2 hJ2 (by simpa using hul) (fun j v t hv ht => (hur j v (.t t) hv (by rw [List.getElem?_map, ht]; rfl)).t_inv)
    rw [hl]
    obtain ⟨fn', tmps, asg, bd, y1, y2⟩ := hcall
    refine ⟨fn', tmps, asg, bd, y1, y2.mono fun e w2 he => ?_⟩
    obtain ⟨M3, O3, hmv, hcase⟩ := he
    have hOown : ∀ b, O' b → ¬ Own φ E.slots b := by
      intro b ho hb
      rcases h.toSimW.own_x hb with q | q
      · exact h9 b ho q
      · have := h.m0 b (h8 b ho); omega
    have hO2 : ∀ b, O' b → Mut c φ E.slots b := fun b ho => .inl ⟨h8 b ho, h9 b ho⟩
    have hnM : ∀ b, b < wy.heap.size → ¬ Mut c φ E.slots b → ¬ M3 b := by
      intro b hb hM hM3
      rcases (hmv.all b).1 hM3 with q | q
      · exact hM q.1
      · rcases hmv.own b q with q | q
        · exact hM (hO2 b q)
        · omega
    have hsim : SimA ⟨w2, M3, Own φ E.slots, fn.ntmps, itPin l, none⟩ φ E a w2 := by
      have hw' : ∀ b, b < wy.heap.size → ¬ Mut c φ E.slots b → w2.heap[b]? = wy.heap[b]? ∧ ¬ Mut ⟨w2, M3, Own φ E.slots, fn.ntmps, itPin l, none⟩ φ E.slots b := by
        intro b hb hM
        refine ⟨hmv.keep b hb fun ho => hM (hO2 b ho), ?_⟩
        rintro (⟨q, _⟩ | q)
        · exact hnM b hb hM q
        · exact hM (.inr q)
      refine ⟨h.toSimW.move (by rw [h3]) hmv.size (Nat.le_refl _) rfl rfl rfl (fun _ _ _ => rfl) (fun b hb => ?_) hw' (fun s r hs hre => ?_), fun t => (h.tm t).mono hmv.size hw' (fun _ hu => ⟨hu, rfl⟩), by rw [h.sz, h1], [], hnodf h h2, by simp, by simp⟩
      · rcases (hmv.all b).1 hb with q | q
        · have hlt : b < wy.heap.size := by
            rcases q.1 with q | q
            · exact Nat.lt_of_lt_of_le (h.m0 b q.1) h.size
            · exact h.toSimW.own_lt q
          exact Nat.lt_of_lt_of_le hlt hmv.size
        · exact hmv.lt b q
      · have hlt := (h.row s r hs).2.1.lt hre
        have hno : ¬ O' (φ s).blk := by
          intro ho
          by_cases hmu : r.mut = true
          · exact hOown _ ho ⟨s, r, hs, hmu, hre, rfl⟩
          · exact h.toSimW.frozen_nm hs hmu hre (hO2 _ ho)
        refine ⟨hmv.keep _ hlt hno, fun hmu => .inl ⟨s, r, hs, hmu, hre, rfl⟩, ?_⟩
        by_cases hmu : r.mut = true
        · exact .inl ⟨s, r, hs, hmu, hre, rfl⟩
        · exact .inr (hnM _ hlt (h.toSimW.frozen_nm hs hmu hre))
    have hfin : ∀ (o : Option Nat), GJ (gst o) w2 M3 O3 → Rl ⟨w2, M3, Own φ E.slots, fn.ntmps, itPin l, none⟩ (E.put GH (gst o)) ∧ SimA ⟨w2, M3, Own φ E.slots, fn.ntmps, itPin l, none⟩ φ (E.put GH (gst o)) a w2 := by
      intro o hgj
      have hself : (E.put GH (gst o)).tmps GH = gst o := by show (if GH = GH then gst o else E.tmps GH) = gst o; rw [if_pos rfl]
      refine ⟨⟨rfl, rfl, rfl, ⟨o, hself⟩, ?_, fun b hb => ?_, fun b hb => ?_, O3, by rw [hself]; exact hgj, fun b hb => (hmv.all b).2 (.inr hb), fun b hb hown => ?_⟩, ⟨hsim.toSimW.congr rfl rfl, fun t => ?_, hsim.sz, hsim.df⟩⟩
      · have := h.size; have := hmv.size; show w.heap.size ≤ w2.heap.size; omega
      · rcases h.toSimW.own_x hb with q | q
        · exact h6 b q
        · omega
      · exact (hmv.all b).2 (.inl ⟨.inr hb, fun ho => hOown b ho hb⟩)
      · rcases hmv.own b hb with q | q
        · exact hOown b q hown
        · have := h.toSimW.own_lt hown; omega
      · show RepV φ E.used w2 (Mut _ φ E.slots) _ (if t = GH then gst o else E.tmps t)
        by_cases ht : t = GH
        · rw [if_pos ht]
          cases o <;> exact .wh fun hh => by cases hh
        · rw [if_neg ht]; exact hsim.tm t
    rcases hcase with ⟨rfl, hj⟩ | ⟨rfl, hj⟩
    · obtain ⟨q1, q2⟩ := hfin (some (i + 1)) (.inl ⟨i + 1, rfl, hj⟩)
      exact ⟨true, _, φ, _, rfl, g4, q1, q2⟩
    · obtain ⟨q1, q2⟩ := hfin none (.inr ⟨rfl, hj⟩)
      exact ⟨false, _, φ, _, rfl, g5, q1, q2⟩
  -- the beginning
  let c0 : Ctx := ⟨w, M, fun _ => False, fn.ntmps, itPin l, none⟩
  have hMut0 : ∀ b, Mut c0 (itPin l) (itEnv ts).slots b → M b := by
    rintro b (⟨q, _⟩ | ⟨s, r, q, _⟩)
    · exact q
    · cases q
  have hA : SimA c0 (itPin l) (itEnv ts) { tmps := (#[Value.func (.yield l) #[] #[]] ++ vs.toArray) ++ Array.replicate (fn.ntmps - (#[Value.func (.yield l) #[] #[]] ++ vs.toArray).size) undef, defers := [] } w := by
    refine ⟨⟨Nat.le_refl _, rfl, rfl, rfl, fun _ _ _ => rfl, hMlt, fun s r h => (by cases h), fun s s' r r' h => (by cases h), fun s _ _ => rfl, fun g => rfl⟩, fun t => ?_, ?_, [], rfl, by simp, by simp⟩
    · show RepV (itPin l) (itEnv ts).used w _ _ (if t = GH then gst (some 0) else _)
      by_cases htg : t = GH
      · rw [if_pos htg]; exact .wh fun hh => by cases hh
      · rw [if_neg htg]
        cases t with
        | zero =>
          have : ((#[Value.func (.yield l) #[] #[]] ++ vs.toArray) ++ Array.replicate (fn.ntmps - (#[Value.func (.yield l) #[] #[]] ++ vs.toArray).size) undef).getD 0 undef = .func (.yield l) #[] #[] := by
            rw [Array.getD_eq_getD_getElem?, Array.getElem?_append, Array.getElem?_append]
            simp
          rw [this]
          exact RepV.yl (φ := itPin l) rfl
        | succ t =>
          show RepV _ _ _ _ _ (ts.getD t .junk)
          by_cases ht : t < vs.length
          · have htd : t < ts.length := by omega
            have e1 : ((#[Value.func (.yield l) #[] #[]] ++ vs.toArray) ++ Array.replicate (fn.ntmps - (#[Value.func (.yield l) #[] #[]] ++ vs.toArray).size) undef).getD (t + 1) undef = vs[t] := by
              rw [Array.getD_eq_getD_getElem?, Array.getElem?_append, Array.getElem?_append]
              have h1 : t + 1 < (#[Value.func (.yield l) #[] #[]] ++ vs.toArray).size := by simp; omega
              rw [if_pos h1]
              simp [ht]
            have e2 : ts.getD t .junk = ts[t] := by simp [htd]
            rw [e1, e2]
            exact (hvr t _ _ (List.getElem?_eq_getElem ht) (List.getElem?_eq_getElem htd)).mono (Nat.le_refl _) (fun b _ hb => ⟨rfl, fun hb' => hb (hMut0 b hb')⟩) (fun _ hu => by cases hu)
          · have e2 : ts.getD t .junk = .junk := by
              rw [List.getD_eq_getElem?_getD, List.getElem?_eq_none (by omega)]; rfl
            rw [e2]
            exact .junk
    · show (_ : Array Value).size = fn.ntmps
      simp; omega
  refine code_sound (C := CtrY (YL xs)) ctr_sound ctr_local (fun _ _ _ h => h) hm hR hY (rd := none) (rf := false) (fun hh => by simp at hh) (fun _ _ hh => by simp at hh) code s hs c0 (itEnv ts) _ _ (itPin l) _ w
    ⟨rfl, rfl, rfl, ⟨some 0, rfl⟩, Nat.le_refl _, fun b hb => hb.elim, fun b hb => hb.elim, O, .inl ⟨0, rfl, hJ0⟩, hOM, fun b _ hb => hb⟩ (fun c e E φ a wf hRl hk hs1 => ?_) hA hw
  obtain ⟨h1, h2, h3, h4, h5, h6, h7, O', hg, h8, h9⟩ := hRl
  obtain ⟨he, hend⟩ := hk
  obtain ⟨v, hrun, _⟩ := results_run hs1 hr (d := .tup []) rfl
  have hpost : a.defers = [] ∧ ∃ v, (results fn a.tmps).run P wf = .ok v wf ∧ ∃ v' M' O', Ending.returned v = .returned v' ∧ (J xs.length wf M' O' ∨ Jx wf M' O') := by
    refine ⟨hnodf hs1 h2, v, hrun, v, Mut c φ E.slots, O', rfl, ?_⟩
    have hmv := hmove hs1.toSimW h5 h6 h7 h8 h9
    rcases hg with ⟨i, e1, e2⟩ | ⟨e1, e2⟩
    · rcases hend with hend | hend
      · rw [hend] at e1
        have := gst_inj e1
        cases this
        exact .inl (hst _ _ _ _ _ _ e2 hmv)
      · rw [hend] at e1
        have := gst_inj e1
        cases this
    · exact .inr (hstx _ _ _ _ _ e2 hmv)
  rcases he with rfl | rfl
  · exact hpost
  · exact hpost
end Go.Wt
/- Runs on data that is at hand: a state as data, and an executor of the code that is known here. -/
namespace Go.Wt
open Go.RowKit
variable {P : Program} {C : CallOk} {c : Ctx} {φ : Nm → Place} {E : Env} {a : Act} {w : World}
/-- A state as data. -/
structure XE where
  tm : List DV
  sl : List (Nm × Option Row)
  gh : DV
  gl : List (List Tree)
def XE.env (x : XE) : Env where
  tmps := fun t => if t = GH then x.gh else x.tm.getD t .junk
  slots := fun s => (x.sl.lookup s).join
  used := fun s => (x.sl.lookup s).isSome
def setKey (s : Nm) (r : Option Row) : List (Nm × Option Row) → List (Nm × Option Row)
  | [] => [(s, r)]
  | p :: l => if p.1 = s then (s, r) :: l else p :: setKey s r l
def setKeys (l : List (Nm × Option Row)) : List (Nm × Option Row) → List (Nm × Option Row)
  | [] => l
  | p :: ups => setKey p.1 p.2 (setKeys l ups)
def XE.putO (x : XE) (dst : Option Nat) (d : DV) : XE := match dst with | some t => { x with tm := x.tm.set t d } | none => x
def XE.upd (x : XE) (ups : List (Nm × Option Row)) : XE := { x with sl := setKeys x.sl ups }
def XE.apply (x : XE) (r : Res) (dst : Option Nat) : XE := (x.upd r.ups).putO dst r.d
def XE.fits (x : XE) (dst : Option Nat) : Bool := match dst with | some t => decide (t < x.tm.length ∧ t ≠ GH) | none => true
theorem lookup_setKey (s : Nm) (r : Option Row) : ∀ (l : List (Nm × Option Row)) (u : Nm), (setKey s r l).lookup u = if u = s then some r else l.lookup u
  | [], u => by
    simp only [setKey, List.lookup]
    by_cases h : u = s
    · subst h; simp
    · have hb : (u == s) = false := by simpa using h
      simp [hb, h]
  | (v, x) :: l, u => by
    simp only [setKey]
    by_cases hv : v = s
    · subst hv
      simp only [if_true, List.lookup]
      by_cases h : u = v
      · subst h; simp
      · have hb : (u == v) = false := by simpa using h
        simp [hb, h]
    · rw [if_neg hv]
      simp only [List.lookup]
      by_cases h : u = v
      · subst h
        simp [hv]
      · have hb : (u == v) = false := by simpa using h
        rw [hb]
        exact lookup_setKey s r l u
theorem lookup_setKeys (l : List (Nm × Option Row)) : ∀ (ups : List (Nm × Option Row)) (u : Nm), (setKeys l ups).lookup u = match ups.lookup u with | some r => some r | none => l.lookup u
  | [], u => rfl
  | (s, r) :: ups, u => by
    simp only [setKeys, lookup_setKey, List.lookup]
    by_cases h : u = s
    · subst h; simp
    · have hb : (u == s) = false := by simpa using h
      rw [if_neg h, hb]
      exact lookup_setKeys l ups u
theorem env_upd (x : XE) (ups : List (Nm × Option Row)) : (x.upd ups).env = x.env.upd ups := by
  refine Env.ext' rfl (funext fun s => ?_) (funext fun s => ?_)
  · show ((setKeys x.sl ups).lookup s).join = match ups.lookup s with | some r => r | none => (x.sl.lookup s).join
    rw [lookup_setKeys]
    cases ups.lookup s <;> rfl
  · show ((setKeys x.sl ups).lookup s).isSome = ((ups.lookup s).isSome || (x.sl.lookup s).isSome)
    rw [lookup_setKeys]
    cases ups.lookup s <;> simp
theorem env_putO (x : XE) {dst : Option Nat} (h : x.fits dst = true) (d : DV) : (x.putO dst d).env = x.env.putO dst d := by
  cases dst with
  | none => rfl
  | some t =>
    simp only [XE.fits, decide_eq_true_eq] at h
    refine Env.ext' (funext fun u => ?_) rfl rfl
    show (if u = GH then x.gh else (x.tm.set t d).getD u .junk) = if u = t then d else if u = GH then x.gh else x.tm.getD u .junk
    by_cases hu : u = t
    · subst hu; simp [h.1, h.2]
    · by_cases hg : u = GH
      · simp [hg, Ne.symm h.2]
      · simp [List.getElem?_set, hu, Ne.symm hu, hg]
theorem env_apply (x : XE) {dst : Option Nat} (h : x.fits dst = true) (r : Res) : (x.apply r dst).env = r.apply dst x.env := by
  unfold XE.apply
  rw [env_putO _ (by cases dst <;> exact h), env_upd]
  rfl
/-- The state under other names. -/
def XE.canon (ρ : List (Nm × Nm)) (x : XE) : XE where
  tm := x.tm.map (DV.ren ρ)
  sl := (flip ρ).map fun p => (p.1, ((x.sl.lookup p.2).join).map (Row.ren ρ))
  gh := x.gh.ren ρ
  gl := x.gl
theorem lookup_map2 {α β : Type} (f : Nm → α → β) : ∀ (l : List (Nm × α)) (u : Nm), (l.map fun p => (p.1, f p.1 p.2)).lookup u = (l.lookup u).map (f u)
  | [], u => rfl
  | (s, r) :: l, u => by
    simp only [List.map_cons, List.lookup]
    by_cases h : u = s
    · subst h; simp
    · have hb : (u == s) = false := by simpa using h
      rw [hb]
      exact lookup_map2 f l u
theorem env_canon (ρ : List (Nm × Nm)) (x : XE) : (x.canon ρ).env = x.env.canon ρ := by
  have hl : ∀ s, ((x.canon ρ).sl).lookup s = ((flip ρ).lookup s).map fun s0 => ((x.sl.lookup s0).join).map (Row.ren ρ) := fun s => lookup_map2 (fun _ s0 => ((x.sl.lookup s0).join).map (Row.ren ρ)) (flip ρ) s
  refine Env.ext' (funext fun t => ?_) (funext fun s => ?_) (funext fun s => ?_)
  · show (if t = GH then x.gh.ren ρ else (x.tm.map (DV.ren ρ)).getD t .junk) = (if t = GH then x.gh else x.tm.getD t .junk).ren ρ
    by_cases ht : t = GH
    · simp [ht]
    · simp only [if_neg ht, List.getD_eq_getElem?_getD, List.getElem?_map]
      cases x.tm[t]? <;> simp [DV.ren]
  · show (((x.canon ρ).sl).lookup s).join = match (flip ρ).lookup s with | some s0 => ((x.sl.lookup s0).join).map (Row.ren ρ) | none => none
    rw [hl]
    cases (flip ρ).lookup s <;> rfl
  · show (((x.canon ρ).sl).lookup s).isSome = ((flip ρ).lookup s).isSome
    rw [hl]
    cases (flip ρ).lookup s <;> rfl
mutual
/-- The names in a value. -/
def DV.names : DV → List Nm
  | .ptr s _ _ | .osl s _ | .mp s => [s]
  | .agg l | .tup l | .fn _ l => DV.namesL l
  | .mfn _ p l => DV.namesL p ++ DV.namesL l
  | .wh _ _ d => d.names
  | _ => []
def DV.namesL : List DV → List Nm
  | [] => []
  | d :: l => d.names ++ DV.namesL l
end
def Row.names : Row → List Nm
  | .box _ d _ => d.names
  | .rows _ _ _ _ => []
  | .obj (.mp es _) _ => es.flatMap fun e => e.2.1.names
  | .obj _ _ => []
/-- The names that are reached from some. -/
def reach (sl : List (Nm × Option Row)) : Nat → List Nm → List Nm → List Nm
  | 0, _, acc => acc
  | _, [], acc => acc
  | n + 1, s :: l, acc => if acc.contains s then reach sl n l acc else reach sl n ((match (sl.lookup s).join with | some r => r.names | none => []) ++ l) (acc ++ [s])
/-! equality of trees without memory in them -/
def Value.eqb : Value → Value → Bool
  | .bool a, .bool b => a == b
  | .int k a, .int k' b => decide (k = k') && decide (a = b)
  | .string a, .string b => decide (a = b)
  | .nilFunc, .nilFunc | .nilIface, .nilIface | .pointer none, .pointer none | .map none, .map none => true
  | _, _ => false
theorem Value.eqb_eq {a b : Value} (h : Value.eqb a b = true) : a = b := by
  unfold Value.eqb at h
  split at h <;> simp_all
mutual
def Tree.eqb : Tree → Tree → Bool
  | .v x, .v y => Value.eqb x y
  | .agg l, .agg l' => Tree.eqbL l l'
  | .sl m l, .sl m' l' => decide (m = m') && Tree.eqbL l l'
  | .e0, .e0 => true
  | _, _ => false
def Tree.eqbL : List Tree → List Tree → Bool
  | [], [] => true
  | x :: l, y :: l' => Tree.eqb x y && Tree.eqbL l l'
  | _, _ => false
end
mutual
theorem Tree.eqb_eq : ∀ (a b : Tree), Tree.eqb a b = true → a = b
  | .v x, .v y, h => congrArg Tree.v (Value.eqb_eq (by simpa [Tree.eqb] using h))
  | .agg l, .agg l', h => congrArg Tree.agg (Tree.eqbL_eq l l' (by simpa [Tree.eqb] using h))
  | .sl m l, .sl m' l', h => by
    simp only [Tree.eqb, Bool.and_eq_true, decide_eq_true_eq] at h
    rw [h.1, Tree.eqbL_eq l l' h.2]
  | .e0, .e0, _ => rfl
  | .v _, .agg _, h | .v _, .sl _ _, h | .v _, .e0, h | .agg _, .v _, h | .agg _, .sl _ _, h | .agg _, .e0, h | .sl _ _, .v _, h | .sl _ _, .agg _, h | .sl _ _, .e0, h | .e0, .v _, h | .e0, .agg _, h | .e0, .sl _ _, h => by simp [Tree.eqb] at h
theorem Tree.eqbL_eq : ∀ (a b : List Tree), Tree.eqbL a b = true → a = b
  | [], [], _ => rfl
  | x :: l, y :: l', h => by
    simp only [Tree.eqbL, Bool.and_eq_true] at h
    rw [Tree.eqb_eq x y h.1, Tree.eqbL_eq l l' h.2]
  | [], _ :: _, h | _ :: _, [], h => by simp [Tree.eqbL] at h
end
/-- Values that are these trees. -/
def eqDs : List DV → List Tree → Bool
  | [], [] => true
  | .t x :: ds, y :: ts => Tree.eqb x y && eqDs ds ts
  | _, _ => false
theorem eqDs_eq : ∀ (ds : List DV) (ts : List Tree), eqDs ds ts = true → ds = ts.map .t
  | [], [], _ => rfl
  | .t x :: ds, y :: ts, h => by
    simp only [eqDs, Bool.and_eq_true] at h
    rw [Tree.eqb_eq x y h.1, eqDs_eq ds ts h.2]; rfl
  | [], _ :: _, h | .t _ :: _, [], h => by simp [eqDs] at h
  | .agg _ :: _, _, h | .tup _ :: _, _, h | .ptr _ _ _ :: _, _, h | .tp _ _ :: _, _, h | .osl _ _ :: _, _, h | .fn _ _ :: _, _, h | .mfn _ _ _ :: _, _, h | .mp _ :: _, _, h | .yl :: _, _, h | .wh _ _ _ :: _, _, h | .junk :: _, _, h => by simp [eqDs] at h
def toTs : List DV → Option (List Tree)
  | [] => some []
  | .t x :: l => (toTs l).map fun m => x :: m
  | _ => none
end Go.Wt
/- The executor. -/
namespace Go.Wt
open Go.RowKit
inductive XR where
  | norm
  | exit (id : Nat)
  | ret
def XR.out : XR → Exit
  | .norm => .normal
  | .exit i => .exit i
  | .ret => .ret
/-- What calls of what a range gives are: none, put down, or known. -/
inductive YM where
  | no
  | coll
  | ver (xs : List (List Tree))
inductive Task where
  | code (m : YM) (s : SCode) (x : XE)
  | call (f : FuncId) (ds : List DV) (dst : Option Nat) (x : XE)
inductive Out where
  | code (l : List (XR × XE))
  | call (r : Res)
structure XFn where
  code : SCode
  itc : SCode
  nt : Nat
  res : List SRes
  /-- the arguments that are handed over, not looked at -/
  own : List Nat
abbrev CallX := FuncId → List DV → Option Nat → XE → Option Res
def xop (P : Program) (call : CallX) (x : XE) (dst : Option Nat) : SOp → Option Res
  | .call f args => call f (args.map x.env.ev) dst x
  | .callv y args => match (x.env.ev y).callee with | some (f, pre, caps) => call f (pre ++ args.map x.env.ev ++ caps) dst x | none => none
  | op => op.den P x.env dst
/-- What is handed out, and how the walk goes on. -/
def xyld (m : YM) (x : XE) (dst : Option Nat) (ds : List DV) : Option (List XE) :=
  match m with
  | .no => none
  | .coll => match toTs ds with | some ts => some [XE.putO { x with gl := x.gl ++ [ts] } dst (.t (.v (.bool true)))] | none => none
  | .ver xs => match x.gh with
    | .wh false true (.t (.v (.int .i64 (.ofNat i)))) => match xs[i]? with
      | some ts => if eqDs ds ts = true ∧ x.fits dst = true then some [XE.putO { x with gh := gst (some (i + 1)) } dst (.t (.v (.bool true))), XE.putO { x with gh := gst none } dst (.t (.v (.bool false)))] else none
      | none => none
    | _ => none
def isYl : DV → Bool
  | .yl => true
  | _ => false
/-- The arguments, if this is a call of what a range gives. -/
def yargs (x : XE) (pr : List (Nat × Nat)) : SOp → Option (List DV)
  | .callv y args => if isYl (x.env.ev y) = true ∧ pr.isEmpty = true then some (args.map x.env.ev) else none
  | _ => none
def seqL (f : XE → Option (List XE)) : List XE → Option (List XE)
  | [] => some []
  | y :: l => match f y, seqL f l with | some a, some b => some (a ++ b) | _, _ => none
def xops (P : Program) (call : CallX) (m : YM) (pr : List (Nat × Nat)) : Nat → List Log → List SOper → XE → Option (List XE)
  | _, _, [], x => some [x]
  | ix, log, o :: rest, x =>
    let run : Unit → Option (List XE) := fun _ => match yargs x pr o.op with
      | some ds => match xyld m x o.dst ds with | some l => seqL (xops P call m pr (ix + 1) log rest) l | none => none
      | none => match xop P call x o.dst o.op with
        | some r => if okLog pr ix log r = true ∧ x.fits o.dst = true then xops P call m pr (ix + 1) (addLog pr ix r.rd (r.ups.map (·.1)) log) rest (x.apply r o.dst) else none
        | none => none
    match o.guard with
    | none => run ()
    | some (t, want) => match x.env.tmps t with
      | .t (.v (.bool b)) => if (b == want) = true then run () else if x.fits o.dst = true then xops P call m pr (ix + 1) log rest (x.putO o.dst (.tup [])) else none
      | .tup [] => if x.fits o.dst = true then xops P call m pr (ix + 1) log rest (x.putO o.dst (.tup [])) else none
      | _ => none
def hasLoc (l : List (Nm × Option Row)) : Bool := l.any fun p => !p.1.fixed
/-- New names at a loop's head. -/
def headRen (x : XE) : List (Nm × Nm) :=
  let fx := (x.sl.map (·.1)).filter Nm.fixed
  let ns := (reach x.sl 100000 (fx ++ DV.namesL x.tm) []).filter fun s => !s.fixed
  fx.map (fun s => (s, s)) ++ ns.zipIdx.map fun p => (p.1, .head 0 p.2)
def idRen (x : XE) : List (Nm × Nm) := (x.sl.map (·.1)).map fun s => (s, s)
def atHead (x : XE) : Option XE := let ρ := if hasLoc x.sl = true then headRen x else idRen x; if okRen ρ = true then some (x.canon ρ) else none
/-- The globals that are known. -/
def xglobs (sl0 : List (Nm × Option Row)) : List (Nm × Option Row) → List (Nat × TypeId × Tree)
  | [] => []
  | (.glob g, _) :: l => match sl0.lookup (.glob g) with | some (some (.box e (.t t) true)) => (g, e, t) :: xglobs sl0 l | _ => xglobs sl0 l
  | _ :: l => xglobs sl0 l
def dsIn (x : XE) (ρ : List (Nm × Nm)) (S : List Nm) : List DV → List DV × List Nm
  | [] => ([], [])
  | d :: l => let p := dsIn x ρ S l; match (if d.names.any S.contains = true then none else x.env.view d) with | some (t, rd) => (.t t :: p.1, rd ++ p.2) | none => (d.ren ρ :: p.1, p.2)
/-- The rows under the names of a callee. -/
def rowsIn (x : XE) (ρ : List (Nm × Nm)) : List Nm → Option (List Row)
  | [] => some []
  | s :: l => match x.env.slots s, rowsIn x ρ l with | some r, some m => some (r.ren ρ :: m) | _, _ => none
structure Prep where
  S : List Nm
  F : List Nm
  gs : List (Nat × TypeId × Tree)
  ds : List DV
  rows : List Row
def prepS (x : XE) (S : List Nm) (ds : List DV) : Option Prep :=
  let gs := xglobs x.sl x.sl
  let ρ := inRen S gs
  let p := dsIn x ρ S ds
  match rowsIn x ρ S with
  | some rows => if S.Nodup ∧ (S.all fun s => !s.isGlob && decide (s ≠ .yl) && !p.2.contains s) = true ∧ (gs.map (·.1)).Nodup ∧ (p.2.all fun s => (x.env.slots s).isSome) = true ∧ (S.all fun s => x.env.used s) = true then some ⟨S, p.2, gs, p.1, rows⟩ else none
  | none => none
def prep (x : XE) (own : List Nat) (ds : List DV) : Option Prep :=
  let N := ds.zipIdx.flatMap fun q => if (x.env.view q.1).isSome = true ∧ own.contains q.2 = false then [] else q.1.names
  prepS x ((reach x.sl 100000 N []).filter fun s => !s.isGlob && (x.env.slots s).isSome) ds
def Prep.sl (p : Prep) : List (Nm × Option Row) := (p.rows.zipIdx.map fun q => (.arg q.2, some q.1)) ++ p.gs.map fun q => (.glob q.1, some (.box q.2.1 (.t q.2.2) true))
/-- A callee's state as it begins. -/
def Prep.start (p : Prep) (nt : Nat) : XE := ⟨p.ds ++ List.replicate (nt - p.ds.length) .junk, p.sl, .junk, []⟩
def slotL (y : XE) (ρ : List (Nm × Nm)) : List Nm → Option (List Row)
  | [] => some []
  | s :: l => match y.env.slots s, slotL y ρ l with | some r, some m => some (r.ren ρ :: m) | _, _ => none
/-- What comes out: the names, the rows that were handed in, the new rows. -/
structure Fin3 where
  ρ : List (Nm × Nm)
  rows' : List (Option Row)
  new : List Row
def fin3 (n : Nat) (y : XE) (d : DV) : Option Fin3 :=
  let args := ((List.range n).map Nm.arg).filter fun s => y.env.used s
  let ns := (reach y.sl 100000 (args ++ d.names) []).filter fun s => !s.fixed && (y.env.slots s).isSome
  let ρ := args.map (fun s => (s, s)) ++ ns.zipIdx.map (fun p => (p.1, Nm.loc 0 p.2))
  match slotL y ρ ns with
  | some new => if okRen ρ = true then some ⟨ρ, (List.range n).map fun i => (y.env.slots (.arg i)).map (Row.ren ρ), new⟩ else none
  | none => none
def finish (p : Prep) (dst : Option Nat) (x y : XE) (d : DV) : Option Res :=
  match fin3 p.S.length y d with
  | some q =>
    let d' := y.env.outD q.ρ d
    let k : Ct := ⟨p.gs, p.ds, p.rows, d', q.rows', q.new⟩
    if p.S.isEmpty = true ∧ q.new.isEmpty = true ∧ d'.flat = true then some ⟨d', p.F ++ k.gn, []⟩
    else if (List.range q.new.length).all (fun j => !x.env.used (.loc (dst.getD 0) j)) = true then
      some ⟨d'.ren (outRen p.S (dst.getD 0) q.new.length), p.F ++ (p.S ++ k.gn), outUps p.S (dst.getD 0) k ++ frz x.env p.F⟩
    else none
  | none => none
def xcall (T : FuncId → Option XFn) (O : FuncId → List Tree → Option (DV × List Row)) (go : Task → Option Out) : CallX := fun f ds dst x =>
  match (show Option (List Tree × List Nm × DV × List Row) from match x.env.views ds with | some (ts, F) => (O f ts).map (fun (q : DV × List Row) => (ts, F, q.1, q.2)) | none => none) with
  | some (ts, F, d, new) => if d.flat = true ∧ new.isEmpty = true then some ⟨d, F ++ [], []⟩
    else if (List.range new.length).all (fun j => !x.env.used (.loc (dst.getD 0) j)) = true then some ⟨d.ren (outRen [] (dst.getD 0) new.length), F ++ ([] ++ []), outUps [] (dst.getD 0) ⟨[], ts.map .t, [], d, [], new⟩ ++ frz x.env F⟩
    else none
  | none => match T f with
    | some fn => match prep x fn.own ds with
      | some p => if p.ds.length ≤ fn.nt ∧ fn.nt ≤ GH then match go (.code .no fn.code (p.start fn.nt)) with
        | some (.code [(e, y)]) => (match e with
          | .exit _ => none
          | _ => match resV y.env fn.res with | some d => finish p dst x y d | none => none)
        | _ => none
        else none
      | none => none
    | none => none
def seqX (f : XE → Option (List (XR × XE))) : List (XR × XE) → Option (List (XR × XE))
  | [] => some []
  | (.norm, y) :: l => match f y, seqX f l with | some a, some b => some (a ++ b) | _, _ => none
  | (e, y) :: l => match seqX f l with | some b => some ((e, y) :: b) | none => none
def blockX (id : Nat) : List (XR × XE) → List (XR × XE)
  | [] => []
  | (.exit i, y) :: l => (if i = id then (.norm, y) else (.exit i, y)) :: blockX id l
  | p :: l => p :: blockX id l
def Out.codes : Option Out → Option (List (XR × XE))
  | some (.code l) => some l
  | _ => none
def itOk (n : Nat) : List (XR × XE) → Bool
  | [] => true
  | (.exit _, _) :: _ => false
  | (_, y) :: l => (match y.gh with | .wh false true (.t (.v (.int .i64 (.ofNat i)))) => decide (i = n) | .wh false true .junk => true | _ => false) && itOk n l
def itStart (ts : List DV) (nt : Nat) : XE := ⟨.yl :: ts ++ List.replicate (nt - (ts.length + 1)) .junk, [(.yl, none)], gst (some 0), []⟩
/-- What a function that is ranged over hands out. -/
def xiter (T : FuncId → Option XFn) (go : Task → Option Out) (f : FuncId) (ts : List DV) : Option (List (List Tree)) :=
  match T f with
  | some fn => match go (.code .coll fn.itc (itStart ts fn.nt)) with
    | some (.code [(_, y)]) => match go (.code (.ver y.gl) fn.itc (itStart ts fn.nt)) with
      | some (.code l) => if itOk y.gl.length l = true ∧ ts.length + 1 ≤ fn.nt ∧ fn.nt ≤ GH ∧ fn.res.isEmpty = true then some y.gl else none
      | _ => none
    | _ => none
  | none => none
def xround (x : XE) (S : List Nm) (gs : List (Nat × TypeId × Tree)) (ps : List Nat) (t : List Tree) (cur : XE) : XE :=
  { tm := ((ps.zip t).foldl (fun tm (p, v) => tm.set p (.t v)) (x.tm.map (DV.ren (inRen S gs)))), sl := cur.sl, gh := x.gh.ren (inRen S gs), gl := x.gl }
def headOk (p : Prep) (y : XE) : Bool := (List.range p.rows.length).all (fun i => y.env.used (.arg i)) && p.gs.all fun q => y.env.used (.glob q.1)
def rounds (go : Task → Option Out) (a b : SCode) (p : Prep) (x : XE) (ps : List Nat) (fin : XR → XE → Option (XR × XE)) : List (List Tree) → XE → Option (XR × XE)
  | [], cur => fin .norm cur
  | t :: ts, cur => match go (.code .no a (xround x p.S p.gs ps t cur)) with
    | some (.code [(.norm, y)]) => match go (.code .no b y) with
      | some (.code [(e, z)]) => match e with
        | .norm => (match atHead z with | some z' => if headOk p z' = true then rounds go a b p x ps fin ts z' else none | none => none)
        | e => fin e z
      | _ => none
    | _ => none
def rdone (p : Prep) (x : XE) (e : XR) (z : XE) : Option (XR × XE) :=
  match fin3 p.S.length z .junk with
  | some q =>
    let d := 1000000 + x.sl.length
    let k' : Ct := ⟨[], [], [], .junk, q.rows', q.new⟩
    if (List.range q.new.length).all (fun j => !x.env.used (.loc d j)) = true then some (e, x.upd (outUps p.S d k' ++ frz x.env p.F)) else none
  | none => none
def xrange (T : FuncId → Option XFn) (go : Task → Option Out) (g : Operand) (ps : List Nat) (a b : SCode) (x : XE) : Option (XR × XE) :=
  match x.env.ev g with
  | .fn f caps => match x.env.viewps caps with
    | some (ts, F) => match xiter T go f ts with
      | some xs => match prepS x (((x.sl.filter fun q => q.2.isSome && !q.1.isGlob && !F.contains q.1).map (·.1))) [] with
        | some p0 => let p : Prep := { p0 with F := F }
          if ps.all (fun q => decide (q < x.tm.length ∧ q ≠ GH)) = true ∧ (xs.all fun t => decide (t.length = ps.length)) = true ∧ (F.all fun s => (x.env.slots s).isSome && !p0.S.contains s) = true then
            rounds go a b p x ps (rdone p x) xs ⟨[], p.sl, .junk, []⟩
          else none
        | none => none
      | none => none
    | none => none
  | _ => none
def step (P : Program) (T : FuncId → Option XFn) (O : FuncId → List Tree → Option (DV × List Row)) (go : Task → Option Out) : Task → Option Out
  | .call f ds dst x => (xcall T O go f ds dst x).map .call
  | .code m s x =>
    let call : CallX := fun f ds dst x => match go (.call f ds dst x) with | some (.call r) => some r | _ => none
    match s with
    | .skip => some (.code [(.norm, x)])
    | .region ops => (xops P call m [] 0 [] ops x).map fun l => .code (l.map fun y => (.norm, y))
    | .drawn ops pr => if pr.isEmpty = true then none else (xops P call .no pr 0 [] ops x).map fun l => .code (l.map fun y => (.norm, y))
    | .seq a b => match Out.codes (go (.code m a x)) with | some l => (seqX (fun y => Out.codes (go (.code m b y))) l).map .code | none => none
    | .cond t a b => match x.env.ev t with | .t (.v (.bool v)) => go (.code m (bif v then a else b) x) | _ => none
    | .block id b => (Out.codes (go (.code m b x))).map fun l => .code (blockX id l)
    | .loop b => match atHead x with
      | some y => match Out.codes (go (.code m b y)) with | some l => (seqX (fun z => Out.codes (go (.code m (.loop b) z))) l).map .code | none => none
      | none => none
    | .exit id => some (.code [(.exit id, x)])
    | .ret => some (.code [(.ret, x)])
    | .rangef g ps a b => (xrange T go g ps a b x).map fun q => .code [q]
    | .stuck => none
def xgo (P : Program) (T : FuncId → Option XFn) (O : FuncId → List Tree → Option (DV × List Row)) : Nat → Task → Option Out
  | 0, _ => none
  | n + 1, t => step P T O (xgo P T O n) t
end Go.Wt
/- The executor does right: regions. -/
namespace Go.Wt
open Go.RowKit
variable {P : Program} {C : CallOk} {E : Env}
/-- W hangs on what follows. -/
def YMono (C : CallOk) : Prop := ∀ E ds (Kb Kb' : Bool → Env → Prop), (∀ b E, Kb b E → Kb' b E) → C.yl E ds Kb → C.yl E ds Kb'
theorem OpW_mono {pr : List (Nat × Nat)} {ix : Nat} {log : List Log} {dst : Option Nat} {E : Env} {n n' : Res → Prop} {op : SOp} (hn : ∀ r, n r → n' r) (h : OpW P C pr ix log dst E n op) : OpW P C pr ix log dst E n' op := by
  unfold OpW at *
  split at h
  · obtain ⟨r, h1, h2, h3⟩ := h; exact ⟨r, h1, h2, hn r h3⟩
  · obtain ⟨f, pre, caps, r, h1, h2, h3, h4⟩ := h; exact ⟨f, pre, caps, r, h1, h2, h3, hn r h4⟩
  · obtain ⟨r, h1, h2, h3⟩ := h; exact ⟨r, h1, h2, hn r h3⟩
theorem YldW_mono (hY : YMono C) {E : Env} {dst : Option Nat} {n n' : Env → Prop} {op : SOp} (hn : ∀ E, n E → n' E) (h : YldW P C E dst n op) : YldW P C E dst n' op := by
  unfold YldW at *
  split at h
  · exact ⟨h.1, hY _ _ _ _ (fun b E => hn _) h.2⟩
  · obtain ⟨neq, h1, h2, h3, h4, h5⟩ := h
    exact ⟨neq, h1, h2, h3, h4, fun b hb => hn _ (h5 b hb)⟩
  · exact h
theorem OpsW_mono (hY : YMono C) {pr : List (Nat × Nat)} {K K' : Env → Prop} (hK : ∀ E, K E → K' E) : ∀ (l : List SOper) (ix : Nat) (log : List Log) (E : Env), OpsW P C pr ix log l E K → OpsW P C pr ix log l E K'
  | [], ix, log, E, h => hK E h
  | o :: l, ix, log, E, h => by
    unfold OpsW at *
    have hn : ∀ r : Res, OpsW P C pr (ix + 1) (addLog pr ix r.rd (r.ups.map (·.1)) log) l (r.apply o.dst E) K → OpsW P C pr (ix + 1) (addLog pr ix r.rd (r.ups.map (·.1)) log) l (r.apply o.dst E) K' := fun r => OpsW_mono hY hK l _ _ _
    have hy : ∀ E', OpsW P C pr (ix + 1) log l E' K → OpsW P C pr (ix + 1) log l E' K' := fun E' => OpsW_mono hY hK l _ _ _
    have hone : (OpW P C pr ix log o.dst E (fun r => OpsW P C pr (ix + 1) (addLog pr ix r.rd (r.ups.map (·.1)) log) l (r.apply o.dst E) K) o.op ∨ (pr = [] ∧ YldW P C E o.dst (fun E' => OpsW P C pr (ix + 1) log l E' K) o.op)) →
        (OpW P C pr ix log o.dst E (fun r => OpsW P C pr (ix + 1) (addLog pr ix r.rd (r.ups.map (·.1)) log) l (r.apply o.dst E) K') o.op ∨ (pr = [] ∧ YldW P C E o.dst (fun E' => OpsW P C pr (ix + 1) log l E' K') o.op)) := by
      rintro (h | ⟨h1, h2⟩)
      · exact .inl (OpW_mono hn h)
      · exact .inr ⟨h1, YldW_mono hY hy h2⟩
    simp only at h ⊢
    split at h
    · exact hone h
    · rcases h with ⟨h0, h⟩ | ⟨b, h1, h2⟩
      · exact .inl ⟨h0, OpsW_mono hY hK l _ _ _ h⟩
      refine .inr ⟨b, h1, ?_⟩
      rcases h2 with h2 | h2
      · exact .inl ⟨fun hb => hone (h2.1 hb), fun hb => OpsW_mono hY hK l _ _ _ (h2.2 hb)⟩
      · exact .inr (OpW_mono (fun r hr => ⟨hr.1, OpsW_mono hY hK l _ _ _ hr.2⟩) h2)
theorem thenK_mono {n n' : Env → Prop} {K K' : Exit → Env → Prop} (hn : ∀ E, n E → n' E) (hK : ∀ e E, K e E → K' e E) : ∀ e E, thenK n K e E → thenK n' K' e E := by
  intro e E h
  cases e <;> first | exact hn _ h | exact hK _ _ h
theorem RDone_mono {E : Env} {S F : List Nm} {d : Nat} {K K' : Env → Prop} (hK : ∀ E, K E → K' E) {E3 : Env} (h : RDone E S F d K E3) : RDone E S F d K' E3 := by
  obtain ⟨k', ρ, h1, h2, h3, h4⟩ := h
  exact ⟨k', ρ, h1, h2, h3, hK _ h4⟩
theorem noY_mono (C : CallOk) : YMono C.noY := fun _ _ _ _ _ h => h.elim
theorem W_mono : ∀ (s : SCode) (C : CallOk) (_ : YMono C) (E : Env) (K K' : Exit → Env → Prop), (∀ e E, K e E → K' e E) → W P C s E K → W P C s E K'
  | .skip, _, _, E, K, K', hK, h => hK _ _ h
  | .region ops, _, hY, E, K, K', hK, h => OpsW_mono hY (fun E => hK .normal E) _ _ _ _ h
  | .drawn ops pr, _, hY, E, K, K', hK, h => ⟨h.1, OpsW_mono hY (fun E => hK .normal E) _ _ _ _ h.2⟩
  | .seq a b, C, hY, E, K, K', hK, h => W_mono a C hY E _ _ (thenK_mono (fun E' hE => W_mono b C hY E' K K' hK hE) hK) h
  | .cond c x y, C, hY, E, K, K', hK, h => by
    obtain ⟨b, h1, h2, h3⟩ := h
    exact ⟨b, h1, fun hb => W_mono x C hY E K K' hK (h2 hb), fun hb => W_mono y C hY E K K' hK (h3 hb)⟩
  | .block id b, C, hY, E, K, K', hK, h => by
    refine W_mono b C hY E _ _ (fun e E hE => ?_) h
    cases e with
    | exit i =>
      have hE : if i = id then K .normal E else K (.exit i) E := hE
      show if i = id then K' .normal E else K' (.exit i) E
      split
      · rename_i hi; rw [if_pos hi] at hE; exact hK _ _ hE
      · rename_i hi; rw [if_neg hi] at hE; exact hK _ _ hE
    | _ => exact hK _ _ hE
  | .loop b, C, hY, E, K, K', hK, h => by
    obtain ⟨I, m, h1, h2⟩ := h
    exact ⟨I, m, h1, fun E1 hI => W_mono b C hY E1 _ _ (thenK_mono (fun _ h => h) hK) (h2 E1 hI)⟩
  | .exit id, _, _, E, K, K', hK, h => hK _ _ h
  | .ret, _, _, E, K, K', hK, h => hK _ _ h
  | .stuck, _, _, _, _, _, _, h => h
  | .rangef g ps a b, C, hY, E, K, K', hK, h => by
    obtain ⟨f, caps, ts, F, xs, S, k, d, I, h1, h2, h3, h4, h5, h6, h7, h8⟩ := h
    refine ⟨f, caps, ts, F, xs, S, k, d, I, h1, h2, h3, h4, h5, h6, fun i x E1 hx hI hh => ?_, fun E1 hI hh => RDone_mono (hK .normal) (h8 E1 hI hh)⟩
    refine W_mono a C.noY (noY_mono C) _ _ _ (fun e E2 hE => ⟨hE.1, ?_⟩) (h7 i x E1 hx hI hh)
    refine W_mono b C.noY (noY_mono C) _ _ _ (fun e E3 hE => ?_) hE.2
    cases e with
    | normal => exact hE
    | ret => exact RDone_mono (hK .ret) hE
    | exit id => exact RDone_mono (hK (.exit id)) hE
    | _ => exact hE
/-- Rounds that are told one by one make a loop. -/
theorem loop_unr (hY : YMono C) {b : SCode} {K : Exit → Env → Prop} {n : Nat} (h : Unr P C b K n E) : W P C (.loop b) E K := by
  cases n with
  | zero => exact h.elim
  | succ n =>
    obtain ⟨ρ, h1, h2⟩ := h
    let Q : Nat → Env → Prop := fun k E1 => W P C b E1 (thenK (Unr P C b K k) K)
    refine ⟨fun E1 => ∃ k, Q k E1, fun E1 => leastOf fun k => Q k E1, ⟨ρ, h1, n, h2⟩, fun E1 hI => ?_⟩
    have hl := leastOf_spec hI
    refine W_mono b C hY E1 _ _ (thenK_mono (fun E' hU => ?_) (fun _ _ h => h)) hl.1
    generalize hk : (leastOf fun k => Q k E1) = k at hU
    cases k with
    | zero => exact hU.elim
    | succ k =>
      obtain ⟨ρ', h3, h4⟩ := hU
      exact ⟨ρ', h3, ⟨k, h4⟩, Nat.lt_of_le_of_lt ((leastOf_spec ⟨k, h4⟩).2 k h4) (Nat.lt_of_lt_of_eq (Nat.lt_succ_self k) hk.symm)⟩
/-! regions -/
theorem seqL_sound {f : XE → Option (List XE)} : ∀ {l r : List XE}, seqL f l = some r → ∀ y ∈ l, ∃ ry, f y = some ry ∧ ∀ z ∈ ry, z ∈ r
  | [], r, h, y, hy => by simp at hy
  | x :: l, r, h, y, hy => by
    simp only [seqL] at h
    split at h
    · rename_i a b ha hb
      simp only [Option.some.injEq] at h
      subst h
      rcases List.mem_cons.1 hy with rfl | hy
      · exact ⟨a, ha, fun z hz => List.mem_append.2 (.inl hz)⟩
      · obtain ⟨ry, h1, h2⟩ := seqL_sound hb y hy
        exact ⟨ry, h1, fun z hz => List.mem_append.2 (.inr (h2 z hz))⟩
    · simp at h
theorem xop_opw {call : CallX} (hC : C.cl = CtrCl) (hcall : ∀ f ds dst x r, call f ds dst x = some r → CtrCl P x.env f ds dst r) {x : XE} {pr : List (Nat × Nat)} {ix : Nat} {log : List Log} {dst : Option Nat} {op : SOp} {r : Res} (h : xop P call x dst op = some r) (hok : okLog pr ix log r = true)
    {n : Res → Prop} (hn : n r) : OpW P C pr ix log dst x.env n op := by
  unfold xop at h
  unfold OpW
  split at h
  · exact ⟨r, by rw [hC]; exact hcall _ _ _ _ _ h, hok, hn⟩
  · split at h
    · rename_i f pre caps hc
      exact ⟨f, pre, caps, r, hc, by rw [hC]; exact hcall _ _ _ _ _ h, hok, hn⟩
    · simp at h
  · rename_i op h1 h2
    split
    · exact absurd rfl (h1 _ _)
    · exact absurd rfl (h2 _ _)
    · exact ⟨r, h, hok, hn⟩
theorem env_gh (x : XE) (g : DV) : XE.env { x with gh := g } = x.env.put GH g := by
  refine Env.ext' (funext fun t => ?_) rfl rfl
  show (if t = GH then g else x.tm.getD t .junk) = if t = GH then g else (if t = GH then x.gh else x.tm.getD t .junk)
  by_cases ht : t = GH <;> simp [ht]
theorem isYl_eq {d : DV} (h : isYl d = true) : d = .yl := by cases d <;> simp [isYl] at h; rfl
theorem xops_sound {call : CallX} {m : YM} (hC : C.cl = CtrCl) (hm : ∀ xs, m = .ver xs → C.yl = YL xs) (hcoll : m ≠ .coll) (hcall : ∀ f ds dst x r, call f ds dst x = some r → CtrCl P x.env f ds dst r) {pr : List (Nat × Nat)} {K : Env → Prop} :
    ∀ (ops : List SOper) (ix : Nat) (log : List Log) (x : XE) (l : List XE), xops P call m pr ix log ops x = some l → (∀ y ∈ l, K y.env) → OpsW P C pr ix log ops x.env K
  | [], ix, log, x, l, h, hK => by
    simp only [xops, Option.some.injEq] at h
    subst h
    exact hK x (by simp)
  | o :: ops, ix, log, x, l, h, hK => by
    have hrun : (match yargs x pr o.op with
      | some ds => match xyld m x o.dst ds with | some l => seqL (xops P call m pr (ix + 1) log ops) l | none => none
      | none => match xop P call x o.dst o.op with
        | some r => if okLog pr ix log r = true ∧ x.fits o.dst = true then xops P call m pr (ix + 1) (addLog pr ix r.rd (r.ups.map (·.1)) log) ops (x.apply r o.dst) else none
        | none => none) = some l → (OpW P C pr ix log o.dst x.env (fun r => OpsW P C pr (ix + 1) (addLog pr ix r.rd (r.ups.map (·.1)) log) ops (r.apply o.dst x.env) K) o.op ∨
          (pr = [] ∧ YldW P C x.env o.dst (fun E' => OpsW P C pr (ix + 1) log ops E' K) o.op)) := by
      intro h
      split at h
      · rename_i ds hds
        split at h
        · rename_i ys hys
          right
          unfold yargs at hds
          split at hds
          · rename_i y args hop
            split at hds
            · rename_i hc
              simp only [Option.some.injEq] at hds
              subst hds
              refine ⟨by simpa using hc.2, ?_⟩
              rw [hop]
              refine ⟨isYl_eq hc.1, ?_⟩
              cases m with
              | no => simp [xyld] at hys
              | coll => exact absurd rfl hcoll
              | ver xs =>
                rw [hm xs rfl]
                simp only [xyld] at hys
                split at hys
                · rename_i i hgh
                  split at hys
                  · rename_i ts hts
                    split at hys
                    · rename_i hc2
                      simp only [Option.some.injEq] at hys
                      subst hys
                      obtain ⟨r1, h1, h2⟩ := seqL_sound h _ (List.mem_cons_self)
                      obtain ⟨r2, h3, h4⟩ := seqL_sound h _ (List.mem_cons_of_mem _ List.mem_cons_self)
                      have k1 := xops_sound hC hm hcoll hcall ops _ _ _ _ h1 (fun z hz => hK z (h2 z hz))
                      have k2 := xops_sound hC hm hcoll hcall ops _ _ _ _ h3 (fun z hz => hK z (h4 z hz))
                      rw [env_putO _ (by cases hdd : o.dst <;> first | rfl | (have := hc2.2; rw [hdd] at this; exact this)), env_gh] at k1 k2
                      exact ⟨i, ts, by show (if GH = GH then x.gh else x.tm.getD GH .junk) = gst (some i); rw [if_pos rfl, hgh]; rfl, hts, eqDs_eq _ _ hc2.1, k1, k2⟩
                    · simp at hys
                  · simp at hys
                · simp at hys
            · simp at hds
          · simp at hds
        · simp at h
      · split at h
        · rename_i r hr
          split at h
          · rename_i hc
            have k := xops_sound hC hm hcoll hcall ops _ _ _ _ h hK
            rw [env_apply _ hc.2] at k
            exact .inl (xop_opw hC hcall hr hc.1 k)
          · simp at h
        · simp at h
    unfold xops at h
    unfold OpsW
    simp only at h ⊢
    split at h
    · rename_i hg
      rw [hg]
      exact hrun h
    · rename_i t want hg
      rw [hg]
      split at h
      · rename_i b hb
        refine .inr ⟨b, hb, .inl ?_⟩
        split at h
        · rename_i hbw
          exact ⟨fun _ => hrun h, fun hf => by rw [hbw] at hf; cases hf⟩
        · rename_i hbw
          split at h
          · rename_i hfit
            have k := xops_sound hC hm hcoll hcall ops _ _ _ _ h hK
            rw [env_putO _ hfit] at k
            exact ⟨fun hf => absurd hf hbw, fun _ => k⟩
          · simp at h
      · rename_i hb
        split at h
        · rename_i hfit
          have k := xops_sound hC hm hcoll hcall ops _ _ _ _ h hK
          rw [env_putO _ hfit] at k
          exact .inl ⟨hb, k⟩
        · simp at h
      · simp at h
end Go.Wt
/- The executor does right: calls. -/
namespace Go.Wt
open Go.RowKit
variable {P : Program} {C : CallOk} {E : Env}
/-- A function's code. -/
def XOk (P : Program) (f : FuncId) (fn : XFn) : Prop := ∃ Fn c, P.funcs[f]? = some Fn ∧ (Fn.name == "runtime.NumGoroutine") = false ∧ Fn.body = some c ∧ compile P Fn.ntmps true c = some fn.code ∧ compile P Fn.ntmps false c = some fn.itc ∧ cresults P Fn = some fn.res ∧ fn.nt = Fn.ntmps
def Cm : YM → CallOk
  | .ver xs => CtrY (YL xs)
  | _ => Ctr
theorem xglobs_spec (sl0 : List (Nm × Option Row)) : ∀ (l : List (Nm × Option Row)), ∀ q ∈ xglobs sl0 l, sl0.lookup (.glob q.1) = some (some (.box q.2.1 (.t q.2.2) true))
  | [], q, h => by simp [xglobs] at h
  | (.glob g, r) :: l, q, h => by
    simp only [xglobs] at h
    split at h
    · rename_i e t hl
      rcases List.mem_cons.1 h with rfl | h
      · exact hl
      · exact xglobs_spec sl0 l q h
    · exact xglobs_spec sl0 l q h
  | (.arg _, _) :: l, q, h => xglobs_spec sl0 l q h
  | (.loc _ _, _) :: l, q, h => xglobs_spec sl0 l q h
  | (.head _ _, _) :: l, q, h => xglobs_spec sl0 l q h
  | (.yl, _) :: l, q, h => xglobs_spec sl0 l q h
theorem rowsIn_spec {x : XE} {ρ : List (Nm × Nm)} : ∀ {S : List Nm} {rows : List Row}, rowsIn x ρ S = some rows → rows.length = S.length ∧ ∀ (i : Nat) (s : Nm), S[i]? = some s → ∃ r, x.env.slots s = some r ∧ rows[i]? = some (r.ren ρ)
  | [], rows, h => by simp [rowsIn] at h; subst h; simp
  | s :: S, rows, h => by
    simp only [rowsIn] at h
    split at h
    · rename_i r m hr hm
      simp only [Option.some.injEq] at h
      subst h
      obtain ⟨h1, h2⟩ := rowsIn_spec hm
      refine ⟨by simp [h1], fun i u hi => ?_⟩
      cases i with
      | zero => simp at hi; subst hi; exact ⟨r, hr, rfl⟩
      | succ i => simpa using h2 i u (by simpa using hi)
    · simp at h
theorem dsIn_spec {x : XE} {ρ : List (Nm × Nm)} {S : List Nm} : ∀ (ds : List DV), (dsIn x ρ S ds).1.length = ds.length ∧ ∀ (i : Nat) (d d0 : DV), ds[i]? = some d → (dsIn x ρ S ds).1[i]? = some d0 → d0 = d.ren ρ ∨ ∃ t rd, x.env.view d = some (t, rd) ∧ d0 = .t t ∧ ∀ s ∈ rd, s ∈ (dsIn x ρ S ds).2
  | [] => ⟨rfl, fun i d d0 h => by simp at h⟩
  | d :: ds => by
    obtain ⟨h1, h2⟩ := dsIn_spec (x := x) (ρ := ρ) (S := S) ds
    simp only [dsIn]
    split
    · rename_i t rd hv
      have hv : x.env.view d = some (t, rd) := by
        split at hv
        · simp at hv
        · exact hv
      refine ⟨by simp [h1], fun i u u0 hi hi0 => ?_⟩
      cases i with
      | zero =>
        simp at hi hi0
        subst hi hi0
        exact .inr ⟨t, rd, hv, rfl, fun s hs => List.mem_append.2 (.inl hs)⟩
      | succ i =>
        rcases h2 i u u0 (by simpa using hi) (by simpa using hi0) with h3 | ⟨t', rd', h3, h4, h5⟩
        · exact .inl h3
        · exact .inr ⟨t', rd', h3, h4, fun s hs => List.mem_append.2 (.inr (h5 s hs))⟩
    · refine ⟨by simp [h1], fun i u u0 hi hi0 => ?_⟩
      cases i with
      | zero => simp at hi hi0; subst hi hi0; exact .inl rfl
      | succ i => exact h2 i u u0 (by simpa using hi) (by simpa using hi0)
theorem prepS_spec {x : XE} {S : List Nm} {ds : List DV} {p : Prep} (h : prepS x S ds = some p) (d : DV) (rows' : List (Option Row)) (new : List Row) : p.S = S ∧ Meets x.env ds ⟨p.gs, p.ds, p.rows, d, rows', new⟩ p.S p.F := by
  simp only [prepS] at h
  split at h
  · rename_i rows hrows
    split at h
    · rename_i hc
      obtain ⟨h1, h2, h3, h4, h5⟩ := hc
      simp only [Option.some.injEq] at h
      subst h
      obtain ⟨h6, h7⟩ := rowsIn_spec hrows
      obtain ⟨h8, h9⟩ := dsIn_spec (x := x) (ρ := inRen S (xglobs x.sl x.sl)) (S := S) ds
      simp only [List.all_eq_true, Bool.and_eq_true, Bool.not_eq_true', decide_eq_true_eq] at h2 h4 h5
      have hg := xglobs_spec x.sl x.sl
      refine ⟨rfl, h1, fun s hs => ⟨(h2 s hs).1.1, fun hf => ?_⟩, fun s hs => (h2 s hs).1.2, fun q hq => ?_, fun q hq => ?_, h3, h6, h7, h5, h8.symm, h9, h4⟩
      · have := (h2 s hs).2
        rw [List.contains_iff_mem.2 hf] at this; cases this
      · show (x.sl.lookup (.glob q.1)).join = _
        rw [hg q hq]; rfl
      · show (x.sl.lookup (.glob q.1)).isSome = true
        rw [hg q hq]; rfl
    · simp at h
  · simp at h
theorem lookup_args (rows : List Row) : ∀ (k : Nat) (s : Nm), ((rows.zipIdx k).map fun q => (Nm.arg q.2, some q.1)).lookup s = match s with | .arg i => if k ≤ i then (rows[i - k]?).map some else none | _ => none := by
  induction rows with
  | nil => intro k s; cases s <;> simp
  | cons r rows ih =>
    intro k s
    simp only [List.zipIdx_cons, List.map_cons, List.lookup]
    cases s with
    | arg i =>
      by_cases hi : i = k
      · subst hi; simp
      · have hb : (Nm.arg i == Nm.arg k) = false := by simpa using hi
        rw [hb]
        simp only [ih]
        by_cases hk : k ≤ i
        · have h1 : k + 1 ≤ i := by omega
          have h2 : i - k = (i - (k + 1)) + 1 := by omega
          rw [if_pos h1, if_pos hk, h2]; simp
        · rw [if_neg (by omega), if_neg hk]
    | _ =>
      have hb : ∀ s : Nm, (∀ i, s ≠ .arg i) → (s == Nm.arg k) = false := fun s hs => by simpa using hs k
      rw [hb _ (by simp)]
      simp only [ih]
theorem lookup_globs (gs : List (Nat × TypeId × Tree)) (s : Nm) : (gs.map fun q => (Nm.glob q.1, some (Row.box q.2.1 (.t q.2.2) true))).lookup s = match s with | .glob g => (gs.lookup g).map fun p => some (.box p.1 (.t p.2) true) | _ => none := by
  induction gs with
  | nil => cases s <;> rfl
  | cons q gs ih =>
    simp only [List.map_cons, List.lookup]
    cases s with
    | glob g =>
      by_cases hg : g = q.1
      · subst hg; simp
      · have hb : (Nm.glob g == Nm.glob q.1) = false := by simpa using hg
        have hb2 : (g == q.1) = false := by simpa using hg
        simp only [hb, hb2]
        exact ih
    | _ =>
      have hb : ∀ s : Nm, (∀ i, s ≠ .glob i) → (s == Nm.glob q.1) = false := fun s hs => by simpa using hs q.1
      rw [hb _ (by simp)]
      exact ih
theorem sl_lookup (p : Prep) (s : Nm) : (p.sl.lookup s) = match s with | .arg i => (p.rows[i]?).map some | .glob g => (p.gs.lookup g).map fun q => some (.box q.1 (.t q.2) true) | _ => none := by
  unfold Prep.sl
  rw [lookup_app, lookup_args, lookup_globs]
  cases s with
  | arg i => simp only [Nat.zero_le, if_true, Nat.sub_zero]; cases p.rows[i]? <;> rfl
  | _ => rfl
theorem start_env (p : Prep) {nt : Nat} (h1 : p.ds.length ≤ nt) (h2 : nt ≤ GH) (d : DV) (rows' : List (Option Row)) (new : List Row) : (p.start nt).env = (Ct.mk p.gs p.ds p.rows d rows' new).env := by
  refine Env.ext' (funext fun t => ?_) (funext fun s => ?_) (funext fun s => ?_)
  · show (if t = GH then DV.junk else (p.ds ++ List.replicate (nt - p.ds.length) DV.junk).getD t .junk) = p.ds.getD t .junk
    by_cases ht : t = GH
    · rw [if_pos ht, List.getD_eq_getElem?_getD, List.getElem?_eq_none (by omega)]; rfl
    · rw [if_neg ht]
      simp only [List.getD_eq_getElem?_getD, List.getElem?_append]
      split
      · rfl
      · rename_i hlt
        rw [List.getElem?_eq_none (l := p.ds) (by omega), List.getElem?_replicate]
        split <;> rfl
  · show ((p.start nt).sl.lookup s).join = ctSlots p.gs (p.rows.map some) [] s
    show (p.sl.lookup s).join = _
    rw [sl_lookup]
    cases s with
    | arg i => simp [ctSlots]
    | glob g => simp only [ctSlots]; cases p.gs.lookup g <;> rfl
    | loc d i => simp [ctSlots]
    | _ => rfl
  · show (p.sl.lookup s).isSome = _
    rw [sl_lookup]
    cases s with
    | arg i =>
      simp only [Ct.env, Ct.used0]
      by_cases hi : i < p.rows.length <;> simp [hi]
    | glob g => simp only [Ct.env, Ct.used0]; cases p.gs.lookup g <;> rfl
    | _ => rfl
theorem slotL_spec {y : XE} {ρ : List (Nm × Nm)} : ∀ {l : List Nm} {m : List Row}, slotL y ρ l = some m → m.length = l.length ∧ ∀ (i : Nat) (s : Nm), l[i]? = some s → ∃ r, y.env.slots s = some r ∧ m[i]? = some (r.ren ρ)
  | [], m, h => by simp [slotL] at h; subst h; simp
  | s :: l, m, h => by
    simp only [slotL] at h
    split at h
    · rename_i r m' hr hm
      simp only [Option.some.injEq] at h
      subst h
      obtain ⟨h1, h2⟩ := slotL_spec hm
      refine ⟨by simp [h1], fun i u hi => ?_⟩
      cases i with
      | zero => simp at hi; subst hi; exact ⟨r, hr, rfl⟩
      | succ i => simpa using h2 i u (by simpa using hi)
    · simp at h
theorem flip_mem {ρ : List (Nm × Nm)} (hρ : okRen ρ = true) (s s' : Nm) : (s, s') ∈ ρ ↔ (flip ρ).lookup s' = some s := by
  unfold okRen at hρ
  simp only [Bool.and_eq_true, decide_eq_true_eq] at hρ
  have hfl : ((flip ρ).map (·.1)).Nodup := by simpa [flip, List.map_map, Function.comp_def] using hρ.1.2
  constructor
  · intro hm
    exact lookup_of_mem hfl (by simp only [flip, List.mem_map]; exact ⟨_, hm, rfl⟩)
  · intro hl
    have := lookup_mem hl
    simp only [flip, List.mem_map] at this
    obtain ⟨⟨x, y⟩, h1, h2⟩ := this
    simp only [Prod.mk.injEq] at h2
    obtain ⟨rfl, rfl⟩ := h2
    exact h1
theorem fin3_spec {n : Nat} {y : XE} {d : DV} {q : Fin3} (h : fin3 n y d = some q) : okRen q.ρ = true ∧ (y.env.canon q.ρ).slots = ctSlots [] q.rows' q.new := by
  simp only [fin3] at h
  generalize hns : ((reach y.sl 100000 (((List.range n).map Nm.arg).filter (fun s => y.env.used s) ++ d.names) []).filter fun s => !s.fixed && (y.env.slots s).isSome) = ns at h
  generalize hargs : (((List.range n).map Nm.arg).filter fun s => y.env.used s) = args at h hns
  generalize hρ : (args.map (fun s => (s, s)) ++ ns.zipIdx.map (fun p => (p.1, Nm.loc 0 p.2))) = ρ at h
  split at h
  · rename_i new hnew
    split at h
    · rename_i hok
      simp only [Option.some.injEq] at h
      subst h
      refine ⟨hok, ?_⟩
      obtain ⟨h1, h2⟩ := slotL_spec hnew
      have hmem : ∀ s s', (s, s') ∈ ρ ↔ (s = s' ∧ ∃ i, i < n ∧ s = .arg i ∧ y.env.used s = true) ∨ ∃ j : Nat, ns[j]? = some s ∧ s' = .loc 0 j := by
        intro s s'
        rw [← hρ, List.mem_append, List.mem_map, List.mem_map]
        constructor
        · rintro (⟨u, hu, he⟩ | ⟨⟨u, j⟩, hu, he⟩)
          · simp only [Prod.mk.injEq] at he
            obtain ⟨rfl, rfl⟩ := he
            rw [← hargs, List.mem_filter, List.mem_map] at hu
            obtain ⟨⟨i, hi, rfl⟩, hu⟩ := hu
            exact .inl ⟨rfl, i, List.mem_range.1 hi, rfl, hu⟩
          · rw [List.mem_zipIdx_iff_getElem?] at hu
            simp only [Prod.mk.injEq] at he
            obtain ⟨rfl, rfl⟩ := he
            exact .inr ⟨j, hu, rfl⟩
        · rintro (⟨rfl, i, hi, rfl, hu⟩ | ⟨j, hj, rfl⟩)
          · refine .inl ⟨_, ?_, rfl⟩
            rw [← hargs, List.mem_filter, List.mem_map]
            exact ⟨⟨i, List.mem_range.2 hi, rfl⟩, hu⟩
          · exact .inr ⟨(s, j), List.mem_zipIdx_iff_getElem?.2 hj, rfl⟩
      funext s'
      show (match (flip ρ).lookup s' with | some s0 => (y.env.slots s0).map (Row.ren ρ) | none => none) = _
      have hnone : (∀ s, (s, s') ∉ ρ) → (flip ρ).lookup s' = none := by
        intro hn
        cases hl : (flip ρ).lookup s' with
        | none => rfl
        | some s => exact absurd ((flip_mem hok s s').2 hl) (hn s)
      cases s' with
      | arg i =>
        show _ = ((((List.range n).map fun i => (y.env.slots (.arg i)).map (Row.ren ρ))[i]?).join)
        by_cases hin : i < n ∧ y.env.used (.arg i) = true
        · rw [(flip_mem hok (.arg i) (.arg i)).1 ((hmem _ _).2 (.inl ⟨rfl, i, hin.1, rfl, hin.2⟩))]
          simp [List.getElem?_map, hin.1]
        · rw [hnone fun s hs => ?_]
          · by_cases hi : i < n
            · have hu : y.env.used (.arg i) = false := by
                cases hb : y.env.used (.arg i) with
                | true => exact absurd ⟨hi, hb⟩ hin
                | false => rfl
              have : y.env.slots (.arg i) = none := by
                have hu : ((y.sl.lookup (.arg i)).isSome) = false := hu
                show (y.sl.lookup (.arg i)).join = none
                cases hl : y.sl.lookup (.arg i) with
                | none => rfl
                | some _ => rw [hl] at hu; simp at hu
              simp [List.getElem?_map, hi, this]
            · simp [List.getElem?_map, List.getElem?_eq_none (show (List.range n).length ≤ i by simpa using hi)]
          · rcases (hmem _ _).1 hs with ⟨rfl, i', hi', he, hu⟩ | ⟨j, _, he⟩
            · simp at he; subst he; exact hin ⟨hi', hu⟩
            · cases he
      | glob g =>
        rw [hnone fun s hs => ?_]
        · rfl
        · rcases (hmem _ _).1 hs with ⟨rfl, i', _, he, _⟩ | ⟨j, _, he⟩ <;> cases he
      | loc e j =>
        show _ = if e = 0 then new[j]? else none
        by_cases he : e = 0
        · subst he
          rw [if_pos rfl]
          by_cases hj : j < ns.length
          · have hj' := List.getElem?_eq_getElem hj
            obtain ⟨r, h3, h4⟩ := h2 j _ hj'
            rw [(flip_mem hok _ _).1 ((hmem _ _).2 (.inr ⟨j, hj', rfl⟩)), h4]
            simp [h3]
          · rw [hnone fun s hs => ?_, List.getElem?_eq_none (by omega)]
            rcases (hmem _ _).1 hs with ⟨rfl, i', _, h5, _⟩ | ⟨j', h5, h6⟩
            · cases h5
            · simp at h6; subst h6; exact hj (List.getElem?_eq_some_iff.1 h5).1
        · rw [if_neg he, hnone fun s hs => ?_]
          rcases (hmem _ _).1 hs with ⟨rfl, i', _, h5, _⟩ | ⟨j', h5, h6⟩
          · cases h5
          · simp at h6; exact he h6.1
      | head l i =>
        rw [hnone fun s hs => ?_]
        · rfl
        · rcases (hmem _ _).1 hs with ⟨rfl, i', _, he, _⟩ | ⟨j, _, he⟩ <;> cases he
      | yl =>
        rw [hnone fun s hs => ?_]
        · rfl
        · rcases (hmem _ _).1 hs with ⟨rfl, i', _, he, _⟩ | ⟨j, _, he⟩ <;> cases he
    · simp at h
  · simp at h
/-- What the executor says of code. -/
def GoodCode (P : Program) (go : Task → Option Out) : Prop := ∀ m s x l, go (.code m s x) = some (.code l) → m ≠ .coll → ∀ K : Exit → Env → Prop, (∀ p ∈ l, K p.1.out p.2.env) → W P (Cm m) s x.env K
theorem xcall_sound (hm : P.follows .mixedOrders = true) {T : FuncId → Option XFn} {O : FuncId → List Tree → Option (DV × List Row)} (hT : ∀ f fn, T f = some fn → XOk P f fn) (hO : ∀ f ts d new, O f ts = some (d, new) → HoldsG P f ⟨[], ts.map .t, [], d, [], new⟩) {go : Task → Option Out} (hgo : GoodCode P go) {f : FuncId} {ds : List DV} {dst : Option Nat} {x : XE} {r : Res} (h : xcall T O go f ds dst x = some r) :
    CtrCl P x.env f ds dst r := by
  unfold xcall at h
  split at h
  · rename_i ts F d new hq
    split at hq
    · rename_i ts' F' hv
      simp only [Option.map_eq_some_iff, Prod.mk.injEq] at hq
      obtain ⟨⟨d', new'⟩, ho, rfl, rfl, rfl, rfl⟩ := hq
      split at h
      · rename_i hf
        simp only [Option.some.injEq] at h
        subst h
        have hnil : new' = [] := by simpa using hf.2
        subst hnil
        exact call_flat (hO f _ _ _ ho) hv hf.1
      · split at h
        · rename_i hn
          simp only [Option.some.injEq] at h
          subst h
          refine call_new (hO f _ _ _ ho) hv fun j hj => ?_
          simp only [List.all_eq_true, List.mem_range, Bool.not_eq_true'] at hn
          exact hn j hj
        · simp at h
    · simp at hq
  · split at h
    · rename_i fn hfn
      split at h
      · rename_i p hp
        split at h
        · rename_i hsz
          split at h
          · rename_i e y hrun
            have hfinish : ∀ d, (e = .norm ∨ e = .ret) → resV y.env fn.res = some d → finish p dst x y d = some r → CtrCl P x.env f ds dst r := by
              intro d he hd hf
              unfold finish at hf
              split at hf
              · rename_i q hq
                obtain ⟨hok, hsl⟩ := fin3_spec hq
                simp only at hf
                obtain ⟨Fn, c, h1, h2, h3, h4, h5, h6, h7⟩ := hT f fn hfn
                obtain ⟨_, hmeets⟩ := prepS_spec hp (y.env.outD q.ρ d) q.rows' q.new
                have hholds : HoldsG P f ⟨p.gs, p.ds, p.rows, y.env.outD q.ρ d, q.rows', q.new⟩ := by
                  refine holds_of ctr_sound ctr_local (fun _ _ _ h => h) (fun _ _ _ h => h) hm h1 h2 h3 h4 h6 _ (by rw [← h7]; exact hsz.1) ?_
                  have hw := hgo .no fn.code _ _ hrun (by simp) (Fin fn.res (Ends ⟨p.gs, p.ds, p.rows, y.env.outD q.ρ d, q.rows', q.new⟩)) (fun z hz => by
                    simp only [List.mem_singleton] at hz
                    subst hz
                    have : FinK (Ends ⟨p.gs, p.ds, p.rows, y.env.outD q.ρ d, q.rows', q.new⟩) y.env (resV y.env fn.res) := by
                      rw [hd]
                      exact .inl ⟨q.ρ, hok, hsl, rfl⟩
                    rcases he with rfl | rfl <;> exact this)
                  rw [start_env p hsz.1 hsz.2] at hw
                  exact hw
                refine ⟨_, p.S, p.F, hholds, hmeets, ?_⟩
                split at hf
                · rename_i hc
                  simp only [Option.some.injEq] at hf
                  subst hf
                  exact .inl ⟨by simpa using hc.1, by simpa using hc.2.1, hc.2.2, rfl⟩
                · split at hf
                  · rename_i hc
                    simp only [Option.some.injEq] at hf
                    subst hf
                    refine .inr ⟨fun j hj => ?_, rfl⟩
                    simp only [List.all_eq_true, List.mem_range, Bool.not_eq_true'] at hc
                    exact hc j hj
                  · simp at hf
              · simp at hf
            cases e with
            | exit id => simp at h
            | norm =>
              simp only at h
              split at h
              · rename_i d hd; exact hfinish d (.inl rfl) hd h
              · simp at h
            | ret =>
              simp only at h
              split at h
              · rename_i d hd; exact hfinish d (.inr rfl) hd h
              · simp at h
          · simp at h
        · simp at h
      · simp at h
    · simp at h
end Go.Wt
/- The executor does right. -/
namespace Go.Wt
open Go.RowKit
variable {P : Program} {C : CallOk} {E : Env}
theorem Cm_cl (m : YM) : (Cm m).cl = CtrCl := by cases m <;> rfl
theorem Cm_it (m : YM) : (Cm m).it = IterL := by cases m <;> rfl
theorem Cm_noY (m : YM) : (Cm m).noY = Ctr := by cases m <;> rfl
theorem Cm_mono (m : YM) : YMono (Cm m) := by
  cases m with
  | ver xs =>
    rintro E ds Kb Kb' hK ⟨i, x, h1, h2, h3, h4, h5⟩
    exact ⟨i, x, h1, h2, h3, hK _ _ h4, hK _ _ h5⟩
  | _ => exact fun _ _ _ _ _ h => h.elim
theorem itStart_env (ts : List DV) {nt : Nat} (h1 : ts.length + 1 ≤ nt) (h2 : nt ≤ GH) : (itStart ts nt).env = itEnv ts := by
  refine Env.ext' (funext fun t => ?_) (funext fun s => ?_) (funext fun s => ?_)
  · show (if t = GH then gst (some 0) else (DV.yl :: ts ++ List.replicate (nt - (ts.length + 1)) DV.junk).getD t .junk) = if t = GH then gst (some 0) else match t with | 0 => .yl | t + 1 => ts.getD t .junk
    by_cases ht : t = GH
    · rw [if_pos ht, if_pos ht]
    · rw [if_neg ht, if_neg ht]
      cases t with
      | zero => rfl
      | succ t =>
        simp only [List.cons_append, List.getD_eq_getElem?_getD, List.getElem?_cons_succ, List.getElem?_append]
        split
        · rfl
        · rename_i hlt
          rw [List.getElem?_eq_none (l := ts) (by omega), List.getElem?_replicate]
          split <;> rfl
  · show (([(Nm.yl, none)] : List (Nm × Option Row)).lookup s).join = none
    cases s <;> rfl
  · show (([(Nm.yl, none)] : List (Nm × Option Row)).lookup s).isSome = _
    cases s <;> rfl
theorem itOk_spec {n : Nat} : ∀ {l : List (XR × XE)}, itOk n l = true → ∀ p ∈ l, FinI n p.1.out p.2.env
  | [], _, p, hp => by simp at hp
  | (e, y) :: l, h, p, hp => by
    have hgh : y.env.tmps GH = y.gh := by show (if GH = GH then y.gh else y.tm.getD GH .junk) = y.gh; rw [if_pos rfl]
    have key : ∀ (e' : Exit), (e' = .normal ∨ e' = .ret) → ((match y.gh with | .wh false true (.t (.v (.int .i64 (.ofNat i)))) => decide (i = n) | .wh false true .junk => true | _ => false) && itOk n l) = true → FinI n e' y.env ∧ itOk n l = true := by
      intro e' he' hh
      simp only [Bool.and_eq_true] at hh
      refine ⟨⟨he', ?_⟩, hh.2⟩
      rw [hgh]
      have h1 := hh.1
      split at h1
      · rename_i i hi
        simp only [decide_eq_true_eq] at h1
        subst h1
        exact .inl hi
      · rename_i hi
        exact .inr hi
      · simp at h1
    have hboth : FinI n e.out y.env ∧ itOk n l = true := by
      cases e with
      | exit id => simp [itOk] at h
      | norm => exact key _ (.inl rfl) h
      | ret => exact key _ (.inr rfl) h
    rcases List.mem_cons.1 hp with rfl | hp
    · exact hboth.1
    · exact itOk_spec hboth.2 p hp
theorem xiter_sound (hm : P.follows .mixedOrders = true) {T : FuncId → Option XFn} (hT : ∀ f fn, T f = some fn → XOk P f fn) {go : Task → Option Out} (hgo : GoodCode P go) {f : FuncId} {ts : List DV} {xs : List (List Tree)} (h : xiter T go f ts = some xs) : IterL P f ts xs := by
  unfold xiter at h
  split at h
  · rename_i fn hfn
    split at h
    · rename_i e y _
      split at h
      · rename_i l hl
        split at h
        · rename_i hc
          obtain ⟨h1, h2, h3, h4⟩ := hc
          simp only [Option.some.injEq] at h
          subst h
          obtain ⟨Fn, c, g1, g2, g3, g4, g5, g6, g7⟩ := hT f fn hfn
          have hw := hgo (.ver y.gl) fn.itc _ _ hl (by simp) (FinI y.gl.length) (itOk_spec h1)
          rw [itStart_env ts h2 h3] at hw
          have hres : fn.res = [] := by simpa using h4
          rw [hres] at g6
          exact iter_of hm g1 g2 g3 g5 g6 (by rw [← g7]; exact h2) (by rw [← g7]; exact h3) hw
        · simp at h
      · simp at h
    · simp at h
  · simp at h
theorem atHead_spec {x y : XE} (h : atHead x = some y) : ∃ ρ, okRen ρ = true ∧ y.env = x.env.canon ρ := by
  unfold atHead at h
  generalize (if hasLoc x.sl = true then headRen x else idRen x) = ρ at h
  simp only at h
  by_cases hok : okRen ρ = true
  · rw [if_pos hok] at h
    simp only [Option.some.injEq] at h
    subst h
    exact ⟨ρ, hok, env_canon _ _⟩
  · rw [if_neg hok] at h; simp at h
theorem putAll_fold (gh : DV) : ∀ (ps : List Nat) (t : List Tree) (tm : List DV), (∀ q ∈ ps, q < tm.length ∧ q ≠ GH) → ∀ u, (if u = GH then gh else ((ps.zip t).foldl (fun tm (p, v) => tm.set p (.t v)) tm).getD u .junk) = putAll ps t (fun u => if u = GH then gh else tm.getD u .junk) u
  | [], t, tm, _, u => by cases t <;> rfl
  | p :: ps, [], tm, _, u => rfl
  | p :: ps, v :: t, tm, h, u => by
    simp only [List.zip_cons_cons, List.foldl_cons, putAll]
    rw [putAll_fold gh ps t (tm.set p (.t v)) (fun q hq => by rw [List.length_set]; exact h q (List.mem_cons_of_mem _ hq)) u]
    congr 1
    funext z
    obtain ⟨hp1, hp2⟩ := h p List.mem_cons_self
    by_cases hz : z = p
    · subst hz
      rw [if_pos rfl, if_neg hp2]
      simp [List.getD_eq_getElem?_getD, hp1]
    · rw [if_neg hz]
      by_cases hg : z = GH
      · rw [if_pos hg, if_pos hg]
      · rw [if_neg hg, if_neg hg]
        simp [List.getD_eq_getElem?_getD, List.getElem?_set, Ne.symm hz]
theorem xround_env {x : XE} {S : List Nm} {gs : List (Nat × TypeId × Tree)} {ps : List Nat} {t : List Tree} {cur : XE} {E1 : Env} {k : Ct} (hk : k.gs = gs) (hps : ∀ q ∈ ps, q < x.tm.length ∧ q ≠ GH) (h1 : E1.slots = cur.env.slots) (h2 : E1.used = cur.env.used) :
    (xround x S gs ps t cur).env = rRound x.env S k ps t E1 := by
  refine Env.ext' (funext fun u => ?_) h1.symm h2.symm
  show (if u = GH then x.gh.ren (inRen S gs) else ((ps.zip t).foldl (fun tm (p, v) => tm.set p (.t v)) (x.tm.map (DV.ren (inRen S gs)))).getD u .junk) = putAll ps t (fun t => (x.env.tmps t).ren (inRen S k.gs)) u
  rw [putAll_fold _ ps t _ (fun q hq => by rw [List.length_map]; exact hps q hq)]
  congr 1
  funext z
  rw [hk]
  show _ = (if z = GH then x.gh else x.tm.getD z .junk).ren (inRen S gs)
  by_cases hz : z = GH
  · rw [if_pos hz, if_pos hz]
  · rw [if_neg hz, if_neg hz]
    simp only [List.getD_eq_getElem?_getD, List.getElem?_map]
    cases x.tm[z]? <;> simp [DV.ren]
theorem canon_slots_congr {E E' : Env} (ρ : List (Nm × Nm)) (h : E.slots = E'.slots) : (E.canon ρ).slots = (E'.canon ρ).slots := by
  funext s
  show (match (flip ρ).lookup s with | some s0 => (E.slots s0).map (Row.ren ρ) | none => none) = match (flip ρ).lookup s with | some s0 => (E'.slots s0).map (Row.ren ρ) | none => none
  rw [h]
theorem rdone_spec {p : Prep} {x z : XE} {e : XR} {q : XR × XE} (h : rdone p x e z = some q) {E1 : Env} (hE : E1.slots = z.env.slots) {K : Exit → Env → Prop} (hK : K q.1.out q.2.env) : q.1 = e ∧ RDone x.env p.S p.F (1000000 + x.sl.length) (K e.out) E1 := by
  unfold rdone at h
  split at h
  · rename_i f hf
    obtain ⟨h1, h2⟩ := fin3_spec hf
    simp only at h
    split at h
    · rename_i hc
      simp only [Option.some.injEq] at h
      subst h
      simp only [List.all_eq_true, List.mem_range, Bool.not_eq_true'] at hc
      refine ⟨rfl, ⟨[], [], [], .junk, f.rows', f.new⟩, f.ρ, h1, (canon_slots_congr _ hE).trans h2, hc, ?_⟩
      rw [← env_upd]
      exact hK
    · simp at h
  · simp at h
theorem xrange_sound (hm : P.follows .mixedOrders = true) {T : FuncId → Option XFn} (hT : ∀ f fn, T f = some fn → XOk P f fn) {go : Task → Option Out} (hgo : GoodCode P go) {m : YM} {g : Operand} {ps : List Nat} {a b : SCode} {x : XE} {q : XR × XE} (h : xrange T go g ps a b x = some q)
    {K : Exit → Env → Prop} (hK : K q.1.out q.2.env) : W P (Cm m) (.rangef g ps a b) x.env K := by
  unfold xrange at h
  split at h
  · rename_i f caps hf
    split at h
    · rename_i ts F hv
      split at h
      · rename_i xs hxs
        split at h
        · rename_i p0 hp0
          simp only at h
          split at h
          · rename_i hc
            obtain ⟨hc1, hc2, hc3⟩ := hc
            simp only [List.all_eq_true, decide_eq_true_eq, Bool.and_eq_true, Bool.not_eq_true'] at hc1 hc2 hc3
            obtain ⟨_, hmeets⟩ := prepS_spec hp0 .junk [] []
            have hds : p0.ds = [] := List.eq_nil_of_length_eq_zero hmeets.la.symm
            have hm2 : Meets x.env [] ⟨p0.gs, p0.ds, p0.rows, .junk, [], []⟩ p0.S F := by
              refine ⟨hmeets.nd, fun s hs => ⟨(hmeets.ng s hs).1, fun hF => ?_⟩, hmeets.ny, hmeets.gs, hmeets.gu, hmeets.gnd, hmeets.ln, hmeets.rw, hmeets.su, hmeets.la, fun i d d0 hd => by simp at hd, fun s hs => (hc3 s hs).1⟩
              have := (hc3 s hF).2
              rw [List.contains_iff_mem.2 hs] at this; cases this
            let p : Prep := { p0 with F := F }
            let k : Ct := ⟨p0.gs, p0.ds, p0.rows, .junk, [], []⟩
            have hhead : ∀ y : XE, headOk p y = true → RHead k y.env := by
              intro y hy s hs
              simp only [headOk, Bool.and_eq_true, List.all_eq_true, List.mem_range] at hy
              cases s with
              | arg i => exact hy.1 i (by simpa [k, Ct.env, Ct.used0] using hs)
              | glob g =>
                have hs : (p0.gs.lookup g).isSome = true := hs
                obtain ⟨z, hz⟩ := Option.isSome_iff_exists.1 hs
                exact hy.2 (g, z) (lookup_mem hz)
              | _ => simp [k, Ct.env, Ct.used0] at hs
            have hslk : ∀ s, (p.sl.lookup s).join = k.env.slots s ∧ (p.sl.lookup s).isSome = k.env.used s := by
              intro s
              have := start_env p (nt := p.ds.length) (Nat.le_refl _) (by show p0.ds.length ≤ GH; rw [hds]; exact Nat.zero_le _) .junk [] []
              exact ⟨congrFun (congrArg Env.slots this) s, congrFun (congrArg Env.used this) s⟩
            refine ⟨f, caps, ts, F, xs, p0.S, k, 1000000 + x.sl.length, fun i E => ∃ cur, E.slots = cur.env.slots ∧ E.used = cur.env.used ∧ rounds go a b p x ps (rdone p x) (xs.drop i) cur = some q, hf, hv, ?_, fun t ht => hc2 t ht, hm2, ?_, ?_, ?_⟩
            · rw [Cm_it]; exact xiter_sound hm hT hgo hxs
            · exact ⟨⟨[], p.sl, .junk, []⟩, funext fun s => (hslk s).1.symm, funext fun s => (hslk s).2.symm, h⟩
            · rintro i t E1 hi ⟨cur, g1, g2, g3⟩ hh
              have hlt := (List.getElem?_eq_some_iff.1 hi).1
              have hdrop : xs.drop i = t :: xs.drop (i + 1) := by
                rw [List.drop_eq_getElem_cons hlt]
                congr 1
                rw [List.getElem?_eq_getElem hlt] at hi
                exact Option.some.inj hi
              rw [hdrop] at g3
              unfold rounds at g3
              split at g3
              · rename_i y hy
                split at g3
                · rename_i e z hz
                  have hwa := hgo .no a _ _ hy (by simp) (fun e E2 => e = .normal ∧ W P (Cm m).noY b E2 (fun e E3 => match e with
                    | .normal => ∃ ρ, okRen ρ = true ∧ RHead k (E3.canon ρ) ∧ ∃ cur, (E3.canon ρ).slots = cur.env.slots ∧ (E3.canon ρ).used = cur.env.used ∧ rounds go a b p x ps (rdone p x) (xs.drop (i + 1)) cur = some q
                    | .ret => RDone x.env p0.S F (1000000 + x.sl.length) (K .ret) E3
                    | .exit id => RDone x.env p0.S F (1000000 + x.sl.length) (K (.exit id)) E3
                    | _ => False)) (fun w hw => by
                      simp only [List.mem_singleton] at hw
                      subst hw
                      refine ⟨rfl, ?_⟩
                      rw [Cm_noY]
                      refine hgo .no b _ _ hz (by simp) _ (fun w hw => ?_)
                      simp only [List.mem_singleton] at hw
                      subst hw
                      cases e with
                      | norm =>
                        simp only at g3
                        split at g3
                        · rename_i z' hz'
                          split at g3
                          · rename_i hhd
                            obtain ⟨ρ, hρ, hze⟩ := atHead_spec hz'
                            refine ⟨ρ, hρ, ?_, z', ?_, ?_, g3⟩
                            · rw [← hze]; exact hhead z' hhd
                            · rw [← hze]
                            · rw [← hze]
                          · simp at g3
                        · simp at g3
                      | ret => exact (rdone_spec (p := p) g3 rfl hK).2
                      | exit id => exact (rdone_spec (p := p) g3 rfl hK).2)
                  rw [xround_env (k := k) rfl hc1 g1 g2] at hwa
                  rw [Cm_noY]
                  rw [Cm_noY] at hwa
                  exact hwa
                · simp at g3
              · simp at g3
            · rintro E1 ⟨cur, g1, g2, g3⟩ _
              rw [List.drop_length] at g3
              exact (rdone_spec (p := p) g3 g1 hK).2
          · simp at h
        · simp at h
      · simp at h
    · simp at h
  · simp at h
theorem codes_some {o : Option Out} {l : List (XR × XE)} (h : Out.codes o = some l) : o = some (.code l) := by
  unfold Out.codes at h
  split at h
  · simp at h; subst h; rfl
  · simp at h
theorem seqX_sound {f : XE → Option (List (XR × XE))} : ∀ {l r : List (XR × XE)}, seqX f l = some r → ∀ p ∈ l, (p.1 = .norm ∧ ∃ rp, f p.2 = some rp ∧ ∀ z ∈ rp, z ∈ r) ∨ (p.1 ≠ .norm ∧ p ∈ r)
  | [], r, h, p, hp => by simp at hp
  | (.norm, y) :: l, r, h, p, hp => by
    simp only [seqX] at h
    split at h
    · rename_i a b ha hb
      simp only [Option.some.injEq] at h
      subst h
      rcases List.mem_cons.1 hp with rfl | hp
      · exact .inl ⟨rfl, a, ha, fun z hz => List.mem_append.2 (.inl hz)⟩
      · rcases seqX_sound hb p hp with ⟨h1, rp, h2, h3⟩ | ⟨h1, h2⟩
        · exact .inl ⟨h1, rp, h2, fun z hz => List.mem_append.2 (.inr (h3 z hz))⟩
        · exact .inr ⟨h1, List.mem_append.2 (.inr h2)⟩
    · simp at h
  | (.exit i, y) :: l, r, h, p, hp => by
    simp only [seqX] at h
    split at h
    · rename_i b hb
      simp only [Option.some.injEq] at h
      subst h
      rcases List.mem_cons.1 hp with rfl | hp
      · exact .inr ⟨by simp, List.mem_cons_self⟩
      · rcases seqX_sound hb p hp with ⟨h1, rp, h2, h3⟩ | ⟨h1, h2⟩
        · exact .inl ⟨h1, rp, h2, fun z hz => List.mem_cons_of_mem _ (h3 z hz)⟩
        · exact .inr ⟨h1, List.mem_cons_of_mem _ h2⟩
    · simp at h
  | (.ret, y) :: l, r, h, p, hp => by
    simp only [seqX] at h
    split at h
    · rename_i b hb
      simp only [Option.some.injEq] at h
      subst h
      rcases List.mem_cons.1 hp with rfl | hp
      · exact .inr ⟨by simp, List.mem_cons_self⟩
      · rcases seqX_sound hb p hp with ⟨h1, rp, h2, h3⟩ | ⟨h1, h2⟩
        · exact .inl ⟨h1, rp, h2, fun z hz => List.mem_cons_of_mem _ (h3 z hz)⟩
        · exact .inr ⟨h1, List.mem_cons_of_mem _ h2⟩
    · simp at h
theorem blockX_sound {id : Nat} : ∀ {l : List (XR × XE)}, ∀ p ∈ l, (p.1 = .exit id ∧ (XR.norm, p.2) ∈ blockX id l) ∨ (p.1 ≠ .exit id ∧ p ∈ blockX id l)
  | [], p, hp => by simp at hp
  | (.exit i, y) :: l, p, hp => by
    simp only [blockX]
    rcases List.mem_cons.1 hp with rfl | hp
    · by_cases hi : i = id
      · subst hi; exact .inl ⟨rfl, by simp⟩
      · exact .inr ⟨by simpa using hi, by simp [hi]⟩
    · rcases blockX_sound p hp with ⟨h1, h2⟩ | ⟨h1, h2⟩
      · exact .inl ⟨h1, List.mem_cons_of_mem _ h2⟩
      · exact .inr ⟨h1, List.mem_cons_of_mem _ h2⟩
  | (.norm, y) :: l, p, hp => by
    simp only [blockX]
    rcases List.mem_cons.1 hp with rfl | hp
    · exact .inr ⟨by simp, List.mem_cons_self⟩
    · rcases blockX_sound p hp with ⟨h1, h2⟩ | ⟨h1, h2⟩
      · exact .inl ⟨h1, List.mem_cons_of_mem _ h2⟩
      · exact .inr ⟨h1, List.mem_cons_of_mem _ h2⟩
  | (.ret, y) :: l, p, hp => by
    simp only [blockX]
    rcases List.mem_cons.1 hp with rfl | hp
    · exact .inr ⟨by simp, List.mem_cons_self⟩
    · rcases blockX_sound p hp with ⟨h1, h2⟩ | ⟨h1, h2⟩
      · exact .inl ⟨h1, List.mem_cons_of_mem _ h2⟩
      · exact .inr ⟨h1, List.mem_cons_of_mem _ h2⟩
/-- What the executor says is so. -/
theorem xgo_good (hm : P.follows .mixedOrders = true) {T : FuncId → Option XFn} {O : FuncId → List Tree → Option (DV × List Row)} (hT : ∀ f fn, T f = some fn → XOk P f fn) (hO : ∀ f ts d new, O f ts = some (d, new) → HoldsG P f ⟨[], ts.map .t, [], d, [], new⟩) : ∀ n, GoodCode P (xgo P T O n) ∧
    (∀ f ds dst x r, xgo P T O n (.call f ds dst x) = some (.call r) → CtrCl P x.env f ds dst r) ∧
    (∀ m b x l, xgo P T O n (.code m (.loop b) x) = some (.code l) → m ≠ .coll → ∀ K : Exit → Env → Prop, (∀ p ∈ l, K p.1.out p.2.env) → Unr P (Cm m) b K n x.env)
  | 0 => ⟨fun m s x l h => by simp [xgo] at h, fun f ds dst x r h => by simp [xgo] at h, fun m b x l h => by simp [xgo] at h⟩
  | n + 1 => by
    obtain ⟨ih1, ih2, ih3⟩ := xgo_good hm hT hO n
    have hloop : ∀ m b x l, xgo P T O (n + 1) (.code m (.loop b) x) = some (.code l) → m ≠ .coll → ∀ K : Exit → Env → Prop, (∀ p ∈ l, K p.1.out p.2.env) → Unr P (Cm m) b K (n + 1) x.env := by
      intro m b x l h hcoll K hK
      simp only [xgo, step] at h
      split at h
      · rename_i y hy
        split at h
        · rename_i l1 hl1
          simp only [Option.map_eq_some_iff, Out.code.injEq] at h
          obtain ⟨r, hr, rfl⟩ := h
          obtain ⟨ρ, hρ, hye⟩ := atHead_spec hy
          refine ⟨ρ, hρ, ?_⟩
          rw [← hye]
          refine ih1 m b y l1 (codes_some hl1) hcoll _ (fun p hp => ?_)
          obtain ⟨e, z⟩ := p
          rcases seqX_sound hr _ hp with ⟨h1, rp, h2, h3⟩ | ⟨h1, h2⟩
          · simp only at h1
            subst h1
            exact ih3 m b z rp (codes_some h2) hcoll K (fun w hw => hK w (h3 w hw))
          · have := hK _ h2
            cases e <;> first | exact absurd rfl h1 | exact this
        · simp at h
      · simp at h
    refine ⟨fun m s x l h hcoll K hK => ?_, fun f ds dst x r h => ?_, hloop⟩
    · have hcall : ∀ f ds dst x r, (match xgo P T O n (.call f ds dst x) with | some (.call r) => some r | _ => none) = some r → CtrCl P x.env f ds dst r := by
        intro f ds dst x r h
        split at h
        · rename_i r' hr'
          simp only [Option.some.injEq] at h
          subst h
          exact ih2 f ds dst x _ hr'
        · simp at h
      cases s with
      | loop b => exact loop_unr (Cm_mono m) (hloop m b x l h hcoll K hK)
      | skip =>
        simp only [xgo, step, Option.some.injEq, Out.code.injEq] at h
        subst h
        exact hK (.norm, x) (by simp)
      | region ops =>
        simp only [xgo, step, Option.map_eq_some_iff, Out.code.injEq] at h
        obtain ⟨r, hr, rfl⟩ := h
        exact xops_sound (Cm_cl m) (fun xs hx => by subst hx; rfl) hcoll hcall ops _ _ _ _ hr (fun y hy => hK (.norm, y) (List.mem_map.2 ⟨y, hy, rfl⟩))
      | drawn ops pr =>
        simp only [xgo, step] at h
        split at h
        · simp at h
        · rename_i hpr
          simp only [Option.map_eq_some_iff, Out.code.injEq] at h
          obtain ⟨r, hr, rfl⟩ := h
          exact ⟨by simpa using hpr, xops_sound (Cm_cl m) (fun xs hx => by cases hx) (by simp) hcall ops _ _ _ _ hr (fun y hy => hK (.norm, y) (List.mem_map.2 ⟨y, hy, rfl⟩))⟩
      | seq a b =>
        simp only [xgo, step] at h
        split at h
        · rename_i l1 hl1
          simp only [Option.map_eq_some_iff, Out.code.injEq] at h
          obtain ⟨r, hr, rfl⟩ := h
          refine ih1 m a x l1 (codes_some hl1) hcoll _ (fun p hp => ?_)
          obtain ⟨e, z⟩ := p
          rcases seqX_sound hr _ hp with ⟨h1, rp, h2, h3⟩ | ⟨h1, h2⟩
          · simp only at h1
            subst h1
            exact ih1 m b z rp (codes_some h2) hcoll K (fun w hw => hK w (h3 w hw))
          · have := hK _ h2
            cases e <;> first | exact absurd rfl h1 | exact this
        · simp at h
      | cond t a b =>
        simp only [xgo, step] at h
        split at h
        · rename_i v hv
          refine ⟨v, hv, fun hb => ?_, fun hb => ?_⟩
          · subst hb; exact ih1 m a x l h hcoll K hK
          · subst hb; exact ih1 m b x l h hcoll K hK
        · simp at h
      | block id b =>
        simp only [xgo, step, Option.map_eq_some_iff, Out.code.injEq] at h
        obtain ⟨r, hr, rfl⟩ := h
        refine ih1 m b x r (codes_some hr) hcoll _ (fun p hp => ?_)
        obtain ⟨e, z⟩ := p
        rcases blockX_sound (id := id) _ hp with ⟨h1, h2⟩ | ⟨h1, h2⟩
        · simp only at h1
          subst h1
          show if id = id then K .normal z.env else _
          rw [if_pos rfl]
          exact hK _ h2
        · have := hK _ h2
          cases e with
          | exit i =>
            show if i = id then K .normal z.env else K (.exit i) z.env
            rw [if_neg (by intro e; subst e; exact h1 rfl)]
            exact this
          | _ => exact this
      | exit id =>
        simp only [xgo, step, Option.some.injEq, Out.code.injEq] at h
        subst h
        exact hK (.exit id, x) (by simp)
      | ret =>
        simp only [xgo, step, Option.some.injEq, Out.code.injEq] at h
        subst h
        exact hK (.ret, x) (by simp)
      | rangef g ps a b =>
        simp only [xgo, step, Option.map_eq_some_iff, Out.code.injEq] at h
        obtain ⟨q, hq, rfl⟩ := h
        exact xrange_sound hm hT ih1 hq (hK q (by simp))
      | stuck => simp [xgo, step] at h
    · simp only [xgo, step, Option.map_eq_some_iff, Out.call.injEq] at h
      obtain ⟨r', hr', rfl⟩ := h
      exact xcall_sound hm hT hO ih1 hr'
end Go.Wt
