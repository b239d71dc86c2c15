/- Every operation that is known here does what is told of trees. -/
import Derived.Test.YtbeiejanhoiodaaGreatMA4
import Derived.RangeFuncCalls
import Derived.Sort.LoopGhostIn
import Derived.TacticsIn
import Derived.OrdersIn
import Derived.Deep.LoopGhost
set_option linter.unusedSimpArgs false
set_option linter.unusedVariables false
namespace Go.Wt
open Go.RowKit
variable {P : Program} {c : Ctx} {φ : Nm → Place} {E : Env} {a : Act} {w : World} {r : Res}
theorem den_sound (h : SimA c φ E a w) {o : Oper} {s : SOp} (hd : o.dst.all (· < c.n) = true) (hc : cop P o.op = some s) (hr : s.den P E o.dst = some r) : Sound P c E a w o r := by
  obtain ⟨dst, op, ty, pos, after, g⟩ := o
  simp only at hd hc hr
  cases op
  case move x => simp only [cop, Option.some.injEq] at hc; subst hc; exact s_mv h hd (.inl rfl) hr
  case assign x => simp only [cop, Option.some.injEq] at hc; subst hc; exact s_mv h hd (.inr rfl) hr
  case nilCheck x => simp only [cop, Option.some.injEq] at hc; subst hc; exact s_nilc h hd hr
  case pick p x y => simp only [cop, Option.some.injEq] at hc; subst hc; exact s_pick h hd hr
  case binOp op t x y yt => simp only [cop, Option.some.injEq] at hc; subst hc; exact s_bin h hd hr
  case unOp op t x => simp only [cop, Option.some.injEq] at hc; subst hc; exact s_un h hd hr
  case extract x i => simp only [cop, Option.some.injEq] at hc; subst hc; exact s_ext h hd hr
  case box e x => simp only [cop, Option.some.injEq] at hc; subst hc; exact s_box h hd hr
  case convert src d x =>
    simp only [cop] at hc
    split at hc
    · rename_i k0 k h1 h2
      simp only [Option.some.injEq] at hc; subst hc
      exact s_conv h hd h1 h2 hr
    · rename_i e h1 h2
      split at hc
      · rename_i h3
        simp only [Option.some.injEq] at hc; subst hc
        exact s_b2s h hd h1 h2 h3 hr
      · simp at hc
    · simp at hc
  case field t x f =>
    simp only [cop, Option.bind_eq_bind, Option.bind_eq_some_iff, Option.pure_def, Option.some.injEq] at hc
    obtain ⟨fd, h1, n, h2, rfl⟩ := hc
    exact s_part h hd h1 h2 hr
  case index t x i =>
    simp only [cop] at hc
    split at hc
    · rename_i len e h1
      simp only [Option.bind_eq_bind, Option.bind_eq_some_iff, Option.pure_def, Option.some.injEq] at hc
      obtain ⟨m, h2, rfl⟩ := hc
      exact s_aidx h hd h1 h2 hr
    · rename_i h1
      simp only [Option.some.injEq] at hc; subst hc
      exact s_sidx h hd h1 hr
    · simp at hc
  case build t parts =>
    simp only [cop, Option.bind_eq_bind, Option.bind_eq_some_iff] at hc
    obtain ⟨z, h1, hc⟩ := hc
    split at hc
    · rename_i zl
      simp only [Option.bind_eq_some_iff, Option.pure_def, Option.some.injEq] at hc
      obtain ⟨ps, h2, rfl⟩ := hc
      exact s_build h hd h1 h2 hr
    · simp at hc
  case fieldAddr t x f =>
    simp only [cop, Option.bind_eq_bind, Option.bind_eq_some_iff] at hc
    obtain ⟨fd, h1, n, h2, hc⟩ := hc
    split at hc
    · simp at hc
    · rename_i h3
      simp only [Option.pure_def, Option.some.injEq] at hc; subst hc
      exact s_fld h hd h1 h2 h3 hr
  case indexAddr t x i =>
    simp only [cop] at hc
    split at hc
    · rename_i e h1
      simp only [Option.bind_eq_bind, Option.bind_eq_some_iff] at hc
      obtain ⟨m, h2, hc⟩ := hc
      split at hc
      · simp at hc
      · rename_i h3
        simp only [Option.pure_def, Option.some.injEq] at hc; subst hc
        exact s_eadr h hd h1 h2 h3 hr
    · rename_i len e h1
      simp only [Option.bind_eq_bind, Option.bind_eq_some_iff, Option.pure_def, Option.some.injEq] at hc
      obtain ⟨m, h2, rfl⟩ := hc
      exact s_aadr h hd h1 h2 hr
    · simp at hc
  case load t x =>
    simp only [cop, Option.bind_eq_bind, Option.bind_eq_some_iff, Option.pure_def, Option.some.injEq] at hc
    obtain ⟨n, h1, rfl⟩ := hc
    exact s_load h hd h1 hr
  case store t x y =>
    simp only [cop, Option.bind_eq_bind, Option.bind_eq_some_iff, Option.pure_def, Option.some.injEq] at hc
    obtain ⟨n, h1, rfl⟩ := hc
    exact s_store h hd h1 hr
  case alloc e =>
    simp only [cop, Option.bind_eq_bind, Option.bind_eq_some_iff, Option.pure_def, Option.some.injEq] at hc
    obtain ⟨z, h1, rfl⟩ := hc
    exact s_alloc h hd h1 hr
  case buildSlice t len parts =>
    simp only [cop, Option.bind_eq_bind, Option.bind_eq_some_iff] at hc
    obtain ⟨e, h1, m, h2, z, h3, hc⟩ := hc
    split at hc
    · simp at hc
    · rename_i h4
      simp only [Option.pure_def, Option.some.injEq] at hc; subst hc
      have ht : P.underlying t = some (.slice e) := by
        unfold elemT at h1
        split at h1
        · rename_i e' he; simp at h1; subst h1; exact he
        · simp at h1
      simp at h4
      exact s_lits h hd ht h2 h3 (by omega) (by omega) (by omega) (fun h0 => h4.2 h0) hr
  case slice t x lo hi mx =>
    cases mx with
    | some _ => simp [cop] at hc
    | none =>
      simp only [cop] at hc
      split at hc
      · rename_i h1
        simp only [Option.some.injEq] at hc; subst hc
        exact s_sstr h hd h1 hr
      · rename_i e h1
        simp only [Option.bind_eq_bind, Option.bind_eq_some_iff] at hc
        obtain ⟨m, h2, hc⟩ := hc
        split at hc
        · simp at hc
        · simp only [Option.pure_def, Option.some.injEq] at hc; subst hc
          exact s_ssl h hd h1 h2 hr
      · simp at hc
  case makeFunc fn first caps =>
    cases fn with
    | func f =>
      simp only [cop] at hc
      split at hc
      · rename_i hf
        have hf : first = #[] := by simpa using hf
        subst hf
        simp only [Option.some.injEq] at hc; subst hc
        exact s_mkfn h hd hr
      · simp only [Option.some.injEq] at hc; subst hc
        exact s_mkfnb h hd hr
    | _ => simp [cop] at hc
  case makeMap t rr =>
    simp only [cop] at hc
    split at hc
    · simp only [Option.some.injEq] at hc; subst hc
      exact s_mkmap h hd (.inl rfl) hr
    · rename_i x k e hu
      simp only [Option.some.injEq] at hc; subst hc
      exact s_mkmap h hd (.inr ⟨k, e, hu⟩) hr
    · simp at hc
  case lookup t x k ok =>
    simp only [cop] at hc
    split at hc
    · rename_i kt e hu
      obtain ⟨z, hz, rfl⟩ := Option.map_eq_some_iff.1 hc
      exact s_mget h hd hu hz hr
    · simp at hc
  case mapUpdate t x k y =>
    simp only [cop] at hc
    split at hc
    · rename_i kt e hu
      simp only [Option.some.injEq] at hc; subst hc
      exact s_mset h hd (.inl rfl) hu hr
    · simp at hc
  case insert t x k y =>
    simp only [cop] at hc
    split at hc
    · rename_i kt e hu
      simp only [Option.some.injEq] at hc; subst hc
      exact s_mset h hd (.inr rfl) hu hr
    · simp at hc
  case mapEntry t x k =>
    simp only [cop] at hc
    split at hc
    · rename_i kt e hu
      obtain ⟨z, hz, rfl⟩ := Option.map_eq_some_iff.1 hc
      exact s_ment h hd hu hz hr
    · simp at hc
  case entryStore t x st y =>
    simp only [cop, Option.some.injEq] at hc; subst hc
    exact s_mst h hd hr
  case makeSlice t l cp =>
    simp only [cop, Option.bind_eq_bind, Option.bind_eq_some_iff] at hc
    obtain ⟨e, h1, m, h2, i, h3, z, h4, hc⟩ := hc
    split at hc
    · simp at hc
    · rename_i h5
      simp only [Option.pure_def, Option.some.injEq] at hc; subst hc
      have ht : P.underlying t = some (.slice e) := by
        unfold elemT at h1
        split at h1
        · rename_i e' he; simp at h1; subst h1; exact he
        · simp at h1
      simp at h5
      exact s_mksl h hd ht h2 h3 h4 (by omega) (by omega) (by omega) hr
  case range t x =>
    simp only [cop] at hc
    split at hc
    · rename_i hu
      simp only [Option.some.injEq] at hc; subst hc
      exact s_rng h hd hu hr
    · simp at hc
  case next x str =>
    simp only [cop] at hc
    split at hc
    · rename_i hs
      subst hs
      simp only [Option.some.injEq] at hc; subst hc
      exact s_nxt h hd hr
    · simp at hc
  case makeInterface t x =>
    simp only [cop] at hc
    split at hc
    · simp at hc
    · simp at hc
    · rename_i o h1 h2
      simp only [Option.some.injEq] at hc; subst hc
      cases hu : P.underlying t with
      | none => exact absurd hu h2
      | some d => exact s_mkif h hd hu (fun m hm => h1 m (by rw [hu, hm])) hr
  case call cl =>
    obtain ⟨callee, args, argTypes⟩ := cl
    simp only [cop] at hc
    cases callee with
    | value f =>
      cases f <;> simp only [ccall, Option.some.injEq] at hc <;> subst hc <;> simp [SOp.den] at hr
    | invoke _ _ => simp [ccall] at hc
    | builtin b =>
      cases b <;> first | (simp [ccall] at hc; done) | skip
      case len =>
        simp only [ccall] at hc
        split at hc
        · rename_i x t h1 h2
          have e1 : args = #[x] := Array.ext' (by simpa using h1)
          have e2 : argTypes = #[t] := Array.ext' (by simpa using h2)
          subst e1 e2
          split at hc
          · rename_i h3
            simp only [Option.some.injEq] at hc; subst hc
            exact s_len h hd h3 (by simp) hr
          · rename_i e h3
            simp only [Option.some.injEq] at hc; subst hc
            exact s_len h hd h3 (by simp) hr
          · rename_i k e h3
            simp only [Option.some.injEq] at hc; subst hc
            exact s_mlen h hd h3 hr
          · simp at hc
        · simp at hc
      case copy =>
        simp only [ccall] at hc
        split at hc
        · rename_i x y t us h1 h2
          have e1 : args = #[x, y] := Array.ext' (by simpa using h1)
          subst e1
          simp only [Option.bind_eq_bind, Option.bind_eq_some_iff] at hc
          obtain ⟨e, h3, i, h4, hc⟩ := hc
          split at hc
          · simp at hc
          · rename_i h5
            simp only [Option.some.injEq] at hc; subst hc
            have ht : P.underlying t = some (.slice e) := by
              unfold elemT at h3
              split at h3
              · rename_i e' he; simp at h3; subst h3; exact he
              · simp at h3
            exact s_copy h hd (Array.ext' (by simpa using h2)) ht ⟨i, h4, rfl⟩ h5 hr
        · simp at hc
      case append =>
        simp only [ccall] at hc
        split at hc
        · rename_i x y t u h1 h2
          have e1 : args = #[x, y] := Array.ext' (by simpa using h1)
          have e2 : argTypes = #[t, u] := Array.ext' (by simpa using h2)
          subst e1
          simp only [Option.bind_eq_bind, Option.bind_eq_some_iff] at hc
          obtain ⟨e, h3, i, h4, z, h5, hc⟩ := hc
          split at hc
          · simp at hc
          · rename_i h6
            split at hc
            · rename_i h7
              simp only [Option.some.injEq] at hc; subst hc
              have ht : P.underlying t = some (.slice e) := by
                unfold elemT at h3
                split at h3
                · rename_i e' he; simp at h3; subst h3; exact he
                · simp at h3
              simp only [Bool.or_eq_true, decide_eq_true_eq, not_or] at h6
              obtain ⟨⟨h8, h9⟩, h10⟩ := h6
              unfold notInt at h8
              cases hu : P.underlying u with
              | none => rw [hu] at h8; simp at h8
              | some du =>
                refine s_app h hd e2 ht hu (fun k hk => ?_) h4 h5 h7 (by omega) h10 hr
                rw [hu, hk] at h8
                simp at h8
            · simp at hc
        · simp at hc
      case min =>
        simp only [ccall] at hc
        split at hc
        · rename_i x y h1
          have e1 : args = #[x, y] := Array.ext' (by simpa using h1)
          subst e1
          simp only [Option.some.injEq] at hc; subst hc
          exact s_mm (mx := false) h hd hr
        · simp at hc
      case max =>
        simp only [ccall] at hc
        split at hc
        · rename_i x y h1
          have e1 : args = #[x, y] := Array.ext' (by simpa using h1)
          subst e1
          simp only [Option.some.injEq] at hc; subst hc
          exact s_mm (mx := true) h hd hr
        · simp at hc
  all_goals (simp [cop] at hc)
end Go.Wt
/- Regions in the order of the text, and calls. -/
namespace Go.Wt
open Go.RowKit
variable {P : Program} {C : CallOk} {c : Ctx} {φ : Nm → Place} {E : Env} {a : Act} {w : World}
/-- Of all functions, in a round of a range over a function or not. -/
def FW (r : Option Nat) : Fence := { Fence.wide with round := r }
theorem FW_none : FW none = Fence.wide := rfl
/-- A function that has a body and is called like any other. -/
def callable (P : Program) (f : FuncId) : Prop := ∃ fn c, P.funcs[f]? = some fn ∧ (fn.name == "runtime.NumGoroutine") = false ∧ fn.body = some c
/-- The contracts hold. -/
def CSound (P : Program) (C : CallOk) : Prop := ∀ E f ds dst r, C P E f ds dst r → callable P f ∧ ∀ c φ a w (vs : List Value), SimA c φ E a w → dst.all (· < c.n) = true → vs.length = ds.length →
    (∀ (i : Nat) (v : Value) (d : DV), vs[i]? = some v → ds[i]? = some d → RepV φ E.used w (Mut c φ E.slots) v d) →
    Calls P f vs.toArray w fun e w' => ∃ v, e = .returned v ∧ ∃ φ', SimA c φ' (r.apply dst E) (a.put dst v) w'
theorem run_callFunc' {f : FuncId} (hf : callable P f) (args : Array Value) (w : World) : (callFunc f args).run P w = .ok (.enter f args) w := by
  obtain ⟨fn, c, h1, h2, h3⟩ := hf
  unfold callFunc
  simp only [Sem.run_bind, program, Sem.run, Result.andThen, h1, h2, h3]
  rfl
theorem cop_call {op : Op} {f : FuncId} {args : List Operand} (h : cop P op = some (.call f args)) : ∃ as ts, op = .call ⟨.value (.func f), as, ts⟩ ∧ as.toList = args := by
  cases op
  case call cl =>
    obtain ⟨callee, as, ts⟩ := cl
    simp only [cop] at h
    cases callee with
    | value x => cases x <;> simp [ccall] at h; obtain ⟨rfl, rfl⟩ := h; exact ⟨_, _, rfl, rfl⟩
    | invoke _ _ => simp [ccall] at h
    | builtin b =>
      exfalso
      cases b <;> first | (simp [ccall] at h; done) | (simp only [ccall] at h; (repeat' split at h) <;> simp [Option.bind_eq_some_iff] at h; done)
  all_goals (exfalso; simp only [cop] at h; (repeat' split at h) <;> first | contradiction | (simp [Option.bind_eq_some_iff] at h; done) | (cases h; done) | (simp only [Option.bind_eq_bind, Option.bind_eq_some_iff] at h; obtain ⟨z, _, h⟩ := h; split at h <;> simp [Option.bind_eq_some_iff] at h; done))
theorem cop_callv {op : Op} {x : Operand} {args : List Operand} (h : cop P op = some (.callv x args)) : ∃ as ts, op = .call ⟨.value x, as, ts⟩ ∧ as.toList = args := by
  cases op
  case call cl =>
    obtain ⟨callee, as, ts⟩ := cl
    simp only [cop] at h
    cases callee with
    | value x => cases x <;> simp [ccall] at h <;> (obtain ⟨rfl, rfl⟩ := h; exact ⟨_, _, rfl, rfl⟩)
    | invoke _ _ => simp [ccall] at h
    | builtin b =>
      exfalso
      cases b <;> first | (simp [ccall] at h; done) | (simp only [ccall] at h; (repeat' split at h) <;> simp [Option.bind_eq_some_iff] at h; done)
  all_goals (exfalso; simp only [cop] at h; (repeat' split at h) <;> first | contradiction | (simp [Option.bind_eq_some_iff] at h; done) | (cases h; done) | (simp only [Option.bind_eq_bind, Option.bind_eq_some_iff] at h; obtain ⟨z, _, h⟩ := h; split at h <;> simp [Option.bind_eq_some_iff] at h; done))
theorem strip_rep {U : Nm → Bool} {M : Nat → Prop} {v : Value} {d : DV} {b want : Bool} (hb : b = want) (h : RepV φ U w M v d) : RepV φ U w M v (d.strip b want) := by
  unfold DV.strip
  split
  · rename_i b' want' d'
    split
    · rename_i he
      cases h with | wh h => exact h (by rw [← he.1, ← he.2]; exact hb)
    · exact h
  · exact h
theorem unstrip_rep {U : Nm → Bool} {M : Nat → Prop} {v : Value} {d : DV} {b want : Bool} (h : RepV φ U w M v (d.strip b want)) : RepV φ U w M v d := by
  unfold DV.strip at h
  split at h
  · rename_i b' want' d'
    split at h
    · exact .wh fun _ => h
    · exact h
  · exact h
theorem SimA.under (h : SimA c φ E a w) {b want : Bool} (hb : b = want) : SimA c φ (E.under b want) a w :=
  { h with tm := fun t => strip_rep hb (h.tm t) }
theorem SimA.ununder {b want : Bool} (h : SimA c φ (E.under b want) a w) : SimA c φ E a w :=
  { h with tm := fun t => unstrip_rep (h.tm t) }
theorem SimA.under_put {b want : Bool} {dst : Option Nat} {d : DV} (h : SimA c φ ((E.under b want).putO dst d) a w) : SimA c φ (E.putO dst (.wh b want d)) a w := by
  cases dst with
  | none => exact h.ununder
  | some t =>
    refine { h with tm := fun u => ?_ }
    have := h.tm u
    show RepV φ E.used w (Mut c φ E.slots) (a.tmps.getD u undef) (if u = t then .wh b want d else E.tmps u)
    have this' : RepV φ E.used w (Mut c φ E.slots) (a.tmps.getD u undef) (if u = t then d else (E.tmps u).strip b want) := this
    by_cases hu : u = t
    · simp only [hu, if_true] at this' ⊢
      exact .wh fun _ => this'
    · simp only [hu, if_false] at this' ⊢
      exact unstrip_rep this'
theorem RepV.callee_inv {U : Nm → Bool} {M : Nat → Prop} {v : Value} {d : DV} {f : FuncId} {pre caps : List DV} (h : RepV φ U w M v d) (hd : d.callee = some (f, pre, caps)) :
    ∃ us vs : List Value, v = .func (.func f) us.toArray vs.toArray ∧ us.length = pre.length ∧ vs.length = caps.length ∧ (∀ (i : Nat) (v : Value) (d : DV), us[i]? = some v → pre[i]? = some d → RepV φ U w M v d) ∧
      ∀ (i : Nat) (v : Value) (d : DV), vs[i]? = some v → caps[i]? = some d → RepV φ U w M v d := by
  cases h with
  | fn hl hp =>
    simp only [DV.callee, Option.some.injEq, Prod.mk.injEq] at hd
    obtain ⟨rfl, rfl, rfl⟩ := hd
    exact ⟨[], _, rfl, rfl, hl, fun i v d hv => by simp at hv, hp⟩
  | mfn hl0 hl hp0 hp =>
    simp only [DV.callee, Option.some.injEq, Prod.mk.injEq] at hd
    obtain ⟨rfl, rfl, rfl⟩ := hd
    exact ⟨_, _, rfl, hl0, hl, hp0, hp⟩
  | _ => simp [DV.callee] at hd
/-- The function value and the arguments of a call. -/
theorem callv_args (h : SimA c φ E a w) (args : List Operand) : ∀ (i : Nat) (v : Value) (d : DV), (args.map a.eval)[i]? = some v → (args.map E.ev)[i]? = some d → RepV φ E.used w (Mut c φ E.slots) v d := by
  intro i v d hv hd
  simp only [List.getElem?_map, Option.map_eq_some_iff] at hv hd
  obtain ⟨x, h1, rfl⟩ := hv
  obtain ⟨y, h2, rfl⟩ := hd
  rw [h1] at h2
  cases h2
  exact h.ev x
theorem op_sound (hC : CSound P C) (h : SimA c φ E a w) {pr : List (Nat × Nat)} {ix : Nat} {log : List Log} {o : Oper} {s : SOp} {next : Res → Prop} {Q : Exit → Act → World → Prop} {rd : Option Nat} (hd : o.dst.all (· < c.n) = true) (hc : copS P o.op = s)
    (hw : OpW P C pr ix log o.dst E next s) : ∃ r, okLog pr ix log r = true ∧ next r ∧ ∀ K : Act → World → Prop, (∀ a' w', (∃ φ', SimA c φ' (r.apply o.dst E) a' w') → K a' w') → o.wpIn (FW rd) 0 P a w K Q := by
  have hdef : ∀ c, o.op ≠ .defer c := by
    intro cl he
    rw [he] at hc
    have : copS P (.defer cl) = .stuck := rfl
    rw [this] at hc
    subst hc
    unfold OpW at hw
    obtain ⟨r, h1, _⟩ := hw
    simp [SOp.den] at h1
  have hcs : s ≠ .stuck → cop P o.op = some s := by
    intro hne
    unfold copS at hc
    split at hc
    · rename_i s' hs'; rw [hs', hc]
    · exact absurd hc.symm hne
  have hval : ∀ r, Sound P c E a w o r → ∀ K : Act → World → Prop, (∀ a' w', (∃ φ', SimA c φ' (r.apply o.dst E) a' w') → K a' w') → o.wpIn (FW rd) 0 P a w K Q := by
    intro r hs K hK
    obtain ⟨v, w', hrun, hsim⟩ := hs
    refine ⟨fun _ _ => trivial, ?_⟩
    rw [Oper.semAt_eq _ _ _ hdef]
    rcases hrun with hrun | ⟨hrun, rfl⟩
    · rw [hrun]; exact hK _ _ hsim
    · rw [hrun]; exact hK _ _ hsim
  have hcall : ∀ (f : FuncId) (vs : List Value) (ds : List DV) (r : Res), C P E f ds o.dst r → vs.length = ds.length → (∀ (i : Nat) (v : Value) (d : DV), vs[i]? = some v → ds[i]? = some d → RepV φ E.used w (Mut c φ E.slots) v d) →
      (execOp a.eval o).run P w = (callFunc f vs.toArray).run P w → ∀ K : Act → World → Prop, (∀ a' w', (∃ φ', SimA c φ' (r.apply o.dst E) a' w') → K a' w') → o.wpIn (FW rd) 0 P a w K Q := by
    intro f vs ds r hcr hlen hrep hrun K hK
    obtain ⟨h1, h2⟩ := hC E f ds o.dst r hcr
    refine ⟨fun _ _ => trivial, ?_⟩
    rw [Oper.semAt_eq _ _ _ hdef, hrun, run_callFunc' h1]
    refine ⟨fun h => by simp [FW, Fence.wide] at h, (callsIn_wide (n := 0 - 1).2 (h2 c φ a w vs h hd hlen hrep)).mono fun e w' he => ?_⟩
    obtain ⟨v, rfl, hs⟩ := he
    exact hK _ _ hs
  unfold OpW at hw
  split at hw
  · rename_i f args
    obtain ⟨r, h1, h2, h3⟩ := hw
    refine ⟨r, h2, h3, ?_⟩
    refine hcall f (args.map a.eval) _ r h1 (by simp) (callv_args h args) ?_
    obtain ⟨dst, op, ty, pos, after, g⟩ := o
    obtain ⟨as, ts, rfl, rfl⟩ := cop_call (hcs (by simp))
    have e : #[] ++ as.map a.eval ++ #[] = (as.toList.map a.eval).toArray := by apply Array.ext'; simp
    simp only [execOp, resolve, Act.eval, Deferred.ofValue, Sem.run_bind, Sem.run_pure, Result.andThen_ok, invoke]
    rw [← e]
  · rename_i x args
    obtain ⟨f, pre, caps, r, h0, h1, h2, h3⟩ := hw
    refine ⟨r, h2, h3, ?_⟩
    obtain ⟨us, vs, hv, hlu, hlv, hpu, hpv⟩ := (h.ev x).callee_inv h0
    refine hcall f (us ++ args.map a.eval ++ vs) _ r h1 (by simp [hlu, hlv]) (fun i v d hvi hdi => ?_) ?_
    · rw [List.append_assoc] at hvi hdi
      rw [List.getElem?_append] at hvi hdi
      rw [hlu] at hvi
      split at hvi
      · rename_i hlt
        rw [if_pos hlt] at hdi
        exact hpu _ _ _ hvi hdi
      · rename_i hlt
        rw [if_neg hlt] at hdi
        rw [List.getElem?_append] at hvi hdi
        simp only [List.length_map] at hvi hdi
        split at hvi
        · rename_i hlt
          rw [if_pos hlt] at hdi
          exact callv_args h args _ v d hvi hdi
        · rename_i hlt
          rw [if_neg hlt] at hdi
          exact hpv _ _ _ hvi hdi
    · obtain ⟨dst, op, ty, pos, after, g⟩ := o
      obtain ⟨as, ts, rfl, rfl⟩ := cop_callv (hcs (by simp))
      have e : us.toArray ++ as.map a.eval ++ vs.toArray = (us ++ as.toList.map a.eval ++ vs).toArray := by apply Array.ext'; simp
      simp only [execOp, resolve, hv, Deferred.ofValue, Sem.run_bind, Sem.run_pure, Result.andThen_ok, invoke]
      rw [← e]
  · rename_i op h1 h2
    obtain ⟨r, h3, h4, h5⟩ := hw
    exact ⟨r, h4, h5, hval r (den_sound h hd (hcs (fun he => by subst he; simp [SOp.den] at h3)) h3)⟩
end Go.Wt
/- States under other names; regions in the order of the text. -/
namespace Go.Wt
open Go.RowKit
variable {P : Program} {C : CallOk} {c : Ctx} {φ : Nm → Place} {E : Env} {a : Act} {w : World}
theorem renL_map (ρ : List (Nm × Nm)) : ∀ l : List DV, DV.renL ρ l = l.map (DV.ren ρ)
  | [] => by simp [DV.renL]
  | d :: l => by simp [DV.renL, renL_map ρ l]
theorem cells_ren (ρ : List (Nm × Nm)) (d : DV) : (d.ren ρ).cells = d.cells.map (DV.ren ρ) := by
  cases d with
  | t x => cases x <;> simp [DV.ren, DV.cells]
  | agg l => simp [DV.ren, DV.cells, renL_map]
  | ptr s k j => simp only [DV.ren]; split <;> rename_i h <;> simp [DV.cells, DV.ren, h]
  | osl s n => simp only [DV.ren]; split <;> rename_i h <;> simp [DV.cells, DV.ren, h]
  | tup l => simp [DV.ren, DV.cells]
  | fn f l => simp [DV.ren, DV.cells]
  | mfn f p l => simp [DV.ren, DV.cells]
  | mp s => simp only [DV.ren]; split <;> rename_i h <;> simp [DV.cells, DV.ren, h]
  | yl => simp only [DV.ren]; split <;> rename_i h <;> simp [DV.cells, DV.ren, h]
  | tp x j => simp [DV.ren, DV.cells]
  | wh b wa d => simp [DV.ren, DV.cells]
  | junk => simp [DV.ren, DV.cells]
theorem lookup_mem {α β : Type} [BEq α] [LawfulBEq α] : ∀ {l : List (α × β)} {x : α} {y : β}, l.lookup x = some y → (x, y) ∈ l
  | (u, v) :: l, x, y, h => by
    simp only [List.lookup] at h
    split at h
    · rename_i hu
      simp at h hu
      subst h hu
      exact List.mem_cons_self
    · exact List.mem_cons_of_mem _ (lookup_mem h)
theorem lookup_of_mem {α β : Type} [BEq α] [LawfulBEq α] : ∀ {l : List (α × β)} {x : α} {y : β}, (l.map (·.1)).Nodup → (x, y) ∈ l → l.lookup x = some y
  | (u, v) :: l, x, y, hn, h => by
    simp only [List.map_cons, List.nodup_cons] at hn
    simp only [List.lookup]
    rcases List.mem_cons.1 h with h | h
    · cases h; simp
    · have hne : x ≠ u := fun e => hn.1 (e ▸ List.mem_map.2 ⟨_, h, rfl⟩)
      have : (x == u) = false := by simpa using hne
      rw [this]
      exact lookup_of_mem hn.2 h
theorem canon_sim' (h : SimA c φ E a w) {ρ : List (Nm × Nm)} (hρ : okRen ρ = true) : ∃ φ', SimA c φ' (E.canon ρ) a w ∧ (∀ v d, RepV φ E.used w (Mut c φ E.slots) v d → RepV φ' (E.canon ρ).used w (Mut c φ' (E.canon ρ).slots) v (d.ren ρ)) ∧
    (∀ b, Mut c φ' (E.canon ρ).slots b → Mut c φ E.slots b) ∧ (∀ s r, E.slots s = some r → r.real (φ s) = true → ρ.lookup s = none → ¬ Mut c φ' (E.canon ρ).slots (φ s).blk) := by
  unfold okRen at hρ
  simp only [Bool.and_eq_true, decide_eq_true_eq, List.all_eq_true] at hρ
  obtain ⟨⟨hn1, hn2⟩, hall⟩ := hρ
  have hfl : ((flip ρ).map (·.1)).Nodup := by simpa [flip, List.map_map, Function.comp_def] using hn2
  let φ' : Nm → Place := fun s' => if s'.fixed = true then c.pin s' else match (flip ρ).lookup s' with | some s => φ s | none => ⟨0, 0, 0⟩
  have hmem : ∀ s s', (s, s') ∈ ρ ↔ (flip ρ).lookup s' = some s := by
    intro s s'
    constructor
    · intro hm
      exact lookup_of_mem hfl (by simp only [flip, List.mem_map]; exact ⟨_, hm, rfl⟩)
    · intro hl
      have := lookup_mem hl
      simp only [flip, List.mem_map] at this
      obtain ⟨⟨x, y⟩, h1, h2⟩ := this
      simp only [Prod.mk.injEq] at h2
      obtain ⟨rfl, rfl⟩ := h2
      exact h1
  have hφ : ∀ s s', (s, s') ∈ ρ → E.used s = true → φ' s' = φ s := by
    intro s s' hm hu
    have hall := hall _ hm
    simp only [Bool.or_eq_true, Bool.and_eq_true, Bool.not_eq_true', beq_iff_eq] at hall
    by_cases hf : s'.fixed = true
    · have he : s = s' := by
        rcases hall with h1 | h1
        · exact h1
        · rw [h1.2] at hf; simp at hf
      subst he
      simp only [φ', hf, if_true]
      exact (h.fix s hf hu).symm
    · simp only [φ', hf, (hmem _ _).1 hm]
      simp
  have hU : ∀ s', (E.canon ρ).used s' = true ↔ ∃ s, (s, s') ∈ ρ := by
    intro s'
    show ((flip ρ).lookup s').isSome = true ↔ _
    rw [Option.isSome_iff_exists]
    exact ⟨fun ⟨s, hs⟩ => ⟨s, (hmem _ _).2 hs⟩, fun ⟨s, hs⟩ => ⟨s, (hmem _ _).1 hs⟩⟩
  have hsl : ∀ s' r', (E.canon ρ).slots s' = some r' → ∃ s r, (s, s') ∈ ρ ∧ E.slots s = some r ∧ r' = r.ren ρ ∧ φ' s' = φ s ∧ E.used s = true := by
    intro s' r' hr
    have hr : (match (flip ρ).lookup s' with | some s0 => (E.slots s0).map (Row.ren ρ) | none => none) = some r' := hr
    split at hr
    · rename_i s hs
      rw [Option.map_eq_some_iff] at hr
      obtain ⟨r, h1, rfl⟩ := hr
      have hm := (hmem _ _).2 hs
      have hu := (h.row s r h1).1
      exact ⟨s, r, hm, h1, rfl, hφ _ _ hm hu, hu⟩
    · simp at hr
  have hrm : ∀ r : Row, (r.ren ρ).mut = r.mut := fun r => by cases r <;> rfl
  have hrr : ∀ (r : Row) (pl : Place), (r.ren ρ).real pl = r.real pl := fun r pl => by cases r <;> rfl
  have hM : ∀ b, Mut c φ' (E.canon ρ).slots b → Mut c φ E.slots b := by
    rintro b (hb | ⟨s', r', h1, h2, h3, h4⟩)
    · exact .inl hb
    · obtain ⟨s, r, _, h6, rfl, h7, _⟩ := hsl s' r' h1
      rw [h7] at h3 h4
      exact .inr ⟨s, r, h6, by rw [← hrm r]; exact h2, by rw [← hrr r]; exact h3, h4⟩
  have hrep : ∀ v d, RepV φ E.used w (Mut c φ E.slots) v d → RepV φ' (E.canon ρ).used w (Mut c φ' (E.canon ρ).slots) v (d.ren ρ) := by
    intro v d hv
    have hres : ∀ s, E.used s = true → ∀ s', ρ.lookup s = some s' → (E.canon ρ).used s' = true ∧ φ' s' = φ s := fun s hu s' hl => ⟨(hU s').2 ⟨s, lookup_mem hl⟩, hφ _ _ (lookup_mem hl) hu⟩
    induction hv with
    | t h => exact .t (h.mono (Nat.le_refl _) (fun b _ hb => ⟨rfl, fun hb' => hb (hM b hb')⟩))
    | agg hl h1 _ ih =>
      simp only [DV.ren, renL_map]
      refine .agg (by simpa using hl) h1 fun i v d hv hd => ?_
      simp only [List.getElem?_map, Option.map_eq_some_iff] at hd
      obtain ⟨d0, hd0, rfl⟩ := hd
      exact ih i v d0 hv hd0
    | tup hl _ ih =>
      simp only [DV.ren, renL_map]
      refine .tup (by simpa using hl) fun i v d hv hd => ?_
      simp only [List.getElem?_map, Option.map_eq_some_iff] at hd
      obtain ⟨d0, hd0, rfl⟩ := hd
      exact ih i v d0 hv hd0
    | ptr hu =>
      rename_i s k j
      simp only [DV.ren]
      split
      · rename_i s' hs'
        obtain ⟨h1, h2⟩ := hres s hu s' hs'
        rw [← h2]
        exact .ptr h1
      · exact .junk
    | tp u hM' hb hu h1 h2 =>
      simp only [DV.ren]
      exact .tp u (fun hb' => hM' (hM _ hb')) hb hu h1 (fun i cc hcc => (h2 i cc hcc).mono (Nat.le_refl _) (fun b _ hb => ⟨rfl, fun hb' => hb (hM b hb')⟩))
    | osl hu hn ha =>
      rename_i s n ad
      simp only [DV.ren]
      split
      · rename_i s' hs'
        obtain ⟨h1, h2⟩ := hres s hu s' hs'
        rw [← h2]
        exact .osl h1 (by rw [h2]; exact hn) (by rw [h2]; exact ha)
      · exact .junk
    | fn hl _ ih =>
      simp only [DV.ren, renL_map]
      refine .fn (by simpa using hl) fun i v d hv hd => ?_
      simp only [List.getElem?_map, Option.map_eq_some_iff] at hd
      obtain ⟨d0, hd0, rfl⟩ := hd
      exact ih i v d0 hv hd0
    | mfn hl0 hl _ _ ih0 ih =>
      simp only [DV.ren, renL_map]
      refine .mfn (by simpa using hl0) (by simpa using hl) (fun i v d hv hd => ?_) fun i v d hv hd => ?_
      · simp only [List.getElem?_map, Option.map_eq_some_iff] at hd
        obtain ⟨d0, hd0, rfl⟩ := hd
        exact ih0 i v d0 hv hd0
      · simp only [List.getElem?_map, Option.map_eq_some_iff] at hd
        obtain ⟨d0, hd0, rfl⟩ := hd
        exact ih i v d0 hv hd0
    | mp hu =>
      rename_i s
      simp only [DV.ren]
      split
      · rename_i s' hs'
        obtain ⟨h1, h2⟩ := hres s hu s' hs'
        rw [← h2]
        exact .mp h1
      · exact .junk
    | yl hu =>
      simp only [DV.ren]
      split
      · rename_i s' hs'
        have hmm := lookup_mem hs'
        have he : s' = Nm.yl := by
          have h1 := hall _ hmm
          simp only [Bool.or_eq_true, Bool.and_eq_true, Bool.not_eq_true', beq_iff_eq] at h1
          rcases h1 with h1 | h1
          · exact h1.symm
          · have h2 := h1.1; simp [Nm.fixed] at h2
        subst he
        obtain ⟨h1, h2⟩ := hres .yl hu .yl hs'
        rw [← h2]
        exact .yl h1
      · exact .junk
    | wh _ ih => simp only [DV.ren]; exact .wh fun e => ih e
    | junk => simp only [DV.ren]; exact .junk
  refine ⟨φ', ⟨⟨h.size, h.os, h.tape, h.output, h.old, h.m0, ?_, ?_, ?_, h.gl⟩, fun t => hrep _ _ (h.tm t), h.sz, h.df⟩, hrep, hM, ?_⟩
  · intro s' r' hr
    obtain ⟨s, r, h1, h2, rfl, h3, h4⟩ := hsl s' r' hr
    obtain ⟨_, h5, h6⟩ := h.row s r h2
    rw [hrr, hrm, h3]
    refine ⟨(hU s').2 ⟨s, h1⟩, ?_, h6⟩
    cases r with
    | box e d fz =>
      obtain ⟨cs, h7, h8, h9, h10⟩ := h5
      refine ⟨cs, h7, by rw [cells_ren, List.length_map]; exact h8, h9, fun i v x hv hx => ?_⟩
      rw [cells_ren, List.getElem?_map, Option.map_eq_some_iff] at hx
      obtain ⟨x0, hx0, rfl⟩ := hx
      exact hrep _ _ (h10 i v x0 hv hx0)
    | rows e m l fz =>
      rcases h5 with h5 | ⟨cs, h7, h8, h9, h10, h11, h12, h13, h14, h15⟩
      · exact .inl h5
      · refine .inr ⟨cs, h7, h8, h9, h10, h11, h12, h13, h14, fun k t j cc hk hj => ?_⟩
        obtain ⟨h16, v, h17, h18⟩ := h15 k t j cc hk hj
        exact ⟨h16, v, h17, h18.mono (Nat.le_refl _) (fun b _ hb => ⟨rfl, fun hb' => hb (hM b hb')⟩)⟩
    | obj o fz =>
      cases o with
      | mp es cl =>
        obtain ⟨ents, h7, h8, h9⟩ := h5
        refine ⟨ents, h7, by rw [List.length_map]; exact h8, fun i e x he hx => ?_⟩
        rw [List.getElem?_map, Option.map_eq_some_iff] at hx
        obtain ⟨x0, hx0, rfl⟩ := hx
        obtain ⟨h10, h11, h12⟩ := h9 i e x0 he hx0
        exact ⟨h10, h11, hrep _ _ h12⟩
      | it str p => exact h5
      | dfr => exact h5
  · intro s1 s2 r1 r2 h1 h2 hm hr1 hr2 he
    obtain ⟨x1, y1, h3, h4, rfl, h5, _⟩ := hsl s1 r1 h1
    obtain ⟨x2, y2, h6, h7, rfl, h8, _⟩ := hsl s2 r2 h2
    rw [hrm] at hm
    rw [hrr, h5] at hr1
    rw [hrr, h8] at hr2
    rw [h5, h8] at he
    have := h.inj x1 x2 y1 y2 h4 h7 hm hr1 hr2 he
    subst this
    have e1 := lookup_of_mem hn1 h3
    have e2 := lookup_of_mem hn1 h6
    rw [e1] at e2
    exact Option.some.inj e2
  · intro s' hf _
    simp only [φ', hf, if_true]
  · rintro s r hsr hre hln (⟨hb1, hb2⟩ | ⟨s', r', h1, h2, h3, h4⟩)
    · rcases ((h.row s r hsr).2.2 hre).2 with h5 | h5
      · exact hb2 h5
      · exact h5 hb1
    · obtain ⟨s2, r2, h5, h6, rfl, h7, _⟩ := hsl s' r' h1
      rw [hrm] at h2
      rw [hrr, h7] at h3
      rw [h7] at h4
      have := h.inj s2 s r2 r h6 hsr h2 h3 hre h4
      subst this
      rw [lookup_of_mem hn1 h5] at hln
      simp at hln
theorem canon_sim (h : SimA c φ E a w) {ρ : List (Nm × Nm)} (hρ : okRen ρ = true) : ∃ φ', SimA c φ' (E.canon ρ) a w :=
  let ⟨φ', h1, _⟩ := canon_sim' h hρ
  ⟨φ', h1⟩
/-- What the guard of an operation says. -/
theorem guard_wanted (h : SimA c φ E a w) {ops : Array Oper} {o : Oper} {t : Nat} {want b : Bool} {j : Nat} (hg : o.guard = some (j, want)) (hj : (ops[j]?).bind (·.dst) = some t) (ht : E.tmps t = .t (.v (.bool b))) :
    Region.wanted o (yielded ops a.tmps) = (b == want) := by
  have hv := h.tm t
  rw [ht] at hv
  have hv := hv.v_inv.1
  have : a.tmps[t]? = some (.bool b) := by
    rw [Array.getD_eq_getD_getElem?] at hv
    cases hx : a.tmps[t]? with
    | none => rw [hx] at hv; simp [undef] at hv
    | some x => rw [hx] at hv; simp at hv; rw [hv]
  unfold Region.wanted yielded
  rw [hg]
  simp only [hj, Option.bind_some, this]
  cases b <;> cases want <;> rfl
theorem guard_und (h : SimA c φ E a w) {ops : Array Oper} {o : Oper} {t : Nat} {want : Bool} {j : Nat} (hg : o.guard = some (j, want)) (hj : (ops[j]?).bind (·.dst) = some t) (ht : E.tmps t = .tup []) :
    Region.wanted o (yielded ops a.tmps) = false := by
  have hv := h.tm t
  rw [ht] at hv
  have hv : a.tmps.getD t undef = .tuple #[] := by
    generalize a.tmps.getD t undef = v at hv
    cases hv with
    | tup hl _ =>
      have := List.eq_nil_of_length_eq_zero hl
      subst this
      rfl
  unfold Region.wanted yielded
  rw [hg]
  simp only [hj, Option.bind_some]
  rw [Array.getD_eq_getD_getElem?] at hv
  cases hx : a.tmps[t]? with
  | none => cases want <;> rfl
  | some x => rw [hx] at hv; simp at hv; rw [hv]; cases want <;> rfl
theorem repV_und {φ : Nm → Place} {U : Nm → Bool} {w : World} {M : Nat → Prop} : RepV φ U w M undef (.tup []) :=
  .tup (vs := []) (ds := []) rfl fun i v d h _ => by simp at h
theorem coper_spec {n : Nat} {ops : Array Oper} {o : Oper} {so : SOper} (h : coper P n ops o = some so) : copS P o.op = so.op ∧ so.dst = o.dst ∧ o.dst.all (· < n) = true ∧
    ((o.guard = none ∧ so.guard = none) ∨ ∃ j t b, o.guard = some (j, b) ∧ (ops[j]?).bind (·.dst) = some t ∧ so.guard = some (t, b)) := by
  unfold coper at h
  simp only [Option.bind_eq_bind, Option.bind_eq_some_iff] at h
  obtain ⟨g, h2, h3⟩ := h
  split at h3
  · rename_i hd
    simp only [Option.pure_def, Option.some.injEq] at h3
    subst h3
    refine ⟨rfl, rfl, hd, ?_⟩
    split at h2
    · rename_i hg
      simp only [Option.some.injEq] at h2
      subst h2
      exact .inl ⟨hg, rfl⟩
    · rename_i j b hg
      split at h2
      · rename_i t ht
        simp only [Option.some.injEq] at h2
        subst h2
        exact .inr ⟨j, t, b, hg, ht, rfl⟩
      · simp at h2
  · simp at h3
/-- Contexts that a walk may come to. -/
structure RlOk (Rl : Ctx → Env → Prop) (n : Nat) : Prop where
  nn : ∀ c E, Rl c E → c.n = n
  dl : ∀ c E l, Rl c E → c.dl = some l → l ≤ c.w0.heap.size
  put : ∀ c E dst d, Rl c E → dst.all (· < n) = true → Rl c (E.putO dst d)
  upd : ∀ c E ups, Rl c E → Rl c (E.upd ups)
  can : ∀ c E ρ, Rl c E → Rl c (E.canon ρ)
theorem RlOk.apply {Rl : Ctx → Env → Prop} {n : Nat} (hr : RlOk Rl n) {dst : Option Nat} (r : Res) (h : Rl c E) (hd : dst.all (· < n) = true) : Rl c (r.apply dst E) := hr.put _ _ _ _ (hr.upd _ _ _ h) hd
/-- What it is to call what a range gives. -/
def YSnd (P : Program) (C : CallOk) (Rl : Ctx → Env → Prop) : Prop := ∀ (c : Ctx) (φ : Nm → Place) (E : Env) (a : Act) (w : World) (ds : List DV) (vs : List Value) (Kb : Bool → Env → Prop), Rl c E → SimA c φ E a w → C.yl E ds Kb → E.used .yl = true → vs.length = ds.length →
  (∀ (i : Nat) (v : Value) (d : DV), vs[i]? = some v → ds[i]? = some d → RepV φ E.used w (Mut c φ E.slots) v d) →
  ∃ fn tmps assign body, (Instr.yield (φ .yl).blk vs.toArray).run P w = .ok (.round (φ .yl).blk fn tmps assign body) w ∧
    RoundIn Fence.wide 0 P (φ .yl).blk fn tmps assign body w fun e w' => ∃ b c' φ' E', e = .returned (.bool b) ∧ Kb b E' ∧ Rl c' E' ∧ SimA c' φ' E' a w'
theorem cop_bin {op : Op} {bop : BinOp} {t : TypeId} {x y : Operand} (h : cop P op = some (.bin bop t x y)) : ∃ yt, op = .binOp bop t x y yt := by
  cases op
  case binOp => simp only [cop, Option.some.injEq, SOp.bin.injEq] at h; obtain ⟨rfl, rfl, rfl, rfl⟩ := h; exact ⟨_, rfl⟩
  case call cl =>
    exfalso
    obtain ⟨callee, as, ts⟩ := cl
    simp only [cop] at h
    cases callee with
    | value x => cases x <;> simp [ccall] at h
    | invoke _ _ => simp [ccall] at h
    | builtin b => cases b <;> first | (simp [ccall] at h; done) | (simp only [ccall] at h; (repeat' split at h) <;> simp [Option.bind_eq_some_iff] at h; done)
  all_goals (exfalso; simp only [cop] at h; (repeat' split at h) <;> first | contradiction | (simp [Option.bind_eq_some_iff] at h; done) | (cases h; done) | (simp only [Option.bind_eq_bind, Option.bind_eq_some_iff] at h; obtain ⟨z, _, h⟩ := h; split at h <;> simp [Option.bind_eq_some_iff] at h; done))
theorem run_eq_slnil {t e : TypeId} (hu : P.underlying t = some (.slice e)) (ad : Option Addr) (n cp : Nat) (w : World) : (Op.equal t (.slice ad n cp) (.slice none 0 0)).run P w = .ok ad.isNone w := by
  have key : ∀ n', (Op.equalIn (n' + 1) t (.slice ad n cp) (.slice none 0 0)).run P w = .ok ad.isNone w := by
    intro n'
    unfold Op.equalIn
    simp only [Sem.run_bind, run_underlying hu, Result.andThen_ok]
    cases ad <;> rfl
  exact key (Op.maxDepth - 1)
theorem yld_sound {Rl : Ctx → Env → Prop} {n : Nat} (hR : RlOk Rl n) (hY : YSnd P C Rl) (hRl : Rl c E) (h : SimA c φ E a w) {o : Oper} {s : SOp} {next : Env → Prop} {Q : Exit → Act → World → Prop} {rd : Option Nat} (hd : o.dst.all (· < n) = true) (hc : copS P o.op = s)
    (hw : YldW P C E o.dst next s) (K : Act → World → Prop) (hK : ∀ a' w', (∃ c' φ' E', Rl c' E' ∧ next E' ∧ SimA c' φ' E' a' w') → K a' w') : o.wpIn (FW rd) 0 P a w K Q := by
  cases s with
  | callv x args =>
    obtain ⟨h1, h2⟩ := hw
    have hc : cop P o.op = some (.callv x args) := by
      unfold copS at hc
      split at hc
      · rename_i s' hs'; rw [hs', hc]
      · cases hc
    have hx := h.ev x
    rw [h1] at hx
    generalize hv : a.eval x = v at hx
    cases hx with
    | yl hu =>
      obtain ⟨as, ts, hop, rfl⟩ := cop_callv hc
      obtain ⟨fn, tmps, assign, body, hy, hround⟩ := hY c φ E a w _ (as.toList.map a.eval) _ hRl h h2 hu (by simp) (callv_args h as.toList)
      have hdef : ∀ cl, o.op ≠ .defer cl := by intro cl he; rw [hop] at he; cases he
      refine ⟨fun _ _ => trivial, ?_⟩
      rw [Oper.semAt_eq _ _ _ hdef]
      have hrun : (execOp a.eval o).run P w = .ok (.round (φ .yl).blk fn tmps assign body) w := by
        obtain ⟨dst, op, ty, pos, after, g⟩ := o
        subst hop
        have e : #[] ++ as.map a.eval = (as.toList.map a.eval).toArray := by apply Array.ext'; simp
        simp only [execOp, resolve, hv, Deferred.ofValue, Sem.run_bind, Sem.run_pure, Result.andThen_ok, invoke]
        rw [e]
        exact hy
      rw [hrun]
      refine ⟨fun h => by simp [FW, Fence.wide] at h, ?_⟩
      have hround : RoundIn (FW rd) (0 - 1) P (φ .yl).blk fn tmps assign body w fun e w' => ∃ b c' φ' E', e = .returned (.bool b) ∧ _ ∧ Rl c' E' ∧ SimA c' φ' E' a w' := hround
      refine hround.mono fun e w' he => ?_
      obtain ⟨b, c', φ', E', rfl, h3, h4, h5⟩ := he
      have hn := hR.nn _ _ h4
      exact hK _ _ ⟨c', φ', _, hR.put _ _ _ _ h4 hd, h3, h5.put (by rw [hn]; exact hd) (.t (.v rfl))⟩
  | bin op t x y =>
    obtain ⟨neq, h1, h2, h3, h4, h5⟩ := hw
    have hc : cop P o.op = some (.bin op t x y) := by
      unfold copS at hc
      split at hc
      · rename_i s' hs'; rw [hs', hc]
      · cases hc
    obtain ⟨yt, hop⟩ := cop_bin hc
    have hu : ∃ e, P.underlying t = some (.slice e) := by
      unfold slT at h2
      split at h2
      · rename_i e he; exact ⟨e, he⟩
      · simp at h2
    obtain ⟨e, hu⟩ := hu
    have hy : a.eval y = .slice none 0 0 := by
      unfold nilO at h3
      split at h3
      · rfl
      · simp at h3
    have hx : ∃ ad n cp, a.eval x = .slice ad n cp ∧ (ad.isNone = true → (E.ev x).nilable = true) := by
      have hx := h.ev x
      generalize a.eval x = v at hx
      generalize E.ev x = d at hx h4
      unfold DV.slD at h4
      split at h4
      · obtain ⟨ad, rfl⟩ := hx.e0_inv
        exact ⟨ad, _, _, rfl, fun _ => rfl⟩
      · rename_i m l
        cases l with
        | nil => obtain ⟨ad, cp, rfl, _⟩ := hx.sl_inv; exact ⟨ad, _, _, rfl, fun _ => rfl⟩
        | cons t l =>
          cases hx with
          | t hx => cases hx with
            | sl u hM hb hn hc hm hu h1 h => exact ⟨_, _, _, rfl, fun hh => by simp at hh⟩
      · simp at h4
    obtain ⟨ad, n, cp, hxv, hnil⟩ := hx
    have hdef : ∀ cl, o.op ≠ .defer cl := by intro cl he; rw [hop] at he; cases he
    refine ⟨fun _ _ => trivial, ?_⟩
    rw [Oper.semAt_eq _ _ _ hdef]
    have hrun : (execOp a.eval o).run P w = .ok (.value (.bool (ad.isNone != neq))) w := by
      obtain ⟨dst, op', ty, pos, after, g⟩ := o
      subst hop
      have hq := run_eq_slnil hu ad n cp w
      have e : ∀ (b : Bool), (Sem.run P (if b = true then (pure () : Sem Unit) else pure ()) w) = .ok () w := by intro b; cases b <;> rfl
      cases op <;> simp [isEq] at h1
      · subst h1
        simp only [execOp, hxv, hy, eqGuard, binOp, Sem.run_bind]
        simp [e, hq]
      · subst h1
        simp only [execOp, hxv, hy, eqGuard, binOp, Sem.run_bind]
        simp [e, hq]
    rw [hrun]
    have hn := hR.nn _ _ hRl
    exact hK _ _ ⟨c, φ, _, hR.put _ _ _ _ hRl hd, h5 _ hnil, h.put (by rw [hn]; exact hd) (.t (.v rfl))⟩
  | _ => exact hw.elim
/-- A region whose operations go in the order of the text. -/
theorem ops_sound {Rl : Ctx → Env → Prop} {n : Nat} (hR : RlOk Rl n) (hY : YSnd P C Rl) (hC : CSound P C) {rd : Option Nat} {pr : List (Nat × Nat)} {ops : Array Oper} {K : Env → Prop} {Q : Exit → Act → World → Prop} (hK : ∀ c E φ a w, Rl c E → K E → SimA c φ E a w → Q .normal a w) :
    ∀ (l : List Oper) (sl : List SOper) (ix : Nat) (log : List Log) (c : Ctx) (φ : Nm → Place) (E : Env) (a : Act) (w : World), Rl c E → l.mapM (coper P n ops) = some sl → SimA c φ E a w → OpsW P C pr ix log sl E K → wpListIn (FW rd) 0 P ops Q l a w
  | [], sl, ix, log, c, φ, E, a, w, hRl, hm, h, hw => by
    simp at hm
    subst hm
    exact hK c E φ a w hRl hw h
  | o :: l, sl, ix, log, c, φ, E, a, w, hRl, hm, h, hw => by
    simp only [List.mapM_cons, Option.pure_def, Option.bind_eq_bind] at hm
    obtain ⟨so, h1, hm⟩ := Option.bind_eq_some_iff.1 hm
    obtain ⟨sl', h2, hm⟩ := Option.bind_eq_some_iff.1 hm
    simp only [Option.some.injEq] at hm
    subst hm
    obtain ⟨hc, hdst, hd', hg⟩ := coper_spec h1
    have hn := hR.nn _ _ hRl
    have hd : o.dst.all (· < c.n) = true := by rw [hn]; exact hd'
    unfold OpsW at hw
    simp only at hw
    unfold wpListIn
    have hone : (OpW P C pr ix log o.dst E (fun r => OpsW P C pr (ix + 1) (addLog pr ix r.rd (r.ups.map (·.1)) log) sl' (r.apply o.dst E) K) so.op ∨ (pr = [] ∧ YldW P C E o.dst (fun E' => OpsW P C pr (ix + 1) log sl' E' K) so.op)) → o.wpIn (FW rd) 0 P a w (wpListIn (FW rd) 0 P ops Q l) Q := by
      rintro (hw | ⟨_, hw⟩)
      · obtain ⟨r, _, h4, h5⟩ := op_sound (Q := Q) hC h hd hc hw
        exact h5 _ fun a' w' ⟨φ', hs⟩ => ops_sound hR hY hC hK l sl' _ _ c φ' _ a' w' (hR.apply r hRl hd') h2 hs h4
      · exact yld_sound hR hY hRl h hd' hc hw _ fun a' w' ⟨c', φ', E', h3, h4, h5⟩ => ops_sound hR hY hC hK l sl' _ _ c' φ' E' a' w' h3 h2 h5 h4
    rcases hg with ⟨hg1, hg2⟩ | ⟨j, t, b, hg1, hg2, hg3⟩
    · rw [hg2] at hw
      simp only at hw
      have hwant : Region.wanted o (yielded ops a.tmps) = true := by simp [Region.wanted, hg1]
      rw [if_pos hwant]
      rw [hdst] at hw
      exact hone hw
    · rw [hg3] at hw
      simp only at hw
      rcases hw with ⟨ht, hw⟩ | ⟨bv, ht, hw⟩
      · rw [guard_und h hg1 hg2 ht, if_neg (by simp)]
        rw [hdst] at hw
        exact ⟨fun _ _ => trivial, ops_sound hR hY hC hK l sl' _ _ c φ _ _ w (hR.put _ _ _ _ hRl hd') h2 (h.put hd repV_und) hw⟩
      rw [guard_wanted h hg1 hg2 ht]
      rw [hdst] at hw
      rcases hw with hw | hw
      · by_cases hb : (bv == b) = true
        · rw [if_pos hb]
          exact hone (hw.1 hb)
        · rw [if_neg hb]
          exact ⟨fun _ _ => trivial, ops_sound hR hY hC hK l sl' _ _ c φ _ _ w (hR.put _ _ _ _ hRl hd') h2 (h.put hd repV_und) (hw.2 (by simpa using hb))⟩
      · by_cases hb : (bv == b) = true
        · rw [if_pos hb]
          have hbe : bv = b := by simpa using hb
          obtain ⟨r, _, h4, h5⟩ := op_sound (Q := Q) hC (h.under hbe) hd hc hw
          refine h5 _ fun a' w' ⟨φ', hs⟩ => ops_sound hR hY hC hK l sl' _ _ c φ' _ a' w' (hR.put _ _ _ _ hRl hd') h2 ?_ h4.2
          have : r.apply o.dst (E.under bv b) = (E.under bv b).putO o.dst r.d := by
            unfold Res.apply
            rw [h4.1]
            rfl
          rw [this] at hs
          exact hs.under_put
        · rw [if_neg hb]
          have hbe : ¬ bv = b := by simpa using hb
          -- not wanted: what stands there says nothing
          unfold OpW at hw
          have : ∃ r : Res, OpsW P C pr (ix + 1) (addLog pr ix r.rd [] log) sl' (E.putO o.dst (.wh bv b r.d)) K := by
            split at hw
            · obtain ⟨r, _, _, h3, h4⟩ := hw; exact ⟨r, h4⟩
            · obtain ⟨_, _, _, r, _, _, _, h3, h4⟩ := hw; exact ⟨r, h4⟩
            · obtain ⟨r, _, _, h3, h4⟩ := hw; exact ⟨r, h4⟩
          obtain ⟨r, h4⟩ := this
          exact ⟨fun _ _ => trivial, ops_sound hR hY hC hK l sl' _ _ c φ _ _ w (hR.put _ _ _ _ hRl hd') h2 (h.put hd (.wh fun e => absurd e hbe)) h4⟩
end Go.Wt
