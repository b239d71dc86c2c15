/- Laws by which a walk over trees is worked out by simp. -/
import Derived.Test.YtbeiejanhoiodaaGreatMA1
import Derived.Test.YtbeiejanhoiodaaGreatMA8
import Derived.Test.YtbeiejanhoiodaaGreatMA9
set_option linter.unusedSimpArgs false
set_option linter.unusedVariables false
namespace Go.Wt
open Go.RowKit
variable {P : Program} {C : CallOk} {Q : Exit → Env → Prop} {k : List Fr} {E : Env} {pr : List (Nat × Nat)} {ix : Nat} {log : List Log} {rest : List SOper} {dst : Option Nat} {t : TypeId} {x y : Operand}
theorem bind_pure' {α β : Type} (a : α) (f : α → Sem β) : (Sem.bind (.pure a) f) = f a := rfl
section
open Sem
@[simp] theorem dBin_add (κ : IntKind) (a b : Int) : dBin P .add t x y (.t (.v (.int κ a))) (.t (.v (.int κ b))) = val (.t (.v (.int κ (κ.wrap (a + b))))) := by
  simp [dBin, eqGuard, binOp, Op.intArith, pureRun, chk, plain, plain0, Bind.bind, Sem.bind, Pure.pure]
@[simp] theorem dBin_sub (κ : IntKind) (a b : Int) : dBin P .sub t x y (.t (.v (.int κ a))) (.t (.v (.int κ b))) = val (.t (.v (.int κ (κ.wrap (a - b))))) := by
  simp [dBin, eqGuard, binOp, Op.intArith, pureRun, chk, plain, plain0, Bind.bind, Sem.bind, Pure.pure]
@[simp] theorem dBin_mul (κ : IntKind) (a b : Int) : dBin P .mul t x y (.t (.v (.int κ a))) (.t (.v (.int κ b))) = val (.t (.v (.int κ (κ.wrap (a * b))))) := by
  simp [dBin, eqGuard, binOp, Op.intArith, pureRun, chk, plain, plain0, Bind.bind, Sem.bind, Pure.pure]
@[simp] theorem dBin_lss (κ : IntKind) (a b : Int) : dBin P .lss t x y (.t (.v (.int κ a))) (.t (.v (.int κ b))) = val (.t (.v (.bool (decide (a < b))))) := by
  simp [dBin, eqGuard, binOp, Op.intCmp, pureRun, chk, plain, plain0, Bind.bind, Sem.bind, Pure.pure]
@[simp] theorem dBin_leq (κ : IntKind) (a b : Int) : dBin P .leq t x y (.t (.v (.int κ a))) (.t (.v (.int κ b))) = val (.t (.v (.bool (decide (a ≤ b))))) := by
  simp [dBin, eqGuard, binOp, Op.intCmp, pureRun, chk, plain, plain0, Bind.bind, Sem.bind, Pure.pure]
@[simp] theorem dBin_gtr (κ : IntKind) (a b : Int) : dBin P .gtr t x y (.t (.v (.int κ a))) (.t (.v (.int κ b))) = val (.t (.v (.bool (decide (b < a))))) := by
  simp [dBin, eqGuard, binOp, Op.intCmp, pureRun, chk, plain, plain0, Bind.bind, Sem.bind, Pure.pure]
@[simp] theorem dBin_geq (κ : IntKind) (a b : Int) : dBin P .geq t x y (.t (.v (.int κ a))) (.t (.v (.int κ b))) = val (.t (.v (.bool (decide (b ≤ a))))) := by
  simp [dBin, eqGuard, binOp, Op.intCmp, pureRun, chk, plain, plain0, Bind.bind, Sem.bind, Pure.pure]
@[simp] theorem dBin_eql (κ : IntKind) (a b : Int) : dBin P .eql t x y (.t (.v (.int κ a))) (.t (.v (.int κ b))) = val (.t (.v (.bool (decide (a = b))))) := by
  simp [dBin, eqGuard, binOp, Op.intCmp, pureRun, chk, plain, plain0, Bind.bind, Sem.bind, Pure.pure, Bool.beq_eq_decide_eq]
@[simp] theorem dBin_neq (κ : IntKind) (a b : Int) : dBin P .neq t x y (.t (.v (.int κ a))) (.t (.v (.int κ b))) = val (.t (.v (.bool (!decide (a = b))))) := by
  simp [dBin, eqGuard, binOp, Op.intCmp, pureRun, chk, plain, plain0, Bind.bind, Sem.bind, Pure.pure, bne, Bool.beq_eq_decide_eq]
@[simp] theorem dBin_seql (a b : ByteArray) : dBin P .eql t x y (.t (.v (.string a))) (.t (.v (.string b))) = val (.t (.v (.bool (a.toList == b.toList)))) := by
  simp [dBin, eqGuard, binOp, Op.stringOp, pureRun, chk, plain, plain0, Bind.bind, Sem.bind, Pure.pure]
@[simp] theorem dBin_sneq (a b : ByteArray) : dBin P .neq t x y (.t (.v (.string a))) (.t (.v (.string b))) = val (.t (.v (.bool (!(a.toList == b.toList))))) := by
  simp [dBin, eqGuard, binOp, Op.stringOp, pureRun, chk, plain, plain0, Bind.bind, Sem.bind, Pure.pure]
@[simp] theorem dUn_not (b : Bool) : dUn P .not (.t (.v (.bool b))) = val (.t (.v (.bool (!b)))) := by
  simp [dUn, Op.unary, pureRun, chk, plain, plain0, Pure.pure]
end
@[simp] theorem tmps_put (t u : Nat) (d : DV) : (E.put t d).tmps u = if u = t then d else E.tmps u := rfl
@[simp] theorem slots_put (t : Nat) (d : DV) : (E.put t d).slots = E.slots := rfl
@[simp] theorem used_put (t : Nat) (d : DV) : (E.put t d).used = E.used := rfl
@[simp] theorem putO_some (t : Nat) (d : DV) : E.putO (some t) d = E.put t d := rfl
@[simp] theorem putO_none (d : DV) : E.putO none d = E := rfl
@[simp] theorem upd_nil : E.upd [] = E := rfl
@[simp] theorem tmps_upd (ups : List (Nm × Option Row)) : (E.upd ups).tmps = E.tmps := rfl
@[simp] theorem slots_upd (n s : Nm) (r : Option Row) (ups : List (Nm × Option Row)) : (E.upd ((n, r) :: ups)).slots s = if s = n then r else (E.upd ups).slots s := by
  by_cases h : s = n
  · subst h; simp [Env.upd, List.lookup]
  · have hb : (s == n) = false := by simpa using h
    simp [Env.upd, List.lookup, hb, h]
@[simp] theorem used_upd (n s : Nm) (r : Option Row) (ups : List (Nm × Option Row)) : (E.upd ((n, r) :: ups)).used s = if s = n then true else (E.upd ups).used s := by
  by_cases h : s = n
  · subst h; simp [Env.upd, List.lookup]
  · have hb : (s == n) = false := by simpa using h
    simp [Env.upd, List.lookup, hb, h]
@[simp] theorem apply_res (d : DV) (rd : List Nm) (ups : List (Nm × Option Row)) : (Res.mk d rd ups).apply dst E = (E.upd ups).putO dst d := rfl
@[simp] theorem tmps_under (b c : Bool) (t : Nat) : (E.under b c).tmps t = (E.tmps t).strip b c := rfl
@[simp] theorem slots_under (b c : Bool) : (E.under b c).slots = E.slots := rfl
@[simp] theorem used_under (b c : Bool) : (E.under b c).used = E.used := rfl
@[simp] theorem und_none : E.und none = E := rfl
@[simp] theorem und_some (b c : Bool) : E.und (some (b, c)) = E.under b c := rfl
@[simp] theorem strip_same (b c : Bool) (d : DV) : (DV.wh b c d).strip b c = d := by simp [DV.strip]
@[simp] theorem strip_t (b c : Bool) (x : Tree) : (DV.t x).strip b c = .t x := rfl
@[simp] theorem strip_agg (b c : Bool) (x : List DV) : (DV.agg x).strip b c = .agg x := rfl
@[simp] theorem strip_tup (b c : Bool) (x : List DV) : (DV.tup x).strip b c = .tup x := rfl
@[simp] theorem strip_ptr (b c : Bool) (s : Nm) (i j : Nat) : (DV.ptr s i j).strip b c = .ptr s i j := rfl
@[simp] theorem strip_tp (b c : Bool) (x : Tree) (j : Nat) : (DV.tp x j).strip b c = .tp x j := rfl
@[simp] theorem strip_osl (b c : Bool) (s : Nm) (j : Nat) : (DV.osl s j).strip b c = .osl s j := rfl
@[simp] theorem strip_mfn (b c : Bool) (f : FuncId) (p l : List DV) : (DV.mfn f p l).strip b c = .mfn f p l := rfl
@[simp] theorem strip_mp (b c : Bool) (s : Nm) : (DV.mp s).strip b c = .mp s := rfl
@[simp] theorem strip_yl (b c : Bool) : DV.yl.strip b c = .yl := rfl
@[simp] theorem strip_fn (b c : Bool) (f : FuncId) (l : List DV) : (DV.fn f l).strip b c = .fn f l := rfl
@[simp] theorem ev_tmp (t : Nat) : E.ev (.tmp t) = E.tmps t := rfl
@[simp] theorem ev_bool (b : Bool) : E.ev (.const (.bool b)) = .t (.v (.bool b)) := rfl
@[simp] theorem ev_int (κ : IntKind) (n : Int) : E.ev (.const (.int κ n)) = .t (.v (.int κ n)) := rfl
@[simp] theorem ev_string (s : ByteArray) : E.ev (.const (.string s)) = .t (.v (.string s)) := rfl
@[simp] theorem ev_nil : E.ev (.const (.slice none 0 0)) = .t .e0 := rfl
@[simp] theorem ev_func (f : FuncId) : E.ev (.func f) = .fn f [] := rfl
@[simp] theorem val_eq (d : DV) : val d = some ⟨d, [], []⟩ := rfl
@[simp] theorem opt_some (d : DV) : opt (some d) = some ⟨d, [], []⟩ := rfl
@[simp] theorem arm_t (b c : Bool) (x : Tree) : (DV.t x).arm b c = some (.t x) := rfl
@[simp] theorem arm_wh (b c : Bool) (d : DV) : (DV.wh b c d).arm b c = some d := by simp [DV.arm]
attribute [simp] dPick dMux dConv dFld dLen dLoad dStore dBox dEadr dAadr dExt dMm DV.part DV.setPart setCells DV.cells DV.one Tree.one Tree.cells Env.fresh nmOf fillD dMkif DV.tree? DV.t1? DV.isAgg DV.ok1 dSidx dAidx bnd
attribute [simp] SOp.den OpG okLog apartL dStoreV isNilB nilO isEq
theorem BinG_nil {t : TypeId} {x y : Operand} {bop : BinOp} {d d' : DV} (neq : Bool) (h1 : isEq bop = some neq) (h2 : slT P t = true) (h3 : d.slD = true) (h : ∀ b, (b = true → d.nilable = true) → Ops P C Q k [] (ix + 1) log rest (E.putO dst (.t (.v (.bool (b != neq)))))) : BinG P C Q k [] ix log dst rest E none bop t x y true d d' := .inr ⟨rfl, rfl, neq, h1, h2, h3, h⟩
@[simp] theorem Stp_some (r : Res) : Stp P C Q k pr ix log dst rest E none (some r) = (okLog pr ix log r = true ∧ Ops P C Q k pr (ix + 1) (addLog pr ix r.rd (r.ups.map (·.1)) log) rest (r.apply dst E)) := iffEq Iff.rfl
@[simp] theorem Stp_under (b c : Bool) (r : Res) : Stp P C Q k pr ix log dst rest E (some (b, c)) (some r) = (okLog pr ix log r = true ∧ r.ups = [] ∧ Ops P C Q k pr (ix + 1) (addLog pr ix r.rd [] log) rest (E.putO dst (.wh b c r.d))) := iffEq Iff.rfl
@[congr] theorem Stp_congr {g : Option (Bool × Bool)} {x y : Option Res} (h : x = y) : Stp P C Q k pr ix log dst rest E g x = Stp P C Q k pr ix log dst rest E g y := by rw [h]
@[simp] theorem CallvG_fn (g : Option (Bool × Bool)) (ds caps : List DV) (f : FuncId) : CallvG P C Q k pr ix log dst rest E g ds (.fn f caps) = CallG P C Q k pr ix log dst rest E g f (ds ++ caps) := by
  refine propext ⟨fun h => ?_, fun h => .inl ⟨f, [], caps, rfl, h⟩⟩
  rcases h with ⟨f', p', c', h, r⟩ | ⟨_, _, h, _⟩
  · cases h; exact r
  · cases h
@[simp] theorem CallvG_mfn (g : Option (Bool × Bool)) (ds p caps : List DV) (f : FuncId) : CallvG P C Q k pr ix log dst rest E g ds (.mfn f p caps) = CallG P C Q k pr ix log dst rest E g f (p ++ ds ++ caps) := by
  refine propext ⟨fun h => ?_, fun h => .inl ⟨f, p, caps, rfl, h⟩⟩
  rcases h with ⟨f', p', c', h, r⟩ | ⟨_, _, h, _⟩
  · cases h; exact r
  · cases h
@[simp] theorem CallvG_yl (ds : List DV) : CallvG P C Q k [] ix log dst rest E none ds .yl = C.yl E ds fun b E' => Ops P C Q k [] (ix + 1) log rest (E'.putO dst (.t (.v (.bool b)))) := by
  refine propext ⟨fun h => ?_, fun h => .inr ⟨rfl, rfl, rfl, h⟩⟩
  rcases h with ⟨f', p', c', h, r⟩ | ⟨_, _, _, h⟩
  · cases h
  · exact h
theorem Call_mk {g : Option (Bool × Bool)} {f : FuncId} {ds : List DV} (r : Res) (h : C P (E.und g) f ds dst r) (h2 : Stp P C Q k pr ix log dst rest E g (some r)) : CallG P C Q k pr ix log dst rest E g f ds := ⟨r, h, h2⟩
theorem Br_mk {b : Bool} {X Y : Prop} (h1 : b = true → X) (h2 : b = false → Y) : Br b X Y := ⟨h1, h2⟩
theorem Br_dec {p : Prop} [Decidable p] {X Y : Prop} (h1 : p → X) (h2 : ¬ p → Y) : Br (decide p) X Y := ⟨fun h => h1 (of_decide_eq_true h), fun h => h2 (of_decide_eq_false h)⟩
theorem nm_beq (a b : Nm) : (a == b) = decide (a = b) := rfl
attribute [simp] nm_beq Nm.isGlob addLog SRes.val resV Env.canon flip Row.ren DV.ren DV.renL okRen
end Go.Wt
/- Contracts of pure functions from their codes, as walks. -/
namespace Go.Wt
open Go.RowKit
variable {P : Program} {C : CallOk} {E : Env}
theorem canon_nil_slots : (E.canon []).slots = fun _ => none := by funext s; simp [Env.canon, flip]
theorem out_nil (k : Ct) (h1 : k.rows' = []) (h2 : k.new = []) : k.out = fun _ => none := by
  funext s
  cases s <;> simp [Ct.out, ctSlots, h1, h2]
/-- The contract of a pure function. -/
def pureCt (ts : List Tree) (d : DV) : Ct := ⟨[], ts.map .t, [], d, [], []⟩
theorem ends_pure {ts : List Tree} {d d' : DV} (h : E.outD [] d' = d) : Ends (pureCt ts d) d' E := .inl ⟨[], rfl, by rw [canon_nil_slots, out_nil _ rfl rfl], h⟩
/-- The state in which a pure function begins. -/
def argE (ts : List Tree) : Env where
  tmps := fun t => (ts.map DV.t).getD t .junk
  slots := fun _ => none
  used := fun _ => false
theorem holds_pure (hm : P.follows .mixedOrders = true) {f : FuncId} {fn : Func} {code : Code} {s : SCode} {rs : List SRes} (hf : P.funcs[f]? = some fn) (hng : (fn.name == "runtime.NumGoroutine") = false)
    (hb : fn.body = some code) (hs : compile P fn.ntmps true code = some s) (hr : cresults P fn = some rs) (ts : List Tree) (d : DV) (hn : ts.length ≤ fn.ntmps) (hw : Run P Ctr (Fin rs (Ends (pureCt ts d))) [.code s] (argE ts)) : Holds P f ts d := by
  have he : (Ct.mk [] (ts.map .t) [] d [] []).env = argE ts := by
    refine Env.ext' rfl (funext fun s => ?_) (funext fun s => ?_)
    · cases s <;> simp [Ct.env, ctSlots, argE]
    · cases s <;> simp [Ct.env, Ct.used0, argE]
  refine holds_of ctr_sound ctr_local (fun _ _ _ h => h) (fun _ _ _ h => h) hm hf hng hb hs hr _ (by simpa using hn) ?_
  rw [he]
  exact hw
end Go.Wt
/- slices.Clone. -/
namespace Go.Wt
open Go.RowKit
variable {P : Program}
def cloneS (t : TypeId) (e m m' : Nat) (b : Bool) (zs : List Tree) (z : Tree) : SCode := (.seq (.region [⟨some 2, .mv (.const (.slice none 0 0)), none⟩]) (.seq (.seq (.region [⟨some 3, .mv (.tmp 0), none⟩,
  ⟨some 4, .bin .eql t (.tmp 3) (.const (.slice none 0 0)), none⟩]) (.cond (.tmp 4) (.seq (.region [⟨some 2, .mv (.const (.slice none 0 0)), none⟩]) .ret) .skip)) (.seq (.region [⟨some 5, .lits b m' 0 zs [], none⟩,
  ⟨some 6, .mv (.tmp 0), none⟩,
  ⟨some 7, .app e m z (.tmp 5) (.tmp 6), none⟩,
  ⟨some 2, .mv (.tmp 7), none⟩]) .ret)))
def cloneE (d : DV) : Env where
  tmps := fun t => [d].getD t .junk
  slots := fun _ => none
  used := fun _ => false
def cloneK (e m : Nat) (d : DV) (l : List Tree) : Ct := ⟨[], [d], [], .osl (.loc 0 0) l.length, [], [.rows e m l false]⟩
theorem clone_env (e m : Nat) (d : DV) (l : List Tree) : (cloneK e m d l).env = cloneE d := by
  refine Env.ext' rfl (funext fun s => ?_) (funext fun s => ?_)
  · cases s <;> simp [Ct.env, ctSlots, cloneE, cloneK]
  · cases s <;> simp [Ct.env, Ct.used0, cloneE, cloneK]
theorem clone_out (e m : Nat) (d : DV) (l : List Tree) {E : Env} {n : Nat} (hsl : E.slots (.loc 7 0) = some (.rows e m l false)) (hn : n = l.length) : Ends (cloneK e m d l) (.osl (.loc 7 0) n) E := by
  subst hn
  refine .inl ⟨[(.loc 7 0, .loc 0 0)], rfl, ?_, ?_⟩
  · funext s
    cases s with
    | loc a i =>
      by_cases h : Nm.loc a i = .loc 0 0
      · cases h
        simp [Env.canon, flip, List.lookup, hsl, Ct.out, ctSlots, cloneK, Row.ren]
      · have hb : (Nm.loc a i == Nm.loc 0 0) = false := by simpa using h
        simp only [Env.canon, flip, List.map_cons, List.map_nil, List.lookup, hb, Ct.out, ctSlots, cloneK]
        by_cases ha : a = 0
        · subst ha
          cases i with
          | zero => exact absurd rfl h
          | succ i => simp
        · simp [ha]
    | _ => simp [Env.canon, flip, List.lookup, Ct.out, ctSlots, cloneK]
  · simp only [Env.outD, Env.out1, Env.view, Env.view1, hsl, Nat.le_refl, if_true]
    simp [List.lookup, DV.ren, cloneK]
theorem clone_nil (e m : Nat) (d : DV) {E : Env} (hm : 0 < m) : Ends (cloneK e m d []) (.t .e0) E := by
  refine .inr ⟨rfl, rfl, [], e, m, rfl, hm, rfl, by simp [Env.canon, flip], ?_⟩
  funext s
  cases s <;> simp [Env.canon, flip, ctSlots, cloneK]
theorem clone_w {t : TypeId} {e m m' : Nat} {b : Bool} {zs : List Tree} {z : Tree} (ht : slT P t = true) (hm : 0 < m) {d : DV} {l : List Tree} (hd : (d = .t .e0 ∧ l = []) ∨ d = .t (.sl m l)) (hl : l.length ≤ LIM) :
    Run P Ctr (Fin [.tmp 2] (Ends (cloneK e m d l))) [.code (cloneS t e m m' b zs z)] (cloneE d) := by
  have hmore : ∀ E : Env, E.more m d = some (l, []) := by
    intro E
    rcases hd with ⟨rfl, rfl⟩ | rfl <;> simp [Env.more, Env.view]
  have hslD : d.slD = true := by rcases hd with ⟨rfl, _⟩ | rfl <;> rfl
  have hnil : d.nilable = true → l = [] := by
    rcases hd with ⟨rfl, rfl⟩ | rfl
    · exact fun _ => rfl
    · intro h
      cases l with
      | nil => rfl
      | cons _ _ => simp [DV.nilable] at h
  have hst : ∀ b c, d.strip b c = d := by rcases hd with ⟨rfl, _⟩ | rfl <;> exact fun _ _ => rfl
  simp [cloneS, cloneE]
  refine BinG_nil false rfl ht hslD fun bb hb => ?_
  cases bb with
  | true =>
    have := hnil (hb rfl)
    subst this
    simp
    exact clone_nil e m d hm
  | false =>
    simp [dLits, dApp, hmore, hl]
    exact clone_out e m d l (by simp) rfl
/-- What slices.Clone does. -/
theorem clone_holds (hmo : P.follows .mixedOrders = true) {f : FuncId} {fn : XFn} (hx : XOk P f fn) {t : TypeId} {e m m' : Nat} {b : Bool} {zs : List Tree} {z : Tree} (hc : fn.code = cloneS t e m m' b zs z) (hr : fn.res = [.tmp 2]) (hn : 1 ≤ fn.nt) (ht : slT P t = true) (hm : 0 < m) {x : Tree} {l : List Tree} (hd : (x = .e0 ∧ l = []) ∨ x = .sl m l) (hl : l.length ≤ LIM) :
    HoldsG P f ⟨[], [x].map .t, [], .osl (.loc 0 0) l.length, [], [.rows e m l false]⟩ := by
  obtain ⟨Fn, c, h1, h2, h3, h4, h5, h6, h7⟩ := hx
  rw [hc] at h4
  rw [hr] at h6
  refine holds_of ctr_sound ctr_local (fun _ _ _ h => h) (fun _ _ _ h => h) hmo h1 h2 h3 h4 h6 (cloneK e m (.t x) l) (by rw [← h7]; exact hn) ?_
  rw [clone_env]
  exact clone_w ht hm (hd.imp (fun h => ⟨by rw [h.1], h.2⟩) (fun h => by rw [h])) hl
def cloneO (e m : Nat) : List Tree → Option (DV × List Row)
  | [.e0] => some (.osl (.loc 0 0) 0, [.rows e m [] false])
  | [.sl m' l] => if m' = m ∧ l.length ≤ LIM then some (.osl (.loc 0 0) l.length, [.rows e m l false]) else none
  | _ => none
theorem cloneO_holds (hmo : P.follows .mixedOrders = true) {f : FuncId} {fn : XFn} (hx : XOk P f fn) {t : TypeId} {e m m' : Nat} {b : Bool} {zs : List Tree} {z : Tree} (hc : fn.code = cloneS t e m m' b zs z) (hr : fn.res = [.tmp 2]) (hn : 1 ≤ fn.nt) (ht : slT P t = true) (hm : 0 < m) {ts : List Tree} {d : DV} {new : List Row} (h : cloneO e m ts = some (d, new)) :
    HoldsG P f ⟨[], ts.map .t, [], d, [], new⟩ := by
  unfold cloneO at h
  split at h
  · simp only [Option.some.injEq, Prod.mk.injEq] at h
    obtain ⟨rfl, rfl⟩ := h
    exact clone_holds hmo hx hc hr hn ht hm (l := []) (.inl ⟨rfl, rfl⟩) (by simp)
  · split at h
    · rename_i m2 l hl
      simp only [Option.some.injEq, Prod.mk.injEq] at h
      obtain ⟨rfl, rfl⟩ := h
      obtain ⟨rfl, hl⟩ := hl
      exact clone_holds hmo hx hc hr hn ht hm (.inr rfl) hl
    · simp at h
  · simp at h
/-- A table of functions. -/
def AllOk (P : Program) : List (FuncId × XFn) → Prop
  | [] => True
  | p :: l => XOk P p.1 p.2 ∧ AllOk P l
theorem allOk_lookup : ∀ {l : List (FuncId × XFn)}, AllOk P l → ∀ f fn, l.lookup f = some fn → XOk P f fn
  | [], _, f, fn, h => by simp at h
  | p :: l, ⟨h1, h2⟩, f, fn, h => by
    simp only [List.lookup] at h
    split at h
    · rename_i he
      simp only [Option.some.injEq] at h
      subst h
      have : f = p.1 := by simpa using he
      subst this
      exact h1
    · exact allOk_lookup h2 f fn h
end Go.Wt
/- What a run says of a function. -/
namespace Go.Wt
open Go.RowKit
variable {P : Program}
/-- A state in which a pure function begins. -/
def pureStart (ts : List Tree) (nt : Nat) : XE := (Prep.mk [] [] [] (ts.map .t) []).start nt
/-- The result of a run. -/
def runD (P : Program) (T : FuncId → Option XFn) (O : FuncId → List Tree → Option (DV × List Row)) (n : Nat) (fn : XFn) (ts : List Tree) : Option DV :=
  match xgo P T O n (.code .no fn.code (pureStart ts fn.nt)) with
  | some (.code [(e, y)]) => match e with
    | .exit _ => none
    | _ => (resV y.env fn.res).map fun d => y.env.outD [] d
  | _ => none
theorem holds_run (hm : P.follows .mixedOrders = true) {T : FuncId → Option XFn} {O : FuncId → List Tree → Option (DV × List Row)} (hT : ∀ f fn, T f = some fn → XOk P f fn) (hO : ∀ f ts d new, O f ts = some (d, new) → HoldsG P f ⟨[], ts.map .t, [], d, [], new⟩)
    {f : FuncId} {fn : XFn} (hx : XOk P f fn) {n : Nat} {ts : List Tree} {d : DV} (h1 : ts.length ≤ fn.nt) (h2 : fn.nt ≤ GH) (h : runD P T O n fn ts = some d) : Holds P f ts d := by
  unfold runD at h
  split at h
  · rename_i e y hrun
    have hfin : ∀ d0, (e = .norm ∨ e = .ret) → resV y.env fn.res = some d0 → y.env.outD [] d0 = d → Holds P f ts d := by
      intro d0 he hd0 hd
      obtain ⟨Fn, c, g1, g2, g3, g4, g5, g6, g7⟩ := hx
      refine holds_of ctr_sound ctr_local (fun _ _ _ h => h) (fun _ _ _ h => h) hm g1 g2 g3 g4 g6 ⟨[], ts.map .t, [], d, [], []⟩ (by rw [← g7]; simpa using h1) ?_
      have hw := (xgo_good hm hT hO n).1 .no fn.code _ _ hrun (by simp) (Fin fn.res (Ends ⟨[], ts.map .t, [], d, [], []⟩)) (fun z hz => by
        simp only [List.mem_singleton] at hz
        subst hz
        have : FinK (Ends ⟨[], ts.map .t, [], d, [], []⟩) y.env (resV y.env fn.res) := by
          rw [hd0]
          exact .inl ⟨[], rfl, by rw [canon_nil_slots, out_nil _ rfl rfl], hd⟩
        rcases he with rfl | rfl <;> exact this)
      unfold pureStart at hw
      rw [start_env _ (by simpa using h1) h2 d [] []] at hw
      exact hw
    cases e with
    | exit id => simp at h
    | norm =>
      simp only [Option.map_eq_some_iff] at h
      obtain ⟨d0, h3, h4⟩ := h
      exact hfin d0 (.inl rfl) h3 h4
    | ret =>
      simp only [Option.map_eq_some_iff] at h
      obtain ⟨d0, h3, h4⟩ := h
      exact hfin d0 (.inr rfl) h3 h4
  · simp at h
/-- The functions that are slices.Clone, with the type of the elements and its size. -/
def CloneOk (P : Program) : List (FuncId × TypeId × Nat) → Prop
  | [] => True
  | q :: l => (∃ t m' b zs z fn, XOk P q.1 fn ∧ fn.code = cloneS t q.2.1 q.2.2 m' b zs z ∧ fn.res = [.tmp 2] ∧ 1 ≤ fn.nt ∧ slT P t = true ∧ 0 < q.2.2) ∧ CloneOk P l
def orcl (l : List (FuncId × TypeId × Nat)) (f : FuncId) (ts : List Tree) : Option (DV × List Row) := match l.lookup f with
  | some q => cloneO q.1 q.2 ts
  | none => none
theorem orcl_holds (hm : P.follows .mixedOrders = true) : ∀ {l : List (FuncId × TypeId × Nat)}, CloneOk P l → ∀ f ts d new, orcl l f ts = some (d, new) → HoldsG P f ⟨[], ts.map .t, [], d, [], new⟩
  | [], _, f, ts, d, new, h => by simp [orcl] at h
  | q :: l, ⟨h1, h2⟩, f, ts, d, new, h => by
    unfold orcl at h
    simp only [List.lookup] at h
    split at h
    · rename_i q' hq
      split at hq
      · rename_i he
        simp only [Option.some.injEq] at hq
        subst hq
        have : f = q.1 := by simpa using he
        subst this
        obtain ⟨t, m', b, zs, z, fn, g1, g2, g3, g4, g5, g6⟩ := h1
        exact cloneO_holds hm g1 g2 g3 g4 g5 g6 h
      · refine orcl_holds hm h2 f ts d new ?_
        unfold orcl
        rw [hq]
        exact h
    · simp at h
end Go.Wt
