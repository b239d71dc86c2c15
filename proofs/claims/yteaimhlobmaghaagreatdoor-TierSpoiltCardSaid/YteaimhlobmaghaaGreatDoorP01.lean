/- A part of the proof of a tier statement (the last text closes it): lemmas without condition. -/
import Derived.BigQuiet
import Derived.Still
import Derived.WalkKit
import Derived.WalkLawsBesides
import Derived.WalkSpells
set_option linter.all false
set_option maxRecDepth 10000000
set_option maxHeartbeats 0
namespace Go.Wt
abbrev ajq:=@List.getElem?_eq_getElem
abbrev ajr:=@Option.some.injEq
abbrev ajs:=@List.getElem?_eq_some_iff
abbrev ajt:=@Option.map_eq_some_iff
abbrev aju:=@List.take_of_length_le
abbrev ajv:=@Option.bind_eq_some_iff
abbrev ajw:=@List.getElem?_map
abbrev ajx:=@List.mem_of_getElem?
abbrev ajy:=@Array.getElem?_eq_some_iff
abbrev ajz:=@Nat.le_refl
abbrev ajA:=@List.length_take
abbrev ajB:=@List.length_append
abbrev ajC:=@of_decide_eq_true
abbrev ajD:=@Go.run_underlying
abbrev ajE:=@Option.bind_eq_bind
abbrev ajF:=@Go.Result.andThen_ok
abbrev ajG:=@List.mem_append
abbrev ajH:=@Go.Sem.run_bind
abbrev ajI:=@List.mem_map
abbrev ajJ:=@List.length_map
abbrev ajK:=@List.mem_cons_self
abbrev ajL:=@List.getElem_of_mem
abbrev ajM:=@Array.getD_eq_getD_getElem?
abbrev ajN:=@List.getElem?_take
abbrev ajO:=@List.eq_nil_of_length_eq_zero
abbrev ajP:=@Option.pure_def
abbrev ajQ:=@List.map_cons
abbrev ajR:=@List.all_eq_true
abbrev ajS:=@if_false
abbrev ajT:=@Bool.and_eq_true
abbrev ajU:=@Bool.false_eq_true
abbrev ajV:=@Prod.mk.injEq
abbrev ajW:=@List.mem_cons_of_mem
abbrev ajX:=@Nat.zero_add
abbrev ajY:=@Nat.lt_of_lt_of_le
abbrev ajZ:=@Nat.mul_le_mul_right
abbrev aj0:=@Go.Sem.run_pure
abbrev aj1:=@List.append_assoc
abbrev aj2:=@List.getElem?_eq_none
abbrev aj3:=@List.length_eq_zero_iff
abbrev aj4:=@List.map_nil
abbrev aj5:=@List.getD_eq_getElem?_getD
abbrev aj6:=@Nat.le_of_ble_eq_true
abbrev aj7:=@Array.getElem?_eq_getElem
abbrev aj8:=@List.map_map
abbrev aj9:=@List.length_drop
abbrev aka:=@List.getElem?_drop
abbrev akb:=@Option.isSome_iff_exists
abbrev akc:=@List.mem_cons
abbrev akd:=@List.forall_mem_cons
abbrev ake:=@Option.bind_some
abbrev akf:=@Nat.le_trans
abbrev akg:=@List.take_length
abbrev akh:=@Array.ext'
abbrev aki:=@List.map_append
abbrev akj:=@Array.getElem?_setIfInBounds
abbrev akk:=@decide_eq_true_eq
abbrev akl:=@Int.toNat_natCast
abbrev akm:=@List.mem_of_mem_take
abbrev akn:=@List.mem_of_mem_drop
abbrev ako:=@Go.heap_alloc_old
abbrev akp:=@Int.eq_ofNat_of_zero_le
abbrev akq:=@Option.map_some
abbrev akr:=@List.append_nil
abbrev aks:=@List.length_filter_le
abbrev akt:=@List.getElem?_append_left
abbrev aku:=@List.drop_eq_getElem_cons
abbrev akv:=@Array.getElem?_append
abbrev akw:=@List.getElem?_append_right
abbrev akx:=@List.length_cons
abbrev aky:=@Function.comp_def
abbrev akz:=@List.getElem?_append
abbrev akA:=@List.getElem_mem
abbrev akB:=@not_true_eq_false
section
open Go.RowKit
def cB:Value->Bool
 | .bool _| .int _ _| .float _ _| .complex _ _ _| .string _| .nilFunc| .nilIface=>true
 | .pointer a=>a.isNone
 | .map r=>r.isNone
 | .chan r=>r.isNone
 |_=>false
def b8:Value->Bool
 | .iface _ v=>cB v
 |v=>cB v
inductive ab where
 |v (x:Value)
 |agg (l:List ab)
 |sl (m:Nat) (l:List ab)
 |e0
 deriving Inhabited
def ab.cells:ab->List ab
 | .agg l=>l
 |t=>[t]
def ab.one:ab->Bool
 | .agg _=>false
 |_=>true
def co:Value->Bool
 | .agg _| .tuple _=>false
 |_=>true
inductive aM(w:World)(M:Nat->Prop):Value->ab->Prop where
 |v {x:Value} (h:b8 x=true):aM w M x (.v x)
 |agg {vs:List Value} {ts:List ab} (hl:vs.length=ts.length) (h1:∀t∈ts,t.one=true)
   (h:∀(i:Nat) (v:Value) (t:ab),vs[i]?=some v->ts[i]?=some t->aM w M v t):aM w M (.agg vs.toArray) (.agg ts)
 |e0 {a:Option Addr}:aM w M (.slice a 0 0) .e0
 |sl0 {a:Option Addr} {cap m:Nat} (hc:cap<=maxLen):aM w M (.slice a 0 cap) (.sl m [])
 |sl {b o cap m:Nat} {ts:List ab} (u:Nat->Nat->Value) (hM:¬M b) (hb:b<w.heap.size) (hn:ts.length<=cap) (hc:cap<=maxLen)
   (hm:∀t∈ts,t.cells.length=m)
   (hu:∀(k:Nat) (t:ab) (j:Nat) (c:ab),ts[k]?=some t->t.cells[j]?=some c->w.cell? ⟨b,o+k*m+j,none⟩=some (u k j))
   (h1:∀(k:Nat) (t:ab) (j:Nat) (c:ab),ts[k]?=some t->t.cells[j]?=some c->c.one=true)
   (h:∀(k:Nat) (t:ab) (j:Nat) (c:ab),ts[k]?=some t->t.cells[j]?=some c->aM w M (u k j) c):aM w M (.slice (some ⟨b,o,none⟩) ts.length cap) (.sl m ts)
def Gd{x:Value}(h:b8 x=true):co x=true:=by
 cases x<;>simp[b8,cB,co]at*
def aM.one{w:World}{M:Nat->Prop}{v:Value}{t:ab}(h:aM w M v t):co v=t.one:=by
 cases h<;>first|rfl|(rename_i h;exact Gd h)
def aM.mono{w w':World}{M M':Nat->Prop}{v:Value}{t:ab}(h:aM w M v t)(hs:w.heap.size<=w'.heap.size)
  (hw:∀b,b<w.heap.size->¬M b->w'.heap[b]?=w.heap[b]?/\¬M' b):aM w' M' v t:=by
 induction h with
 |v h=>exact .v h
 |agg hl h1 _ ih=>exact .agg hl h1 fun i v t hv ht=>ih i v t hv ht
 |e0=>exact .e0
 |sl0 hc=>exact .sl0 hc
 |sl u hM hb hn hc hm hu h1 _ ih=>
  refine .sl u (hw _ hb hM).2 (by omega) hn hc hm ?_ h1 ih
  intro k t j c hk hj
  have:=hu k t j c hk hj
  unfold World.cell? at*
  rw[(hw _ hb hM).1]
  exact this
inductive aE:ab->ab->Prop where
 |rfl {t:ab}:aE t t
 |nil {m:Nat}:aE .e0 (.sl m [])
 |agg {l l':List ab} (hl:l.length=l'.length) (h:∀(i:Nat) (x y:ab),l[i]?=some x->l'[i]?=some y->aE x y):aE (.agg l) (.agg l')
 |sl {m:Nat} {l l':List ab} (hl:l.length=l'.length) (h:∀(i:Nat) (x y:ab),l[i]?=some x->l'[i]?=some y->aE x y):aE (.sl m l) (.sl m l')
def aE.one{x y:ab}(h:aE x y):x.one=y.one:=by cases h<;>rfl
def aE.cells{x y:ab}(h:aE x y):x.cells.length=y.cells.length/\∀(j:Nat) (c d:ab),x.cells[j]?=some c->y.cells[j]?=some d->aE c d:=by
 have one:∀(x y:ab),aE x y->∀(j:Nat) (c d:ab),[x][j]?=some c->[y][j]?=some d->aE c d:=by
  intro x y h j c d hc hd
  cases j with
  |zero=>simp at hc hd;subst hc hd;exact h
  |succ j=>simp at hc
 cases h with
 |rfl=>exact⟨Eq.refl _,fun j c d hc hd=>by rw[hc]at hd;cases hd;exact .rfl⟩
 |nil=>exact⟨Eq.refl _,one _ _ .nil⟩
 |agg hl h=>exact⟨hl,h⟩
 |sl hl h=>exact⟨Eq.refl _,one _ _ (.sl hl h)⟩
def aM.le{w:World}{M:Nat->Prop}{v:Value}{x:ab}(h:aM w M v x):∀{y:ab},aE x y->aM w M v y:=by
 induction h with
 |v h=>intro y hy;cases hy;exact .v h
 |@agg vs ts hl h1 h ih=>
  intro y hy
  cases hy with
  |rfl=>exact .agg hl h1 h
  |agg XX h'=>
   refine .agg (hl.trans XX) (fun t ht=>?_) fun i v t hv ht=>?_
   .obtain⟨i,hi,rfl⟩:=ajL ht
    have TU:i<ts.length:=by omega
    rw[<-(h' i _ _ (ajq TU) (ajq hi)).one]
    exact h1 _ (akA TU)
   .have hi:=(ajs.1 ht).1
    have TU:i<ts.length:=by omega
    exact ih i v _ hv (ajq TU) (h' i _ _ (ajq TU) ht)
 |e0=>
  intro y hy
  cases hy with
  |rfl=>exact .e0
  |nil=>exact .sl0 (Nat.zero_le _)
 |sl0 hc=>
  intro y hy
  cases hy with
  |rfl=>exact .sl0 hc
  |sl hl _=>
   have:=aj3.1 (hl.symm.trans rfl)
   subst this
   exact .sl0 hc
 |@sl b o cap m ts u hM hb hn hc hm hu h1 h ih=>
  intro y hy
  cases hy with
  |rfl=>exact .sl u hM hb hn hc hm hu h1 h
  |@sl _ _ l' hl h'=>
   have aaU:∀(k:Nat) (t':ab),l'[k]?=some t'->∃t,ts[k]?=some t/\aE t t':=by
    intro k t' hk
    have hi:=(ajs.1 hk).1
    have TU:k<ts.length:=by omega
    exact⟨_,ajq TU,h' k _ _ (ajq TU) hk⟩
   have WW:∀(k:Nat) (t':ab) (j:Nat) (c':ab),l'[k]?=some t'->t'.cells[j]?=some c'->∃t c,ts[k]?=some t/\t.cells[j]?=some c/\aE c c':=by
    intro k t' j c' hk hj
    obtain⟨t,ht,TK⟩:=aaU k t' hk
    have hj':=(ajs.1 hj).1
    have hj2:j<t.cells.length:=by rw[TK.cells.1];exact hj'
    exact⟨t,_,ht,ajq hj2,TK.cells.2 j _ _ (ajq hj2) hj⟩
   rw[hl]
   refine .sl u hM hb (by omega) hc (fun t' ht'=>?_) (fun k t' j c' hk hj=>?_) (fun k t' j c' hk hj=>?_) (fun k t' j c' hk hj=>?_)
   .obtain⟨i,hi,rfl⟩:=ajL ht'
    obtain⟨t,ht,TK⟩:=aaU i _ (ajq hi)
    rw[<-TK.cells.1]
    exact hm t (ajx ht)
   .obtain⟨t,c,h2,h3,_⟩:=WW k t' j c' hk hj
    exact hu k t j c h2 h3
   .obtain⟨t,c,h2,h3,h4⟩:=WW k t' j c' hk hj
    rw[<-h4.one]
    exact h1 k t j c h2 h3
   .obtain⟨t,c,h2,h3,h4⟩:=WW k t' j c' hk hj
    exact ih k t j c h2 h3 h4
end
section
def l9:List (Nat×List Value):=[(0,[.int .i64 1,.int .i64 2,.int .i64 1,.int .i64 3,.int .i64 2,.int .i64 3,.int .i64 3,.int .i64 4]),
 (4,(List.range 20).map fun i=> .int .u64 (10^i:Nat))]
def i3:List (Nat×(Array Value->Prop)):=(l9.map fun p=>(p.1,fun cs:Array Value=>cs.toList=p.2))++[(1,fun cs=>∃tp p,cs=#[.iface tp p]),(2,fun cs=>∃tp p,cs=#[.iface tp p])]
end
section
open Go.RowKit
inductive Nm where
 |yl
 |arg (i:Nat)
 |glob (g:Nat)
 |loc (d i:Nat)
 |head (l i:Nat)
 deriving DecidableEq
inductive DV where
 |t (x:ab)
 |agg (l:List DV)
 |tup (l:List DV)
 |ptr (s:Nm) (k j:Nat)
 |tp (x:ab) (j:Nat)
 |osl (s:Nm) (n:Nat)
 |fn (f:FuncId) (caps:List DV)
 |mfn (f:FuncId) (pre caps:List DV)
 |mp (s:Nm)
 |yl
 |lst (l:List DV)
 |xs (m:Nat) (l:List ab)
 |ls (m:Nat) (l:List ab)
 |er
 |ep (d:DV)
 |wh (b Ts:Bool) (d:DV)
 |junk
 deriving Inhabited
def Nm.fixed:Nm->Bool
 | .glob _| .arg _| .yl=>true
 |_=>false
structure Place where
 blk:Nat
 cap:Nat
 m:Nat
inductive OR where
 |mp (es:List (Value×DV×Nat)) (ag2:Nat)
 |it (s:ByteArray) (pos:Nat)
 |dfr
inductive Row where
 |box (e:TypeId) (d:DV) (fz:Bool)
 |rows (e:TypeId) (m:Nat) (l:List ab) (fz:Bool)
 |obj (o:OR) (fz:Bool)
def Row.mut:Row->Bool
 | .box _ _ fz=>!fz
 | .rows _ _ _ fz=>!fz
 | .obj _ fz=>!fz
def DV.one:DV->Bool
 | .t x=>x.one
 | .agg _| .tup _| .wh _ _ _| .junk=>false
 |_=>true
def DV.cells:DV->List DV
 | .t (.agg l)=>l.map .t
 | .agg l=>l
 |d=>[d]
def DV.isAgg:DV->Bool
 | .t (.agg _)| .agg _=>true
 |_=>false
def DV.ok1:DV->Bool
 | .t _=>true
 | .agg l=>l.all DV.one
 |d=>d.one
structure aa where
 tmps:Nat->DV
 slots:Nm->Option Row
 used:Nm->Bool
structure aq where
 d:DV
 rd:List Nm
 ups:List (Nm×Option Row)
def aa.put(E:aa)(t:Nat)(d:DV):aa:={E with tmps:=fun u=>if u=t then d else E.tmps u}
def aa.putO(E:aa):Option Nat->DV->aa
 |some t,d=>E.put t d
 |none,_=>E
def aa.upd(E:aa)(ups:List (Nm×Option Row)):aa:=
 {E with slots:=fun s=>match ups.lookup s with|some r=>r|none=>E.slots s,used:=fun s=>(ups.lookup s).isSome||E.used s}
def aq.apply(r:aq)(dst:Option Nat)(E:aa):aa:=(E.upd r.ups).putO dst r.d
def DV.strip(b Ts:Bool):DV->DV
 | .wh b' Yk d=>if b=b'/\Ts=Yk then d else .wh b' Yk d
 |d=>d
def aa.under(b Ts:Bool)(E:aa):aa:={E with tmps:=fun t=>(E.tmps t).strip b Ts}
def ab.ofVal1:Value->Option ab
 | .slice none 0 0=>some .e0
 |x=>if b8 x then some (.v x)else none
def ab.ofVal:Value->Option ab
 | .agg cs=>(cs.toList.mapM ab.ofVal1).map .agg
 |x=>ab.ofVal1 x
def tM(v:Value):DV:=match ab.ofVal v with|some t=> .t t|none=> .junk
def aa.ev(E:aa):Operand->DV
 | .tmp t=>E.tmps t
 | .const v=>tM v
 | .func f=> .fn f []
 | .global g=>if E.used (.glob g)then .ptr (.glob g) 0 0 else .junk
def DV.val?:DV->Option Value
 | .t (.v x)=>some x
 |_=>none
def DV.t1?:DV->Option ab
 | .t x=>if x.one then some x else none
 |_=>none
def DV.tree?:DV->Option ab
 | .t x=>some x
 | .agg l=>(l.mapM DV.t1?).map .agg
 |_=>none
def aa.view1(E:aa):DV->Option (ab×List Nm)
 | .xs m l=>some (.sl m l,[])
 | .ls m l=>some (.sl m l,[])
 | .t x=>if x.one then some (x,[])else none
 | .osl s n=>match E.slots s with|some (.rows _ m l _)=>if n<=l.length then some (.sl m (l.take n),[s])else none|_=>none
 |_=>none
def aa.view(E:aa):DV->Option (ab×List Nm)
 | .t x=>some (x,[])
 | .agg l=>(l.mapM E.view1).map fun ps=>(.agg (ps.map (·.1)),ps.flatMap (·.2))
 |d=>E.view1 d
def aa.views(E:aa)(l:List DV):Option (List ab×List Nm):=
 (l.mapM E.view).map fun ps=>(ps.map (·.1),ps.flatMap (·.2))
def aa.viewp(E:aa):DV->Option (DV×List Nm)
 | .ptr s k j=>if k=0 then match E.slots s with|some (.box _ (.t x) _)=>some (.tp x j,[s])|_=>none else none
 | .tp x j=>some (.tp x j,[])
 |d=>(E.view d).map fun p=>(.t p.1,p.2)
def aa.viewps(E:aa)(l:List DV):Option (List DV×List Nm):=
 (l.mapM E.viewp).map fun ps=>(ps.map (·.1),ps.flatMap (·.2))
def aQ{α:Type}(P:Program):Sem α->Option α
 | .pure a=>some a
 | .program k=>aQ P (k P)
 | .mark _ k=>aQ P k
 |_=>none
def oL{α:Type}{P:Program}{s:Sem α}{a:α}(h:aQ P s=some a)(w:World):s.run P w= .ok a w:=by
 induction s with
 |pure x=>simp only[aQ,ajr]at h;subst h;rfl
 |program k ih=>simp only[aQ]at h;simp only[Sem.run];exact ih _ h
 |mark m k ih=>simp only[aQ]at h;simp only[Sem.run];exact ih h
 |_=>simp[aQ]at h
inductive al where
 |mv (x:Operand)
 |nilc (x:Operand)
 |pick (c a b:Operand)
 |bin (op:BinOp) (t:TypeId) (x y:Operand)
 |un (op:UnOp) (x:Operand)
 |conv(k:IntKind) (x:Operand)
 |b2s (x:Operand)
 |part (x:Operand) (off n:Nat) (agg:Bool)
 |aidx (x i:Operand) (len m:Nat) (agg:Bool)
 |sidx (x i:Operand)
 |build (zero:List ab) (To:List (Nat×Nat×Operand))
 |ext (x:Operand) (i:Nat)
 |fld (x:Operand) (off:Nat)
 |eadr (x i:Operand) (m:Nat)
 |aadr (x i:Operand) (len m:Nat)
 |load (n:Nat) (agg:Bool) (x:Operand)
 |store (n:Nat) (x y:Operand)
 |box (e:TypeId) (x:Operand)
 |alloc (e:TypeId) (zero:ab)
 |lits (e:TypeId) (agg:Bool) (m len:Nat) (zero:List ab) (To:List (Nat×Nat×Operand))
 |len (str:Bool) (x:Operand)
 |cap (x:Operand)
 |sstr (x:Operand) (lo hi:Option Operand)
 |ssl (x:Operand) (lo hi:Option Operand) (m:Nat)
 |ssl3 (x:Operand) (hi mx:Operand) (m:Nat)
 |ssl3l (x:Operand) (lo hi mx:Operand) (m:Nat)
 |asl (x:Operand) (len m:Nat) (agg:Bool)
 |app (e:TypeId) (m:Nat) (z:ab) (x y:Operand)
 |appz (e:TypeId) (m:Nat) (z:ab) (x y:Operand)
 |mm (mx:Bool) (x y:Operand)
 |mkfn (f:FuncId) (caps:List Operand)
 |mkif (t:TypeId) (x:Operand)
 |mkfnb (f:FuncId) (first caps:List Operand)
 |mkmap (r:Option Operand)
 |mget (kt:TypeId) (zero:ab) (x k:Operand) (ok:Bool)
 |mset (kt:TypeId) (m k x:Operand)
 |ment (kt:TypeId) (zero:ab) (m k:Operand)
 |mst (m st x:Operand)
 |mlen (x:Operand)
 |mksl (e:TypeId) (b m:Nat) (zero:ab) (l c:Operand)
 |copy (m:Nat) (x y:Operand)
 |rng (x:Operand)
 |nxt (x:Operand)
 |pan (x:Operand)
 |stuck
 |call (f:FuncId) (args:List Operand)
 |callv (x:Operand) (args:List Operand)
structure aT where
 dst:Option Nat
 op:al
 guard:Option (Nat×Bool)
inductive ac where
 |skip
 |region (ops:List aT)
 |drawn (ops:List aT) (agb:List (Nat×Nat))
 |seq (a b:ac)
 |cond (c:Operand) (x y:ac)
 |block (id:Nat) (b:ac)
 |loop (b:ac)
 |exit (id:Nat)
 |ret
 |rangef (g:Operand) (ps:List Nat) (a b:ac)
 |stuck
def val(d:DV):Option aq:=some ⟨d,[],[]⟩
def ck{α:Type}(l:List α)(off:Nat)(new:List α):List α:=l.take off++new++l.drop (off+new.length)
def DV.part(d:DV)(off n:Nat)(agg:Bool):Option DV:=
 if agg then
  if d.isAgg=false then none
  else if off=0/\n=d.cells.length then some d
  else if off+n<=d.cells.length then
   match d with
   | .t (.agg l)=>some (.t (.agg ((l.drop off).take n)))
   |_=>some (.agg ((d.cells.drop off).take n))
  else none
 else d.cells[off]?
def DV.setPart(d:DV)(off:Nat)(y:DV):Option DV:=
 if off+y.cells.length<=d.cells.length then
  if off=0/\y.cells.length=d.cells.length/\d.one=y.one then some y
  else if d.one then none
  else some (.agg (ck d.cells off y.cells))
 else none
def DV.callee:DV->Option (FuncId×List DV×List DV)
 | .fn f caps=>some (f,[],caps)
 | .mfn f pre caps=>some (f,pre,caps)
 |_=>none
def DV.arm(b c:Bool):DV->Option DV
 | .wh b' Ts d=>if b'=b/\Ts=c then some d else none
 |d=>some d
def kS(b:Bool):DV->DV->DV
 | .t (.v (.bool x)),.t (.v (.bool y))=> .t (.v (.bool (bif b then x else y)))
 | .t (.v (.int k x)),.t (.v (.int k' y))=>if k=k' then .t (.v (.int k (bif b then x else y)))else bif b then .t (.v (.int k x))else .t (.v (.int k' y))
 |x,y=>bif b then x else y
def qt:DV->DV->DV->Option aq
 | .t (.v (.bool b)),x,y=>match x.arm b true,y.arm b false with
  |some x',some y'=>val (kS b x' y')
  |_,_=>none
 |_,_,_=>none
def bU(x:Option Value):Option aq:=match x with|some v=>if b8 v then val (.t (.v v))else none|none=>none
def ab.val1?:ab->Option Value
 | .v x=>some x
 |_=>none
def DV.flat?:DV->Option Value
 | .t (.v x)=>some x
 | .t (.agg l)=>(l.mapM ab.val1?).map fun vs=> .agg vs.toArray
 | .agg l=>(l.mapM DV.val?).map fun vs=> .agg vs.toArray
 |_=>none
def qu(P:Program)(t:TypeId):Bool:=match P.underlying t with|some (.pointer _)=>true|_=>false
def tN(P:Program)(t:TypeId):Bool:=match P.underlying t with|some (.pointer e)=>(P.info? e).isSome|_=>false
def qv(P:Program)(t:TypeId):Bool:=match P.underlying t with|some (.interface _)=>true|_=>false
def eI:BinOp->Option Bool
 | .eql=>some false
 | .neq=>some true
 |_=>none
def DV.asT:DV->DV
 | .agg l=>match(DV.agg l).tree? with|some x=> .t x|none=> .agg l
 |d=>d
def dD(P:Program)(op:BinOp)(t:TypeId)(x y:Operand):DV->DV->Option aq
 | .t (.v u),.t (.v v)=>bU (aQ P (do eqGuard op t x y u v;binOp op t u v))
 | .t (.agg l),.t (.agg l')=>match(DV.t (.agg l)).flat?,(DV.t (.agg l')).flat? with
  |some u,some v=>bU (aQ P (do eqGuard op t x y u v;binOp op t u v))
  |_,_=>none
 | .ptr s k j,.ptr s' k' j'=>if s=s'/\k=k'/\j=j'/\tN P t=true then(eI op).bind fun b=>val (.t (.v (.bool !b)))else none
 | .ptr _ _ _,.t (.v (.pointer none))=>if qu P t=true then(eI op).bind fun b=>val (.t (.v (.bool b)))else none
 | .tp _ _,.t (.v (.pointer none))=>if qu P t=true then(eI op).bind fun b=>val (.t (.v (.bool b)))else none
 | .er,.t (.v .nilIface)=>if qv P t=true then(eI op).bind fun b=>val (.t (.v (.bool b)))else none
 |_,_=>none
def aX(P:Program)(op:BinOp)(t:TypeId)(x y:Operand)(d d':DV):Option aq:=dD P op t x y d.asT d'.asT
def kg(P:Program)(op:UnOp):DV->Option aq
 | .t (.v u)=>bU (aQ P (Op.unary op u))
 |_=>none
def qw(k:IntKind):DV->Option aq
 | .t (.v (.int _ n))=>val (.t (.v (.int k (k.wrap n))))
 |_=>none
def ab.byte?:ab->Option UInt8
 | .v (.int .u8 n)=>some (UInt8.ofNat n.toNat)
 |_=>none
def jv(d:Option DV):Option aq:=match d with|some x=>val x|none=>none
def qx(d:DV)(len m:Nat)(agg:Bool):DV->Option aq
 | .t (.v (.int _ i))=>if 0<=i/\i<len/\d.isAgg=true then jv (d.part (i.toNat*m) m agg)else none
 |_=>none
def qy:DV->DV->Option aq
 | .t (.v (.string s)),.t (.v (.int _ i))=>if 0<=i then match s[i.toNat]? with|some b=>val (.t (.v (.int .u8 b.toNat)))|none=>none else none
 |_,_=>none
def jw:DV->List (Nat×Nat×DV)->Option DV
 |d,[]=>some d
 |d,(off,n,x)::rest=>if x.cells.length=n/\x.ok1=true then match d.setPart off x with|some d'=>jw d' rest|none=>none else none
def qz(i:Nat):DV->Option aq
 | .tup l=>jv l[i]?
 |_=>none
def qA:DV->Nat->Option aq
 | .ptr s k j,off=>val (.ptr s k (j+off))
 | .tp x j,off=>val (.tp x (j+off))
 |_,_=>none
def qB(E:aa)(m:Nat):DV->DV->Option aq
 | .osl s n,.t (.v (.int _ i))=>match E.slots s with
  |some (.rows _ m' l _)=>if 0<=i/\i<n/\m'=m/\n<=l.length then some ⟨.ptr s i.toNat 0,[s],[]⟩else none
  |_=>none
 | .t (.sl m' l),.t (.v (.int _ i))=>if 0<=i/\i<l.length/\m'=m then match l[i.toNat]? with|some x=>val (.tp x 0)|none=>none else none
 | .xs m' l,.t (.v (.int _ i))=>if 0<=i/\i<l.length/\m'=m then match l[i.toNat]? with|some x=>val (.tp x 0)|none=>none else none
 | .ls m' l,.t (.v (.int _ i))=>if 0<=i/\i<l.length/\m'=m then match l[i.toNat]? with|some x=>val (.tp x 0)|none=>none else none
 | .lst l,.t (.v (.int _ i))=>if 0<=i/\i<l.length/\m=1 then match l[i.toNat]? with|some x=>val (.ep x)|none=>none else none
 |_,_=>none
def qC(len m:Nat):DV->DV->Option aq
 | .ptr s k j,.t (.v (.int _ i))=>if 0<=i/\i<len then val (.ptr s k (j+i.toNat*m))else none
 |_,_=>none
def ma(E:aa)(n:Nat)(agg:Bool):DV->Option aq
 | .ptr s k j=>match E.slots s with
  |some (.box _ d _)=>if k=0 then(match d.part j n agg with|some x=>some ⟨x,[s],[]⟩|none=>none)else none
  |some (.rows _ _ l _)=>match l[k]? with|some x=>(match(DV.t x).part j n agg with|some y=>some ⟨y,[s],[]⟩|none=>none)|none=>none
  |_=>none
 | .tp x j=>jv ((DV.t x).part j n agg)
 | .ep d=>if n=1/\agg=false then val d else none
 |_=>none
def fX(E:aa)(n:Nat):DV->DV->Option aq
 | .ptr s k j,y=>if y.cells.length=n/\y.ok1=true then
   match E.slots s with
   |some (.box e d false)=>if k=0 then(match d.setPart j y with|some d'=>some ⟨.junk,[s],[(s,some (.box e d' false))]⟩|none=>none)else none
   |some (.rows e m l false)=>match l[k]? with
    |some x=>(match((DV.t x).setPart j y).bind DV.tree? with|some x'=>some ⟨.junk,[s],[(s,some (.rows e m (l.set k x') false))]⟩|none=>none)
    |none=>none
   |_=>none
  else none
 |_,_=>none
def Row.frozen:Row->Row
 | .box e d _=> .box e d true
 | .rows e m l _=> .rows e m l true
 | .obj o _=> .obj o true
def am(E:aa)(F:List Nm):List (Nm×Option Row):=F.map fun s=>(s,(E.slots s).map Row.frozen)
def mb(E:aa)(n:Nat)(p y:DV):Option aq:=match fX E n p y with
 |some r=>some r
 |none=>match E.view y with
  |some (t,rd)=>match fX (E.upd (am E rd)) n p (.t t)with
   |some r=>some ⟨r.d,rd++r.rd,r.ups++am E rd⟩
   |none=>none
  |none=>none
def aa.fresh(E:aa)(s:Nm):Bool:=!E.used s
def mc(E:aa)(e:TypeId)(s:Nm)(d:DV):Option aq:=
 if E.fresh s/\d.ok1=true then some ⟨.ptr s 0 0,[],[(s,some (.box e d false))]⟩else none
def ax(agg:Bool)(m:Nat):Nat->List ab->List ab
 |0,_=>[]
 |n+1,l=>(if agg=true then .agg (l.take m)else(l.take 1).headD default)::ax agg m n (l.drop m)
def az(agg:Bool)(m len:Nat)(zero:List ab)(To:List (Nat×Nat×DV)):Option aq:=
 if len=0 then val (.t .e0)
 else if zero.length=m/\0<m/\(agg=true\/m=1)then
  match(jw (.t (.agg (List.replicate len zero).flatten)) To).bind DV.tree? with
  |some (.agg l)=>if l.length=len*m then val (if agg=true then .ls m (ax agg m len l)else .t (.sl m (ax agg m len l)))else none
  |_=>none
 else none
def aa.viewPs(E:aa)(To:List (Nat×Nat×DV)):Option (List (Nat×Nat×DV)×List Nm):=
 (To.mapM fun p=>(E.view p.2.2).map fun q=>(p.1,p.2.1,q.1,q.2)).map fun l=>(l.map fun q=>(q.1,q.2.1,.t q.2.2.1),l.flatMap fun q=>q.2.2.2)
def DV.noview:DV->Bool
 | .fn _ _| .mfn _ _ _| .ptr _ _ _| .tp _ _| .mp _| .yl| .lst _| .ep _=>true
 |_=>false
def tO(agg:Bool)(m len:Nat)(zero:List ab)(To:List (Nat×Nat×DV)):Option aq:=
 if agg=false/\m=1/\0<len/\zero.length=m then
  match jw (.t (.agg (List.replicate len zero).flatten)) To with
  |some d=>if d.cells.all DV.one=true/\d.cells.length=len then val (.lst d.cells)else none
  |none=>none
 else none
def md(E:aa)(agg:Bool)(m len:Nat)(zero:List ab)(To:List (Nat×Nat×DV)):Option aq:=match az agg m len zero To with
 |some r=>some r
 |none=>if To.any (fun p=>p.2.2.noview)=true then tO agg m len zero To else match E.viewPs To with
  |some (ps,rd)=>match az agg m len zero ps with
   |some r=>some ⟨r.d,rd++r.rd,r.ups++am E rd⟩
   |none=>none
  |none=>none
def LIM:Nat:=100000000
def dLen:Bool->DV->Option aq
 |true,.t (.v (.string s))=>val (.t (.v (.int .i64 s.size)))
 |false,.t (.sl _ l)=>val (.t (.v (.int .i64 l.length)))
 |false,.t .e0=>val (.t (.v (.int .i64 0)))
 |false,.osl _ n=>val (.t (.v (.int .i64 n)))
 |false,.xs _ l=>val (.t (.v (.int .i64 l.length)))
 |false,.ls _ l=>val (.t (.v (.int .i64 l.length)))
 |false,.lst l=>val (.t (.v (.int .i64 l.length)))
 |_,_=>none
def dCap:DV->Option aq
 | .t .e0=>val (.t (.v (.int .i64 0)))
 |_=>none
def dS(d:Int):Option DV->Option Int
 |none=>some d
 |some (.t (.v (.int _ i)))=>some i
 |_=>none
def tP(lo hi:Option DV):DV->Option aq
 | .t (.v (.string s))=>match dS 0 lo,dS s.size hi with
  |some l,some h=>if 0<=l/\l<=h/\h<=s.size then val (.t (.v (.string (s.extract l.toNat h.toNat))))else none
  |_,_=>none
 |_=>none
def bt(E:aa)(lo hi:Option DV)(m:Nat):DV->Option aq
 | .t (.sl m' l)=>match dS 0 lo,dS l.length hi with
  |some a,some b=>if 0<=a/\a<=b/\b<=l.length/\m'=m then val (.t (.sl m ((l.take b.toNat).drop a.toNat)))else none
  |_,_=>none
 | .t .e0=>match dS 0 lo,dS 0 hi with
  |some a,some b=>if a=0/\b=0 then val (.t .e0)else none
  |_,_=>none
 | .osl s n=>match E.slots s with
  |some (.rows e m' l fz)=>match dS 0 lo,dS n hi with
   |some a,some b=>if 0<=a/\a<=b/\b<=n/\n<=l.length/\m'=m then
     if a=0 then some ⟨.osl s b.toNat,[s],[]⟩else if a=b then some ⟨.t (.sl m []),[s],[]⟩else some ⟨.t (.sl m ((l.take b.toNat).drop a.toNat)),[s],if fz=true then[]else[(s,some (.rows e m l true))]⟩
    else none
   |_,_=>none
  |_=>none
 |_=>none
def DV.isE0:DV->Bool
 | .t .e0=>true
 |_=>false
def nl(E:aa)(m:Nat):DV->DV->DV->Option aq
 | .t (.v (.int _ b)),.t (.v (.int _ c)),d=>if d.isE0=true then(if b=0/\c=0 then val (.t .e0)else none)else match E.view1 d with
  |some (.sl m' l,rd)=>if 0<=b/\c=b/\b<=l.length/\m'=m then some ⟨.xs m (l.take b.toNat),rd,am E rd⟩else none
  |_=>none
 |_,_,_=>none
def np(E:aa)(m:Nat):DV->DV->DV->DV->Option aq
 | .t (.v (.int _ a)),.t (.v (.int _ b)),.t (.v (.int _ c)),d=>match E.view1 d with
  |some (.sl m' l,rd)=>if 0<=a/\a<=b/\c=b/\b<=l.length/\m'=m then some ⟨.xs m ((l.take b.toNat).drop a.toNat),rd,am E rd⟩else none
  |_=>none
 |_,_,_,_=>none
def aa.more(E:aa)(m:Nat)(d:DV):Option (List ab×List Nm):=
 match d with
 | .t (.v (.string s))=>if m=1 then some (s.data.toList.map fun b=> .v (.int .u8 b.toNat),[])else none
 |_=>match E.view d with
  |some (.e0,rd)=>some ([],rd)
  |some (.sl m' l,rd)=>if m'=m then some (l,rd)else none
  |_=>none
def oN(E:aa)(d:DV):Option aq:=
 match d with
 | .t (.v _)=>none
 |d=>match E.more 1 d with
  |some (l,rd)=>match l.mapM ab.byte? with|some bs=>some ⟨.t (.v (.string ⟨bs.toArray⟩)),rd,[]⟩|none=>none
  |none=>none
def aB(E:aa)(e:TypeId)(m:Nat)(s':Nm)(y:DV):DV->Option aq
 | .t .e0=>match E.more m y with
  |some (l,rd)=>if E.fresh s'/\l.length<=LIM then some ⟨.osl s' l.length,rd,[(s',some (.rows e m l false))]⟩else none
  |none=>none
 | .osl s n=>match E.slots s,E.more m y with
  |some (.rows e' m' l0 false),some (l,rd)=>
   if E.fresh s'/\n<=l0.length/\n+l.length<=LIM/\e'=e/\m'=m/\s∉rd then some ⟨.osl s' (n+l.length),s::rd,[(s,none),(s',some (.rows e m (l0.take n++l) false))]⟩else none
  |_,_=>none
 | .xs m' l0=>match E.more m y with
  |some (l,rd)=>if E.fresh s'/\l0.length+l.length<=LIM/\m'=m/\l≠[]then some ⟨.osl s' (l0.length+l.length),rd,[(s',some (.rows e m (l0++l) false))]⟩else none
  |none=>none
 | .ls m' l0=>match E.more m y with
  |some (l,rd)=>if E.fresh s'/\l0.length+l.length<=LIM/\m'=m/\l≠[]then some ⟨.osl s' (l0.length+l.length),rd,[(s',some (.rows e m (l0++l) false))]⟩else none
  |none=>none
 |_=>none
def oO(len m:Nat)(agg:Bool):Operand->Option aq
 | .global g=>match l9.lookup g with
  |some vs=>if 0<len/\0<m/\(agg=true\/m=1)/\vs.length=len*m/\len<=LIM/\vs.all b8=true then val (.t (.sl m (ax agg m len (vs.map .v))))else none
  |none=>none
 |_=>none
def nq(E:aa)(e:TypeId)(m:Nat)(z:ab)(s':Nm):DV->DV->Option aq
 | .t (.v (.int _ n)),d=>if 0<=n/\n<=LIM then aB E e m s' (.t (.sl m (List.replicate n.toNat z))) d else none
 |_,_=>none
def jx(mx:Bool):DV->DV->Option aq
 | .t (.v (.int k a)),.t (.v (.int _ b))=>val (.t (.v (.int k (if mx then(if a<b then b else a)else(if b<a then b else a)))))
 |_,_=>none
def qD(t:TypeId):DV->Option aq
 | .t (.v x)=>if cB x then val (.t (.v (.iface t x)))else none
 |_=>none
def jy(P:Program)(kt:TypeId)(k:Value)(aet:List Value):Option (Option Nat):=
 (aQ P (Instr.findKey kt k (aet.map fun x=>{key:=x,val:=undef,born:=0}))).map fun r=>r.map (·.1)
def mf(P:Program)(adL:Bool)(kt:TypeId)(k:Value):Bool:=(aQ P (Instr.checkKey adL 10000 kt k)).isSome
def tQ:Option DV->Bool
 |none=>true
 |some (.t (.v (.int _ _)))=>true
 |_=>false
def qE(E:aa)(s:Nm)(r:Option DV):Option aq:=
 if E.fresh s/\tQ r=true then some ⟨.mp s,[],[(s,some (.obj (.mp [] 0) false))]⟩else none
def i4(ok:Bool)(d:DV)(b:Bool):DV:=if ok then .tup [d,.t (.v (.bool b))]else d
def fy(P:Program)(E:aa)(kt:TypeId)(zero:ab)(ok:Bool)(x k:DV):Option aq:=
 match k.flat? with
 |none=>none
 |some kv=>match x with
  | .t (.v (.map none))=>if mf P true kt kv=true/\jy P kt kv []=some none then val (i4 ok (.t zero) false)else none
  | .mp s=>match E.slots s with
   |some (.obj (.mp es _) _)=>if mf P es.isEmpty kt kv=true then match jy P kt kv (es.map (·.1))with
    |some none=>some ⟨i4 ok (.t zero) false,[s],[]⟩
    |some (some i)=>match es[i]? with|some e=>some ⟨i4 ok e.2.1 true,[s],[]⟩|none=>none
    |none=>none
    else none
   |_=>none
  |_=>none
def oP(P:Program)(old new:Value):Option Value:=aQ P (Instr.keyThatStays old new)
def oQ(P:Program)(E:aa)(kt:TypeId)(x k y:DV):Option aq:=
 match k.flat?,x with
 |some kv,.mp s=>match E.slots s with
  |some (.obj (.mp es c) false)=>if mf P false kt kv=true then match jy P kt kv (es.map (·.1))with
   |some none=>some ⟨.junk,[s],[(s,some (.obj (.mp (es++[(kv,y,c)]) (c+1)) false))]⟩
   |some (some i)=>match es[i]? with
    |some e=>match oP P e.1 kv with|some k'=>some ⟨.junk,[s],[(s,some (.obj (.mp (es.set i (k',y,e.2.2)) c) false))]⟩|none=>none
    |none=>none
   |none=>none
   else none
  |_=>none
 |_,_=>none
def kh(P:Program)(E:aa)(kt:TypeId)(zero:ab)(x k:DV):Option aq:=
 match k.flat?,x with
 |some kv,.mp s=>match E.slots s with
  |some (.obj (.mp es c) false)=>if mf P false kt kv=true then match jy P kt kv (es.map (·.1))with
   |some none=>some ⟨.tup [.t zero,.t (.v (.int .i64 c))],[s],[(s,some (.obj (.mp (es++[(kv,.t zero,c)]) (c+1)) false))]⟩
   |some (some i)=>match es[i]? with
    |some e=>match oP P e.1 kv with|some k'=>some ⟨.tup [e.2.1,.t (.v (.int .i64 e.2.2))],[s],[(s,some (.obj (.mp (es.set i (k',e.2.1,e.2.2)) c) false))]⟩|none=>none
    |none=>none
   |none=>none
   else none
  |_=>none
 |_,_=>none
def ki(E:aa)(x st y:DV):Option aq:=
 match x,st with
 | .mp s,.t (.v (.int _ n))=>match E.slots s with
  |some (.obj (.mp es c) false)=>match es.findIdx? (fun e=>(e.2.2:Int)==n)with
   |some i=>match es[i]? with|some e=>some ⟨.junk,[s],[(s,some (.obj (.mp (es.set i (e.1,y,e.2.2)) c) false))]⟩|none=>none
   |none=>none
  |_=>none
 |_,_=>none
def oR(E:aa):DV->Option aq
 | .t (.v (.map none))=>val (.t (.v (.int .i64 0)))
 | .mp s=>match E.slots s with|some (.obj (.mp es _) _)=>some ⟨.t (.v (.int .i64 es.length)),[s],[]⟩|_=>none
 |_=>none
def tR(E:aa)(e:TypeId)(m:Nat)(z:ab)(s:Nm):DV->DV->Option aq
 | .t (.v (.int _ l)),.t (.v (.int _ c))=>if E.fresh s/\0<=l/\l<=c/\c<=LIM/\0<m then some ⟨.osl s l.toNat,[],[(s,some (.rows e m (List.replicate l.toNat z) false))]⟩else none
 |_,_=>none
def oS(E:aa)(m:Nat)(y:DV):DV->Option aq
 | .osl s n=>match E.slots s,E.more m y with
  |some (.rows e m' l0 false),some (l,rd)=>if m'=m/\n<=l0.length/\s∉rd/\l.length<=n then
    some ⟨.t (.v (.int .i64 l.length)),s::rd,[(s,some (.rows e m (l++l0.drop l.length) false))]⟩
   else none
  |_,_=>none
 |_=>none
def oT(E:aa)(s:Nm):DV->Option aq
 | .t (.v (.string x))=>if E.fresh s then some ⟨.ptr s 0 0,[],[(s,some (.obj (.it x 0) false))]⟩else none
 |_=>none
def kj(E:aa):DV->Option aq
 | .ptr s 0 0=>match E.slots s with
  |some (.obj (.it x pos) false)=>if pos<x.size then
    some ⟨.tup [.t (.v (.bool true)),.t (.v (.int .i64 pos)),.t (.v (.int .i32 (Utf8.decode x pos).1))],[s],[(s,some (.obj (.it x (pos+(Utf8.decode x pos).2)) false))]⟩
   else some ⟨.tup [.t (.v (.bool false))],[s],[]⟩
  |_=>none
 |_=>none
def bg:Option Nat->Nm
 |some d=> .loc d 0
 |none=> .loc 0 0
def al.den(P:Program)(E:aa)(dst:Option Nat):al->Option aq
 | .mv x=>val (E.ev x)
 | .nilc x=>match E.ev x with| .ptr s k j=>val (.ptr s k j)| .tp y j=>val (.tp y j)| .fn f c=>val (.fn f c)| .mfn f p c=>val (.mfn f p c)| .yl=>val .yl|_=>none
 | .pick c a b=>qt (E.ev c) (E.ev a) (E.ev b)
 | .bin op t x y=>aX P op t x y (E.ev x) (E.ev y)
 | .un op x=>kg P op (E.ev x)
 | .conv k x=>qw k (E.ev x)
 | .b2s x=>oN E (E.ev x)
 | .part x off n agg=>if(E.ev x).isAgg=true then jv ((E.ev x).part off n agg)else none
 | .aidx x i ln m agg=>qx (E.ev x) ln m agg (E.ev i)
 | .sidx x i=>qy (E.ev x) (E.ev i)
 | .build zero To=>jv (jw (.t (.agg zero)) (To.map fun p=>(p.1,p.2.1,E.ev p.2.2)))
 | .ext x i=>qz i (E.ev x)
 | .fld x off=>qA (E.ev x) off
 | .eadr x i m=>qB E m (E.ev x) (E.ev i)
 | .aadr x i ln m=>qC ln m (E.ev x) (E.ev i)
 | .load n agg x=>ma E n agg (E.ev x)
 | .store n x y=>mb E n (E.ev x) (E.ev y)
 | .box e x=>mc E e (bg dst) (E.ev x)
 | .alloc e zero=>mc E e (bg dst) (.t zero)
 | .lits _ agg m ln zero To=>md E agg m ln zero (To.map fun p=>(p.1,p.2.1,E.ev p.2.2))
 | .len str x=>dLen str (E.ev x)
 | .cap x=>dCap (E.ev x)
 | .sstr x lo hi=>tP (lo.map E.ev) (hi.map E.ev) (E.ev x)
 | .ssl3 x hi mx m=>nl E m (E.ev hi) (E.ev mx) (E.ev x)
 | .ssl3l x lo hi mx m=>np E m (E.ev lo) (E.ev hi) (E.ev mx) (E.ev x)
 | .asl x ln m agg=>oO ln m agg x
 | .ssl x lo hi m=>bt E (lo.map E.ev) (hi.map E.ev) m (E.ev x)
 | .app e m _ x y=>aB E e m (bg dst) (E.ev y) (E.ev x)
 | .appz e m z x y=>nq E e m z (bg dst) (E.ev y) (E.ev x)
 | .mm mx x y=>jx mx (E.ev x) (E.ev y)
 | .mkfn f caps=>val (.fn f (caps.map E.ev))
 | .mkif t x=>qD t (E.ev x)
 | .mkfnb f first caps=>val (.mfn f (first.map E.ev) (caps.map E.ev))
 | .mkmap r=>qE E (bg dst) (r.map E.ev)
 | .mget kt zero x k ok=>fy P E kt zero ok (E.ev x) (E.ev k)
 | .mset kt x k y=>oQ P E kt (E.ev x) (E.ev k) (E.ev y)
 | .ment kt zero x k=>kh P E kt zero (E.ev x) (E.ev k)
 | .mst x st y=>ki E (E.ev x) (E.ev st) (E.ev y)
 | .mlen x=>oR E (E.ev x)
 | .mksl e _ m z l c=>tR E e m z (bg dst) (E.ev l) (E.ev c)
 | .copy m x y=>oS E m (E.ev y) (E.ev x)
 | .rng x=>oT E (bg dst) (E.ev x)
 | .nxt x=>kj E (E.ev x)
 | .pan _=>none
 | .stuck=>none
 | .call _ _| .callv _ _=>none
def bm(P:Program)(t:TypeId):Option Nat:=if(P.underlying t).isSome then(P.info? t).map (·.size)else none
def bI(P:Program)(t:TypeId):Bool:=match P.underlying t with|some (.struct _)|some (.array _ _)=>true|_=>false
def cu(P:Program)(t:TypeId):Option ab:=((P.info? t).bind (·.zero)).bind ab.ofVal
def nr(P:Program)(t:TypeId)(f:Nat):Option Field:=match P.underlying t with|some (.struct fs)=>fs[f]?|_=>none
def kT(P:Program)(t:TypeId):Option TypeId:=match P.underlying t with|some (.slice e)=>some e|_=>none
def oU(P:Program)(t:TypeId)(To:List (Nat×Operand)):Option (List (Nat×Nat×Operand)):=
 match P.underlying t with
 |some (.struct fs)=>match fs.toList.mapM (fun f=>(P.info? f.type).map fun i=>(f.offset,i.size))with
  |some X2=>To.mapM fun p=>(X2[p.1]?).map fun q=>(q.1,q.2,p.2)
  |none=>none
 |some (.array _ e)=>match P.info? e with
  |some ie=>some (To.map fun p=>(p.1*ie.size,ie.size,p.2))
  |none=>none
 |_=>none
def tS(P:Program)(u:TypeId):Bool:=match P.underlying u with|some (.int _)|none=>false|_=>true
def bY(P:Program)(c:Call):Option al:=
 match c.callee with
 | .value (.func f)=>some (.call f c.args.toList)
 | .value x=>some (.callv x c.args.toList)
 | .builtin .len=>match c.args.toList,c.argTypes.toList with
  |[x],[t]=>(match P.underlying t with|some .string=>some (.len true x)|some (.slice _)=>some (.len false x)|some (.map _ _)=>some (.mlen x)|_=>none)
  |_,_=>none
 | .builtin .cap=>match c.args.toList,c.argTypes.toList with
  |[x],[t]=>(match P.underlying t with|some (.slice _)=>some (.cap x)|_=>none)
  |_,_=>none
 | .builtin .append=>match c.args.toList,c.argTypes.toList with
  |[x,y],[t,u]=>do
   let e<-kT P t
   let i<-P.info? e
   let z<-cu P e
   if 1000<i.bytes||i.size=0 then none
   else if z.cells.length=i.size then(if tS P u then some (.app e i.size z x y)else if(P.underlying u).isSome then some (.appz e i.size z x y)else none)else none
  |_,_=>none
 | .builtin .copy=>match c.args.toList,c.argTypes.toList with
  |[x,y],t::_=>do
   let e<-kT P t
   let i<-P.info? e
   if i.size=0 then none else some (.copy i.size x y)
  |_,_=>none
 | .builtin .min=>match c.args.toList with|[x,y]=>some (.mm false x y)|_=>none
 | .builtin .max=>match c.args.toList with|[x,y]=>some (.mm true x y)|_=>none
 |_=>none
def aK(P:Program)(o:Op):Option al:=
 match o with
 | .move x| .assign x=>some (.mv x)
 | .nilCheck x=>some (.nilc x)
 | .pick c a b=>some (.pick c a b)
 | .binOp op t x y _=>some (.bin op t x y)
 | .unOp op _ x=>some (.un op x)
 | .convert src dst x=>
  match P.underlying src,P.underlying dst with
  |some (.int _),some (.int k)=>some (.conv k x)
  |some (.slice e),some .string=>(match P.underlying e with|some (.int .u8)=>some (.b2s x)|_=>none)
  |_,_=>none
 | .field t x f=>do let fd<-nr P t f;let n<-bm P fd.type;pure (.part x fd.offset n (bI P fd.type))
 | .index t x i=>
  match P.underlying t with
  |some (.array len e)=>do let m<-bm P e;pure (.aidx x i len m (bI P e))
  |some .string=>some (.sidx x i)
  |_=>none
 | .build t To=>do
  let .agg zero<-cu P t|none
  let ps<-oU P t To.toList
  pure (.build zero ps)
 | .extract x i=>some (.ext x i)
 | .fieldAddr t x f=>do let fd<-nr P t f;let n<-bm P fd.type;if n=0 then none else pure (.fld x fd.offset)
 | .indexAddr t x i=>
  match P.underlying t with
  |some (.slice e)=>do let m<-bm P e;if m=0 then none else pure (.eadr x i m)
  |some (.array len e)=>do let m<-bm P e;pure (.aadr x i len m)
  |_=>none
 | .load t x=>do let n<-bm P t;pure (.load n (bI P t) x)
 | .store t x y=>do let n<-bm P t;pure (.store n x y)
 | .box e x=>some (.box e x)
 | .alloc e=>do let z<-cu P e;pure (.alloc e z)
 | .buildSlice t len To=>do
  let e<-kT P t
  let m<-bm P e
  let z<-cu P e
  if m=0||z.cells.length !=m||2^24<len*m||(len=0&&!To.isEmpty)then none else pure (.lits e (bI P e) m len z.cells (To.toList.map fun p=>(p.1*m,m,p.2)))
 | .slice t x lo hi none=>
  match P.underlying t with
  |some .string=>some (.sstr x lo hi)
  |some (.slice e)=>do let m<-bm P e;if m=0 then none else pure (.ssl x lo hi m)
  |some (.array len e)=>(match lo,hi with|none,none=>do let m<-bm P e;pure (.asl x len m (bI P e))|_,_=>none)
  |_=>none
 | .slice t x none (some hi) (some mx)=>
  match P.underlying t with
  |some (.slice e)=>do let m<-bm P e;if m=0 then none else pure (.ssl3 x hi mx m)
  |_=>none
 | .slice t x (some lo) (some hi) (some mx)=>
  match P.underlying t with
  |some (.slice e)=>do let m<-bm P e;if m=0 then none else pure (.ssl3l x lo hi mx m)
  |_=>none
 | .makeFunc fn first caps=>(match fn with| .func f=>if first.isEmpty then some (.mkfn f caps.toList)else some (.mkfnb f first.toList caps.toList)|_=>none)
 | .makeMap t r=>(match r,P.underlying t with|none,_=>some (.mkmap none)|some x,some (.map _ _)=>some (.mkmap (some x))|_,_=>none)
 | .lookup t x k ok=>(match P.underlying t with|some (.map kt e)=>(cu P e).map fun z=> .mget kt z x k ok|_=>none)
 | .mapUpdate t m k x| .insert t m k x=>(match P.underlying t with|some (.map kt _)=>some (.mset kt m k x)|_=>none)
 | .mapEntry t m k=>(match P.underlying t with|some (.map kt e)=>(cu P e).map fun z=> .ment kt z m k|_=>none)
 | .entryStore _ m s x=>some (.mst m s x)
 | .makeSlice t l c=>do
  let e<-kT P t
  let m<-bm P e
  let i<-P.info? e
  let z<-cu P e
  if m=0||z.cells.length !=m||1000<i.bytes then none else pure (.mksl e i.bytes m z l c)
 | .range t x=>(match P.underlying t with|some .string=>some (.rng x)|_=>none)
 | .next x s=>if s then some (.nxt x)else none
 | .panic x=>some (.pan x)
 | .makeInterface t x=>(match P.underlying t with|some (.interface _)|none=>none|_=>some (.mkif t x))
 | .call c=>bY P c
 |_=>none
def al.mem:al->Bool
 | .lits _ _ _ _ _ _=>true
 | .b2s _| .eadr _ _ _| .load _ _ _| .store _ _ _| .box _ _| .alloc _ _| .ssl _ _ _ _| .ssl3 _ _ _ _| .ssl3l _ _ _ _ _| .app _ _ _ _ _| .appz _ _ _ _ _| .call _ _| .callv _ _=>true
 | .mkmap _| .mget _ _ _ _ _| .mset _ _ _ _| .ment _ _ _ _| .mst _ _ _| .mlen _| .mksl _ _ _ _ _ _| .copy _ _ _| .rng _| .nxt _=>true
 |_=>false
def iA(P:Program)(o:Op):al:=match aK P o with|some s=>s|none=> .stuck
def fM(P:Program)(n:Nat)(ops:Array Oper)(o:Oper):Option aT:=do
 let g<-(match o.guard with
  |none=>some none
  |some (j,b)=>(match(ops[j]?).bind (·.dst)with|some t=>some (some (t,b))|none=>none))
 if o.dst.all (· <n)then pure ⟨o.dst,iA P o.op,g⟩else none
def dd:List Nat->List Nat
 |[]=>[]
 |x::l=>if(dd l).contains x then dd l else x::dd l
def eJ:List Oper->List (List Nat)->List (List Nat)
 |[],TV=>TV
 |o::os,TV=>eJ os (TV++[dd ((o.after.toList.filter (Region.binds .any)).flatMap fun e=>e.on::TV.getD e.on [])])
def kU(ops:Array Oper)(mem:List Bool):List (Nat×Nat):=
 let b:=eJ ops.toList []
 (List.range ops.size).flatMap fun j=>if mem.getD j true then(List.range j).filterMap fun i=>if !mem.getD i true||(b.getD j []).contains i then none else some (i,j)else[]
def g9(ops:Array Oper)(j:Nat):Bool:=
 let b:=eJ ops.toList []
 j<=ops.size&&((List.range ops.size).all fun i=>(match ops[i]? with|some o=>o.after.toList.all fun e=>!Region.binds .any e||e.on<i|none=>false))&&
  (List.range ops.size).all fun m=>m<j||(List.range m).all fun i=>(b.getD m []).contains i
def Ge(o:Oper):Bool:=match o.op with| .call ⟨.value (.tmp _),_,_⟩=>true|_=>false
def tT(ops:Array Oper):Option Nat:=(List.range ops.size).find? fun j=>(match ops[j]? with|some o=>Ge o|none=>false)&&(g9 ops j&&Region.lexB .any (ops.extract 0 j))
def aZ(P:Program)(n:Nat)(rf:Bool):Code->Option ac
 | .skip=>some .skip
 | .region _ ops false=>(ops.toList.mapM (fM P n ops)).map .region
 | .region _ ops true=>(match tT ops with
  |some j=>do
   let l<-(ops.extract 0 j).toList.mapM (fM P n (ops.extract 0 j))
   let t<-(ops.toList.drop j).mapM (fM P n ops)
   pure (.seq (.drawn l ((1000000,1000000)::kU (ops.extract 0 j) (l.map fun o=>o.op.mem))) (.region t))
  |none=>if Region.lexB .any ops then(ops.toList.mapM (fM P n ops)).map fun l=> .drawn l ((1000000,1000000)::kU ops (l.map fun o=>o.op.mem))else some .stuck)
 | .seq a b=>do let x<-aZ P n rf a;let y<-aZ P n rf b;pure (.seq x y)
 | .cond c a b=>do let x<-aZ P n rf a;let y<-aZ P n rf b;pure (.cond c x y)
 | .block id b=>(aZ P n rf b).map (.block id)
 | .loop b=>(aZ P n rf b).map .loop
 | .exit id=>some (.exit id)
 | .ret=>some .ret
 | .rangeFunc g ps a b=>if rf=true/\ps.toList.all (· <n)=true then do let x<-aZ P n false a;let y<-aZ P n false b;pure (.rangef g ps.toList x y)else some .stuck
 | .scope b=>aZ P n rf b
 | .label _=>some .skip
 |_=>some .stuck
end
end Go.Wt
