/- A part of the proof of a tier statement (the last text closes it): lemmas without condition. -/
import Derived.Test.YteaimhlobmaghaaGreatDoorP05
import Derived.Deep.LoopGhost
import Derived.OrdersIn
import Derived.RangeFuncCalls
import Derived.Sort.LoopGhostIn
import Derived.TacticsIn
set_option linter.all false
set_option maxRecDepth 10000000
set_option maxHeartbeats 0
namespace Go.Wt
section
open Go.RowKit
variable{P:Program}{c:aA}{Z:Nm->Place}{E:aa}{a:Act}{w:World}{r:aq}
def yE(h:ai c Z E a w){o:Oper}{s:al}(hd:o.dst.all (· <c.n)=true)(hc:aK P o.op=some s)(hr:s.den P E o.dst=some r):bc P c E a w o r:=by
 obtain⟨dst,op,ty,pos,after,g⟩:=o
 simp only at hd hc hr
 cases op
 case panic x=>simp only[aK,ajr]at hc;subst hc;simp[al.den]at hr
 case move x=>simp only[aK,ajr]at hc;subst hc;exact xZ h hd (.inl rfl) hr
 case assign x=>simp only[aK,ajr]at hc;subst hc;exact xZ h hd (.inr rfl) hr
 case nilCheck x=>simp only[aK,ajr]at hc;subst hc;exact Gk h hd hr
 case pick p x y=>simp only[aK,ajr]at hc;subst hc;exact Gl h hd hr
 case binOp op t x y yt=>simp only[aK,ajr]at hc;subst hc;exact Gq h hd hr
 case unOp op t x=>simp only[aK,ajr]at hc;subst hc;exact Gr h hd hr
 case extract x i=>simp only[aK,ajr]at hc;subst hc;exact Gw h hd hr
 case box e x=>simp only[aK,ajr]at hc;subst hc;exact GK h hd hr
 case convert src d x=>
  simp only[aK]at hc
  split at hc
  .rename_i k0 k h1 h2
   simp only[ajr]at hc;subst hc
   exact Gs h hd h1 h2 hr
  .rename_i e h1 h2
   split at hc
   .rename_i h3
    simp only[ajr]at hc;subst hc
    exact GZ h hd h1 h2 h3 hr
   .simp at hc
  .simp at hc
 case field t x f=>
  simp only[aK,ajE,ajv,ajP,ajr]at hc
  obtain⟨fd,h1,n,h2,rfl⟩:=hc
  exact Gt h hd h1 h2 hr
 case index t x i=>
  simp only[aK]at hc
  split at hc
  .rename_i len e h1
   simp only[ajE,ajv,ajP,ajr]at hc
   obtain⟨m,h2,rfl⟩:=hc
   exact Gu h hd h1 h2 hr
  .rename_i h1
   simp only[ajr]at hc;subst hc
   exact Gv h hd h1 hr
  .simp at hc
 case build t To=>
  simp only[aK,ajE,ajv]at hc
  obtain⟨z,h1,hc⟩:=hc
  split at hc
  .rename_i zl
   simp only[ajv,ajP,ajr]at hc
   obtain⟨ps,h2,rfl⟩:=hc
   exact GY h hd h1 h2 hr
  .simp at hc
 case fieldAddr t x f=>
  simp only[aK,ajE,ajv]at hc
  obtain⟨fd,h1,n,h2,hc⟩:=hc
  split at hc
  .simp at hc
  .rename_i h3
   simp only[ajP,ajr]at hc;subst hc
   exact Gx h hd h1 h2 h3 hr
 case indexAddr t x i=>
  simp only[aK]at hc
  split at hc
  .rename_i e h1
   simp only[ajE,ajv]at hc
   obtain⟨m,h2,hc⟩:=hc
   split at hc
   .simp at hc
   .rename_i h3
    simp only[ajP,ajr]at hc;subst hc
    exact Gz h hd h1 h2 h3 hr
  .rename_i len e h1
   simp only[ajE,ajv,ajP,ajr]at hc
   obtain⟨m,h2,rfl⟩:=hc
   exact Gy h hd h1 h2 hr
  .simp at hc
 case load t x=>
  simp only[aK,ajE,ajv,ajP,ajr]at hc
  obtain⟨n,h1,rfl⟩:=hc
  exact GF h hd h1 hr
 case store t x y=>
  simp only[aK,ajE,ajv,ajP,ajr]at hc
  obtain⟨n,h1,rfl⟩:=hc
  exact GI h hd h1 hr
 case alloc e=>
  simp only[aK,ajE,ajv,ajP,ajr]at hc
  obtain⟨z,h1,rfl⟩:=hc
  exact GL h hd h1 hr
 case buildSlice t len To=>
  simp only[aK,ajE,ajv]at hc
  obtain⟨e,h1,m,h2,z,h3,hc⟩:=hc
  split at hc
  .simp at hc
  .rename_i h4
   simp only[ajP,ajr]at hc;subst hc
   have ht:P.underlying t=some (.slice e):=by
    unfold kT at h1
    split at h1
    .rename_i e' he;simp at h1;subst h1;exact he
    .simp at h1
   simp at h4
   exact G3 h hd ht h2 h3 (by omega) (by omega) (by omega) (fun h0=>h4.2 h0) hr
 case slice t x lo hi mx=>
  cases mx with
  |some mx=>
   cases lo with
   |some lo=>
    cases hi with
    |none=>simp[aK]at hc
    |some hi=>
     simp only[aK]at hc
     split at hc
     .rename_i e h1
      simp only[ajE,ajv]at hc
      obtain⟨m,h2,hc⟩:=hc
      split at hc
      .simp at hc
      .simp only[ajP,ajr]at hc;subst hc
       exact GS h hd h1 h2 hr
     .simp at hc
   |none=>
    cases hi with
    |none=>simp[aK]at hc
    |some hi=>
     simp only[aK]at hc
     split at hc
     .rename_i e h1
      simp only[ajE,ajv]at hc
      obtain⟨m,h2,hc⟩:=hc
      split at hc
      .simp at hc
      .simp only[ajP,ajr]at hc;subst hc
       exact GR h hd h1 h2 hr
     .simp at hc
  |none=>
   simp only[aK]at hc
   split at hc
   .rename_i h1
    simp only[ajr]at hc;subst hc
    exact GQ h hd h1 hr
   .rename_i e h1
    simp only[ajE,ajv]at hc
    obtain⟨m,h2,hc⟩:=hc
    split at hc
    .simp at hc
    .simp only[ajP,ajr]at hc;subst hc
     exact GT h hd h1 h2 hr
   .rename_i len e h1
    split at hc
    .simp only[ajE,ajv,ajP,ajr]at hc
     obtain⟨m,h2,rfl⟩:=hc
     exact G0 h hd h1 h2 hr
    .simp at hc
   .simp at hc
 case makeFunc fn first caps=>
  cases fn with
  |func f=>
   simp only[aK]at hc
   split at hc
   .rename_i hf
    have hf:first=#[]:=by simpa using hf
    subst hf
    simp only[ajr]at hc;subst hc
    exact GB h hd hr
   .simp only[ajr]at hc;subst hc
    exact G5 h hd hr
  |_=>simp[aK]at hc
 case makeMap t rr=>
  simp only[aK]at hc
  split at hc
  .simp only[ajr]at hc;subst hc
   exact yA h hd (.inl rfl) hr
  .rename_i x k e hu
   simp only[ajr]at hc;subst hc
   exact yA h hd (.inr ⟨k,e,hu⟩) hr
  .simp at hc
 case lookup t x k ok=>
  simp only[aK]at hc
  split at hc
  .rename_i kt e hu
   obtain⟨z,hz,rfl⟩:=ajt.1 hc
   exact G7 h hd hu hz hr
  .simp at hc
 case mapUpdate t x k y=>
  simp only[aK]at hc
  split at hc
  .rename_i kt e hu
   simp only[ajr]at hc;subst hc
   exact yC h hd (.inl rfl) hu hr
  .simp at hc
 case insert t x k y=>
  simp only[aK]at hc
  split at hc
  .rename_i kt e hu
   simp only[ajr]at hc;subst hc
   exact yC h hd (.inr rfl) hu hr
  .simp at hc
 case mapEntry t x k=>
  simp only[aK]at hc
  split at hc
  .rename_i kt e hu
   obtain⟨z,hz,rfl⟩:=ajt.1 hc
   exact G8 h hd hu hz hr
  .simp at hc
 case entryStore t x st y=>
  simp only[aK,ajr]at hc;subst hc
  exact G9 h hd hr
 case makeSlice t l cp=>
  simp only[aK,ajE,ajv]at hc
  obtain⟨e,h1,m,h2,i,h3,z,h4,hc⟩:=hc
  split at hc
  .simp at hc
  .rename_i h5
   simp only[ajP,ajr]at hc;subst hc
   have ht:P.underlying t=some (.slice e):=by
    unfold kT at h1
    split at h1
    .rename_i e' he;simp at h1;subst h1;exact he
    .simp at h1
   simp at h5
   exact Ha h hd ht h2 h3 h4 (by omega) (by omega) (by omega) hr
 case range t x=>
  simp only[aK]at hc
  split at hc
  .rename_i hu
   simp only[ajr]at hc;subst hc
   exact He h hd hu hr
  .simp at hc
 case next x str=>
  simp only[aK]at hc
  split at hc
  .rename_i hs
   subst hs
   simp only[ajr]at hc;subst hc
   exact Hf h hd hr
  .simp at hc
 case makeInterface t x=>
  simp only[aK]at hc
  split at hc
  .simp at hc
  .simp at hc
  .rename_i o h1 h2
   simp only[ajr]at hc;subst hc
   cases hu:P.underlying t with
   |none=>exact absurd hu h2
   |some d=>exact GC h hd hu (fun m hm=>h1 m (by rw[hu,hm])) hr
 case call cl=>
  obtain⟨callee,args,argTypes⟩:=cl
  simp only[aK]at hc
  cases callee with
  |value f=>
   cases f<;>simp only[bY,ajr]at hc<;>subst hc<;>simp[al.den]at hr
  |invoke _ _=>simp[bY]at hc
  |builtin b=>
   cases b<;>first|(simp[bY]at hc;done)|skip
   case len=>
    simp only[bY]at hc
    split at hc
    .rename_i x t h1 h2
     have e1:args=#[x]:=akh (by simpa using h1)
     have e2:argTypes=#[t]:=akh (by simpa using h2)
     subst e1 e2
     split at hc
     .rename_i h3
      simp only[ajr]at hc;subst hc
      exact yf h hd h3 (by simp) hr
     .rename_i e h3
      simp only[ajr]at hc;subst hc
      exact yf h hd h3 (by simp) hr
     .rename_i k e h3
      simp only[ajr]at hc;subst hc
      exact G6 h hd h3 hr
     .simp at hc
    .simp at hc
   case cap=>
    simp only[bY]at hc
    split at hc
    .rename_i x t h1 h2
     have e1:args=#[x]:=akh (by simpa using h1)
     have e2:argTypes=#[t]:=akh (by simpa using h2)
     subst e1 e2
     split at hc
     .rename_i e h3
      simp only[ajr]at hc;subst hc
      exact GA h hd h3 hr
     .simp at hc
    .simp at hc
   case copy=>
    simp only[bY]at hc
    split at hc
    .rename_i x y t us h1 h2
     have e1:args=#[x,y]:=akh (by simpa using h1)
     subst e1
     simp only[ajE,ajv]at hc
     obtain⟨e,h3,i,h4,hc⟩:=hc
     split at hc
     .simp at hc
     .rename_i h5
      simp only[ajr]at hc;subst hc
      have ht:P.underlying t=some (.slice e):=by
       unfold kT at h3
       split at h3
       .rename_i e' he;simp at h3;subst h3;exact he
       .simp at h3
      exact Hc h hd (akh (by simpa using h2)) ht ⟨i,h4,rfl⟩ h5 hr
    .simp at hc
   case append=>
    simp only[bY]at hc
    split at hc
    .rename_i x y t u h1 h2
     have e1:args=#[x,y]:=akh (by simpa using h1)
     have e2:argTypes=#[t,u]:=akh (by simpa using h2)
     subst e1
     simp only[ajE,ajv]at hc
     obtain⟨e,h3,i,h4,z,h5,hc⟩:=hc
     split at hc
     .simp at hc
     .rename_i h6
      split at hc
      .rename_i h7
       have ht:P.underlying t=some (.slice e):=by
        unfold kT at h3
        split at h3
        .rename_i e' he;simp at h3;subst h3;exact he
        .simp at h3
       simp only[Bool.or_eq_true,akk,not_or]at h6
       obtain⟨h9,UI⟩:=h6
       split at hc
       .rename_i h8
        simp only[ajr]at hc;subst hc
        unfold tS at h8
        cases hu:P.underlying u with
        |none=>rw[hu]at h8;simp at h8
        |some du=>
         refine GO h hd e2 ht hu (fun k hk=>?_) h4 h5 h7 (by omega) UI hr
         rw[hu,hk]at h8
         simp at h8
       .rename_i h8
        split at hc
        .rename_i bE
         simp only[ajr]at hc;subst hc
         unfold tS at h8
         cases hu:P.underlying u with
         |none=>rw[hu]at bE;simp at bE
         |some du=>
          cases du with
          |int k=>exact Hb h hd e2 ht hu h4 h5 h7 (by omega) UI hr
          |_=>rw[hu]at h8;simp at h8
        .simp at hc
      .simp at hc
    .simp at hc
   case min=>
    simp only[bY]at hc
    split at hc
    .rename_i x y h1
     have e1:args=#[x,y]:=akh (by simpa using h1)
     subst e1
     simp only[ajr]at hc;subst hc
     exact yg (mx:=false) h hd hr
    .simp at hc
   case max=>
    simp only[bY]at hc
    split at hc
    .rename_i x y h1
     have e1:args=#[x,y]:=akh (by simpa using h1)
     subst e1
     simp only[ajr]at hc;subst hc
     exact yg (mx:=true) h hd hr
    .simp at hc
 all_goals(simp[aK]at hc)
end
section
open Go.RowKit
variable{P:Program}{C:aD}{c:aA}{Z:Nm->Place}{E:aa}{a:Act}{w:World}
def FW(r:Option Nat):Fence:={Fence.wide with round:=r}
def jG(P:Program)(f:FuncId):Prop:=∃fn c,P.funcs[f]?=some fn/\(fn.name== "runtime.NumGoroutine")=false/\fn.body=some c
def iD(P:Program)(C:aD):Prop:=∀E f ds dst r,C P E f ds dst r->jG P f/\∀c Z a w (vs:List Value),ai c Z E a w->dst.all (· <c.n)=true->vs.length=ds.length->
  (∀(i:Nat) (v:Value) (d:DV),vs[i]?=some v->ds[i]?=some d->ah Z E.used w (ae c Z E.slots) v d)->
  Calls P f vs.toArray w fun e w'=>∃v,e= .returned v/\∃Z',ai c Z' (r.apply dst E) (a.put dst v) w'
def kX{f:FuncId}(hf:jG P f)(args:Array Value)(w:World):(callFunc f args).run P w= .ok (.enter f args) w:=by
 obtain⟨fn,c,h1,h2,h3⟩:=hf
 unfold callFunc
 simp only[ajH,program,Sem.run,Result.andThen,h1,h2,h3]
 rfl
def yF{op:Op}{f:FuncId}{args:List Operand}(h:aK P op=some (.call f args)):∃as ts,op= .call ⟨.value (.func f),as,ts⟩/\as.toList=args:=by
 cases op
 case call cl=>
  obtain⟨callee,as,ts⟩:=cl
  simp only[aK]at h
  cases callee with
  |value x=>cases x<;>simp[bY]at h;obtain⟨rfl,rfl⟩:=h;exact⟨_,_,rfl,rfl⟩
  |invoke _ _=>simp[bY]at h
  |builtin b=>
   exfalso
   cases b<;>first|(simp[bY]at h;done)|(simp only[bY]at h;(repeat' split at h)<;>simp[ajv]at h;done)
 all_goals(exfalso;simp only[aK]at h;(repeat' split at h)<;>first|contradiction|(simp[ajv]at h;done)|(cases h;done)|(simp only[ajE,ajv]at h;obtain⟨z,_,h⟩:=h;split at h<;>simp[ajv]at h;done))
def uw{op:Op}{x:Operand}{args:List Operand}(h:aK P op=some (.callv x args)):∃as ts,op= .call ⟨.value x,as,ts⟩/\as.toList=args:=by
 cases op
 case call cl=>
  obtain⟨callee,as,ts⟩:=cl
  simp only[aK]at h
  cases callee with
  |value x=>cases x<;>simp[bY]at h<;>(obtain⟨rfl,rfl⟩:=h;exact⟨_,_,rfl,rfl⟩)
  |invoke _ _=>simp[bY]at h
  |builtin b=>
   exfalso
   cases b<;>first|(simp[bY]at h;done)|(simp only[bY]at h;(repeat' split at h)<;>simp[ajv]at h;done)
 all_goals(exfalso;simp only[aK]at h;(repeat' split at h)<;>first|contradiction|(simp[ajv]at h;done)|(cases h;done)|(simp only[ajE,ajv]at h;obtain⟨z,_,h⟩:=h;split at h<;>simp[ajv]at h;done))
def Hg{U:Nm->Bool}{M:Nat->Prop}{v:Value}{d:DV}{b Ts:Bool}(hb:b=Ts)(h:ah Z U w M v d):ah Z U w M v (d.strip b Ts):=by
 unfold DV.strip
 split
 .rename_i b' Yk d'
  split
  .rename_i he
   cases h with|wh h=>exact h (by rw[<-he.1,<-he.2];exact hb)
  .exact h
 .exact h
def yG{U:Nm->Bool}{M:Nat->Prop}{v:Value}{d:DV}{b Ts:Bool}(h:ah Z U w M v (d.strip b Ts)):ah Z U w M v d:=by
 unfold DV.strip at h
 split at h
 .rename_i b' Yk d'
  split at h
  .exact .wh fun _=>h
  .exact h
 .exact h
def ai.under(h:ai c Z E a w){b Ts:Bool}(hb:b=Ts):ai c Z (E.under b Ts) a w:=
 {h with tm:=fun t=>Hg hb (h.tm t)}
def ai.ununder{b Ts:Bool}(h:ai c Z (E.under b Ts) a w):ai c Z E a w:=
 {h with tm:=fun t=>yG (h.tm t)}
def ai.under_put{b Ts:Bool}{dst:Option Nat}{d:DV}(h:ai c Z ((E.under b Ts).putO dst d) a w):ai c Z (E.putO dst (.wh b Ts d)) a w:=by
 cases dst with
 |none=>exact h.ununder
 |some t=>
  refine{h with tm:=fun u=>?_}
  have:=h.tm u
  show ah Z E.used w (ae c Z E.slots) (a.tmps.getD u undef) (if u=t then .wh b Ts d else E.tmps u)
  have Yl:ah Z E.used w (ae c Z E.slots) (a.tmps.getD u undef) (if u=t then d else(E.tmps u).strip b Ts):=this
  by_cases hu:u=t
  .simp only[hu,if_true]at Yl⊢
   exact .wh fun _=>Yl
  .simp only[hu,ajS]at Yl⊢
   exact yG Yl
def ah.callee_inv{U:Nm->Bool}{M:Nat->Prop}{v:Value}{d:DV}{f:FuncId}{pre caps:List DV}(h:ah Z U w M v d)(hd:d.callee=some (f,pre,caps)):
  ∃us vs:List Value,v= .func (.func f) us.toArray vs.toArray/\us.length=pre.length/\vs.length=caps.length/\(∀(i:Nat) (v:Value) (d:DV),us[i]?=some v->pre[i]?=some d->ah Z U w M v d)/\
   ∀(i:Nat) (v:Value) (d:DV),vs[i]?=some v->caps[i]?=some d->ah Z U w M v d:=by
 cases h with
 |fn hl hp=>
  simp only[DV.callee,ajr,ajV]at hd
  obtain⟨rfl,rfl,rfl⟩:=hd
  exact⟨[],_,rfl,rfl,hl,fun i v d hv=>by simp at hv,hp⟩
 |mfn Uy hl hp0 hp=>
  simp only[DV.callee,ajr,ajV]at hd
  obtain⟨rfl,rfl,rfl⟩:=hd
  exact⟨_,_,rfl,Uy,hl,hp0,hp⟩
 |_=>simp[DV.callee]at hd
def o8(h:ai c Z E a w)(args:List Operand):∀(i:Nat) (v:Value) (d:DV),(args.map a.eval)[i]?=some v->(args.map E.ev)[i]?=some d->ah Z E.used w (ae c Z E.slots) v d:=by
 intro i v d hv hd
 simp only[ajw,ajt]at hv hd
 obtain⟨x,h1,rfl⟩:=hv
 obtain⟨y,h2,rfl⟩:=hd
 rw[h1]at h2
 cases h2
 exact h.ev x
def qL(hC:iD P C)(h:ai c Z E a w){pr:List (Nat×Nat)}{ix:Nat}{Tq:List bG}{o:Oper}{s:al}{next:aq->Prop}{Q:Exit->Act->World->Prop}{rd:Option Nat}(hd:o.dst.all (· <c.n)=true)(hc:iA P o.op=s)
  (hw:dv P C pr ix Tq o.dst E next s):∃r,i5 pr ix Tq r=true/\next r/\∀K:Act->World->Prop,(∀a' w',(∃Z',ai c Z' (r.apply o.dst E) a' w')->K a' w')->o.wpIn (FW rd) 0 P a w K Q:=by
 have U7:∀c,o.op≠.defer c:=by
  intro cl he
  rw[he]at hc
  have:iA P (.defer cl)= .stuck:=rfl
  rw[this]at hc
  subst hc
  unfold dv at hw
  obtain⟨r,h1,_⟩:=hw
  simp[al.den]at h1
 have hcs:s≠.stuck->aK P o.op=some s:=by
  intro TW
  unfold iA at hc
  split at hc
  .rename_i s' TO;rw[TO,hc]
  .exact absurd hc.symm TW
 have hval:∀r,bc P c E a w o r->∀K:Act->World->Prop,(∀a' w',(∃Z',ai c Z' (r.apply o.dst E) a' w')->K a' w')->o.wpIn (FW rd) 0 P a w K Q:=by
  intro r hs K hK
  obtain⟨v,w',Ti,Tr⟩:=hs
  refine⟨fun _ _=>trivial,?_⟩
  rw[Oper.semAt_eq _ _ _ U7]
  rcases Ti with Ti|⟨Ti,rfl⟩
  .rw[Ti];exact hK _ _ Tr
  .rw[Ti];exact hK _ _ Tr
 have T5:∀(f:FuncId) (vs:List Value) (ds:List DV) (r:aq),C P E f ds o.dst r->vs.length=ds.length->(∀(i:Nat) (v:Value) (d:DV),vs[i]?=some v->ds[i]?=some d->ah Z E.used w (ae c Z E.slots) v d)->
   (execOp a.eval o).run P w=(callFunc f vs.toArray).run P w->∀K:Act->World->Prop,(∀a' w',(∃Z',ai c Z' (r.apply o.dst E) a' w')->K a' w')->o.wpIn (FW rd) 0 P a w K Q:=by
  intro f vs ds r hcr Tk Tn Ti K hK
  obtain⟨h1,h2⟩:=hC E f ds o.dst r hcr
  refine⟨fun _ _=>trivial,?_⟩
  rw[Oper.semAt_eq _ _ _ U7,Ti,kX h1]
  refine⟨fun h=>by simp[FW,Fence.wide]at h,(callsIn_wide (n:=0-1).2 (h2 c Z a w vs h hd Tk Tn)).mono fun e w' he=>?_⟩
  obtain⟨v,rfl,hs⟩:=he
  exact hK _ _ hs
 unfold dv at hw
 split at hw
 .rename_i f args
  obtain⟨r,h1,h2,h3⟩:=hw
  refine⟨r,h2,h3,?_⟩
  refine T5 f (args.map a.eval) _ r h1 (by simp) (o8 h args) ?_
  obtain⟨dst,op,ty,pos,after,g⟩:=o
  obtain⟨as,ts,rfl,rfl⟩:=yF (hcs (by simp))
  have e:#[]++as.map a.eval++#[]=(as.toList.map a.eval).toArray:=by apply akh;simp
  simp only[execOp,resolve,Act.eval,Deferred.ofValue,ajH,aj0,ajF,invoke]
  rw[<-e]
 .rename_i x args
  obtain⟨f,pre,caps,r,h0,h1,h2,h3⟩:=hw
  refine⟨r,h2,h3,?_⟩
  obtain⟨us,vs,hv,YP,hlv,hpu,Zp⟩:=(h.ev x).callee_inv h0
  refine T5 f (us++args.map a.eval++vs) _ r h1 (by simp[YP,hlv]) (fun i v d UC Un=>?_) ?_
  .rw[aj1]at UC Un
   rw[akz]at UC Un
   rw[YP]at UC
   split at UC
   .rename_i hlt
    rw[if_pos hlt]at Un
    exact hpu _ _ _ UC Un
   .rename_i hlt
    rw[if_neg hlt]at Un
    rw[akz]at UC Un
    simp only[ajJ]at UC Un
    split at UC
    .rename_i hlt
     rw[if_pos hlt]at Un
     exact o8 h args _ v d UC Un
    .rename_i hlt
     rw[if_neg hlt]at Un
     exact Zp _ _ _ UC Un
  .obtain⟨dst,op,ty,pos,after,g⟩:=o
   obtain⟨as,ts,rfl,rfl⟩:=uw (hcs (by simp))
   have e:us.toArray++as.map a.eval++vs.toArray=(us++as.toList.map a.eval++vs).toArray:=by apply akh;simp
   simp only[execOp,resolve,hv,Deferred.ofValue,ajH,aj0,ajF,invoke]
   rw[<-e]
 .rename_i op h1 h2
  obtain⟨r,h3,h4,h5⟩:=hw
  exact⟨r,h4,h5,hval r (yE h hd (hcs (fun he=>by subst he;simp[al.den]at h3)) h3)⟩
end
section
open Go.RowKit
variable{P:Program}{C:aD}{c:aA}{Z:Nm->Place}{E:aa}{a:Act}{w:World}
def iE(ρ:List (Nm×Nm)):∀l:List DV,DV.renL ρ l=l.map (DV.ren ρ)
 |[]=>by simp[DV.renL]
 |d::l=>by simp[DV.renL,iE ρ l]
def qM(ρ:List (Nm×Nm))(d:DV):(d.ren ρ).cells=d.cells.map (DV.ren ρ):=by
 cases d with
 |t x=>cases x<;>simp[DV.ren,DV.cells]
 |agg l=>simp[DV.ren,DV.cells,iE]
 |ptr s k j=>simp only[DV.ren];split<;>rename_i h<;>simp[DV.cells,DV.ren,h]
 |osl s n=>simp only[DV.ren];split<;>rename_i h<;>simp[DV.cells,DV.ren,h]
 |tup l=>simp[DV.ren,DV.cells]
 |fn f l=>simp[DV.ren,DV.cells]
 |mfn f p l=>simp[DV.ren,DV.cells]
 |mp s=>simp only[DV.ren];split<;>rename_i h<;>simp[DV.cells,DV.ren,h]
 |yl=>simp only[DV.ren];split<;>rename_i h<;>simp[DV.cells,DV.ren,h]
 |tp x j=>simp[DV.ren,DV.cells]
 |lst l=>simp[DV.ren,DV.cells]
 |xs m l=>simp[DV.ren,DV.cells]
 |ls m l=>simp[DV.ren,DV.cells]
 |er=>simp[DV.ren,DV.cells]
 |ep d=>simp[DV.ren,DV.cells]
 |wh b wa d=>simp[DV.ren,DV.cells]
 |junk=>simp[DV.ren,DV.cells]
def et{α β:Type}[BEq α][LawfulBEq α]:∀{l:List (α×β)} {x:α} {y:β},l.lookup x=some y->(x,y)∈l
 |(u,v)::l,x,y,h=>by
  simp only[List.lookup]at h
  split at h
  .rename_i hu
   simp at h hu
   subst h hu
   exact ajK
  .exact ajW _ (et h)
def ib{α β:Type}[BEq α][LawfulBEq α]:∀{l:List (α×β)} {x:α} {y:β},(l.map (·.1)).Nodup->(x,y)∈l->l.lookup x=some y
 |(u,v)::l,x,y,hn,h=>by
  simp only[ajQ,List.nodup_cons]at hn
  simp only[List.lookup]
  rcases akc.1 h with h|h
  .cases h;simp
  .have TW:x≠u:=fun e=>hn.1 (e▸ajI.2 ⟨_,h,rfl⟩)
   have:(x==u)=false:=by simpa using TW
   rw[this]
   exact ib hn.2 h
def yH(h:ai c Z E a w){ρ:List (Nm×Nm)}(UO:(ρ.map (·.1)).Nodup)(Y3:(ρ.map (·.2)).Nodup)(pin':Nm->Place)(aap:∀s s',(s,s')∈ρ->s'.fixed=true->E.used s=true->pin' s'=Z s)(X6:∀s',(Nm.yl,s')∈ρ->s'= .yl)(Yb:∀g,pin' (.glob g)=⟨g,0,0⟩):
  ∃Z',ai {c with pin:=pin'} Z' (E.canon ρ) a w/\(∀v d,ah Z E.used w (ae c Z E.slots) v d->ah Z' (E.canon ρ).used w (ae c Z' (E.canon ρ).slots) v (d.ren ρ))/\
  (∀b,ae c Z' (E.canon ρ).slots b->ae c Z E.slots b)/\(∀s r,E.slots s=some r->r.real (Z s)=true->ρ.lookup s=none->¬ae c Z' (E.canon ρ).slots (Z s).blk)/\
  (∀s s',(s,s')∈ρ->E.used s=true->Z' s'=Z s)/\(∀s',s'.fixed=true->Z' s'=pin' s'):=by
 have UA:((flip ρ).map (·.1)).Nodup:=by simpa[flip,aj8,aky]using Y3
 let Z':Nm->Place:=fun s'=>if s'.fixed=true then pin' s' else match(flip ρ).lookup s' with|some s=>Z s|none=>⟨0,0,0⟩
 have TN:∀s s',(s,s')∈ρ↔(flip ρ).lookup s'=some s:=by
  intro s s'
  constructor
  .intro hm
   exact ib UA (by simp only[flip,ajI];exact⟨_,hm,rfl⟩)
  .intro hl
   have:=et hl
   simp only[flip,ajI]at this
   obtain⟨⟨x,y⟩,h1,h2⟩:=this
   simp only[ajV]at h2
   obtain⟨rfl,rfl⟩:=h2
   exact h1
 have hZ:∀s s',(s,s')∈ρ->E.used s=true->Z' s'=Z s:=by
  intro s s' hm hu
  by_cases hf:s'.fixed=true
  .have:=aap s s' hm hf hu
   simp only[Z',hf,if_true]
   exact this
  .simp only[Z',hf,(TN _ _).1 hm]
   simp
 have hU:∀s',(E.canon ρ).used s'=true↔∃s,(s,s')∈ρ:=by
  intro s'
  show((flip ρ).lookup s').isSome=true↔_
  rw[akb]
  exact⟨fun⟨s,hs⟩=>⟨s,(TN _ _).2 hs⟩,fun⟨s,hs⟩=>⟨s,(TN _ _).1 hs⟩⟩
 have Tj:∀s' r',(E.canon ρ).slots s'=some r'->∃s r,(s,s')∈ρ/\E.slots s=some r/\r'=r.ren ρ/\Z' s'=Z s/\E.used s=true:=by
  intro s' r' hr
  have hr:(match(flip ρ).lookup s' with|some s0=>(E.slots s0).map (Row.ren ρ)|none=>none)=some r':=hr
  split at hr
  .rename_i s hs
   rw[ajt]at hr
   obtain⟨r,h1,rfl⟩:=hr
   have hm:=(TN _ _).2 hs
   have hu:=(h.row s r h1).1
   exact⟨s,r,hm,h1,rfl,hZ _ _ hm hu,hu⟩
  .simp at hr
 have hrm:∀r:Row,(r.ren ρ).mut=r.mut:=fun r=>by cases r<;>rfl
 have hrr:∀(r:Row) (pl:Place),(r.ren ρ).real pl=r.real pl:=fun r pl=>by cases r<;>rfl
 have hM:∀b,ae c Z' (E.canon ρ).slots b->ae c Z E.slots b:=by
  rintro b (hb|⟨s',r',h1,h2,h3,h4⟩)
  .exact .inl hb
  .obtain⟨s,r,_,h6,rfl,h7,_⟩:=Tj s' r' h1
   rw[h7]at h3 h4
   exact .inr ⟨s,r,h6,by rw[<-hrm r];exact h2,by rw[<-hrr r];exact h3,h4⟩
 have Tn:∀v d,ah Z E.used w (ae c Z E.slots) v d->ah Z' (E.canon ρ).used w (ae c Z' (E.canon ρ).slots) v (d.ren ρ):=by
  intro v d hv
  have Ur:∀s,E.used s=true->∀s',ρ.lookup s=some s'->(E.canon ρ).used s'=true/\Z' s'=Z s:=fun s hu s' hl=>⟨(hU s').2 ⟨s,et hl⟩,hZ _ _ (et hl) hu⟩
  induction hv with
  |t h=>exact .t (h.mono (ajz _) (fun b _ hb=>⟨rfl,fun TR=>hb (hM b TR)⟩))
  |agg hl h1 _ ih=>
   simp only[DV.ren,iE]
   refine .agg (by simpa using hl) h1 fun i v d hv hd=>?_
   simp only[ajw,ajt]at hd
   obtain⟨d0,UU,rfl⟩:=hd
   exact ih i v d0 hv UU
  |tup hl _ ih=>
   simp only[DV.ren,iE]
   refine .tup (by simpa using hl) fun i v d hv hd=>?_
   simp only[ajw,ajt]at hd
   obtain⟨d0,UU,rfl⟩:=hd
   exact ih i v d0 hv UU
  |ptr hu=>
   rename_i s k j
   simp only[DV.ren]
   split
   .rename_i s' TO
    obtain⟨h1,h2⟩:=Ur s hu s' TO
    rw[<-h2]
    exact .ptr h1
   .exact .junk
  |tp u US hb hu h1 h2=>
   simp only[DV.ren]
   exact .tp u (fun TR=>US (hM _ TR)) hb hu h1 (fun i cc Uw=>(h2 i cc Uw).mono (ajz _) (fun b _ hb=>⟨rfl,fun TR=>hb (hM b TR)⟩))
  |osl hu hn ha=>
   rename_i s n ad
   simp only[DV.ren]
   split
   .rename_i s' TO
    obtain⟨h1,h2⟩:=Ur s hu s' TO
    rw[<-h2]
    exact .osl h1 (by rw[h2];exact hn) (by rw[h2];exact ha)
   .exact .junk
  |fn hl _ ih=>
   simp only[DV.ren,iE]
   refine .fn (by simpa using hl) fun i v d hv hd=>?_
   simp only[ajw,ajt]at hd
   obtain⟨d0,UU,rfl⟩:=hd
   exact ih i v d0 hv UU
  |mfn Uy hl _ _ ih0 ih=>
   simp only[DV.ren,iE]
   refine .mfn (by simpa using Uy) (by simpa using hl) (fun i v d hv hd=>?_) fun i v d hv hd=>?_
   .simp only[ajw,ajt]at hd
    obtain⟨d0,UU,rfl⟩:=hd
    exact ih0 i v d0 hv UU
   .simp only[ajw,ajt]at hd
    obtain⟨d0,UU,rfl⟩:=hd
    exact ih i v d0 hv UU
  |mp hu=>
   rename_i s
   simp only[DV.ren]
   split
   .rename_i s' TO
    obtain⟨h1,h2⟩:=Ur s hu s' TO
    rw[<-h2]
    exact .mp h1
   .exact .junk
  |yl hu=>
   simp only[DV.ren]
   split
   .rename_i s' TO
    have Vu:=et TO
    have he:s'=Nm.yl:=X6 s' Vu
    subst he
    obtain⟨h1,h2⟩:=Ur .yl hu .yl TO
    rw[<-h2]
    exact .yl h1
   .exact .junk
  |lst u US hb hn hc hu _ ih=>
   simp only[DV.ren,iE]
   have:=ah.lst (Z:=Z') (U:=(E.canon ρ).used) (w:=w) (M:=ae c Z' (E.canon ρ).slots) (ds:=List.map (DV.ren ρ) _) u (fun TR=>US (hM _ TR)) hb (by simpa using hn) hc (fun i d hd=>by
    simp only[ajw,ajt]at hd
    obtain⟨d0,UU,_⟩:=hd
    exact hu i d0 UU) (fun i d hd=>by
    simp only[ajw,ajt]at hd
    obtain⟨d0,UU,rfl⟩:=hd
    exact ih i d0 UU)
   rw[ajJ]at this
   exact this
  |xs hn h=>simp only[DV.ren];exact .xs hn (h.mono (ajz _) (fun b _ hb=>⟨rfl,fun TR=>hb (hM b TR)⟩))
  |ls hn US hg h=>simp only[DV.ren];exact .ls hn (fun TR=>US (hM _ TR)) hg (h.mono (ajz _) (fun b _ hb=>⟨rfl,fun TR=>hb (hM b TR)⟩))
  |er=>simp only[DV.ren];exact .er
  |ep US hb hu _ ih=>simp only[DV.ren];exact .ep (fun TR=>US (hM _ TR)) hb hu ih
  |wh _ ih=>simp only[DV.ren];exact .wh fun e=>ih e
  |junk=>simp only[DV.ren];exact .junk
 refine⟨Z',⟨⟨h.size,h.os,h.tape,h.output,h.old,h.m0,?_,?_,?_,⟨Yb,fun p hp=>h.gl.2 p hp⟩⟩,fun t=>Tn _ _ (h.tm t),h.sz,h.df⟩,Tn,hM,?_,hZ,fun s' hf=>by simp only[Z',hf,if_true]⟩
 .intro s' r' hr
  obtain⟨s,r,h1,h2,rfl,h3,h4⟩:=Tj s' r' hr
  obtain⟨_,h5,h6⟩:=h.row s r h2
  rw[hrr,hrm,h3]
  refine⟨(hU s').2 ⟨s,h1⟩,?_,h6⟩
  cases r with
  |box e d fz=>
   obtain⟨cs,h7,h8,h9,UI⟩:=h5
   refine⟨cs,h7,by rw[qM,ajJ];exact h8,h9,fun i v x hv hx=>?_⟩
   rw[qM,ajw,ajt]at hx
   obtain⟨x0,Zc,rfl⟩:=hx
   exact Tn _ _ (UI i v x0 hv Zc)
  |rows e m l fz=>
   rcases h5 with h5|⟨cs,h7,h8,h9,UI,bE,Wx,j3,h14,h15⟩
   .exact .inl h5
   .refine .inr ⟨cs,h7,h8,h9,UI,bE,Wx,j3,h14,fun k t j cc hk hj=>?_⟩
    obtain⟨h16,v,h17,m3⟩:=h15 k t j cc hk hj
    exact⟨h16,v,h17,m3.mono (ajz _) (fun b _ hb=>⟨rfl,fun TR=>hb (hM b TR)⟩)⟩
  |obj o fz=>
   cases o with
   |mp es cl=>
    obtain⟨ents,h7,h8,h9⟩:=h5
    refine⟨ents,h7,by rw[ajJ];exact h8,fun i e x he hx=>?_⟩
    rw[ajw,ajt]at hx
    obtain⟨x0,Zc,rfl⟩:=hx
    obtain⟨UI,bE,Wx⟩:=h9 i e x0 he Zc
    exact⟨UI,bE,Tn _ _ Wx⟩
   |it str p=>exact h5
   |dfr=>exact h5
 .intro s1 s2 r1 r2 h1 h2 hm hr1 hr2 he
  obtain⟨x1,y1,h3,h4,rfl,h5,_⟩:=Tj s1 r1 h1
  obtain⟨x2,y2,h6,h7,rfl,h8,_⟩:=Tj s2 r2 h2
  rw[hrm]at hm
  rw[hrr,h5]at hr1
  rw[hrr,h8]at hr2
  rw[h5,h8]at he
  have:=h.inj x1 x2 y1 y2 h4 h7 hm hr1 hr2 he
  subst this
  have e1:=ib UO h3
  have e2:=ib UO h6
  rw[e1]at e2
  exact Option.some.inj e2
 .intro s' hf _
  simp only[Z',hf,if_true]
 .rintro s r hsr Tz Z2 (⟨TZ,Uu⟩|⟨s',r',h1,h2,h3,h4⟩)
  .rcases((h.row s r hsr).2.2 Tz).2 with h5|h5
   .exact Uu h5
   .exact h5 TZ
  .obtain⟨s2,r2,h5,h6,rfl,h7,_⟩:=Tj s' r' h1
   rw[hrm]at h2
   rw[hrr,h7]at h3
   rw[h7]at h4
   have:=h.inj s2 s r2 r h6 hsr h2 h3 Tz h4
   subst this
   rw[ib UO h5]at Z2
   simp at Z2
def kY(h:ai c Z E a w){ρ:List (Nm×Nm)}(hρ:bw ρ=true):∃Z',ai c Z' (E.canon ρ) a w/\(∀v d,ah Z E.used w (ae c Z E.slots) v d->ah Z' (E.canon ρ).used w (ae c Z' (E.canon ρ).slots) v (d.ren ρ))/\
  (∀b,ae c Z' (E.canon ρ).slots b->ae c Z E.slots b)/\(∀s r,E.slots s=some r->r.real (Z s)=true->ρ.lookup s=none->¬ae c Z' (E.canon ρ).slots (Z s).blk):=by
 unfold bw at hρ
 simp only[ajT,akk,ajR]at hρ
 obtain⟨⟨UO,Y3⟩,Tt⟩:=hρ
 have hid:∀s s',(s,s')∈ρ->s'.fixed=true->s=s':=by
  intro s s' hm hf
  have Tt:=Tt _ hm
  simp only[Bool.or_eq_true,ajT,Bool.not_eq_true',beq_iff_eq]at Tt
  rcases Tt with h1|h1
  .exact h1
  .rw[h1.2]at hf;simp at hf
 obtain⟨Z',h1,h2,h3,h4,_⟩:=yH h UO Y3 c.pin (fun s s' hm hf hu=>by
  have:=hid s s' hm hf
  subst this
  exact(h.fix s hf hu).symm) (fun s' hm=>by
  have Tt:=Tt _ hm
  simp only[Bool.or_eq_true,ajT,Bool.not_eq_true',beq_iff_eq]at Tt
  rcases Tt with h1|h1
  .exact h1.symm
  .have h2:=h1.1;simp[Nm.fixed]at h2) h.gl.1
 exact⟨Z',h1,h2,h3,h4⟩
def Hh(h:ai c Z E a w){ρ:List (Nm×Nm)}(hp:tU E ρ):∃pin' Z',ai {c with pin:=pin'} Z' (E.canon ρ) a w/\(∀v d,ah Z E.used w (ae c Z E.slots) v d->ah Z' (E.canon ρ).used w (ae c Z' (E.canon ρ).slots) v (d.ren ρ))/\
  (∀s',s'.fixed=true->Z' s'=pin' s')/\(∀s,s.fixed=true->E.used s=true->pin' s=c.pin s):=by
 have UA:((flip ρ).map (·.1)).Nodup:=by simpa[flip,aj8,aky]using hp.n2
 have XW:∀s s',(s,s')∈ρ->(flip ρ).lookup s'=some s:=fun s s' hm=>ib UA (by simp only[flip,ajI];exact⟨_,hm,rfl⟩)
 let pin':Nm->Place:=fun s'=>if s'.isArg=true then(match(flip ρ).lookup s' with|some s=>if E.used s=true then Z s else c.pin s'|none=>c.pin s')else c.pin s'
 have aap:∀s s',(s,s')∈ρ->s'.fixed=true->E.used s=true->pin' s'=Z s:=by
  intro s s' hm hf hu
  by_cases ha:s'.isArg=true
  .simp only[pin',ha,if_true,XW s s' hm,hu]
  .simp only[pin',ha]
   rcases hp.ok _ hm with⟨h1,_⟩|⟨_,h1⟩
   .have h1:s=s':=h1
    subst h1
    simpa using(h.fix s hf hu).symm
   .exact absurd h1 ha
 obtain⟨Z',h1,h2,_,_,_,h6⟩:=yH h hp.n1 hp.n2 pin' aap (fun s' hm=>by
  rcases hp.ok _ hm with⟨h1,_⟩|⟨h1,_⟩
  .exact h1.symm
  .simp[Nm.fixed]at h1) (fun g=>by simp only[pin',Nm.isArg];simpa using h.gl.1 g)
 refine⟨pin',Z',h1,h2,h6,fun s hf hu=>?_⟩
 obtain⟨s',hm⟩:=hp.cov s hu
 have he:s=s':=by
  rcases hp.ok _ hm with⟨h1,_⟩|⟨h1,_⟩
  .exact h1
  .have h1:s.fixed=false:=h1
   rw[h1]at hf;cases hf
 subst he
 rw[aap s s hm hf hu]
 exact h.fix s hf hu
def nH(h:ai c Z E a w){ρ:List (Nm×Nm)}(hρ:bw ρ=true):∃Z',ai c Z' (E.canon ρ) a w:=
 let⟨Z',h1,_⟩:=kY h hρ
 ⟨Z',h1⟩
def qN(h:ai c Z E a w){ops:Array Oper}{o:Oper}{t:Nat}{Ts b:Bool}{j:Nat}(hg:o.guard=some (j,Ts))(hj:(ops[j]?).bind (·.dst)=some t)(ht:E.tmps t= .t (.v (.bool b))):
  Region.wanted o (yielded ops a.tmps)=(b==Ts):=by
 have hv:=h.tm t
 rw[ht]at hv
 have hv:=hv.v_inv.1
 have:a.tmps[t]?=some (.bool b):=by
  rw[ajM]at hv
  cases hx:a.tmps[t]? with
  |none=>rw[hx]at hv;simp[undef]at hv
  |some x=>rw[hx]at hv;simp at hv;rw[hv]
 unfold Region.wanted yielded
 rw[hg]
 simp only[hj,ake,this]
 cases b<;>cases Ts<;>rfl
def yI(h:ai c Z E a w){ops:Array Oper}{o:Oper}{t:Nat}{Ts:Bool}{j:Nat}(hg:o.guard=some (j,Ts))(hj:(ops[j]?).bind (·.dst)=some t)(ht:E.tmps t= .tup []):
  Region.wanted o (yielded ops a.tmps)=false:=by
 have hv:=h.tm t
 rw[ht]at hv
 have hv:a.tmps.getD t undef= .tuple #[]:=by
  generalize a.tmps.getD t undef=v at hv
  cases hv with
  |tup hl _=>
   have:=ajO hl
   subst this
   rfl
 unfold Region.wanted yielded
 rw[hg]
 simp only[hj,ake]
 rw[ajM]at hv
 cases hx:a.tmps[t]? with
 |none=>cases Ts<;>rfl
 |some x=>rw[hx]at hv;simp at hv;rw[hv];cases Ts<;>rfl
def ux{Z:Nm->Place}{U:Nm->Bool}{w:World}{M:Nat->Prop}:ah Z U w M undef (.tup []):=
 .tup (vs:=[]) (ds:=[]) rfl fun i v d h _=>by simp at h
def mt{n:Nat}{ops:Array Oper}{o:Oper}{so:aT}(h:fM P n ops o=some so):iA P o.op=so.op/\so.dst=o.dst/\o.dst.all (· <n)=true/\
  ((o.guard=none/\so.guard=none)\/∃j t b,o.guard=some (j,b)/\(ops[j]?).bind (·.dst)=some t/\so.guard=some (t,b)):=by
 unfold fM at h
 simp only[ajE,ajv]at h
 obtain⟨g,h2,h3⟩:=h
 split at h3
 .rename_i hd
  simp only[ajP,ajr]at h3
  subst h3
  refine⟨rfl,rfl,hd,?_⟩
  split at h2
  .rename_i hg
   simp only[ajr]at h2
   subst h2
   exact .inl ⟨hg,rfl⟩
  .rename_i j b hg
   split at h2
   .rename_i t ht
    simp only[ajr]at h2
    subst h2
    exact .inr ⟨j,t,b,hg,ht,rfl⟩
   .simp at h2
 .simp at h3
structure gc(Rl:aA->aa->Prop)(n:Nat):Prop where
 nn:∀c E,Rl c E->c.n=n
 dl:∀c E l,Rl c E->c.dl=some l->l<=c.w0.heap.size
 put:∀c E dst d,Rl c E->dst.all (· <n)=true->Rl c (E.putO dst d)
 upd:∀c E ups,Rl c E->Rl c (E.upd ups)
 can:∀c E ρ,Rl c E->Rl c (E.canon ρ)
def gc.apply{Rl:aA->aa->Prop}{n:Nat}(hr:gc Rl n){dst:Option Nat}(r:aq)(h:Rl c E)(hd:dst.all (· <n)=true):Rl c (r.apply dst E):=hr.put _ _ _ _ (hr.upd _ _ _ h) hd
def Hi{us xs vs:List Value}{pre ds caps:List DV}{U:Nm->Bool}{M:Nat->Prop}(YP:us.length=pre.length)(hpu:∀(i:Nat) (v:Value) (d:DV),us[i]?=some v->pre[i]?=some d->ah Z U w M v d)(Zp:∀(i:Nat) (v:Value) (d:DV),vs[i]?=some v->caps[i]?=some d->ah Z U w M v d)
  (TJ:∀(i:Nat) (v:Value) (d:DV),xs[i]?=some v->ds[i]?=some d->ah Z U w M v d) (hlx:xs.length=ds.length):∀(i:Nat) (v:Value) (d:DV),(us++xs++vs)[i]?=some v->(pre++ds++caps)[i]?=some d->ah Z U w M v d:=by
 intro i v d UC Un
 rw[aj1]at UC Un
 rw[akz]at UC Un
 rw[YP]at UC
 split at UC
 .rename_i hlt
  rw[if_pos hlt]at Un
  exact hpu _ _ _ UC Un
 .rename_i hlt
  rw[if_neg hlt]at Un
  rw[akz]at UC Un
  rw[hlx]at UC
  split at UC
  .rename_i hlt
   rw[if_pos hlt]at Un
   exact TJ _ v d UC Un
  .rename_i hlt
   rw[if_neg hlt]at Un
   exact Zp _ _ _ UC Un
abbrev gf(v:Value):List PanicEntry:=[{v,recovered:=false}]
def PQ(C:aD)(Rl:aA->aa->Prop)(Q:Exit->Act->World->Prop):Prop:=∀(v:Value) (c:aA) (E:aa) (Z:Nm->Place) (a:Act) (w:World),Rl c E->C.pq v E->ai c Z E a w->Q (.panic (gf v)) a w
def mu(P:Program)(C:aD):Prop:=∀E f ds v ups,C.pc P E f ds v ups->jG P f/\∀c Z a w (vs:List Value),ai c Z E a w->vs.length=ds.length->
  (∀(i:Nat) (v:Value) (d:DV),vs[i]?=some v->ds[i]?=some d->ah Z E.used w (ae c Z E.slots) v d)->
  Calls P f vs.toArray w fun e w'=>e= .panicked (gf v)/\∃Z',ai c Z' (E.upd ups) a w'
def jH(P:Program)(C:aD)(Rl:aA->aa->Prop):Prop:=∀(c:aA) (Z:Nm->Place) (E:aa) (a:Act) (w:World) (ds:List DV) (vs:List Value) (Kb:Bool->aa->Prop),Rl c E->ai c Z E a w->C.yl E ds Kb->E.used .yl=true->vs.length=ds.length->
 (∀(i:Nat) (v:Value) (d:DV),vs[i]?=some v->ds[i]?=some d->ah Z E.used w (ae c Z E.slots) v d)->
 ∃fn tmps assign body,(Instr.yield (Z .yl).blk vs.toArray).run P w= .ok (.round (Z .yl).blk fn tmps assign body) w/\
  RoundIn Fence.wide 0 P (Z .yl).blk fn tmps assign body w fun e w'=>(∃b c' Z' E',e= .returned (.bool b)/\Kb b E'/\Rl c' E'/\ai c' Z' E' a w')\/∃v c' Z' E',e= .panicked (gf v)/\C.pq v E'/\Rl c' E'/\ai c' Z' E' a w'
def Hj{op:Op}{WL:BinOp}{t:TypeId}{x y:Operand}(h:aK P op=some (.bin WL t x y)):∃yt,op= .binOp WL t x y yt:=by
 cases op
 case binOp=>simp only[aK,ajr,al.bin.injEq]at h;obtain⟨rfl,rfl,rfl,rfl⟩:=h;exact⟨_,rfl⟩
 case call cl=>
  exfalso
  obtain⟨callee,as,ts⟩:=cl
  simp only[aK]at h
  cases callee with
  |value x=>cases x<;>simp[bY]at h
  |invoke _ _=>simp[bY]at h
  |builtin b=>cases b<;>first|(simp[bY]at h;done)|(simp only[bY]at h;(repeat' split at h)<;>simp[ajv]at h;done)
 all_goals(exfalso;simp only[aK]at h;(repeat' split at h)<;>first|contradiction|(simp[ajv]at h;done)|(cases h;done)|(simp only[ajE,ajv]at h;obtain⟨z,_,h⟩:=h;split at h<;>simp[ajv]at h;done))
def Hk{t e:TypeId}(hu:P.underlying t=some (.slice e))(ad:Option Addr)(n cp:Nat)(w:World):(Op.equal t (.slice ad n cp) (.slice none 0 0)).run P w= .ok ad.isNone w:=by
 have key:∀n',(Op.equalIn (n'+1) t (.slice ad n cp) (.slice none 0 0)).run P w= .ok ad.isNone w:=by
  intro n'
  unfold Op.equalIn
  simp only[ajH,ajD hu,ajF]
  cases ad<;>rfl
 exact key (Op.maxDepth-1)
def yJ{Rl:aA->aa->Prop}{n:Nat}(hR:gc Rl n)(hP:mu P C)(TG:Rl c E)(h:ai c Z E a w){o:Oper}{Q:Exit->Act->World->Prop}{rd:Option Nat}(hQ:PQ C Rl Q){f:FuncId}{ds:List DV}(hw:mi P C E f ds)(vs:List Value)(Tk:vs.length=ds.length)
  (Tn:∀(i:Nat) (v:Value) (d:DV),vs[i]?=some v->ds[i]?=some d->ah Z E.used w (ae c Z E.slots) v d) (U7:∀cl,o.op≠.defer cl) (Ti:(execOp a.eval o).run P w=(callFunc f vs.toArray).run P w) (K:Act->World->Prop):o.wpIn (FW rd) 0 P a w K Q:=by
 obtain⟨v,ups,h1,h2⟩:=hw
 obtain⟨h3,h4⟩:=hP _ _ _ _ _ h1
 refine⟨fun _ _=>trivial,?_⟩
 rw[Oper.semAt_eq _ _ _ U7,Ti,kX h3]
 refine⟨fun h=>by simp[FW,Fence.wide]at h,(callsIn_wide (n:=0-1).2 (h4 c Z a w vs h Tk Tn)).mono fun e w' he=>?_⟩
 obtain⟨rfl,Z',hs⟩:=he
 exact hQ v c _ Z' a w' (hR.upd _ _ _ TG) h2 hs
def Hl{op:Op}{x:Operand}(h:aK P op=some (.pan x)):op= .panic x:=by
 cases op
 case panic=>simp only[aK,ajr,al.pan.injEq]at h;rw[h]
 case call cl=>
  exfalso
  obtain⟨callee,as,ts⟩:=cl
  simp only[aK]at h
  cases callee with
  |value x=>cases x<;>simp[bY]at h
  |invoke _ _=>simp[bY]at h
  |builtin b=>cases b<;>first|(simp[bY]at h;done)|(simp only[bY]at h;(repeat' split at h)<;>simp[ajv]at h;done)
 all_goals(exfalso;simp only[aK]at h;(repeat' split at h)<;>first|contradiction|(simp[ajv]at h;done)|(cases h;done)|(simp only[ajE,ajv]at h;obtain⟨z,_,h⟩:=h;split at h<;>simp[ajv]at h;done))
theorem Hm{Rl:aA->aa->Prop}{n:Nat}(hR:gc Rl n)(hY:jH P C Rl)(hP:mu P C)(TG:Rl c E)(h:ai c Z E a w){o:Oper}{s:al}{next:aa->Prop}{Q:Exit->Act->World->Prop}{rd:Option Nat}(hd:o.dst.all (· <n)=true)(hc:iA P o.op=s)
  (hQ:PQ C Rl Q) (hw:hT P C E o.dst next s) (K:Act->World->Prop) (hK:∀a' w',(∃c' Z' E',Rl c' E'/\next E'/\ai c' Z' E' a' w')->K a' w'):o.wpIn (FW rd) 0 P a w K Q:=by
 cases s with
 |pan x=>
  have hc:aK P o.op=some (.pan x):=by
   unfold iA at hc
   split at hc
   .rename_i s' TO;rw[TO,hc]
   .cases hc
  have UY:=Hl hc
  obtain⟨t,u,h1,h2⟩:=hw
  have hx:=h.ev x
  rw[h1]at hx
  have U7:∀cl,o.op≠.defer cl:=by intro cl he;rw[UY]at he;cases he
  refine⟨fun _ _=>trivial,?_⟩
  rw[Oper.semAt_eq _ _ _ U7]
  have Ti:(execOp a.eval o).run P w= .halt (.panic (.iface t u)) w:=by
   obtain⟨dst,op,ty,pos,after,g⟩:=o
   subst UY
   simp only[execOp,hx.v_inv.1,Instr.panic]
   rfl
  rw[Ti]
  exact hQ _ c E Z a w TG h2 h
 |call f args=>
  have hc:aK P o.op=some (.call f args):=by
   unfold iA at hc
   split at hc
   .rename_i s' TO;rw[TO,hc]
   .cases hc
  obtain⟨as,ts,UY,rfl⟩:=yF hc
  refine yJ hR hP TG h hQ hw (as.toList.map a.eval) (by simp) (o8 h as.toList) (by intro cl he;rw[UY]at he;cases he) ?_ K
  obtain⟨dst,op,ty,pos,after,g⟩:=o
  subst UY
  have e:#[]++as.map a.eval++#[]=(as.toList.map a.eval).toArray:=by apply akh;simp
  simp only[execOp,resolve,Act.eval,Deferred.ofValue,ajH,aj0,ajF,invoke]
  rw[<-e]
 |callv x args=>
  have hc:aK P o.op=some (.callv x args):=by
   unfold iA at hc
   split at hc
   .rename_i s' TO;rw[TO,hc]
   .cases hc
  rcases hw with⟨h1,h2⟩|⟨f,pre,caps,h0,hw⟩
  rotate_left
  .obtain⟨as,ts,UY,rfl⟩:=uw hc
   obtain⟨us,vs,hv,YP,hlv,hpu,Zp⟩:=(h.ev x).callee_inv h0
   refine yJ hR hP TG h hQ hw (us++as.toList.map a.eval++vs) (by simp[YP,hlv]) (Hi YP hpu Zp (o8 h as.toList) (by simp)) (by intro cl he;rw[UY]at he;cases he) ?_ K
   obtain⟨dst,op,ty,pos,after,g⟩:=o
   subst UY
   have e:us.toArray++as.map a.eval++vs.toArray=(us++as.toList.map a.eval++vs).toArray:=by apply akh;simp
   simp only[execOp,resolve,hv,Deferred.ofValue,ajH,aj0,ajF,invoke]
   rw[<-e]
  have hx:=h.ev x
  rw[h1]at hx
  generalize hv:a.eval x=v at hx
  cases hx with
  |yl hu=>
   obtain⟨as,ts,UY,rfl⟩:=uw hc
   obtain⟨fn,tmps,assign,body,hy,T9⟩:=hY c Z E a w _ (as.toList.map a.eval) _ TG h h2 hu (by simp) (o8 h as.toList)
   have U7:∀cl,o.op≠.defer cl:=by intro cl he;rw[UY]at he;cases he
   refine⟨fun _ _=>trivial,?_⟩
   rw[Oper.semAt_eq _ _ _ U7]
   have Ti:(execOp a.eval o).run P w= .ok (.round (Z .yl).blk fn tmps assign body) w:=by
    obtain⟨dst,op,ty,pos,after,g⟩:=o
    subst UY
    have e:#[]++as.map a.eval=(as.toList.map a.eval).toArray:=by apply akh;simp
    simp only[execOp,resolve,hv,Deferred.ofValue,ajH,aj0,ajF,invoke]
    rw[e]
    exact hy
   rw[Ti]
   refine⟨fun h=>by simp[FW,Fence.wide]at h,?_⟩
   have T9:RoundIn (FW rd) (0-1) P (Z .yl).blk fn tmps assign body w fun e w'=>(∃b c' Z' E',e= .returned (.bool b)/\_/\Rl c' E'/\ai c' Z' E' a w')\/∃v c' Z' E',e= .panicked (gf v)/\C.pq v E'/\Rl c' E'/\ai c' Z' E' a w':=T9
   refine T9.mono fun e w' he=>?_
   rcases he with⟨b,c',Z',E',rfl,h3,h4,h5⟩|⟨v,c',Z',E',rfl,h3,h4,h5⟩
   rotate_left
   .exact hQ v c' E' Z' a w' h4 h3 h5
   have hn:=hR.nn _ _ h4
   exact hK _ _ ⟨c',Z',_,hR.put _ _ _ _ h4 hd,h3,h5.put (by rw[hn];exact hd) (.t (.v rfl))⟩
 |bin op t x y=>
  obtain⟨neq,h1,h2,h3,h4,h5⟩:=hw
  have hc:aK P o.op=some (.bin op t x y):=by
   unfold iA at hc
   split at hc
   .rename_i s' TO;rw[TO,hc]
   .cases hc
  obtain⟨yt,UY⟩:=Hj hc
  have hu:∃e,P.underlying t=some (.slice e):=by
   unfold kV at h2
   split at h2
   .rename_i e he;exact⟨e,he⟩
   .simp at h2
  obtain⟨e,hu⟩:=hu
  have hy:a.eval y= .slice none 0 0:=by
   unfold qF at h3
   split at h3
   .rfl
   .simp at h3
  have hx:∃ad n cp,a.eval x= .slice ad n cp/\(ad.isNone=true->(E.ev x).nilable=true):=by
   have hx:=h.ev x
   generalize a.eval x=v at hx
   generalize E.ev x=d at hx h4
   unfold DV.slD at h4
   split at h4
   .obtain⟨ad,rfl⟩:=hx.e0_inv
    exact⟨ad,_,_,rfl,fun _=>rfl⟩
   .rename_i m l
    cases l with
    |nil=>obtain⟨ad,cp,rfl,_⟩:=hx.sl_inv;exact⟨ad,_,_,rfl,fun _=>rfl⟩
    |cons t l=>
     cases hx with
     |t hx=>cases hx with
      |sl u hM hb hn hc hm hu h1 h=>exact⟨_,_,_,rfl,fun hh=>by simp at hh⟩
   .rename_i m l
    obtain⟨ad,rfl,Tn,_⟩:=hx.xs_inv
    refine⟨ad,_,_,rfl,fun hh=>?_⟩
    cases l with
    |nil=>rfl
    |cons t l=>
     generalize hv:Value.slice ad (t::l).length (t::l).length=v at Tn
     cases Tn with
     |sl u hM hb hn hc hm hu h1 h=>cases hv;simp at hh
   .rename_i m l
    cases hx with
    |ls hn hM hg h=>exact⟨_,_,_,rfl,fun hh=>by simp at hh⟩
   .simp at h4
  obtain⟨ad,n,cp,hxv,Vd⟩:=hx
  have U7:∀cl,o.op≠.defer cl:=by intro cl he;rw[UY]at he;cases he
  refine⟨fun _ _=>trivial,?_⟩
  rw[Oper.semAt_eq _ _ _ U7]
  have Ti:(execOp a.eval o).run P w= .ok (.value (.bool (ad.isNone !=neq))) w:=by
   obtain⟨dst,op',ty,pos,after,g⟩:=o
   subst UY
   have hq:=Hk hu ad n cp w
   have e:∀(b:Bool),(Sem.run P (if b=true then(pure ():Sem Unit)else pure ()) w)= .ok () w:=by intro b;cases b<;>rfl
   cases op<;>simp[eI]at h1
   .subst h1
    simp only[execOp,hxv,hy,eqGuard,binOp,ajH]
    simp[e,hq]
   .subst h1
    simp only[execOp,hxv,hy,eqGuard,binOp,ajH]
    simp[e,hq]
  rw[Ti]
  have hn:=hR.nn _ _ TG
  exact hK _ _ ⟨c,Z,_,hR.put _ _ _ _ TG hd,h5 _ Vd,h.put (by rw[hn];exact hd) (.t (.v rfl))⟩
 |_=>exact hw.elim
def kZ{Rl:aA->aa->Prop}{n:Nat}(hR:gc Rl n)(hY:jH P C Rl)(hP:mu P C)(hC:iD P C){rd:Option Nat}{pr:List (Nat×Nat)}{ops:Array Oper}{K:aa->Prop}{Q:Exit->Act->World->Prop}(hQ:PQ C Rl Q)(hK:∀c E Z a w,Rl c E->K E->ai c Z E a w->Q .normal a w):
  ∀(l:List Oper) (sl:List aT) (ix:Nat) (Tq:List bG) (c:aA) (Z:Nm->Place) (E:aa) (a:Act) (w:World),Rl c E->l.mapM (fM P n ops)=some sl->ai c Z E a w->cv P C pr ix Tq sl E K->wpListIn (FW rd) 0 P ops Q l a w
 |[],sl,ix,Tq,c,Z,E,a,w,TG,hm,h,hw=>by
  simp at hm
  subst hm
  exact hK c E Z a w TG hw h
 |o::l,sl,ix,Tq,c,Z,E,a,w,TG,hm,h,hw=>by
  simp only[List.mapM_cons,ajP,ajE]at hm
  obtain⟨so,h1,hm⟩:=ajv.1 hm
  obtain⟨Y0,h2,hm⟩:=ajv.1 hm
  simp only[ajr]at hm
  subst hm
  obtain⟨hc,Vn,VO,hg⟩:=mt h1
  have hn:=hR.nn _ _ TG
  have hd:o.dst.all (· <c.n)=true:=by rw[hn];exact VO
  unfold cv at hw
  simp only at hw
  unfold wpListIn
  have T1:(dv P C pr ix Tq o.dst E (fun r=>cv P C pr (ix+1) (em pr ix r.rd (r.ups.map (·.1)) Tq) Y0 (r.apply o.dst E) K) so.op\/(pr=[]/\hT P C E o.dst (fun E'=>cv P C pr (ix+1) Tq Y0 E' K) so.op))->o.wpIn (FW rd) 0 P a w (wpListIn (FW rd) 0 P ops Q l) Q:=by
   rintro(hw|⟨_,hw⟩)
   .obtain⟨r,_,h4,h5⟩:=qL (Q:=Q) hC h hd hc hw
    exact h5 _ fun a' w' ⟨Z',hs⟩=>kZ hR hY hP hC hQ hK l Y0 _ _ c Z' _ a' w' (hR.apply r TG VO) h2 hs h4
   .exact Hm hR hY hP TG h VO hc hQ hw _ fun a' w' ⟨c',Z',E',h3,h4,h5⟩=>kZ hR hY hP hC hQ hK l Y0 _ _ c' Z' E' a' w' h3 h2 h5 h4
  rcases hg with⟨VN,WG⟩|⟨j,t,b,VN,WG,hg3⟩
  .rw[WG]at hw
   simp only at hw
   have WO:Region.wanted o (yielded ops a.tmps)=true:=by simp[Region.wanted,VN]
   rw[if_pos WO]
   rw[Vn]at hw
   exact T1 hw
  .rw[hg3]at hw
   simp only at hw
   rcases hw with⟨ht,hw⟩|⟨bv,ht,hw⟩
   .rw[yI h VN WG ht,if_neg (by simp)]
    rw[Vn]at hw
    exact⟨fun _ _=>trivial,kZ hR hY hP hC hQ hK l Y0 _ _ c Z _ _ w (hR.put _ _ _ _ TG VO) h2 (h.put hd ux) hw⟩
   rw[qN h VN WG ht]
   rw[Vn]at hw
   rcases hw with hw|hw
   .by_cases hb:(bv==b)=true
    .rw[if_pos hb]
     exact T1 (hw.1 hb)
    .rw[if_neg hb]
     exact⟨fun _ _=>trivial,kZ hR hY hP hC hQ hK l Y0 _ _ c Z _ _ w (hR.put _ _ _ _ TG VO) h2 (h.put hd ux) (hw.2 (by simpa using hb))⟩
   .by_cases hb:(bv==b)=true
    .rw[if_pos hb]
     have Yg:bv=b:=by simpa using hb
     obtain⟨r,_,h4,h5⟩:=qL (Q:=Q) hC (h.under Yg) hd hc hw
     refine h5 _ fun a' w' ⟨Z',hs⟩=>kZ hR hY hP hC hQ hK l Y0 _ _ c Z' _ a' w' (hR.put _ _ _ _ TG VO) h2 ?_ h4.2
     have:r.apply o.dst (E.under bv b)=(E.under bv b).putO o.dst r.d:=by
      unfold aq.apply
      rw[h4.1]
      rfl
     rw[this]at hs
     exact hs.under_put
    .rw[if_neg hb]
     have Yg:¬bv=b:=by simpa using hb
     unfold dv at hw
     have:∃r:aq,cv P C pr (ix+1) (em pr ix r.rd [] Tq) Y0 (E.putO o.dst (.wh bv b r.d)) K:=by
      split at hw
      .obtain⟨r,_,_,h3,h4⟩:=hw;exact⟨r,h4⟩
      .obtain⟨_,_,_,r,_,_,_,h3,h4⟩:=hw;exact⟨r,h4⟩
      .obtain⟨r,_,_,h3,h4⟩:=hw;exact⟨r,h4⟩
     obtain⟨r,h4⟩:=this
     exact⟨fun _ _=>trivial,kZ hR hY hP hC hQ hK l Y0 _ _ c Z _ _ w (hR.put _ _ _ _ TG VO) h2 (h.put hd (.wh fun e=>absurd e Yg)) h4⟩
end
end Go.Wt
