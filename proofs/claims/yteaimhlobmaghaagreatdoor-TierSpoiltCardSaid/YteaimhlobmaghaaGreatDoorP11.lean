/- A part of the proof of a tier statement (the last text closes it): lemmas without condition. -/
import Derived.Test.YteaimhlobmaghaaGreatDoorP10
import Derived.KernelRfl
import Derived.Lib.EndianBits
import Derived.Lib.VarintBits
import Derived.Test.YteaimhlobmaghaaGreatDoorProg
set_option linter.all false
set_option maxRecDepth 10000000
set_option maxHeartbeats 0
namespace Go.Wt
section
open Go.RowKit
variable{P:Program}{C:aD}{Q:Exit->aa->Prop}{k:List Fr}{E:aa}{pr:List (Nat×Nat)}{ix:Nat}{Tq:List bG}{rest:List aT}{dst:Option Nat}{t:TypeId}{x y:Operand}
section
open Sem
@[simp] def RM(κ:IntKind)(a b:Int):aX P .add t x y (.t (.v (.int κ a))) (.t (.v (.int κ b)))=val (.t (.v (.int κ (κ.wrap (a+b))))):=by
 simp[aX,dD,DV.asT,eqGuard,binOp,Op.intArith,aQ,bU,b8,cB,Bind.bind,Sem.bind,Pure.pure]
@[simp] def RN(κ:IntKind)(a b:Int):aX P .sub t x y (.t (.v (.int κ a))) (.t (.v (.int κ b)))=val (.t (.v (.int κ (κ.wrap (a-b))))):=by
 simp[aX,dD,DV.asT,eqGuard,binOp,Op.intArith,aQ,bU,b8,cB,Bind.bind,Sem.bind,Pure.pure]
@[simp] def RO(κ:IntKind)(a b:Int):aX P .mul t x y (.t (.v (.int κ a))) (.t (.v (.int κ b)))=val (.t (.v (.int κ (κ.wrap (a*b))))):=by
 simp[aX,dD,DV.asT,eqGuard,binOp,Op.intArith,aQ,bU,b8,cB,Bind.bind,Sem.bind,Pure.pure]
@[simp] def RP(κ:IntKind)(a b:Int):aX P .lss t x y (.t (.v (.int κ a))) (.t (.v (.int κ b)))=val (.t (.v (.bool (decide (a<b))))):=by
 simp[aX,dD,DV.asT,eqGuard,binOp,Op.intCmp,aQ,bU,b8,cB,Bind.bind,Sem.bind,Pure.pure]
@[simp] def RQ(κ:IntKind)(a b:Int):aX P .leq t x y (.t (.v (.int κ a))) (.t (.v (.int κ b)))=val (.t (.v (.bool (decide (a<=b))))):=by
 simp[aX,dD,DV.asT,eqGuard,binOp,Op.intCmp,aQ,bU,b8,cB,Bind.bind,Sem.bind,Pure.pure]
@[simp] def RS(κ:IntKind)(a b:Int):aX P .gtr t x y (.t (.v (.int κ a))) (.t (.v (.int κ b)))=val (.t (.v (.bool (decide (b<a))))):=by
 simp[aX,dD,DV.asT,eqGuard,binOp,Op.intCmp,aQ,bU,b8,cB,Bind.bind,Sem.bind,Pure.pure]
@[simp] def RT(κ:IntKind)(a b:Int):aX P .geq t x y (.t (.v (.int κ a))) (.t (.v (.int κ b)))=val (.t (.v (.bool (decide (b<=a))))):=by
 simp[aX,dD,DV.asT,eqGuard,binOp,Op.intCmp,aQ,bU,b8,cB,Bind.bind,Sem.bind,Pure.pure]
@[simp] def RU(κ:IntKind)(a b:Int):aX P .eql t x y (.t (.v (.int κ a))) (.t (.v (.int κ b)))=val (.t (.v (.bool (decide (a=b))))):=by
 simp[aX,dD,DV.asT,eqGuard,binOp,Op.intCmp,aQ,bU,b8,cB,Bind.bind,Sem.bind,Pure.pure,Bool.beq_eq_decide_eq]
@[simp] def RV(κ:IntKind)(a b:Int):aX P .neq t x y (.t (.v (.int κ a))) (.t (.v (.int κ b)))=val (.t (.v (.bool (!decide (a=b))))):=by
 simp[aX,dD,DV.asT,eqGuard,binOp,Op.intCmp,aQ,bU,b8,cB,Bind.bind,Sem.bind,Pure.pure,bne,Bool.beq_eq_decide_eq]
@[simp] def RW(a b:ByteArray):aX P .eql t x y (.t (.v (.string a))) (.t (.v (.string b)))=val (.t (.v (.bool (a.toList==b.toList)))):=by
 simp[aX,dD,DV.asT,eqGuard,binOp,Op.stringOp,aQ,bU,b8,cB,Bind.bind,Sem.bind,Pure.pure]
@[simp] def RX(a b:ByteArray):aX P .neq t x y (.t (.v (.string a))) (.t (.v (.string b)))=val (.t (.v (.bool (!(a.toList==b.toList))))):=by
 simp[aX,dD,DV.asT,eqGuard,binOp,Op.stringOp,aQ,bU,b8,cB,Bind.bind,Sem.bind,Pure.pure]
@[simp] def RY(b:Bool):kg P .not (.t (.v (.bool b)))=val (.t (.v (.bool (!b)))):=by
 simp[kg,Op.unary,aQ,bU,b8,cB,Pure.pure]
end
@[simp] theorem RZ(t u:Nat)(d:DV):(E.put t d).tmps u=if u=t then d else E.tmps u:=rfl
@[simp] theorem R0(t:Nat)(d:DV):(E.put t d).slots=E.slots:=rfl
@[simp] theorem R1(t:Nat)(d:DV):(E.put t d).used=E.used:=rfl
@[simp] theorem R2(t:Nat)(d:DV):E.putO (some t) d=E.put t d:=rfl
@[simp] theorem R3(d:DV):E.putO none d=E:=rfl
@[simp] theorem R4:E.upd []=E:=rfl
@[simp] theorem R5(ups:List (Nm×Option Row)):(E.upd ups).tmps=E.tmps:=rfl
@[simp] def R6(n s:Nm)(r:Option Row)(ups:List (Nm×Option Row)):(E.upd ((n,r)::ups)).slots s=if s=n then r else(E.upd ups).slots s:=by
 by_cases h:s=n
 .subst h;simp[aa.upd,List.lookup]
 .have hb:(s==n)=false:=by simpa using h
  simp[aa.upd,List.lookup,hb,h]
@[simp] def R7(n s:Nm)(r:Option Row)(ups:List (Nm×Option Row)):(E.upd ((n,r)::ups)).used s=if s=n then true else(E.upd ups).used s:=by
 by_cases h:s=n
 .subst h;simp[aa.upd,List.lookup]
 .have hb:(s==n)=false:=by simpa using h
  simp[aa.upd,List.lookup,hb,h]
@[simp] theorem R8(d:DV)(rd:List Nm)(ups:List (Nm×Option Row)):(aq.mk d rd ups).apply dst E=(E.upd ups).putO dst d:=rfl
@[simp] theorem R9(b c:Bool)(t:Nat):(E.under b c).tmps t=(E.tmps t).strip b c:=rfl
@[simp] theorem Sa(b c:Bool):(E.under b c).slots=E.slots:=rfl
@[simp] theorem Sb(b c:Bool):(E.under b c).used=E.used:=rfl
@[simp] theorem Sc:E.und none=E:=rfl
@[simp] theorem Sd(b c:Bool):E.und (some (b,c))=E.under b c:=rfl
@[simp] theorem Se(b c:Bool)(x:ab):(DV.t x).strip b c= .t x:=rfl
@[simp] theorem Sf(b c:Bool)(x:List DV):(DV.agg x).strip b c= .agg x:=rfl
@[simp] theorem Sg(b c:Bool)(x:List DV):(DV.tup x).strip b c= .tup x:=rfl
@[simp] theorem Si(b c:Bool)(s:Nm)(i j:Nat):(DV.ptr s i j).strip b c= .ptr s i j:=rfl
@[simp] theorem Sj(b c:Bool)(x:ab)(j:Nat):(DV.tp x j).strip b c= .tp x j:=rfl
@[simp] theorem Sk(b c:Bool)(s:Nm)(j:Nat):(DV.osl s j).strip b c= .osl s j:=rfl
@[simp] theorem Sl(b c:Bool)(f:FuncId)(p l:List DV):(DV.mfn f p l).strip b c= .mfn f p l:=rfl
@[simp] theorem Sm(b c:Bool)(s:Nm):(DV.mp s).strip b c= .mp s:=rfl
@[simp] theorem Sn(b c:Bool):DV.yl.strip b c= .yl:=rfl
@[simp] theorem So(b c:Bool)(f:FuncId)(l:List DV):(DV.fn f l).strip b c= .fn f l:=rfl
@[simp] theorem Sp(t:Nat):E.ev (.tmp t)=E.tmps t:=rfl
@[simp] theorem Sq(b:Bool):E.ev (.const (.bool b))= .t (.v (.bool b)):=rfl
@[simp] theorem Sr(κ:IntKind)(n:Int):E.ev (.const (.int κ n))= .t (.v (.int κ n)):=rfl
@[simp] theorem Ss(s:ByteArray):E.ev (.const (.string s))= .t (.v (.string s)):=rfl
@[simp] theorem St:E.ev (.const (.slice none 0 0))= .t .e0:=rfl
@[simp] theorem Su(f:FuncId):E.ev (.func f)= .fn f []:=rfl
@[simp] theorem Sv(d:DV):val d=some ⟨d,[],[]⟩:=rfl
@[simp] theorem Sw(d:DV):jv (some d)=some ⟨d,[],[]⟩:=rfl
@[simp] theorem Sx(b c:Bool)(x:ab):(DV.t x).arm b c=some (.t x):=rfl
attribute [simp] qt kS qw qA dLen ma fX mc qB qC qz jx DV.part DV.setPart ck DV.cells DV.one ab.one ab.cells aa.fresh bg jw qD DV.tree? DV.t1? DV.isAgg DV.ok1 qy qx dS
attribute [simp] al.den hZ i5 kl mb md dCap nw qF eI
def Ig{t:TypeId}{x y:Operand}{WL:BinOp}{d d':DV}(neq:Bool)(h1:eI WL=some neq)(h2:kV P t=true)(h3:d.slD=true)(h:∀b,(b=true->d.nilable=true)->eK P C Q k [] (ix+1) Tq rest (E.putO dst (.t (.v (.bool (b !=neq)))))):tW P C Q k [] ix Tq dst rest E none WL t x y true d d':= .inr ⟨rfl,rfl,neq,h1,h2,h3,h⟩
@[simp] theorem Sy(r:aq):cx P C Q k pr ix Tq dst rest E none (some r)=(i5 pr ix Tq r=true/\eK P C Q k pr (ix+1) (em pr ix r.rd (r.ups.map (·.1)) Tq) rest (r.apply dst E)):=db Iff.rfl
@[congr] def Sz{g:Option (Bool×Bool)}{x y:Option aq}(h:x=y):cx P C Q k pr ix Tq dst rest E g x=cx P C Q k pr ix Tq dst rest E g y:=by rw[h]
@[simp] theorem SA(g:Option (Bool×Bool))(ds caps:List DV)(f:FuncId):oW P C Q k pr ix Tq dst rest E g ds (.fn f caps)=cR P C Q k pr ix Tq dst rest E g f (ds++caps):=by
 refine propext ⟨fun h=>?_,fun h=> .inl ⟨f,[],caps,rfl,h⟩⟩
 rcases h with⟨f',p',c',h,r⟩|⟨_,_,h,_⟩
 .cases h;exact r
 .cases h
@[simp] theorem SB(ds:List DV):oW P C Q k [] ix Tq dst rest E none ds .yl=C.yl E ds fun b E'=>eK P C Q k [] (ix+1) Tq rest (E'.putO dst (.t (.v (.bool b)))):=by
 refine propext ⟨fun h=>?_,fun h=> .inr ⟨rfl,rfl,rfl,h⟩⟩
 rcases h with⟨f',p',c',h,r⟩|⟨_,_,_,h⟩
 .cases h
 .exact h
def jK{g:Option (Bool×Bool)}{f:FuncId}{ds:List DV}(r:aq)(h:C P (E.und g) f ds dst r)(h2:cx P C Q k pr ix Tq dst rest E g (some r)):cR P C Q k pr ix Tq dst rest E g f ds:= .inl ⟨r,h,h2⟩
def Ih(t:TypeId)(u:Value)(h:C.pq (.iface t u) E):xV C [] E none (.t (.v (.iface t u))):=⟨rfl,rfl,t,u,rfl,h⟩
def zx{f:FuncId}{ds:List DV}(h:mi P C E f ds):cR P C Q k [] ix Tq dst rest E none f ds:= .inr ⟨rfl,rfl,h⟩
def kq{b:Bool}{X Y:Prop}(h1:b=true->X)(h2:b=false->Y):Br b X Y:=⟨h1,h2⟩
def aN{p:Prop}[Decidable p]{X Y:Prop}(h1:p->X)(h2:¬p->Y):Br (decide p) X Y:=⟨fun h=>h1 (ajC h),fun h=>h2 (of_decide_eq_false h)⟩
theorem Ii(a b:Nm):(a==b)=decide (a=b):=rfl
attribute [simp] Ii Nm.isGlob em cy.val fZ aa.canon flip Row.ren DV.ren DV.renL bw
end
section
open Go.RowKit
variable{P:Program}{C:aD}{E:aa}
def rk:(E.canon []).slots=fun _=>none:=by funext s;simp[aa.canon,flip]
def rl(k:Ct)(h1:k.rows'=[])(h2:k.new=[]):k.out=fun _=>none:=by
 funext s
 cases s<;>simp[Ct.out,aU,h1,h2]
def de(ts:List ab)(d:DV):Ct:=⟨[],ts.map .t,[],d,[],[]⟩
def eM{ts:List ab}{d d':DV}(h:E.outD [] d'=d):Ends (de ts d) d' E:= .inl ⟨[],rfl,by rw[rk,rl _ rfl rfl],h⟩
def ew(ts:List ab):aa where
 tmps:=fun t=>(ts.map DV.t).getD t .junk
 slots:=fun _=>none
 used:=fun _=>false
def Ij(hm:P.follows .mixedOrders=true){f:FuncId}{fn:Func}{code:Code}{s:ac}{rs:List cy}(hf:P.funcs[f]?=some fn)(Vk:(fn.name== "runtime.NumGoroutine")=false)
  (hb:fn.body=some code) (hs:aZ P fn.ntmps true code=some s) (hr:i8 P fn=some rs) (ts:List ab) (d:DV) (hn:ts.length<=fn.ntmps) (hw:aY P bu (Fin rs (Ends (de ts d))) [.code s] (ew ts)):ao P f ts d:=by
 have he:(Ct.mk [] (ts.map .t) [] d [] []).env=ew ts:=by
  refine aa.ext' rfl (funext fun s=>?_) (funext fun s=>?_)
  .cases s<;>simp[Ct.env,aU,ew]
  .cases s<;>simp[Ct.env,Ct.used0,ew]
 refine mC gD iI (fun _ _ _ h=>h) (fun _ _ _ h=>h) hm hf Vk hb hs hr _ (by simpa using hn) ?_
 rw[he]
 exact hw
end
section
open Go.RowKit
variable{P:Program}{C:aD}{c:aA}{Z:Nm->Place}{E:aa}{a:Act}{w:World}
def cD:Option Nat->DV
 |some i=> .wh false true (.t (.v (.int .i64 i)))
 |none=> .wh false true .junk
def rm{o o':Option Nat}(h:cD o=cD o'):o=o':=by
 cases o<;>cases o'<;>simp[cD]at h⊢
 exact_mod_cast h
def Ik(u:Value)(ρ:List (Nm×Nm)):(gC u).ren ρ=gC u:=by simp[gC,DV.ren]
def ro{o:Option Nat}{u:Value}(h:cD o=gC u):False:=by cases o<;>simp[cD,gC]at h
def jL(o:Option Nat)(ρ:List (Nm×Nm)):(cD o).ren ρ=cD o:=by cases o<;>simp[cD,DV.ren]
def YL(xs:List (List ab))(E:aa)(ds:List DV)(Kb:Bool->aa->Prop):Prop:=
 ∃i x rd,E.tmps GH=cD (some i)/\xs[i]?=some x/\E.views ds=some (x,rd)/\Kb true ((E.upd (am E rd)).put GH (cD (some (i+1))))/\Kb false ((E.upd (am E rd)).put GH (cD none))
def i9(ts:List DV):aa where
 tmps:=fun t=>if t=GH then cD (some 0)else match t with|0=> .yl|t+1=>ts.getD t .junk
 slots:=fun _=>none
 used:=fun s=>match s with| .yl=>true|_=>false
def uS(n:Nat)(e:Exit)(E:aa):Prop:=(e= .normal\/e= .ret)/\(E.tmps GH=cD (some n)\/E.tmps GH=cD none)
def ja(l:Nat):Nm->Place
 | .yl=>⟨l,0,0⟩
 | .glob g=>⟨g,0,0⟩
 |_=>⟨0,0,0⟩
def Il(h:ai c Z E a w){ds:List DV}{x:List ab}{rd:List Nm}(hv:E.views ds=some (x,rd)){us:List Value}(XV:us.length=ds.length)(hur:∀(i:Nat) (v:Value) (d:DV),us[i]?=some v->ds[i]?=some d->ah Z E.used w (ae c Z E.slots) v d):
  ai c Z (E.upd (am E rd)) a w/\us.length=x.length/\∀(i:Nat) (v:Value) (t:ab),us[i]?=some v->x[i]?=some t->aM w (ae c Z (E.upd (am E rd)).slots) v t:=by
 simp only[aa.views,ajt,ajV]at hv
 obtain⟨ps,h1,rfl,rfl⟩:=hv
 obtain⟨h2,h3⟩:=ec h1
 have YA:∀(i:Nat) (p:ab×List Nm),ps[i]?=some p->∃d,ds[i]?=some d/\E.view d=some p:=by
  intro i p hp
  have hi:i<ds.length:=by have:=(ajs.1 hp).1;omega
  exact⟨_,ajq hi,h3 i _ p (ajq hi) hp⟩
 have hFr:∀s∈ps.flatMap (·.2),E.used s=true:=fun s hs=>by
  obtain⟨p,hp,hs⟩:=List.mem_flatMap.1 hs
  obtain⟨i,hi,rfl⟩:=ajL hp
  obtain⟨d,_,hd⟩:=YA i _ (ajq hi)
  obtain⟨e,m,l,fz,Tj⟩:=ia (x:=ps[i].1) (rd:=ps[i].2) hd s hs
  exact(h.row s _ Tj).1
 have h':=h.freeze hFr
 have hM:∀b,ae c Z (E.upd (am E (ps.flatMap (·.2)))).slots b->ae c Z E.slots b:=by
  rintro b (hb|⟨s,r,h1,h2,h3,h4⟩)
  .exact .inl hb
  .obtain⟨r0,h5,h6⟩:=eL h1
   rcases h6 with rfl|rfl
   .exact .inr ⟨s,_,h5,h2,h3,h4⟩
   .rw[dU]at h2;simp at h2
 refine⟨h',by simp;omega,fun i v t UC ht=>?_⟩
 rw[ajw,ajt]at ht
 obtain⟨p,hp,rfl⟩:=ht
 obtain⟨d,hd1,hd2⟩:=YA i p hp
 refine h.toSimW.view hM (hur i v d UC hd1) (x:=p.1) (rd:=p.2) hd2 fun s hs hcap=>?_
 have T8:s∈ps.flatMap (·.2):=List.mem_flatMap.2 ⟨p,ajx hp,hs⟩
 obtain⟨e,m,l',fz,Tj⟩:=ia (x:=p.1) (rd:=p.2) hd2 s hs
 have Wh:(E.upd (am E (ps.flatMap (·.2)))).slots s=some (.rows e m l' true):=by
  rw[bM,fB,if_pos T8,Tj];rfl
 exact h'.toSimW.frozen_nm Wh (by simp[Row.mut]) (by simpa[Row.real]using hcap)
theorem Im(hm:P.follows .mixedOrders=true){f:FuncId}{fn:Func}{code:Code}{s:ac}(hf:P.funcs[f]?=some fn)(Vk:(fn.name== "runtime.NumGoroutine")=false)(hb:fn.body=some code)(hs:aZ P fn.ntmps false code=some s)
  (hr:i8 P fn=some []) {ts:List DV} {xs:List (List ab)} (hn:ts.length+1<=fn.ntmps) (hgh:fn.ntmps<=GH) (hw:W P (kp (YL xs)) s (i9 ts) (uS xs.length)):fD P f ts xs:=by
 refine⟨⟨fn,code,hf,Vk,hb⟩,fun w M O vs l J Jx Jp Ww hOM afL W6 hvr TT aeN aeO T9 hJ0=>?_⟩
 refine callsIn_wide (n:=0).1 (zi hf hb trivial ?_)
 let GJ:DV->World->(Nat->Prop)->(Nat->Prop)->Prop:=fun g w' M' O'=>(∃i,g=cD (some i)/\J i w' M' O')\/(g=cD none/\Jx w' M' O')\/∃u,g=gC u/\Jp u w' M' O'
 let Rl:aA->aa->Prop:=fun c E=>c.n=fn.ntmps/\c.dl=none/\c.pin=ja l/\((∃o,E.tmps GH=cD o)\/∃u,E.tmps GH=gC u)/\w.heap.size<=c.w0.heap.size/\(∀b,c.X b->w.heap.size<=b)/\(∀b,c.X b->c.M0 b)/\
  ∃O',GJ (E.tmps GH) c.w0 c.M0 O'/\(∀b,O' b->c.M0 b)/\(∀b,O' b->¬c.X b)
 have ZH:∀c E E',Rl c E->E'.tmps GH=E.tmps GH->Rl c E':=by
  rintro c E E' ⟨h1,h2,h3,h4,h5,h6,h7,h8⟩ he
  exact⟨h1,h2,h3,by rw[he];exact h4,h5,h6,h7,by rw[he];exact h8⟩
 have hR:gc Rl fn.ntmps:=by
  refine⟨fun c E h=>h.1,fun c E l h hl=>(by rw[h.2.1]at hl;cases hl),fun c E dst d h hd=>ZH c E _ h ?_,fun c E ups h=>ZH c E _ h rfl,fun c E ρ h=>ZH c E _ h ?_⟩
  .cases dst with
   |none=>rfl
   |some t=>
    simp at hd
    show(if GH=t then d else E.tmps GH)=E.tmps GH
    rw[if_neg (by omega)]
  .show(E.tmps GH).ren ρ=E.tmps GH
   rcases h.2.2.2.1 with⟨o,ho⟩|⟨u,ho⟩
   .rw[ho,jL]
   .rw[ho,Ik]
 have Zx:∀{c:aA} {Z:Nm->Place} {E:aa} {wy:World} {O':Nat->Prop},SimW c Z E wy->w.heap.size<=c.w0.heap.size->(∀b,c.X b->w.heap.size<=b)->(∀b,c.X b->c.M0 b)->(∀b,O' b->c.M0 b)->(∀b,O' b->¬c.X b)->
   qU w c.w0 c.M0 O' wy (ae c Z E.slots):=by
  intro c Z E wy O' h h5 h6 h7 h8 h9
  refine⟨h.size,h.os,h.tape,h.output,fun b hb ho=>h.old b hb fun hx=>?_,fun b hb hM=>?_,fun b hb hM=> .inl ⟨hM,fun hx=>?_⟩,fun b ho=> .inl ⟨h8 b ho,h9 b ho⟩,fun b hM=>?_⟩
  .rcases ho with ho|ho|ho
   .have:=h6 b hx;omega
   .exact h9 b ho hx
   .exact ho (h7 b hx)
  .rcases hM with hM|hM
   .exact hM.1
   .rcases h.own_x hM with h1|h1
    .exact h7 b h1
    .omega
  .have:=h6 b hx;omega
  .rcases hM with hM|hM
   .exact ajY (h.m0 b hM.1) h.size
   .exact h.own_lt hM
 have Xy:∀{c:aA} {Z:Nm->Place} {E:aa} {a:Act} {wy:World},ai c Z E a wy->c.dl=none->a.defers=[]:=by
  intro c Z E a wy h hd
  obtain⟨bs,h1,_,h2⟩:=h.df
  cases bs with
  |nil=>exact h1
  |cons b bs=>
   obtain⟨l,h3,_⟩:=(h2 b ajK).1
   rw[hd]at h3;cases h3
 have hY:jH P (kp (YL xs)) Rl:=by
  intro c Z E0 a wy ds us Kb aby h0 X6 hu0 aeF aeE
  obtain⟨i,x,rd,g1,g2,g3,g4,g5⟩:=X6
  obtain⟨h,XV,hur⟩:=Il h0 g3 aeF aeE
  have TG:Rl c (E0.upd (am E0 rd)):=hR.upd _ _ _ aby
  have g1:(E0.upd (am E0 rd)).tmps GH=cD (some i):=g1
  have hu:(E0.upd (am E0 rd)).used .yl=true:=by rw[bJ,hu0,Bool.or_true]
  generalize E0.upd (am E0 rd)=E at h hur TG g1 hu g4 g5
  obtain⟨h1,h2,h3,h4,h5,h6,h7,O',hg,h8,h9⟩:=TG
  have hJ:J i c.w0 c.M0 O':=by
   rcases hg with⟨i',e1,e2⟩|⟨e1,_⟩|⟨u,e1,_⟩
   .rw[g1]at e1
    have:=rm e1
    cases this
    exact e2
   .rw[g1]at e1
    have:=rm e1
    cases this
   .rw[g1]at e1
    exact(ro e1).elim
  have hl:(Z .yl).blk=l:=by
   rw[h.fix .yl rfl hu,h3]
   rfl
  have hJ2:=TT i _ _ _ _ _ hJ (Zx h.toSimW h5 h6 h7 h8 h9)
  have T5:=T9 i x wy _ O' us g2 hJ2 XV hur
  rw[hl]
  obtain⟨fn',tmps,asg,bd,y1,y2⟩:=T5
  refine⟨fn',tmps,asg,bd,y1,y2.mono fun e w2 he=>?_⟩
  obtain⟨M3,O3,U9,UQ⟩:=he
  have ZQ:∀b,O' b->¬Own Z E.slots b:=by
   intro b ho hb
   rcases h.toSimW.own_x hb with q|q
   .exact h9 b ho q
   .have:=h.m0 b (h8 b ho);omega
  have hO2:∀b,O' b->ae c Z E.slots b:=fun b ho=> .inl ⟨h8 b ho,h9 b ho⟩
  have hnM:∀b,b<wy.heap.size->¬ae c Z E.slots b->¬M3 b:=by
   intro b hb hM hM3
   rcases(U9.all b).1 hM3 with q|q
   .exact hM q.1
   .rcases U9.own b q with q|q
    .exact hM (hO2 b q)
    .omega
  have Tr:ai ⟨w2,M3,Own Z E.slots,fn.ntmps,ja l,none⟩ Z E a w2:=by
   have V8:∀b,b<wy.heap.size->¬ae c Z E.slots b->w2.heap[b]?=wy.heap[b]?/\¬ae ⟨w2,M3,Own Z E.slots,fn.ntmps,ja l,none⟩ Z E.slots b:=by
    intro b hb hM
    refine⟨U9.keep b hb fun ho=>hM (hO2 b ho),?_⟩
    rintro(⟨q,_⟩|q)
    .exact hnM b hb hM q
    .exact hM (.inr q)
   refine⟨h.toSimW.move (by rw[h3]) U9.size (ajz _) rfl rfl rfl (fun _ _ _=>rfl) (fun b hb=>?_) V8 (fun s r hs Tz=>?_) (h.toSimW.lay_to fun b hb hM=>⟨U9.keep b hb fun ho=>hM (hO2 b ho),fun hx=>hM (.inr hx),hnM b hb hM⟩),fun t=>(h.tm t).mono U9.size V8 (fun _ hu=>⟨hu,rfl⟩),by rw[h.sz,h1],[],Xy h h2,by simp,by simp⟩
   .rcases(U9.all b).1 hb with q|q
    .have hlt:b<wy.heap.size:=by
      rcases q.1 with q|q
      .exact ajY (h.m0 b q.1) h.size
      .exact h.toSimW.own_lt q
     exact ajY hlt U9.size
    .exact U9.lt b q
   .have hlt:=(h.row s r hs).2.1.lt Tz
    have WE:¬O' (Z s).blk:=by
     intro ho
     by_cases Us:r.mut=true
     .exact ZQ _ ho ⟨s,r,hs,Us,Tz,rfl⟩
     .exact h.toSimW.frozen_nm hs Us Tz (hO2 _ ho)
    refine⟨U9.keep _ hlt WE,fun Us=> .inl ⟨s,r,hs,Us,Tz,rfl⟩,?_⟩
    by_cases Us:r.mut=true
    .exact .inl ⟨s,r,hs,Us,Tz,rfl⟩
    .exact .inr (hnM _ hlt (h.toSimW.frozen_nm hs Us Tz))
  have Tx:∀(g:DV),((∃o,g=cD o)\/∃u,g=gC u)->GJ g w2 M3 O3->Rl ⟨w2,M3,Own Z E.slots,fn.ntmps,ja l,none⟩ (E.put GH g)/\ai ⟨w2,M3,Own Z E.slots,fn.ntmps,ja l,none⟩ Z (E.put GH g) a w2:=by
   intro g VU hgj
   have Yp:(E.put GH g).tmps GH=g:=by show(if GH=GH then g else E.tmps GH)=g;rw[if_pos rfl]
   refine⟨⟨rfl,rfl,rfl,by rw[Yp];exact VU,?_,fun b hb=>?_,fun b hb=>?_,O3,by rw[Yp];exact hgj,fun b hb=>(U9.all b).2 (.inr hb),fun b hb acP=>?_⟩,⟨Tr.toSimW.congr rfl rfl,fun t=>?_,Tr.sz,Tr.df⟩⟩
   .have:=h.size;have:=U9.size;show w.heap.size<=w2.heap.size;omega
   .rcases h.toSimW.own_x hb with q|q
    .exact h6 b q
    .omega
   .exact(U9.all b).2 (.inl ⟨.inr hb,fun ho=>ZQ b ho hb⟩)
   .rcases U9.own b hb with q|q
    .exact ZQ b q acP
    .have:=h.toSimW.own_lt acP;omega
   .show ah Z E.used w2 (ae _ Z E.slots) _ (if t=GH then g else E.tmps t)
    by_cases ht:t=GH
    .rw[if_pos ht]
     rcases VU with⟨o,rfl⟩|⟨u,rfl⟩
     .cases o<;>exact .wh fun hh=>by cases hh
     .exact .wh fun hh=>by cases hh
    .rw[if_neg ht];exact Tr.tm t
  rcases UQ with⟨rfl,hj⟩|⟨rfl,hj⟩|⟨u,rfl,hj⟩
  .obtain⟨q1,q2⟩:=Tx (cD (some (i+1))) (.inl ⟨_,rfl⟩) (.inl ⟨i+1,rfl,hj⟩)
   exact .inl ⟨true,_,Z,_,rfl,g4,q1,q2⟩
  .obtain⟨q1,q2⟩:=Tx (cD none) (.inl ⟨_,rfl⟩) (.inr (.inl ⟨rfl,hj⟩))
   exact .inl ⟨false,_,Z,_,rfl,g5,q1,q2⟩
  .obtain⟨q1,q2⟩:=Tx (gC u) (.inr ⟨_,rfl⟩) (.inr (.inr ⟨u,rfl,hj⟩))
   refine .inr ⟨u,_,Z,_,rfl,?_,q1,q2⟩
   show(if GH=GH then gC u else E.tmps GH)=gC u
   rw[if_pos rfl]
 let c0:aA:=⟨w,M,fun _=>False,fn.ntmps,ja l,none⟩
 have adE:∀b,ae c0 (ja l) (i9 ts).slots b->M b:=by
  rintro b (⟨q,_⟩|⟨s,r,q,_⟩)
  .exact q
  .cases q
 have hA:ai c0 (ja l) (i9 ts) {tmps:=(#[Value.func (.yield l) #[] #[]]++vs.toArray)++Array.replicate (fn.ntmps-(#[Value.func (.yield l) #[] #[]]++vs.toArray).size) undef,defers:=[]} w:=by
  refine⟨⟨ajz _,rfl,rfl,rfl,fun _ _ _=>rfl,Ww,fun s r h=>(by cases h),fun s s' r r' h=>(by cases h),fun s _ _=>rfl,fun g=>rfl,fun p hp=>let⟨cs,e,fr,q1,q2,q3⟩:=afL p hp;⟨cs,e,fr,q1,q2,fun h=>h,q3⟩⟩,fun t=>?_,?_,[],rfl,by simp,by simp⟩
  .show ah (ja l) (i9 ts).used w _ _ (if t=GH then cD (some 0)else _)
   by_cases Yn:t=GH
   .rw[if_pos Yn];exact .wh fun hh=>by cases hh
   .rw[if_neg Yn]
    cases t with
    |zero=>
     have:((#[Value.func (.yield l) #[] #[]]++vs.toArray)++Array.replicate (fn.ntmps-(#[Value.func (.yield l) #[] #[]]++vs.toArray).size) undef).getD 0 undef= .func (.yield l) #[] #[]:=by
      rw[ajM,akv,akv]
      simp
     rw[this]
     exact ah.yl (Z:=ja l) rfl
    |succ t=>
     show ah _ _ _ _ _ (ts.getD t .junk)
     by_cases ht:t<vs.length
     .have Xi:t<ts.length:=by omega
      have e1:((#[Value.func (.yield l) #[] #[]]++vs.toArray)++Array.replicate (fn.ntmps-(#[Value.func (.yield l) #[] #[]]++vs.toArray).size) undef).getD (t+1) undef=vs[t]:=by
       rw[ajM,akv,akv]
       have h1:t+1<(#[Value.func (.yield l) #[] #[]]++vs.toArray).size:=by simp;omega
       rw[if_pos h1]
       simp[ht]
      have e2:ts.getD t .junk=ts[t]:=by simp[Xi]
      rw[e1,e2]
      exact(hvr t _ _ (ajq ht) (ajq Xi)).mono (ajz _) (fun b _ hb=>⟨rfl,fun TR=>hb (adE b TR)⟩) (fun _ hu=>by cases hu)
     .have e2:ts.getD t .junk= .junk:=by
       rw[aj5,aj2 (by omega)];rfl
      rw[e2]
      exact .junk
  .show(_:Array Value).size=fn.ntmps
   simp;omega
 refine iJ (C:=kp (YL xs)) gD iI (fun _ _ _ h=>h) hm hR hY (my rfl) (rd:=none) (rf:=false) (fun hh=>by simp at hh) (fun hh=>by simp at hh) (fun _ _ hh=>by simp at hh) code s hs c0 (i9 ts) _ _ (ja l) _ w
  ⟨rfl,rfl,rfl,.inl ⟨some 0,rfl⟩,ajz _,fun b hb=>hb.elim,fun b hb=>hb.elim,O,.inl ⟨0,rfl,hJ0⟩,hOM,fun b _ hb=>hb⟩ (fun u c E Z a wf TG hq Uq=>?_) (fun c e E Z a wf TG hk Uq=>?_) hA hw
 .obtain⟨h1,h2,h3,h4,h5,h6,h7,O',hg,h8,h9⟩:=TG
  have hq:E.tmps GH=gC u:=hq
  rw[hq]at hg
  have U9:=Zx Uq.toSimW h5 h6 h7 h8 h9
  rcases hg with⟨i,e1,_⟩|⟨e1,_⟩|⟨u',e1,e2⟩
  .exact(ro e1.symm).elim
  .exact(ro e1.symm).elim
  .have hu:u=u':=by simpa[gC]using e1
   subst hu
   exact⟨Xy Uq h2,.inr ⟨u,ae c Z E.slots,O',rfl,aeO u _ _ _ _ _ e2 U9⟩⟩
 obtain⟨h1,h2,h3,h4,h5,h6,h7,O',hg,h8,h9⟩:=TG
 obtain⟨he,hend⟩:=hk
 obtain⟨v,Ti,_⟩:=rh Uq hr (d:= .tup []) rfl
 have Xw:a.defers=[]/\∃v,(results fn a.tmps).run P wf= .ok v wf/\((∃v' M' O',Ending.returned v= .returned v'/\(J xs.length wf M' O'\/Jx wf M' O'))\/∃u M' O',Ending.returned v= .panicked (gf u)/\Jp u wf M' O'):=by
  refine⟨Xy Uq h2,v,Ti,.inl ⟨v,ae c Z E.slots,O',rfl,?_⟩⟩
  have U9:=Zx Uq.toSimW h5 h6 h7 h8 h9
  rcases hg with⟨i,e1,e2⟩|⟨e1,e2⟩|⟨u,e1,_⟩
  .rcases hend with hend|hend
   .rw[hend]at e1
    have:=rm e1
    cases this
    exact .inl (TT _ _ _ _ _ _ e2 U9)
   .rw[hend]at e1
    have:=rm e1
    cases this
  .exact .inr (aeN _ _ _ _ _ e2 U9)
  .rcases hend with hend|hend<;>rw[hend]at e1<;>exact(ro e1).elim
 rcases he with rfl|rfl
 .exact Xw
 .exact Xw
end
section
open Go.RowKit
variable{P:Program}{C:aD}{E:aa}
structure li(C C':aD):Prop where
 cl:C.cl=C'.cl
 it:C.it=C'.it
 pc:C.pc=C'.pc
 pq:∀u E,C.pq u E->C'.pq u E
 yl:∀E ds (Kb ZW:Bool->aa->Prop),(∀b E,Kb b E->ZW b E)->C.yl E ds Kb->C'.yl E ds ZW
 ri:∀P f ds E0 (Y Y':aa->List DV->(Bool->aa->Prop)->Prop) (Kf Kf':aa->Prop),(∀EI ds Kb ZW,(∀b E,Kb b E->ZW b E)->Y EI ds Kb->Y' EI ds ZW)->(∀E,Kf E->Kf' E)->C.ri P f ds E0 Y Kf->C'.ri P f ds E0 Y' Kf'
def uT(C:aD):Prop:=li C C
def zy{C':aD}(hc:C.cl=C'.cl){pr:List (Nat×Nat)}{ix:Nat}{Tq:List bG}{dst:Option Nat}{E:aa}{n n':aq->Prop}{op:al}(hn:∀r,n r->n' r)(h:dv P C pr ix Tq dst E n op):dv P C' pr ix Tq dst E n' op:=by
 unfold dv at*
 split at h
 .obtain⟨r,h1,h2,h3⟩:=h;exact⟨r,by rw[<-hc];exact h1,h2,hn r h3⟩
 .obtain⟨f,pre,caps,r,h1,h2,h3,h4⟩:=h;exact⟨f,pre,caps,r,h1,by rw[<-hc];exact h2,h3,hn r h4⟩
 .obtain⟨r,h1,h2,h3⟩:=h;exact⟨r,h1,h2,hn r h3⟩
def In{C':aD}(hY:li C C'){E:aa}{dst:Option Nat}{n n':aa->Prop}{op:al}(hn:∀E,n E->n' E)(h:hT P C E dst n op):hT P C' E dst n' op:=by
 unfold hT at*
 split at h
 .obtain⟨u,ups,h1,h2⟩:=h;exact⟨u,ups,by rw[<-hY.pc];exact h1,hY.pq _ _ h2⟩
 .obtain⟨t,u,h1,h2⟩:=h;exact⟨t,u,h1,hY.pq _ _ h2⟩
 .rcases h with h|⟨f,pre,caps,h0,u,ups,h1,h2⟩
  .exact .inl ⟨h.1,hY.yl _ _ _ _ (fun b E=>hn _) h.2⟩
  .exact .inr ⟨f,pre,caps,h0,u,ups,by rw[<-hY.pc];exact h1,hY.pq _ _ h2⟩
 .obtain⟨neq,h1,h2,h3,h4,h5⟩:=h
  exact⟨neq,h1,h2,h3,h4,fun b hb=>hn _ (h5 b hb)⟩
 .exact h
def mD{C':aD}(hY:li C C'){pr:List (Nat×Nat)}{K K':aa->Prop}(hK:∀E,K E->K' E):∀(l:List aT) (ix:Nat) (Tq:List bG) (E:aa),cv P C pr ix Tq l E K->cv P C' pr ix Tq l E K'
 |[],ix,Tq,E,h=>hK E h
 |o::l,ix,Tq,E,h=>by
  unfold cv at*
  have hn:∀r:aq,cv P C pr (ix+1) (em pr ix r.rd (r.ups.map (·.1)) Tq) l (r.apply o.dst E) K->cv P C' pr (ix+1) (em pr ix r.rd (r.ups.map (·.1)) Tq) l (r.apply o.dst E) K':=fun r=>mD hY hK l _ _ _
  have hy:∀E',cv P C pr (ix+1) Tq l E' K->cv P C' pr (ix+1) Tq l E' K':=fun E'=>mD hY hK l _ _ _
  have T1:(dv P C pr ix Tq o.dst E (fun r=>cv P C pr (ix+1) (em pr ix r.rd (r.ups.map (·.1)) Tq) l (r.apply o.dst E) K) o.op\/(pr=[]/\hT P C E o.dst (fun E'=>cv P C pr (ix+1) Tq l E' K) o.op))->
    (dv P C' pr ix Tq o.dst E (fun r=>cv P C' pr (ix+1) (em pr ix r.rd (r.ups.map (·.1)) Tq) l (r.apply o.dst E) K') o.op\/(pr=[]/\hT P C' E o.dst (fun E'=>cv P C' pr (ix+1) Tq l E' K') o.op)):=by
   rintro(h|⟨h1,h2⟩)
   .exact .inl (zy hY.cl hn h)
   .exact .inr ⟨h1,In hY hy h2⟩
  simp only at h⊢
  split at h
  .exact T1 h
  .rcases h with⟨h0,h⟩|⟨b,h1,h2⟩
   .exact .inl ⟨h0,mD hY hK l _ _ _ h⟩
   refine .inr ⟨b,h1,?_⟩
   rcases h2 with h2|h2
   .exact .inl ⟨fun hb=>T1 (h2.1 hb),fun hb=>mD hY hK l _ _ _ (h2.2 hb)⟩
   .exact .inr (zy hY.cl (fun r hr=>⟨hr.1,mD hY hK l _ _ _ hr.2⟩) h2)
def zz{n n':aa->Prop}{K K':Exit->aa->Prop}(hn:∀E,n E->n' E)(hK:∀e E,K e E->K' e E):∀e E,fY n K e E->fY n' K' e E:=by
 intro e E h
 cases e<;>first|exact hn _ h|exact hK _ _ h
def rp{E:aa}{S F:List Nm}{d:Nat}{K K':aa->Prop}(hK:∀E,K E->K' E){E3:aa}(h:eb E S F d K E3):eb E S F d K' E3:=by
 obtain⟨k',ρ,h1,h2,h3,h4⟩:=h
 exact⟨k',ρ,h1,h2,h3,hK _ h4⟩
def uU{C C':aD}(h:li C C'):li C.noY C'.noY:=⟨h.cl,h.it,h.pc,fun _ _ h=>h.elim,fun _ _ _ _ _ h=>h.elim,h.ri⟩
def Io{C C':aD}(h:li C C'){q q':Value->aa->Prop}(hq:∀u E,q u E->q' u E):li (C.wq q) (C'.wq q'):=⟨h.cl,h.it,h.pc,hq,fun _ _ _ _ _ h=>h.elim,h.ri⟩
def iK:∀(s:ac) (C C':aD) (_:li C C') (E:aa) (K K':Exit->aa->Prop),(∀e E,K e E->K' e E)->W P C s E K->W P C' s E K'
 | .skip,_,_,_,E,K,K',hK,h=>hK _ _ h
 | .region ops,_,_,hY,E,K,K',hK,h=>mD hY (fun E=>hK .normal E) _ _ _ _ h
 | .drawn ops pr,_,_,hY,E,K,K',hK,h=>⟨h.1,mD hY (fun E=>hK .normal E) _ _ _ _ h.2⟩
 | .seq a b,C,C',hY,E,K,K',hK,h=>iK a C C' hY E _ _ (zz (fun E' hE=>iK b C C' hY E' K K' hK hE) hK) h
 | .cond c x y,C,C',hY,E,K,K',hK,h=>by
  obtain⟨b,h1,h2,h3⟩:=h
  exact⟨b,h1,fun hb=>iK x C C' hY E K K' hK (h2 hb),fun hb=>iK y C C' hY E K K' hK (h3 hb)⟩
 | .block id b,C,C',hY,E,K,K',hK,h=>by
  refine iK b C C' hY E _ _ (fun e E hE=>?_) h
  cases e with
  |exit i=>
   have hE:if i=id then K .normal E else K (.exit i) E:=hE
   show if i=id then K' .normal E else K' (.exit i) E
   split
   .rename_i hi;rw[if_pos hi]at hE;exact hK _ _ hE
   .rename_i hi;rw[if_neg hi]at hE;exact hK _ _ hE
  |_=>exact hK _ _ hE
 | .loop b,C,C',hY,E,K,K',hK,h=>by
  obtain⟨I,m,h1,h2⟩:=h
  exact⟨I,m,h1,fun E1 hI=>iK b C C' hY E1 _ _ (zz (fun _ h=>h) hK) (h2 E1 hI)⟩
 | .exit id,_,_,_,E,K,K',hK,h=>hK _ _ h
 | .ret,_,_,_,E,K,K',hK,h=>hK _ _ h
 | .stuck,_,_,_,_,_,_,_,h=>h
 | .rangef g ps a b,C,C',hY,E,K,K',hK,h=>by
  rcases h with⟨f,caps,ts,F,xs,S,k,d,I,h1,h2,h3,h4,h5,h6,h7,h8⟩|⟨f,caps,F,S,k,d,h1,h2,h3⟩
  .refine .inl ⟨f,caps,ts,F,xs,S,k,d,I,h1,h2,by rw[<-hY.it];exact h3,h4,h5,h6,fun i x E1 hx hI hh=>?_,fun E1 hI hh=>rp (hK .normal) (h8 E1 hI hh)⟩
   refine iK a C.noY C'.noY (uU hY) _ _ _ (fun e E2 hE=>⟨hE.1,?_⟩) (h7 i x E1 hx hI hh)
   refine iK b (C.wq _) (C'.wq _) (Io hY fun u E3 h=>rp (hY.pq u) h) _ _ _ (fun e E3 hE=>?_) hE.2
   cases e with
   |normal=>exact hE
   |ret=>exact rp (hK .ret) hE
   |exit id=>exact rp (hK (.exit id)) hE
   |_=>exact hE
  .refine .inr ⟨f,caps,F,S,k,d,h1,h2,hY.ri _ _ _ _ _ _ _ _ (fun EI ds Kb ZW hKb hy=>?_) (fun EF hf=>?_) h3⟩
   .obtain⟨q1,q2,q3,ρ,q4,q5⟩:=hy
    refine⟨q1,q2,q3,ρ,q4,iK a C.noY C'.noY (uU hY) _ _ _ (fun e E2 hE=>⟨hE.1,?_⟩) q5⟩
    refine iK b C.noY C'.noY (uU hY) _ _ _ (fun e E3 hE=>?_) hE.2
    obtain⟨z1,ρ',z2,z3,z4⟩:=hE
    exact⟨z1,ρ',z2,z3,hKb _ _ z4⟩
   .obtain⟨e,k',ρ,z1,z2,z3,z4,z5,z6,z7⟩:=hf
    exact⟨e,k',ρ,z1,z2,z3,z4,z5,z6,hK _ _ z7⟩
def uV(s:ac)(C:aD)(hY:uT C)(E:aa)(K K':Exit->aa->Prop)(hK:∀e E,K e E->K' e E)(h:W P C s E K):W P C s E K':=iK s C C hY E K K' hK h
def zA{P:Program}{f:FuncId}{ds:List DV}{E0:aa}{Y Y':aa->List DV->(Bool->aa->Prop)->Prop}{Kf Kf':aa->Prop}(hY:∀EI ds Kb ZW,(∀b E,Kb b E->ZW b E)->Y EI ds Kb->Y' EI ds ZW)(hK:∀E,Kf E->Kf' E)(h:qW P f ds E0 Y Kf):qW P f ds E0 Y' Kf':=by
 obtain⟨fn,code,s,h1,h2,h3,h4,h5,h6,h7,h8⟩:=h
 exact⟨fn,code,s,h1,h2,h3,h4,h5,h6,h7,iK s (qV Y) (qV Y') ⟨rfl,rfl,rfl,fun _ _ h=>h,fun E ds Kb ZW=>hY E ds Kb ZW,fun _ _ _ _ _ _ _ _ _ _ h=>h.elim⟩ E0 _ _ (fun e E hE=>⟨hE.1,hK _ hE.2⟩) h8⟩
def Ip(q:Value->aa->Prop):uT (bj q):=⟨rfl,rfl,rfl,fun _ _ h=>h,fun _ _ _ _ _ h=>h.elim,fun _ _ _ _ _ _ _ _ hY hK h=>zA hY hK h⟩
def zB:uT bu:=⟨rfl,rfl,rfl,fun _ _ h=>h,fun _ _ _ _ _ h=>h.elim,fun _ _ _ _ _ _ _ _ hY hK h=>zA hY hK h⟩
end
section
open Go.RowKit
structure dK where
 code:ac
 nt:Nat
 res:List cy
def uW(b:Bool)(P:Program)(f:FuncId)(fn:dK):Prop:=∃Fn c,P.funcs[f]?=some Fn/\(Fn.name== "runtime.NumGoroutine")=false/\Fn.body=some c/\aZ P Fn.ntmps b c=some fn.code/\i8 P Fn=some fn.res/\fn.nt=Fn.ntmps
abbrev ak:=uW true
abbrev mE:=uW false
def rq(b:Bool)(P:Program)(F:Func):=(F.name== "runtime.NumGoroutine",F.body.isSome,aZ P F.ntmps b (F.body.getD .skip),i8 P F,F.ntmps)
def zC{b:Bool}{P:Program}(f:FuncId){F:Func}(x:dK)(hf:P.funcs[f]?=some F)(h:rq b P F=(false,true,some x.code,some x.res,x.nt)):uW b P f x:=by
 simp only[rq,ajV]at h
 obtain⟨h1,h2,h3,h5,h6⟩:=h
 obtain⟨c,hc⟩:=akb.1 h2
 rw[hc]at h3
 exact⟨F,c,hf,h1,hc,h3,h5,h6.symm⟩
def lb{n m:Nat}(h:Nat.ble n m=true):n<=m:=aj6 h
abbrev xo{P:Program}(f:FuncId)(x:dK){F:Func}(hf:P.funcs[f]?=some F)(h:rq true P F=(false,true,some x.code,some x.res,x.nt)):ak P f x:=zC f x hf h
abbrev xi{P:Program}(f:FuncId)(x:dK){F:Func}(hf:P.funcs[f]?=some F)(h:rq false P F=(false,true,some x.code,some x.res,x.nt)):mE P f x:=zC f x hf h
end
section
open Go.RowKit
variable{P:Program}
def po(t:TypeId)(e m m':Nat)(b:Bool)(zs:List ab)(z:ab):ac:=(.seq (.region [⟨some 2,.mv (.const (.slice none 0 0)),none⟩]) (.seq (.seq (.region [⟨some 3,.mv (.tmp 0),none⟩,
 ⟨some 4,.bin .eql t (.tmp 3) (.const (.slice none 0 0)),none⟩]) (.cond (.tmp 4) (.seq (.region [⟨some 2,.mv (.const (.slice none 0 0)),none⟩]) .ret) .skip)) (.seq (.region [⟨some 5,.lits e b m' 0 zs [],none⟩,
 ⟨some 6,.mv (.tmp 0),none⟩,
 ⟨some 7,.app e m z (.tmp 5) (.tmp 6),none⟩,
 ⟨some 2,.mv (.tmp 7),none⟩]) .ret)))
def pp(d:DV):aa where
 tmps:=fun t=>[d].getD t .junk
 slots:=fun _=>none
 used:=fun _=>false
def iL(e m:Nat)(d:DV)(l:List ab):Ct:=⟨[],[d],[],.osl (.loc 0 0) l.length,[],[.rows e m l false]⟩
def Iq(e m:Nat)(d:DV)(l:List ab):(iL e m d l).env=pp d:=by
 refine aa.ext' rfl (funext fun s=>?_) (funext fun s=>?_)
 .cases s<;>simp[Ct.env,aU,pp,iL]
 .cases s<;>simp[Ct.env,Ct.used0,pp,iL]
def Ir(e m:Nat)(d:DV)(l:List ab){E:aa}{n:Nat}(Tj:E.slots (.loc 7 0)=some (.rows e m l false))(hn:n=l.length):Ends (iL e m d l) (.osl (.loc 7 0) n) E:=by
 subst hn
 refine .inl ⟨[(.loc 7 0,.loc 0 0)],rfl,?_,?_⟩
 .funext s
  cases s with
  |loc a i=>
   by_cases h:Nm.loc a i= .loc 0 0
   .cases h
    simp[aa.canon,flip,List.lookup,Tj,Ct.out,aU,iL,Row.ren]
   .have hb:(Nm.loc a i==Nm.loc 0 0)=false:=by simpa using h
    simp only[aa.canon,flip,ajQ,aj4,List.lookup,hb,Ct.out,aU,iL]
    by_cases ha:a=0
    .subst ha
     cases i with
     |zero=>exact absurd rfl h
     |succ i=>simp
    .simp[ha]
  |_=>simp[aa.canon,flip,List.lookup,Ct.out,aU,iL]
 .simp only[aa.outD,aa.out1,aa.view,aa.view1,Tj,ajz,if_true]
  simp[List.lookup,DV.ren,iL]
def Is(e m:Nat)(d:DV){E:aa}(hm:0<m):Ends (iL e m d []) (.t .e0) E:=by
 refine .inr (.inl ⟨rfl,rfl,[],e,m,rfl,hm,rfl,by simp[aa.canon,flip],?_⟩)
 funext s
 cases s<;>simp[aa.canon,flip,aU,iL]
theorem It{t:TypeId}{e m m':Nat}{b:Bool}{zs:List ab}{z:ab}(ht:kV P t=true)(hm:0<m){d:DV}{l:List ab}(hd:(d= .t .e0/\l=[])\/d= .t (.sl m l))(hl:l.length<=LIM):
  aY P bu (Fin [.tmp 2] (Ends (iL e m d l))) [.code (po t e m m' b zs z)] (pp d):=by
 have T3:∀E:aa,E.more m d=some (l,[]):=by
  intro E
  rcases hd with⟨rfl,rfl⟩|rfl<;>simp[aa.more,aa.view]
 have aeQ:d.slD=true:=by rcases hd with⟨rfl,_⟩|rfl<;>rfl
 have Vd:d.nilable=true->l=[]:=by
  rcases hd with⟨rfl,rfl⟩|rfl
  .exact fun _=>rfl
  .intro h
   cases l with
   |nil=>rfl
   |cons _ _=>simp[DV.nilable]at h
 have TT:∀b c,d.strip b c=d:=by rcases hd with⟨rfl,_⟩|rfl<;>exact fun _ _=>rfl
 simp[po,pp]
 refine Ig false rfl ht aeQ fun bb hb=>?_
 cases bb with
 |true=>
  have:=Vd (hb rfl)
  subst this
  simp
  exact Is e m d hm
 |false=>
  simp[az,aB,T3,hl]
  exact Ir e m d l (by simp) rfl
theorem clone_holds(hmo:P.follows .mixedOrders=true){f:FuncId}{fn:dK}(hx:ak P f fn){t:TypeId}{e m m':Nat}{b:Bool}{zs:List ab}{z:ab}(hc:fn.code=po t e m m' b zs z)(hr:fn.res=[.tmp 2])(hn:1<=fn.nt)(ht:kV P t=true)(hm:0<m){x:ab}{l:List ab}(hd:(x= .e0/\l=[])\/x= .sl m l)(hl:l.length<=LIM):
  ay P f ⟨[],[x].map .t,[],.osl (.loc 0 0) l.length,[],[.rows e m l false]⟩:=by
 obtain⟨Fn,c,h1,h2,h3,h4,h6,h7⟩:=hx
 rw[hc]at h4
 rw[hr]at h6
 refine mC gD iI (fun _ _ _ h=>h) (fun _ _ _ h=>h) hmo h1 h2 h3 h4 h6 (iL e m (.t x) l) (by rw[<-h7];exact hn) ?_
 rw[Iq]
 exact It ht hm (hd.imp (fun h=>⟨by rw[h.1],h.2⟩) (fun h=>by rw[h])) hl
end
section
open Go.RowKit Go.Proofs
section
variable{P:Program}{t:TypeId}{x y:Operand}
@[simp] def SC(κ:IntKind)(a b:Int):aX P .and t x y (.t (.v (.int κ a))) (.t (.v (.int κ b)))=val (.t (.v (.int κ (bits .and κ a b)))):=by
 simp[aX,dD,DV.asT,eqGuard,binOp,Op.intBits,bits,aQ,bU,b8,cB,Bind.bind,Sem.bind,Pure.pure]
@[simp] def SD(κ:IntKind)(a b:Int):aX P .or t x y (.t (.v (.int κ a))) (.t (.v (.int κ b)))=val (.t (.v (.int κ (bits .or κ a b)))):=by
 simp[aX,dD,DV.asT,eqGuard,binOp,Op.intBits,bits,aQ,bU,b8,cB,Bind.bind,Sem.bind,Pure.pure]
@[simp] def SE(κ:IntKind)(a b:Int):aX P .xor t x y (.t (.v (.int κ a))) (.t (.v (.int κ b)))=val (.t (.v (.int κ (bits .xor κ a b)))):=by
 simp[aX,dD,DV.asT,eqGuard,binOp,Op.intBits,bits,aQ,bU,b8,cB,Bind.bind,Sem.bind,Pure.pure]
@[simp] def SF(κ:IntKind)(a b:Int):aX P .andNot t x y (.t (.v (.int κ a))) (.t (.v (.int κ b)))=val (.t (.v (.int κ (bits .andNot κ a b)))):=by
 simp[aX,dD,DV.asT,eqGuard,binOp,Op.intBits,bits,aQ,bU,b8,cB,Bind.bind,Sem.bind,Pure.pure]
@[simp] def SG(κ κ':IntKind)(a b:Int)(hb:0<=b):aX P .shl t x y (.t (.v (.int κ a))) (.t (.v (.int κ' b)))=val (.t (.v (.int κ (κ.wrap (a*2^(min b.toNat κ.bits)))))):=by
 simp[aX,dD,DV.asT,eqGuard,binOp,Op.shift,aQ,bU,b8,cB,Bind.bind,Sem.bind,Pure.pure,Int.not_lt.2 hb]
@[simp] def SH(κ κ':IntKind)(a b:Int)(hb:0<=b):aX P .shr t x y (.t (.v (.int κ a))) (.t (.v (.int κ' b)))=val (.t (.v (.int κ (a.fdiv (2^(min b.toNat κ.bits)))))):=by
 simp[aX,dD,DV.asT,eqGuard,binOp,Op.shift,aQ,bU,b8,cB,Bind.bind,Sem.bind,Pure.pure,Int.not_lt.2 hb]
@[simp] def SI(κ:IntKind)(a b:Int)(hb:b≠0):aX P .quo t x y (.t (.v (.int κ a))) (.t (.v (.int κ b)))=val (.t (.v (.int κ (κ.wrap (a.tdiv b))))):=by
 simp[aX,dD,DV.asT,eqGuard,binOp,Op.intDiv,aQ,bU,b8,cB,Bind.bind,Sem.bind,Pure.pure,hb]
@[simp] def SJ(κ:IntKind)(a:Int):kg P .neg (.t (.v (.int κ a)))=val (.t (.v (.int κ (κ.wrap (-a))))):=by
 simp[kg,Op.unary,Op.intArith,aQ,bU,b8,cB,Pure.pure]
@[simp] def SK(κ:IntKind)(a:Int):kg P .xor (.t (.v (.int κ a)))=val (.t (.v (.int κ (bits .xor κ (if κ.signed then-1 else κ.max) a)))):=by
 simp[kg,Op.unary,Op.intBits,bits,aQ,bU,b8,cB,Pure.pure]
end
section
variable{q:Value->aa->Prop}{P:Program}{Q:Exit->aa->Prop}{k:List Fr}{E:aa}{pr:List (Nat×Nat)}{ix:Nat}{Tq:List bG}{rest:List aT}{dst:Option Nat}
theorem rt(E:aa):∀ts:List ab,E.views (ts.map .t)=some (ts,[])
 |[]=>rfl
 |t::ts=>by
  have ih:=rt E ts
  simp only[aa.views,ajt]at ih
  obtain⟨ps,h1,h2⟩:=ih
  simp only[ajV]at h2
  simp only[aa.views,ajQ,List.mapM_cons,aa.view,ajE,ake,h1,ajP,akq,List.flatMap_cons,h2.1,h2.2,List.nil_append]
def uX{g:Option (Bool×Bool)}{f:FuncId}{ts:List ab}{d:DV}(h:ao P f ts d)(hd:d.ren []=d)(hk:cx P (bj q) Q k pr ix Tq dst rest E g (some ⟨d,[],[]⟩)):cR P (bj q) Q k pr ix Tq dst rest E g f (ts.map .t):=by
 have:=uJ (dst:=dst) (E:=E.und g) h (rt _ ts)
 rw[hd]at this
 exact jK ⟨d,[],[]⟩ this hk
def Iu{g:Option (Bool×Bool)}{f:FuncId}{ds:List DV}{ts:List ab}{F:List Nm}{d:DV}(h:ao P f ts d)(hv:(E.und g).views ds=some (ts,F))(hd:d.ren []=d)(hk:cx P (bj q) Q k pr ix Tq dst rest E g (some ⟨d,F++[],am (E.und g) F⟩)):cR P (bj q) Q k pr ix Tq dst rest E g f ds:=by
 have:=uJ (dst:=dst) (E:=E.und g) h hv
 rw[hd]at this
 exact jK ⟨d,F++[],am (E.und g) F⟩ this hk
end
section
variable{P:Program}{C:aD}{Q:Exit->aa->Prop}{k:List Fr}{E:aa}
def nP{b:ac}(I:List Nm->aa->Prop)(m:aa->Nat)(ρ:List (Nm×Nm))(h0:bw ρ=true)(h1:I (ρ.map (·.2)) (E.canon ρ))
  (h2:∀ns E1,I ns E1->E1.used=(fun s=>ns.contains s)->(∀s,ns.contains s=false->E1.slots s=none)->
   ∀A:aa->Prop,(∀E' (ρ':List (Nm×Nm)),bw ρ'=true->I (ρ'.map (·.2)) (E'.canon ρ')->m (E'.canon ρ')<m E1->A E')->aY P C Q (.code b:: .again A::k) E1):qH P C Q k b E:=
 ⟨fun E1=>∃ns,I ns E1/\E1.used=(fun s=>ns.contains s)/\∀s,ns.contains s=false->E1.slots s=none,m,⟨ρ,h0,_,h1,(fA E ρ).1,(fA E ρ).2⟩,
  fun E1 ⟨ns,hi,hu,hs⟩=>h2 ns E1 hi hu hs _ fun E' ρ' q1 q2 q3=>⟨ρ',q1,⟨_,q2,(fA E' ρ').1,(fA E' ρ').2⟩,q3⟩⟩
end
def Iv{P:Program}(hm:P.follows .mixedOrders=true){f:FuncId}{fn:dK}(hx:ak P f fn){ts:List ab}{d:DV}(hn:ts.length<=fn.nt)(hw:aY P bu (Fin fn.res (Ends (de ts d))) [.code fn.code] (ew ts)):ao P f ts d:=by
 obtain⟨Fn,c,g1,g2,g3,g4,g6,g7⟩:=hx
 exact Ij hm g1 g2 g3 g4 g6 ts d (by rw[<-g7];exact hn) hw
abbrev int(n:Int):ab:= .v (.int .i64 n)
abbrev lj(n:Int):ab:= .v (.int .u64 n)
abbrev eN(n:Int):ab:= .v (.int .u32 n)
abbrev str(s:ByteArray):ab:= .v (.string s)
abbrev bo(b:Bool):ab:= .v (.bool b)
abbrev tt(b:Bool):DV:= .t (.v (.bool b))
abbrev Bs:=List UInt8
abbrev aC(b:UInt8):ab:= .v (.int .u8 b.toNat)
abbrev aS(l:Bs):ab:= .sl 1 (l.map aC)
abbrev es:ByteArray:=⟨#[]⟩
def bx{n:Int}(h1: -9223372036854775808<=n)(h2:n<9223372036854775808):IntKind.i64.wrap n=n:=by
 rw[IntKind.wrap_i64];omega
def fO{α:Type}{l:List α}{i:Nat}{x:α}(h:l[i]?=some x):l.take (i+1)=l.take i++[x]:=by rw[List.take_add_one,h];rfl
@[simp] theorem SL(b c:Bool)(l:List DV):(DV.tup l).arm b c=some (.tup l):=rfl
def Iw(x y:DV):kS true x y=x:=by
 unfold kS
 split
 .rfl
 .split
  .rfl
  .rfl
 .rfl
def Ix(x y:DV):kS false x y=y:=by
 unfold kS
 split
 .rfl
 .split
  .rename_i h;subst h;rfl
  .rfl
 .rfl
attribute [simp] Iw Ix
@[simp] def Iy{n:Int}(h1: -9223372036854775808<=n)(h2:n<9223372036854775808):IntKind.i64.wrap n=n:=bx h1 h2
@[simp] def Iz{n:Int}(h1:0<=n)(h2:n<18446744073709551616):IntKind.u64.wrap n=n:=by rw[IntKind.wrap_u64];omega
@[simp] def IA{n:Int}(h1:0<=n)(h2:n<256):IntKind.u8.wrap n=n:=by rw[IntKind.wrap_u8];omega
@[simp] def IB{n:Int}(h1:0<=n)(h2:n<4294967296):IntKind.u32.wrap n=n:=by rw[IntKind.wrap_u32];omega
def wr:(∀n:Int,-9223372036854775808<=n->n<9223372036854775808->IntKind.i64.wrap n=n)/\(∀n:Int,0<=n->n<18446744073709551616->IntKind.u64.wrap n=n)/\(∀n:Int,0<=n->n<256->IntKind.u8.wrap n=n)/\(∀n:Int,0<=n->n<4294967296->IntKind.u32.wrap n=n):=⟨fun _=>Iy,fun _=>Iz,fun _=>IA,fun _=>IB⟩
@[simp] theorem SM:IntKind.u64.bits=64:=rfl
@[simp] theorem SN:IntKind.u32.bits=32:=rfl
@[simp] theorem SO:IntKind.u8.bits=8:=rfl
@[simp] theorem SP:IntKind.i64.bits=64:=rfl
def dL{p:Prop}[Decidable p]{X Y:Prop}(h1:¬p->X)(h2:p->Y):Br (!decide p) X Y:=⟨fun h=>h1 (by simpa using h),fun h=>h2 (by simpa using h)⟩
def uY{b:Bool}{X Y:Prop}(h1:b=false->X)(h2:b=true->Y):Br (!b) X Y:=⟨fun h=>h1 (by simpa using h),fun h=>h2 (by simpa using h)⟩
end
section
open Go.RowKit
variable{P:Program}
def ll(ts:List ab)(d:DV)(e m:Nat)(l:List ab):Ct:=⟨[],ts.map .t,[],d,[],[.rows e m l false]⟩
def cq(P:Program)(f:FuncId)(ts:List ab)(d:DV)(e m:Nat)(l:List ab):Prop:=ay P f ⟨[],ts.map .t,[],d,[],[.rows e m l false]⟩
section
variable{q:Value->aa->Prop}{Q:Exit->aa->Prop}{k:List Fr}{E:aa}{pr:List (Nat×Nat)}{ix:Nat}{Tq:List bG}{rest:List aT}{t:Nat}
def ru{f:FuncId}{ds:List DV}{ts:List ab}{F:List Nm}{d:DV}{e m:Nat}{l:List ab}(h:cq P f ts d e m l)(hv:E.views ds=some (ts,F))(hn:E.used (.loc t 0)=false)
  (hk:cx P (bj q) Q k pr ix Tq (some t) rest E none (some ⟨d.ren [(.loc 0 0,.loc t 0)],F,(.loc t 0,some (.rows e m l false))::am E F⟩)):cR P (bj q) Q k pr ix Tq (some t) rest E none f ds:=by
 have hc:=y8 (dst:=some t) h hv (fun j hj=>by
  have:j=0:=by simpa using hj
  subst this;exact hn)
 have e1:dt [] ((some t).getD 0) [Row.rows e m l false].length=[(.loc 0 0,.loc t 0)]:=rfl
 have e2:bB [] ((some t).getD 0) ⟨[],ts.map .t,[],d,[],[.rows e m l false]⟩=[(.loc t 0,some (.rows e m l false))]:=rfl
 rw[e1,e2,akr,akr]at hc
 exact jK (E:=E) (g:=none) _ hc hk
end
def IC(hm:P.follows .mixedOrders=true){f:FuncId}{fn:dK}(hx:ak P f fn){ts:List ab}{d:DV}{e m:Nat}{l:List ab}(hn:ts.length<=fn.nt)(hw:aY P bu (Fin fn.res (Ends (ll ts d e m l))) [.code fn.code] (ew ts)):cq P f ts d e m l:=by
 obtain⟨Fn,c,g1,g2,g3,g4,g6,g7⟩:=hx
 have he:(Ct.mk [] (ts.map .t) [] d [] [.rows e m l false]).env=ew ts:=by
  refine aa.ext' rfl (funext fun s=>?_) (funext fun s=>?_)
  .cases s<;>simp[Ct.env,aU,ew]
  .cases s<;>simp[Ct.env,Ct.used0,ew]
 refine mC gD iI (fun _ _ _ h=>h) (fun _ _ _ h=>h) hm g1 g2 g3 g4 g6 _ (by rw[<-g7];simpa using hn) ?_
 rw[he]
 exact hw
def gE{E:aa}{ts:List ab}{d d':DV}{e m:Nat}{l:List ab}(s:Nm)(WQ:s.fixed=false)(Tj:E.slots s=some (.rows e m l false))(hd:E.outD [(s,.loc 0 0)] d'=d):Ends (ll ts d e m l) d' E:=by
 refine .inl ⟨[(s,.loc 0 0)],?_,?_,hd⟩
 .simp only[bw,ajQ,aj4,List.all_cons,List.all_nil,WQ]
  simp[show(Nm.loc 0 0).fixed=false from rfl]
 .funext s'
  cases s' with
  |loc a i=>
   by_cases h:Nm.loc a i= .loc 0 0
   .cases h
    simp[aa.canon,flip,List.lookup,Tj,Ct.out,aU,Row.ren,ll]
   .have hb:(Nm.loc a i==Nm.loc 0 0)=false:=by simpa using h
    simp only[aa.canon,flip,ajQ,aj4,List.lookup,hb,Ct.out,aU,ll]
    by_cases ha:a=0
    .subst ha
     cases i with
     |zero=>exact absurd rfl h
     |succ i=>simp
    .simp[ha]
  |_=>simp[aa.canon,flip,List.lookup,Ct.out,aU,ll]
def nQ(hmo:P.follows .mixedOrders=true){f:FuncId}{fn:dK}(hx:ak P f fn){t:TypeId}{e m m':Nat}{b:Bool}{zs:List ab}{z:ab}(hc:fn.code=po t e m m' b zs z)(hr:fn.res=[.tmp 2])(hn:1<=fn.nt)(ht:kV P t=true)(hm:0<m){l:List ab}(hl:l.length<=LIM):
  cq P f [.sl m l] (.osl (.loc 0 0) l.length) e m l:=clone_holds hmo hx hc hr hn ht hm (.inr rfl) hl
def ID(hmo:P.follows .mixedOrders=true){f:FuncId}{fn:dK}(hx:ak P f fn){t:TypeId}{e m m':Nat}{b:Bool}{zs:List ab}{z:ab}(hc:fn.code=po t e m m' b zs z)(hr:fn.res=[.tmp 2])(hn:1<=fn.nt)(ht:kV P t=true)(hm:0<m):
  cq P f [.e0] (.osl (.loc 0 0) 0) e m []:=clone_holds hmo hx hc hr hn ht hm (l:=[]) (.inl ⟨rfl,rfl⟩) (by simp)
@[simp] theorem SQ(E:aa):am E []=[]:=rfl
def IE(n:Int):0<=IntKind.u64.wrap n/\IntKind.u64.wrap n<18446744073709551616:=by rw[IntKind.wrap_u64];omega
def zD(op:BinOp)(a b:Int):0<=bits op .u64 a b/\bits op .u64 a b<18446744073709551616:=by unfold bits;exact IE _
def jM{a b:Int}(hb:0<=b):a.fdiv b=a/b:=Int.fdiv_eq_ediv_of_nonneg a hb
def au{E:aa}{ts:List ab}{x y:ab}(h:y=x):Ends (de ts (.t x)) (.t y) E:=eM (by subst h;simp[aa.outD,aa.out1,aa.view])
def kr{E:aa}{ts:List ab}{x y x2 y2:ab}(h:y=x)(h2:y2=x2):Ends (de ts (.tup [.t x,.t x2])) (.tup [.t y,.t y2]) E:=eM (by subst h h2;simp[aa.outD,aa.out1,aa.view])
def jN{E:aa}{ts:List ab}{x y x2 y2 x3 y3:ab}(h:y=x)(h2:y2=x2)(h3:y3=x3):Ends (de ts (.tup [.t x,.t x2,.t x3])) (.tup [.t y,.t y2,.t y3]) E:=eM (by subst h h2 h3;simp[aa.outD,aa.out1,aa.view])
theorem zE:∀l:Bs,(l.map aC).mapM ab.byte?=some l
 |[]=>rfl
 |x::l=>by
  have hx:ab.byte? (aC x)=some x:=by simp[ab.byte?]
  rw[ajQ,List.mapM_cons,hx,zE l]
  rfl
end
section
open Go.RowKit
variable{P:Program}
def fc(ds:List DV)(row:Row)(d:DV)(T7:Row):Ct:=⟨[],ds,[row],d,[some T7],[]⟩
def lp(P:Program)(f:FuncId)(ds:List DV)(row:Row)(d:DV)(T7:Row):Prop:=ay P f (fc ds row d T7)
section
variable{q:Value->aa->Prop}{Q:Exit->aa->Prop}{k:List Fr}{E:aa}{pr:List (Nat×Nat)}{ix:Nat}{Tq:List bG}{rest:List aT}{dst:Option Nat}
def zF{f:FuncId}{ds W0:List DV}{row T7:Row}{d:DV}{s:Nm}(h:lp P f W0 row d T7)(hs:E.slots s=some row)(hu:E.used s=true)(hg:s.isGlob=false)(hy:s≠.yl)(hr:∀ρ,row.ren ρ=row)(VY:∀ρ,T7.ren ρ=T7)(hd:∀ρ,d.ren ρ=d)(hds:W0=ds.map (DV.ren [(s,.arg 0)]))
  (hk:cx P (bj q) Q k pr ix Tq dst rest E none (some ⟨d,[s],[(s,some T7)]⟩)):cR P (bj q) Q k pr ix Tq dst rest E none f ds:=by
 refine jK ⟨d,[s],[(s,some T7)]⟩ ⟨fc W0 row d T7,[s],[],h,⟨by simp,by simpa using hg,by simpa using hy,by simp[fc],by simp[fc],List.nodup_nil,rfl,?_,by simpa using hu,by simp[fc,hds],?_,by simp⟩,.inr (.inl ⟨by simp[fc],?_⟩)⟩ hk
 .intro i u hi
  cases i with
  |zero=>simp at hi;subst hi;exact⟨row,hs,by show some row=some (row.ren _);rw[hr]⟩
  |succ i=>simp at hi
 .intro i d d0 h1 h2
  left
  have h3:(ds.map (DV.ren [(s,.arg 0)]))[i]?=some (d.ren [(s,.arg 0)]):=by rw[ajw,h1];rfl
  have h2:W0[i]?=some d0:=h2
  rw[hds,h3]at h2
  exact(Option.some.inj h2).symm
 .simp[bB,am,VY,hd,fc,Ct.gn,-Row.ren,-DV.ren]
end
def ef(ds:List DV)(row:Row):aa where
 tmps:=fun t=>ds.getD t .junk
 slots:=fun s=>if s= .arg 0 then some row else none
 used:=fun s=>if s= .arg 0 then true else false
def IF(hm:P.follows .mixedOrders=true){f:FuncId}{fn:dK}(hx:ak P f fn){ds:List DV}{row T7:Row}{d:DV}(hn:ds.length<=fn.nt)(hw:aY P bu (Fin fn.res (Ends (fc ds row d T7))) [.code fn.code] (ef ds row)):lp P f ds row d T7:=by
 obtain⟨Fn,c,g1,g2,g3,g4,g6,g7⟩:=hx
 refine mC gD iI (fun _ _ _ h=>h) (fun _ _ _ h=>h) hm g1 g2 g3 g4 g6 _ (by rw[<-g7];exact hn) ?_
 have he:(fc ds row d T7).env=ef ds row:=by
  refine aa.ext' rfl (funext fun s=>?_) (funext fun s=>?_)
  .cases s with
   |arg i=>cases i<;>simp[Ct.env,aU,ef,fc]
   |_=>simp[Ct.env,aU,ef,fc]
  .cases s with
   |arg i=>cases i<;>simp[Ct.env,Ct.used0,ef,fc]
   |_=>simp[Ct.env,Ct.used0,ef,fc]
 rw[he]
 exact hw
def mF{E:aa}{ds:List DV}{row T7:Row}{d d':DV}(hs:E.slots (.arg 0)=some T7)(hr:∀ρ,T7.ren ρ=T7)(h:E.outD [(.arg 0,.arg 0)] d'=d):Ends (fc ds row d T7) d' E:=by
 refine .inl ⟨[(.arg 0,.arg 0)],rfl,?_,h⟩
 funext s
 cases s with
 |arg i=>
  cases i with
  |zero=>simp[aa.canon,flip,List.lookup,hs,hr,Ct.out,aU,fc,-Row.ren]
  |succ i=>simp[aa.canon,flip,List.lookup,Ct.out,aU,fc]
 |_=>simp[aa.canon,flip,List.lookup,Ct.out,aU,fc]
@[simp] theorem zG(ρ:List (Nm×Nm)):∀l:List ab,DV.renL ρ (l.map .t)=l.map .t
 |[]=>rfl
 |x::l=>by rw[ajQ];show _::DV.renL ρ (l.map .t)=_;rw[zG ρ l];rfl
end
end Go.Wt
namespace Go.Wm
def poly:Nat:=3988292384
def ones:Nat:=4294967295
def cstep(v:Nat):Nat:=if v%2=1 then v/2^^^poly else v/2
def csteps:Nat->Nat->Nat
 |0,v=>v
 |n+1,v=>csteps n (cstep v)
def cbyte(v:Nat)(c:UInt8):Nat:=csteps 8 (v^^^c.toNat)
def crcFrom(v:Nat)(l:List UInt8):Nat:=l.foldl cbyte v
def crcOf(l:List UInt8):Nat:=crcFrom ones l^^^ones
def xor_zero{a b:Nat}(h:a^^^b=0):a=b:=by
 have:(a^^^b)^^^b=0^^^b:=by rw[h]
 simpa[Nat.xor_assoc]using this
def cstep_xor(a b:Nat):cstep (a^^^b)=cstep a^^^cstep b:=by
 unfold cstep
 have hd:(a^^^b)/2=a/2^^^b/2:=Nat.xor_div_two
 have hm:=Nat.xor_mod_two_eq_one (a:=a) (b:=b)
 rw[hd]
 by_cases ha:a%2=1<;>by_cases hb:b%2=1<;>simp only[ha,hb,hm,if_true,if_false,not_true_eq_false,iff_self,iff_false,not_false_eq_true,iff_true]
 .rw[Nat.xor_assoc,Nat.xor_comm poly,Nat.xor_assoc (b/2),Nat.xor_self,Nat.xor_zero]
 .rw[Nat.xor_assoc,Nat.xor_assoc,Nat.xor_comm (b/2)]
 .rw[Nat.xor_assoc]
theorem csteps_xor:∀n a b,csteps n (a^^^b)=csteps n a^^^csteps n b
 |0,_,_=>rfl
 |n+1,a,b=>by simp only[csteps];rw[cstep_xor,csteps_xor n]
def cstep_even(m:Nat):cstep (2*m)=m:=by
 unfold cstep
 rw[if_neg (by omega)];omega
def cstep_lt{v:Nat}(h:v<4294967296):cstep v<4294967296:=by
 unfold cstep
 split
 .have h1:v/2<2^32:=by omega
  have h2:poly<2^32:=by decide
  exact Nat.xor_lt_two_pow h1 h2
 .omega
def csteps_lt:∀n v,v<4294967296->csteps n v<4294967296
 |0,_,h=>h
 |n+1,_,h=>csteps_lt n _ (cstep_lt h)
def xor_lt32{a b:Nat}(h1:a<4294967296)(h2:b<4294967296):a^^^b<4294967296:=
 Nat.xor_lt_two_pow (n:=32) h1 h2
def split16(v:Nat):v=16*(v/16)^^^v%16:=by
 apply Nat.eq_of_testBit_eq
 intro i
 rw[Nat.testBit_xor]
 have h1:(16*(v/16)).testBit i=(decide (4<=i)&&v.testBit i):=by
  rw[show(16:Nat)=2^4 from rfl,Nat.testBit_two_pow_mul,Nat.testBit_div_two_pow]
  by_cases h:4<=i
  .simp[h]
  .simp[h]
 have h2:(v%16).testBit i=(decide (i<4)&&v.testBit i):=by
  rw[show(16:Nat)=2^4 from rfl,Nat.testBit_mod_two_pow]
 rw[h1,h2]
 by_cases h:4<=i
 .have:¬i<4:=by omega
  simp[h,this]
 .have:i<4:=by omega
  simp[h,this]
def csteps4(v:Nat):csteps 4 v=csteps 4 (v%16)^^^v/16:=by
 have e:csteps 4 (16*(v/16))=v/16:=by
  generalize v/16=q
  simp only[csteps]
  rw[show 16*q=2*(2*(2*(2*q))) by omega,cstep_even,cstep_even,cstep_even,cstep_even]
 calc csteps 4 v=csteps 4 (16*(v/16)^^^v%16):=by rw[<-split16]
  _=_:=by rw[csteps_xor,e,Nat.xor_comm]
def csteps_add:∀m n v,csteps (m+n) v=csteps n (csteps m v)
 |0,n,v=>by simp[csteps]
 |m+1,n,v=>by rw[show m+1+n=(m+n)+1 by omega];simp only[csteps];exact csteps_add m n _
def csteps_succ(n v:Nat):csteps (n+1) v=cstep (csteps n v):=by rw[csteps_add];rfl
def byte_lt32(c:UInt8):c.toNat<4294967296:=by have:=c.toNat_lt;omega
def cbyte_lt{v:Nat}(h:v<4294967296)(c:UInt8):cbyte v c<4294967296:=csteps_lt _ _ (xor_lt32 h (byte_lt32 c))
def crcFrom_lt:∀(l:List UInt8) v,v<4294967296->crcFrom v l<4294967296
 |[],_,h=>h
 |c::l,_,h=>crcFrom_lt l _ (cbyte_lt h c)
def crcFrom_append(l m:List UInt8)(v:Nat):crcFrom v (l++m)=crcFrom (crcFrom v l) m:=List.foldl_append
def ones_lt:ones<4294967296:=by unfold ones;omega
def crcOf_lt(l:List UInt8):crcOf l<4294967296:=xor_lt32 (crcFrom_lt l _ ones_lt) ones_lt
end Go.Wm
namespace Go.Wt
section
open Go.RowKit Go.Wm Go.Lib
variable{P:Program}
def jb(ts:List ab)(d:DV)(row:Row):Ct:=⟨[],ts.map .t,[],d,[],[row]⟩
def lq(P:Program)(f:FuncId)(ts:List ab)(d:DV)(row:Row):Prop:=ay P f (jb ts d row)
section
variable{q:Value->aa->Prop}{Q:Exit->aa->Prop}{k:List Fr}{E:aa}{pr:List (Nat×Nat)}{ix:Nat}{Tq:List bG}{rest:List aT}{t:Nat}
def jO{f:FuncId}{ds:List DV}{ts:List ab}{F:List Nm}{d:DV}{row:Row}(h:lq P f ts d row)(hr:∀ρ,row.ren ρ=row)(hv:E.views ds=some (ts,F))(hn:E.used (.loc t 0)=false)
  (hk:cx P (bj q) Q k pr ix Tq (some t) rest E none (some ⟨d.ren [(.loc 0 0,.loc t 0)],F,(.loc t 0,some row)::am E F⟩)):cR P (bj q) Q k pr ix Tq (some t) rest E none f ds:=by
 have hc:=y8 (dst:=some t) h hv (fun j hj=>by
  have:j=0:=by simpa using hj
  subst this;exact hn)
 have e1:dt [] ((some t).getD 0) [row].length=[(.loc 0 0,.loc t 0)]:=rfl
 have e2:bB [] ((some t).getD 0) ⟨[],ts.map .t,[],d,[],[row]⟩=[(.loc t 0,some row)]:=by
  simp[bB,hr,-Row.ren]
 rw[e1,e2,akr,akr]at hc
 exact jK (E:=E) (g:=none) _ hc hk
end
def IG(hm:P.follows .mixedOrders=true){f:FuncId}{fn:dK}(hx:ak P f fn){ts:List ab}{d:DV}{row:Row}(hn:ts.length<=fn.nt)(hw:aY P bu (Fin fn.res (Ends (jb ts d row))) [.code fn.code] (ew ts)):lq P f ts d row:=by
 obtain⟨Fn,c,g1,g2,g3,g4,g6,g7⟩:=hx
 have he:(jb ts d row).env=ew ts:=by
  refine aa.ext' rfl (funext fun s=>?_) (funext fun s=>?_)
  .cases s<;>simp[Ct.env,aU,ew,jb]
  .cases s<;>simp[Ct.env,Ct.used0,ew,jb]
 refine mC gD iI (fun _ _ _ h=>h) (fun _ _ _ h=>h) hm g1 g2 g3 g4 g6 _ (by rw[<-g7];simpa[jb]using hn) ?_
 rw[he]
 exact hw
def pt{E:aa}{ts:List ab}{d d':DV}{row:Row}(s:Nm)(WQ:s.fixed=false)(Tj:E.slots s=some row)(hr:∀ρ,row.ren ρ=row)(hd:E.outD [(s,.loc 0 0)] d'=d):Ends (jb ts d row) d' E:=by
 refine .inl ⟨[(s,.loc 0 0)],?_,?_,hd⟩
 .simp only[bw,ajQ,aj4,List.all_cons,List.all_nil,WQ]
  simp[show(Nm.loc 0 0).fixed=false from rfl]
 .funext s'
  cases s' with
  |loc a i=>
   by_cases h:Nm.loc a i= .loc 0 0
   .cases h
    simp[aa.canon,flip,List.lookup,Tj,Ct.out,aU,hr,jb,-Row.ren]
   .have hb:(Nm.loc a i==Nm.loc 0 0)=false:=by simpa using h
    simp only[aa.canon,flip,ajQ,aj4,List.lookup,hb,Ct.out,aU,jb]
    by_cases ha:a=0
    .subst ha
     cases i with
     |zero=>exact absurd rfl h
     |succ i=>simp
    .simp[ha]
  |_=>simp[aa.canon,flip,List.lookup,Ct.out,aU,jb]
def nR(a b:Nat)(ha:a<4294967296)(hb:b<4294967296):bits .xor .u32 (a:Int) (b:Int)=((a^^^b:Nat):Int):=by
 have hx:a^^^b<2^32:=Nat.xor_lt_two_pow (by omega) (by omega)
 have h1:(BitVec.ofInt 32 (a:Int)).toNat=a:=by
  rw[BitVec.ofInt_natCast,BitVec.toNat_ofNat];exact Nat.mod_eq_of_lt (by omega)
 have h2:(BitVec.ofInt 32 (b:Int)).toNat=b:=by
  rw[BitVec.ofInt_natCast,BitVec.toNat_ofNat];exact Nat.mod_eq_of_lt (by omega)
 show IntKind.u32.wrap ((BitVec.ofInt 32 (a:Int)^^^BitVec.ofInt 32 (b:Int)).toNat:Int)=_
 rw[BitVec.toNat_xor,h1,h2,IntKind.wrap_u32]
 omega
def zH(a b:Nat)(ha:a<4294967296)(hb:b<4294967296):bits .and .u32 (a:Int) (b:Int)=((a&&&b:Nat):Int):=by
 have hx:a&&&b<2^32:=Nat.and_lt_two_pow _ (by omega)
 have h1:(BitVec.ofInt 32 (a:Int)).toNat=a:=by
  rw[BitVec.ofInt_natCast,BitVec.toNat_ofNat];exact Nat.mod_eq_of_lt (by omega)
 have h2:(BitVec.ofInt 32 (b:Int)).toNat=b:=by
  rw[BitVec.ofInt_natCast,BitVec.toNat_ofNat];exact Nat.mod_eq_of_lt (by omega)
 show IntKind.u32.wrap ((BitVec.ofInt 32 (a:Int)&&&BitVec.ofInt 32 (b:Int)).toNat:Int)=_
 rw[BitVec.toNat_and,h1,h2,IntKind.wrap_u32]
 omega
def IH(x:Nat)(hx:x<4294967296):bits .and .u32 (x:Int) 1=((x%2:Nat):Int):=by
 have:=zH x 1 hx (by omega)
 rw[Nat.and_one_is_mod]at this
 exact this
def zI(x:Nat)(hx:x<4294967296):bits .and .u32 (x:Int) 15=((x%16:Nat):Int):=by
 have:=zH x 15 hx (by omega)
 rw[show(15:Nat)=2^4-1 from rfl,Nat.and_two_pow_sub_one_eq_mod]at this
 exact this
def II(x:Nat)(hx:x<4294967296):bits .xor .u32 ((x:Int)/2) (bits .and .u32 3988292384 (IntKind.u32.wrap (-(bits .and .u32 (x:Int) 1))))=(cstep x:Nat):=by
 rw[IH x hx]
 rcases Nat.mod_two_eq_zero_or_one x with h2|h2
 .rw[h2]
  have h3:bits .and .u32 3988292384 (IntKind.u32.wrap (-((0:Nat):Int)))=((0:Nat):Int):=by decide
  rw[h3,show(x:Int)/2=((x/2:Nat):Int) by omega,nR _ _ (by omega) (by omega)]
  unfold cstep;rw[if_neg (by omega)];simp
 .rw[h2]
  have h3:bits .and .u32 3988292384 (IntKind.u32.wrap (-((1:Nat):Int)))=((3988292384:Nat):Int):=by decide
  rw[h3,show(x:Int)/2=((x/2:Nat):Int) by omega,nR _ _ (by omega) (by omega)]
  unfold cstep;rw[if_pos h2];rfl
end
end Go.Wt
