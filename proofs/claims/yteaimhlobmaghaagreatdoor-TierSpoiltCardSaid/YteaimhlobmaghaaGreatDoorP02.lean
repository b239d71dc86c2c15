/- A part of the proof of a tier statement (the last text closes it): lemmas without condition. -/
import Derived.Test.YteaimhlobmaghaaGreatDoorP01
set_option linter.all false
set_option maxRecDepth 10000000
set_option maxHeartbeats 0
namespace Go.Wt
section
open Go.RowKit
mutual
def DV.ren(ρ:List (Nm×Nm)):DV->DV
 | .t x=> .t x
 | .agg l=> .agg (DV.renL ρ l)
 | .tup l=> .tup (DV.renL ρ l)
 | .ptr s k j=>match ρ.lookup s with|some s'=> .ptr s' k j|none=> .junk
 | .tp x j=> .tp x j
 | .osl s n=>match ρ.lookup s with|some s'=> .osl s' n|none=> .junk
 | .fn f l=> .fn f (DV.renL ρ l)
 | .mfn f p l=> .mfn f (DV.renL ρ p) (DV.renL ρ l)
 | .mp s=>match ρ.lookup s with|some s'=> .mp s'|none=> .junk
 | .yl=>match ρ.lookup .yl with|some _=> .yl|none=> .junk
 | .lst l=> .lst (DV.renL ρ l)
 | .xs m l=> .xs m l
 | .ls m l=> .ls m l
 | .er=> .er
 | .ep d=> .ep (d.ren ρ)
 | .wh b Ts d=> .wh b Ts (d.ren ρ)
 | .junk=> .junk
def DV.renL(ρ:List (Nm×Nm)):List DV->List DV
 |[]=>[]
 |d::l=>d.ren ρ::DV.renL ρ l
end
def OR.ren(ρ:List (Nm×Nm)):OR->OR
 | .mp es c=> .mp (es.map fun e=>(e.1,e.2.1.ren ρ,e.2.2)) c
 | .it s p=> .it s p
 | .dfr=> .dfr
def Row.ren(ρ:List (Nm×Nm)):Row->Row
 | .box e d fz=> .box e (d.ren ρ) fz
 | .rows e m l fz=> .rows e m l fz
 | .obj o fz=> .obj (o.ren ρ) fz
def flip(ρ:List (Nm×Nm)):List (Nm×Nm):=ρ.map fun p=>(p.2,p.1)
def aa.canon(ρ:List (Nm×Nm))(E:aa):aa where
 tmps:=fun t=>(E.tmps t).ren ρ
 slots:=fun s=>match(flip ρ).lookup s with|some s0=>(E.slots s0).map (Row.ren ρ)|none=>none
 used:=fun s=>((flip ρ).lookup s).isSome
def bw(ρ:List (Nm×Nm)):Bool:=(ρ.map (·.1)).Nodup&&(ρ.map (·.2)).Nodup&&ρ.all fun p=>p.1==p.2||(!p.1.fixed&&!p.2.fixed)
structure aD where
 cl:Program->aa->FuncId->List DV->Option Nat->aq->Prop
 yl:aa->List DV->(Bool->aa->Prop)->Prop
 it:Program->FuncId->List DV->List (List ab)->Prop
 ri:Program->FuncId->List DV->aa->(aa->List DV->(Bool->aa->Prop)->Prop)->(aa->Prop)->Prop
 pc:Program->aa->FuncId->List DV->Value->List (Nm×Option Row)->Prop
 pq:Value->aa->Prop
instance:CoeFun aD (fun _=>Program->aa->FuncId->List DV->Option Nat->aq->Prop):=⟨aD.cl⟩
def aD.noY(C:aD):aD:={C with yl:=fun _ _ _=>False,pq:=fun _ _=>False}
def aD.wq(C:aD)(q:Value->aa->Prop):aD:={C with yl:=fun _ _ _=>False,pq:=q}
structure bG where
 ix:Nat
 rd:List Nm
 wr:List Nm
def Nm.isGlob:Nm->Bool
 | .glob _=>true
 |_=>false
structure Ct where
 gs:List (Nat×TypeId×ab)
 ds:List DV
 rows:List Row
 d:DV
 rows':List (Option Row)
 new:List Row
def aU(gs:List (Nat×TypeId×ab))(rows:List (Option Row))(new:List Row):Nm->Option Row
 | .glob g=>(gs.lookup g).map fun p=> .box p.1 (.t p.2) true
 | .arg i=>(rows[i]?).join
 | .loc d k=>if d=0 then new[k]? else none
 | .head _ _=>none
 | .yl=>none
def Ct.used0(k:Ct):Nm->Bool
 | .glob g=>(k.gs.lookup g).isSome
 | .arg i=>i<k.rows.length
 |_=>false
def Ct.env(k:Ct):aa where
 tmps:=fun t=>k.ds.getD t .junk
 slots:=aU k.gs (k.rows.map some) []
 used:=k.used0
def Ct.out(k:Ct):Nm->Option Row:=aU [] k.rows' k.new
def Ct.gn(k:Ct):List Nm:=k.gs.map fun p=> .glob p.1
def aL(S:List Nm)(gs:List (Nat×TypeId×ab)):List (Nm×Nm):=(S.zipIdx.map fun p=>(p.1,Nm.arg p.2))++gs.map fun p=>(Nm.glob p.1,Nm.glob p.1)
def dt(S:List Nm)(d n:Nat):List (Nm×Nm):=(S.zipIdx.map fun p=>(Nm.arg p.2,p.1))++(List.range n).map fun j=>(Nm.loc 0 j,Nm.loc d j)
def bB(S:List Nm)(d:Nat)(k:Ct):List (Nm×Option Row):=
 (S.zipIdx.map fun p=>(p.1,((k.rows'[p.2]?).join).map (Row.ren (dt S d k.new.length))))++k.new.zipIdx.map fun p=>(Nm.loc d p.2,some (p.1.ren (dt S d k.new.length)))
structure cL(E:aa)(ds:List DV)(k:Ct)(S F:List Nm):Prop where
 nd:S.Nodup
 ng:∀s∈S,s.isGlob=false/\s∉F
 ny:∀s∈S,s≠.yl
 gs:∀p∈k.gs,E.slots (.glob p.1)=some (.box p.2.1 (.t p.2.2) true)
 gu:∀p∈k.gs,E.used (.glob p.1)=true
 gnd:(k.gs.map (·.1)).Nodup
 ln:k.rows.length=S.length
 rw:∀(i:Nat) (s:Nm),S[i]?=some s->∃r,E.slots s=some r/\k.rows[i]?=some (r.ren (aL S k.gs))
 su:∀s∈S,E.used s=true
 la:ds.length=k.ds.length
 ar:∀(i:Nat) (d d0:DV),ds[i]?=some d->k.ds[i]?=some d0->d0=d.ren (aL S k.gs)\/∃x rd x',E.view d=some (x,rd)/\aE x x'/\d0= .t x'/\∀s∈rd,s∈F
 fu:∀s∈F,(E.slots s).isSome=true
def iB(k:Ct)(E1:aa):Prop:=∀s,k.env.used s=true->E1.used s=true
def mg:List Nat->List DV->(Nat->DV)->Nat->DV
 |p::ps,x::xs,f=>mg ps xs fun t=>if t=p then x else f t
 |_,_,f=>f
def oV(ps:List Nat)(x:List ab)(f:Nat->DV):Nat->DV:=mg ps (x.map .t) f
def GH:Nat:=1000000000
def dI:Exit->DV
 | .normal=> .wh false true (.t (.v (.int .i64 0)))
 | .ret=> .wh false true (.t (.v (.int .i64 1)))
 | .exit id=> .wh false true (.t (.v (.int .i64 ((id:Int)+2))))
 |_=> .junk
def cQ:Exit->Prop
 | .normal| .ret| .exit _=>True
 |_=>False
def mh:Exit->Bool
 | .normal=>true
 |_=>false
def Nm.isArg:Nm->Bool
 | .arg _=>true
 |_=>false
structure tU(E:aa)(ρ:List (Nm×Nm)):Prop where
 n1:(ρ.map (·.1)).Nodup
 n2:(ρ.map (·.2)).Nodup
 ok:∀p∈ρ,(p.1=p.2/\p.1.fixed=true)\/(p.1.fixed=false/\p.2.isArg=true)
 cov:∀s,E.used s=true->∃s',(s,s')∈ρ
def jz(k:Ct):aa where
 tmps:=fun t=>if t=GH then dI .normal else match t with|0=> .yl|t+1=>k.ds.getD t .junk
 slots:=k.env.slots
 used:=fun s=>decide (s= .yl)||k.env.used s
def nv(E:aa)(S:List Nm)(k:Ct)(ps:List Nat)(x:List ab)(E1:aa):aa where
 tmps:=oV ps x fun t=>(E.tmps t).ren (aL S k.gs)
 slots:=E1.slots
 used:=E1.used
def eb(E:aa)(S F:List Nm)(d:Nat)(K:aa->Prop)(E3:aa):Prop:=
 ∃(k':Ct) (ρ:List (Nm×Nm)),bw ρ=true/\(E3.canon ρ).slots=k'.out/\(∀j,j<k'.new.length->E.used (.loc d j)=false)/\K (E.upd (bB S d k'++am E F))
def kl(a:bG)(rd wr:List Nm):Bool:=a.wr.all (fun s=>!rd.contains s&&!wr.contains s)&&a.rd.all (fun s=>!wr.contains s)
def i5(pr:List (Nat×Nat))(ix:Nat)(Tq:List bG)(r:aq):Bool:=
 (Tq.all fun a=>!pr.contains (a.ix,ix)||kl a r.rd (r.ups.map (·.1)))&&r.ups.all fun p=>!p.1.isGlob
def em(pr:List (Nat×Nat))(ix:Nat)(rd wr:List Nm)(Tq:List bG):List bG:=if pr.isEmpty||(rd.isEmpty&&wr.isEmpty)then Tq else⟨ix,rd,wr⟩::Tq
def Br(b:Bool)(X Y:Prop):Prop:=(b=true->X)/\(b=false->Y)
@[simp] def Rh(X Y:Prop):Br true X Y=X:=by simp[Br]
@[simp] def Ri(X Y:Prop):Br false X Y=Y:=by simp[Br]
@[congr] def Rj{b b':Bool}{X Y:Prop}(h:b=b'):Br b X Y=Br b' X Y:=by rw[h]
def fY(n:aa->Prop)(K:Exit->aa->Prop):Exit->aa->Prop
 | .normal,E=>n E
 |e,E=>K e E
def i6(id:Nat)(K:Exit->aa->Prop):Exit->aa->Prop
 | .exit i,E=>if i=id then K .normal E else K (.exit i) E
 |e,E=>K e E
def dv(P:Program)(C:aD)(pr:List (Nat×Nat))(ix:Nat)(Tq:List bG)(dst:Option Nat)(E:aa)(next:aq->Prop)(op:al):Prop:=
 let go:aq->Prop:=fun r=>i5 pr ix Tq r=true/\next r
 match op with
 | .call f args=>∃r,C P E f (args.map E.ev) dst r/\go r
 | .callv x args=>∃f pre caps r,(E.ev x).callee=some (f,pre,caps)/\C P E f (pre++args.map E.ev++caps) dst r/\go r
 |op=>∃r,op.den P E dst=some r/\go r
def DV.nilable:DV->Bool
 | .t .e0| .t (.sl _ [])| .xs _ []=>true
 |_=>false
def DV.slD:DV->Bool
 | .t .e0| .t (.sl _ _)| .xs _ _| .ls _ _=>true
 |_=>false
def kV(P:Program)(t:TypeId):Bool:=match P.underlying t with|some (.slice _)=>true|_=>false
def qF:Operand->Bool
 | .const (.slice none 0 0)=>true
 |_=>false
def mi(P:Program)(C:aD)(E:aa)(f:FuncId)(ds:List DV):Prop:=∃v ups,C.pc P E f ds v ups/\C.pq v (E.upd ups)
def hT(P:Program)(C:aD)(E:aa)(dst:Option Nat)(next:aa->Prop):al->Prop
 | .call f args=>mi P C E f (args.map E.ev)
 | .pan x=>∃t u,E.ev x= .t (.v (.iface t u))/\C.pq (.iface t u) E
 | .callv x args=>(E.ev x= .yl/\C.yl E (args.map E.ev) fun b E'=>next (E'.putO dst (.t (.v (.bool b)))))\/∃f pre caps,(E.ev x).callee=some (f,pre,caps)/\mi P C E f (pre++args.map E.ev++caps)
 | .bin op t x y=>∃neq,eI op=some neq/\kV P t=true/\qF y=true/\(E.ev x).slD=true/\∀b,(b=true->(E.ev x).nilable=true)->next (E.putO dst (.t (.v (.bool (b !=neq)))))
 |_=>False
def cv(P:Program)(C:aD)(pr:List (Nat×Nat)):Nat->List bG->List aT->aa->(aa->Prop)->Prop
 |_,_,[],E,K=>K E
 |ix,Tq,o::rest,E,K=>
  let next:aq->Prop:=fun r=>cv P C pr (ix+1) (em pr ix r.rd (r.ups.map (·.1)) Tq) rest (r.apply o.dst E) K
  match o.guard with
  |none=>dv P C pr ix Tq o.dst E next o.op\/(pr=[]/\hT P C E o.dst (fun E'=>cv P C pr (ix+1) Tq rest E' K) o.op)
  |some (t,Ts)=>(E.tmps t= .tup []/\cv P C pr (ix+1) Tq rest (E.putO o.dst (.tup [])) K)\/∃b,E.tmps t= .t (.v (.bool b))/\
   (Br (b==Ts) (dv P C pr ix Tq o.dst E next o.op\/(pr=[]/\hT P C E o.dst (fun E'=>cv P C pr (ix+1) Tq rest E' K) o.op)) (cv P C pr (ix+1) Tq rest (E.putO o.dst (.tup [])) K)\/
    dv P C pr ix Tq o.dst (E.under b Ts) (fun r=>r.ups=[]/\cv P C pr (ix+1) (em pr ix r.rd [] Tq) rest (E.putO o.dst (.wh b Ts r.d)) K) o.op)
def W(P:Program)(C:aD):ac->aa->(Exit->aa->Prop)->Prop
 | .skip,E,K=>K .normal E
 | .region ops,E,K=>cv P C [] 0 [] ops E (K .normal)
 | .drawn ops pr,E,K=>pr≠[]/\cv P C pr 0 [] ops E (K .normal)
 | .seq a b,E,K=>W P C a E (fY (fun E'=>W P C b E' K) K)
 | .cond c x y,E,K=>∃b,E.ev c= .t (.v (.bool b))/\Br b (W P C x E K) (W P C y E K)
 | .block id b,E,K=>W P C b E (i6 id K)
 | .loop b,E,K=>∃(I:aa->Prop) (m:aa->Nat),(∃ρ,bw ρ=true/\I (E.canon ρ))/\
   ∀E1,I E1->W P C b E1 (fY (fun E'=>∃ρ,bw ρ=true/\I (E'.canon ρ)/\m (E'.canon ρ)<m E1) K)
 | .exit id,E,K=>K (.exit id) E
 | .ret,E,K=>K .ret E
 | .stuck,_,_=>False
 | .rangef g ps a b,E,K=>(∃(f:FuncId) (caps:List DV) (ts:List DV) (F:List Nm) (xs:List (List ab)) (S:List Nm) (k:Ct) (d:Nat) (I:Nat->aa->Prop),
   E.ev g= .fn f caps/\E.viewps caps=some (ts,F)/\C.it P f ts xs/\(∀x∈xs,x.length=ps.length)/\cL E [] k S F/\I 0 k.env/\
   (∀(i:Nat) (x:List ab) (E1:aa),xs[i]?=some x->I i E1->iB k E1->
    W P C.noY a (nv E S k ps x E1) (fun e E2=>e= .normal/\W P (C.wq fun v E3=>eb E S F d (C.pq v) E3) b E2 (fun e E3=>match e with
      | .normal=>∃ρ,bw ρ=true/\iB k (E3.canon ρ)/\I (i+1) (E3.canon ρ)
      | .ret=>eb E S F d (K .ret) E3
      | .exit id=>eb E S F d (K (.exit id)) E3
      |_=>False)))/\
   (∀E1,I xs.length E1->iB k E1->eb E S F d (K .normal) E1))\/
   ∃(f:FuncId) (caps:List DV) (F:List Nm) (S:List Nm) (k:Ct) (d:Nat),E.ev g= .fn f caps/\cL E caps k S F/\
    C.ri P f k.ds (jz k) (fun EI ds Kb=>EI.tmps GH=dI .normal/\iB k EI/\ds.length=ps.length/\∃ρ,tU EI ρ/\
     W P C.noY a ⟨mg ps (ds.map (DV.ren ρ)) (fun t=>(E.tmps t).ren (aL S k.gs)),(EI.canon ρ).slots,(EI.canon ρ).used⟩ (fun e E2=>e= .normal/\W P C.noY b E2 (fun e E3=>cQ e/\
      ∃ρ',bw ρ'=true/\(∀p∈ρ,(p.2,p.2)∈ρ')/\Kb (mh e) ⟨fun t=>if t=GH then dI e else(EI.tmps t).ren ρ,(E3.canon ρ').slots,(E3.canon ρ').used⟩)))
    (fun EF=>∃(e:Exit) (k':Ct) (ρ:List (Nm×Nm)),cQ e/\EF.tmps GH=dI e/\bw ρ=true/\(∀p∈ρ,p.2.fixed=true->k.env.used p.2=true)/\(EF.canon ρ).slots=k'.out/\
     (∀j,j<k'.new.length->E.used (.loc d j)=false)/\K e (E.upd (bB S d k'++am E F)))
def qG(P:Program)(C:aD)(E:aa)(S:List Nm)(k:Ct)(ps:List Nat)(a b:ac):aa->List DV->(Bool->aa->Prop)->Prop:=fun EI ds Kb=>EI.tmps GH=dI .normal/\iB k EI/\ds.length=ps.length/\∃ρ,tU EI ρ/\
 W P C.noY a ⟨mg ps (ds.map (DV.ren ρ)) (fun t=>(E.tmps t).ren (aL S k.gs)),(EI.canon ρ).slots,(EI.canon ρ).used⟩ (fun e E2=>e= .normal/\W P C.noY b E2 (fun e E3=>cQ e/\
  ∃ρ',bw ρ'=true/\(∀p∈ρ,(p.2,p.2)∈ρ')/\Kb (mh e) ⟨fun t=>if t=GH then dI e else(EI.tmps t).ren ρ,(E3.canon ρ').slots,(E3.canon ρ').used⟩))
def mj(E:aa)(S F:List Nm)(k:Ct)(d:Nat)(K:Exit->aa->Prop):aa->Prop:=fun EF=>∃(e:Exit) (k':Ct) (ρ:List (Nm×Nm)),cQ e/\EF.tmps GH=dI e/\bw ρ=true/\(∀p∈ρ,p.2.fixed=true->k.env.used p.2=true)/\(EF.canon ρ).slots=k'.out/\
 (∀j,j<k'.new.length->E.used (.loc d j)=false)/\K e (E.upd (bB S d k'++am E F))
def db{a b:Prop}(h:a↔b):a=b:=propext h
inductive Fr where
 |code (c:ac)
 |blk (id:Nat)
 |again (K:aa->Prop)
def jA(P:Program)(C:aD)(Q:Exit->aa->Prop):List Fr->Exit->aa->Prop
 |[]=>Q
 | .code c::k=>fY (fun E=>W P C c E (jA P C Q k)) (jA P C Q k)
 | .blk id::k=>i6 id (jA P C Q k)
 | .again K::k=>fY K (jA P C Q k)
variable{P:Program}{C:aD}{Q:Exit->aa->Prop}{k:List Fr}{E:aa}
def aY(P:Program)(C:aD)(Q:Exit->aa->Prop)(k:List Fr)(E:aa):Prop:=jA P C Q k .normal E
def jB(P:Program)(C:aD)(Q:Exit->aa->Prop)(id:Nat)(k:List Fr)(E:aa):Prop:=jA P C Q k (.exit id) E
def jC(P:Program)(C:aD)(Q:Exit->aa->Prop)(k:List Fr)(E:aa):Prop:=jA P C Q k .ret E
def eK(P:Program)(C:aD)(Q:Exit->aa->Prop)(k:List Fr)(pr:List (Nat×Nat))(ix:Nat)(Tq:List bG)(ops:List aT)(E:aa):Prop:=cv P C pr ix Tq ops E (jA P C Q k .normal)
def qH(P:Program)(C:aD)(Q:Exit->aa->Prop)(k:List Fr)(b:ac)(E:aa):Prop:=W P C (.loop b) E (jA P C Q k)
@[simp] theorem Rk:aY P C Q [] E=Q .normal E:=db Iff.rfl
@[simp] theorem Rm:aY P C Q (.code .skip::k) E=aY P C Q k E:=db Iff.rfl
@[simp] theorem Rn(ops:List aT):aY P C Q (.code (.region ops)::k) E=eK P C Q k [] 0 [] ops E:=db Iff.rfl
@[simp] theorem Ro(ops:List aT)(pr:List (Nat×Nat)):aY P C Q (.code (.drawn ops pr)::k) E=(pr≠[]/\eK P C Q k pr 0 [] ops E):=db Iff.rfl
def tV(P:Program)(C:aD)(Q:Exit->aa->Prop)(k:List Fr)(g:Operand)(ps:List Nat)(a b:ac)(E:aa):Prop:=W P C (.rangef g ps a b) E (jA P C Q k)
@[simp] theorem Rp(g:Operand)(ps:List Nat)(a b:ac):aY P C Q (.code (.rangef g ps a b)::k) E=tV P C Q k g ps a b E:=db Iff.rfl
@[simp] theorem Rq(a b:ac):aY P C Q (.code (.seq a b)::k) E=aY P C Q (.code a:: .code b::k) E:=db Iff.rfl
@[simp] theorem Rr(id:Nat)(b:ac):aY P C Q (.code (.block id b)::k) E=aY P C Q (.code b:: .blk id::k) E:=db Iff.rfl
@[simp] theorem Gf(id:Nat):aY P C Q (.blk id::k) E=aY P C Q k E:=db Iff.rfl
@[simp] theorem Rs(K:aa->Prop):aY P C Q (.again K::k) E=K E:=db Iff.rfl
@[simp] theorem Rt(b:ac):aY P C Q (.code (.loop b)::k) E=qH P C Q k b E:=db Iff.rfl
@[simp] theorem Ru(id:Nat):aY P C Q (.code (.exit id)::k) E=jB P C Q id k E:=db Iff.rfl
@[simp] theorem Rv:aY P C Q (.code .ret::k) E=jC P C Q k E:=db Iff.rfl
@[simp] theorem Rw(id:Nat):jB P C Q id [] E=Q (.exit id) E:=db Iff.rfl
@[simp] theorem Rx(id:Nat)(c:ac):jB P C Q id (.code c::k) E=jB P C Q id k E:=db Iff.rfl
@[simp] theorem Ry(id:Nat)(K:aa->Prop):jB P C Q id (.again K::k) E=jB P C Q id k E:=db Iff.rfl
@[simp] theorem Gg(id i:Nat):jB P C Q i (.blk id::k) E=if i=id then aY P C Q k E else jB P C Q i k E:=db Iff.rfl
@[simp] theorem Rz:jC P C Q [] E=Q .ret E:=db Iff.rfl
@[simp] theorem RA(c:ac):jC P C Q (.code c::k) E=jC P C Q k E:=db Iff.rfl
@[simp] theorem RB(id:Nat):jC P C Q (.blk id::k) E=jC P C Q k E:=db Iff.rfl
@[simp] theorem RC(K:aa->Prop):jC P C Q (.again K::k) E=jC P C Q k E:=db Iff.rfl
def xU(P:Program)(C:aD)(Q:Exit->aa->Prop)(k:List Fr)(x y:ac)(E:aa)(d:DV):Prop:=
 ∃b,d= .t (.v (.bool b))/\Br b (aY P C Q (.code x::k) E) (aY P C Q (.code y::k) E)
@[simp] theorem RD(c:Operand)(x y:ac):aY P C Q (.code (.cond c x y)::k) E=xU P C Q k x y E (E.ev c):=db Iff.rfl
@[simp] theorem RE(x y:ac)(b:Bool):xU P C Q k x y E (.t (.v (.bool b)))=Br b (aY P C Q (.code x::k) E) (aY P C Q (.code y::k) E):=by
 refine propext ⟨fun⟨b',h,r⟩=>?_,fun h=>⟨b,rfl,h⟩⟩
 cases h;exact r
def cx(P:Program)(C:aD)(Q:Exit->aa->Prop)(k:List Fr)(pr:List (Nat×Nat))(ix:Nat)(Tq:List bG)(dst:Option Nat)(rest:List aT)(E:aa):Option (Bool×Bool)->Option aq->Prop
 |none,some r=>i5 pr ix Tq r=true/\eK P C Q k pr (ix+1) (em pr ix r.rd (r.ups.map (·.1)) Tq) rest (r.apply dst E)
 |some g,some r=>i5 pr ix Tq r=true/\r.ups=[]/\eK P C Q k pr (ix+1) (em pr ix r.rd [] Tq) rest (E.putO dst (.wh g.1 g.2 r.d))
 |_,none=>False
def aa.und(E:aa):Option (Bool×Bool)->aa
 |none=>E
 |some g=>E.under g.1 g.2
def cR(P:Program)(C:aD)(Q:Exit->aa->Prop)(k:List Fr)(pr:List (Nat×Nat))(ix:Nat)(Tq:List bG)(dst:Option Nat)(rest:List aT)(E:aa)(g:Option (Bool×Bool))(f:FuncId)(ds:List DV):Prop:=
 (∃r,C P (E.und g) f ds dst r/\cx P C Q k pr ix Tq dst rest E g (some r))\/(g=none/\pr=[]/\mi P C E f ds)
def oW(P:Program)(C:aD)(Q:Exit->aa->Prop)(k:List Fr)(pr:List (Nat×Nat))(ix:Nat)(Tq:List bG)(dst:Option Nat)(rest:List aT)(E:aa)(g:Option (Bool×Bool))(ds:List DV)(x:DV):Prop:=
 (∃f pre caps,x.callee=some (f,pre,caps)/\cR P C Q k pr ix Tq dst rest E g f (pre++ds++caps))\/
  (g=none/\pr=[]/\x= .yl/\C.yl E ds fun b E'=>eK P C Q k pr (ix+1) Tq rest (E'.putO dst (.t (.v (.bool b)))))
def nw(WL:BinOp)(y:Operand):Bool:=(eI WL).isSome&&qF y
def tW(P:Program)(C:aD)(Q:Exit->aa->Prop)(k:List Fr)(pr:List (Nat×Nat))(ix:Nat)(Tq:List bG)(dst:Option Nat)(rest:List aT)(E:aa)(g:Option (Bool×Bool))(WL:BinOp)(t:TypeId)(x y:Operand):Bool->DV->DV->Prop
 |false,d,d'=>cx P C Q k pr ix Tq dst rest E g (aX P WL t x y d d')
 |true,d,d'=>cx P C Q k pr ix Tq dst rest E g (aX P WL t x y d d')\/
  (g=none/\pr=[]/\∃neq,eI WL=some neq/\kV P t=true/\d.slD=true/\∀b,(b=true->d.nilable=true)->eK P C Q k pr (ix+1) Tq rest (E.putO dst (.t (.v (.bool (b !=neq))))))
@[simp] theorem RF{g:Option (Bool×Bool)}{WL:BinOp}{t:TypeId}{x y:Operand}{d d':DV}{dst:Option Nat}{rest:List aT}{pr:List (Nat×Nat)}{ix:Nat}{Tq:List bG}:tW P C Q k pr ix Tq dst rest E g WL t x y false d d'=cx P C Q k pr ix Tq dst rest E g (aX P WL t x y d d'):=rfl
def xV(C:aD)(pr:List (Nat×Nat))(E:aa)(g:Option (Bool×Bool))(d:DV):Prop:=g=none/\pr=[]/\∃t u,d= .t (.v (.iface t u))/\C.pq (.iface t u) E
def hZ(P:Program)(C:aD)(Q:Exit->aa->Prop)(k:List Fr)(pr:List (Nat×Nat))(ix:Nat)(Tq:List bG)(dst:Option Nat)(rest:List aT)(E:aa)(g:Option (Bool×Bool)):al->Prop
 | .call f args=>cR P C Q k pr ix Tq dst rest E g f (args.map (E.und g).ev)
 | .pan x=>xV C pr E g (E.ev x)
 | .callv x args=>oW P C Q k pr ix Tq dst rest E g (args.map (E.und g).ev) ((E.und g).ev x)
 | .bin WL t x y=>tW P C Q k pr ix Tq dst rest E g WL t x y (nw WL y) ((E.und g).ev x) ((E.und g).ev y)
 |op=>cx P C Q k pr ix Tq dst rest E g (op.den P (E.und g) dst)
def tX(P:Program)(C:aD)(Q:Exit->aa->Prop)(k:List Fr)(pr:List (Nat×Nat))(ix:Nat)(Tq:List bG)(dst:Option Nat)(rest:List aT)(E:aa)(Ts:Bool)(op:al)(d:DV):Prop:=
 (d= .tup []/\eK P C Q k pr (ix+1) Tq rest (E.putO dst (.tup [])))\/∃b,d= .t (.v (.bool b))/\(Br (b==Ts) (hZ P C Q k pr ix Tq dst rest E none op) (eK P C Q k pr (ix+1) Tq rest (E.putO dst (.tup [])))\/hZ P C Q k pr ix Tq dst rest E (some (b,Ts)) op)
variable{pr:List (Nat×Nat)}{ix:Nat}{Tq:List bG}{rest:List aT}{dst:Option Nat}
@[simp] theorem RG:eK P C Q k pr ix Tq [] E=aY P C Q k E:=db Iff.rfl
def jD(g:Option (Bool×Bool))(x:Option aq):cx P C Q k pr ix Tq dst rest E g x↔∃r,x=some r/\cx P C Q k pr ix Tq dst rest E g (some r):=by
 cases x with
 |none=>cases g<;>simp[cx]
 |some r=>simp
def xW(op:al):(dv P C pr ix Tq dst E (fun r=>eK P C Q k pr (ix+1) (em pr ix r.rd (r.ups.map (·.1)) Tq) rest (r.apply dst E)) op\/(pr=[]/\hT P C E dst (fun E'=>eK P C Q k pr (ix+1) Tq rest E') op))=hZ P C Q k pr ix Tq dst rest E none op:=by
 cases op
 case call f args=>exact propext ⟨fun h=>h.elim .inl fun h=> .inr ⟨rfl,h⟩,fun h=>h.elim .inl fun h=> .inr h.2⟩
 case callv x args=>
  simp only[hZ,cR,oW,dv,hT,aa.und]
  refine propext ⟨fun h=>?_,fun h=>?_⟩
  .rcases h with⟨f,p,c,r,h1,h2⟩|⟨h1,⟨h2,h3⟩|⟨f,p,c,h2,h3⟩⟩
   .exact .inl ⟨f,p,c,h1,.inl ⟨r,h2⟩⟩
   .exact .inr ⟨trivial,h1,h2,h3⟩
   .exact .inl ⟨f,p,c,h2,.inr ⟨trivial,h1,h3⟩⟩
  .rcases h with⟨f,p,c,h1,⟨r,h2⟩|⟨_,h2,h3⟩⟩|⟨_,h1,h2,h3⟩
   .exact .inl ⟨f,p,c,r,h1,h2⟩
   .exact .inr ⟨h2,.inr ⟨f,p,c,h1,h3⟩⟩
   .exact .inr ⟨h1,.inl ⟨h2,h3⟩⟩
 case pan x=>
  refine propext ⟨fun h=>h.elim (fun⟨r,h,_⟩=>?_) fun h=>⟨rfl,h.1,h.2⟩,fun h=> .inr h.2⟩
  simp[al.den]at h
 case bin WL t x y=>
  simp only[dv,hZ,aa.und,hT]
  cases hn:nw WL y with
  |false=>
   simp only[nw,Bool.and_eq_false_iff]at hn
   refine propext ⟨fun h=>h.elim (fun h=>(jD none _).2 h) fun⟨_,neq,h1,_,h3,_⟩=>?_,fun h=> .inl ((jD none _).1 h)⟩
   rw[h1,h3]at hn
   simp at hn
  |true=>
   simp only[nw,ajT]at hn
   refine propext ⟨fun h=>h.elim (fun h=> .inl ((jD none _).2 h)) fun⟨h0,neq,h1,h2,_,h4,h5⟩=> .inr ⟨rfl,h0,neq,h1,h2,h4,h5⟩,fun h=>h.elim (fun h=> .inl ((jD none _).1 h)) fun⟨_,h0,neq,h1,h2,h4,h5⟩=> .inr ⟨h0,neq,h1,h2,hn.2,h4,h5⟩⟩
 all_goals(simp only[dv,hZ,aa.und,hT];exact propext ⟨fun h=>h.elim (fun h=>(jD none _).2 h) fun h=>h.2.elim,fun h=> .inl ((jD none _).1 h)⟩)
def Gh(g:Bool×Bool)(op:al):dv P C pr ix Tq dst (E.under g.1 g.2) (fun r=>r.ups=[]/\eK P C Q k pr (ix+1) (em pr ix r.rd [] Tq) rest (E.putO dst (.wh g.1 g.2 r.d))) op=hZ P C Q k pr ix Tq dst rest E (some g) op:=by
 cases op
 case call f args=>exact propext ⟨.inl,fun h=>h.elim id fun h=>by simp at h⟩
 case callv x args=>
  simp only[hZ,cR,oW,dv,aa.und]
  refine propext ⟨fun⟨f,p,c,r,h1,h2⟩=> .inl ⟨f,p,c,h1,.inl ⟨r,h2⟩⟩,fun h=>?_⟩
  rcases h with⟨f,p,c,h1,⟨r,h2⟩|⟨h0,_⟩⟩|⟨h0,_⟩
  .exact⟨f,p,c,r,h1,h2⟩
  .simp at h0
  .simp at h0
 case pan x=>
  refine propext ⟨fun⟨_,h,_⟩=>?_,fun h=>?_⟩
  .simp[al.den]at h
  .cases h.1
 case bin WL t x y=>
  simp only[dv,hZ,aa.und]
  cases nw WL y with
  |false=>exact propext (jD (some g) _).symm
  |true=>exact propext ⟨fun h=> .inl ((jD (some g) _).2 h),fun h=>h.elim (fun h=>(jD (some g) _).1 h) fun h=>by simp at h⟩
 all_goals(simp only[dv,hZ,aa.und];exact propext (jD (some g) _).symm)
@[simp] def RH(op:al):eK P C Q k pr ix Tq (⟨dst,op,none⟩::rest) E=hZ P C Q k pr ix Tq dst rest E none op:=xW op
@[simp] theorem RI(op:al)(t:Nat)(Ts:Bool):eK P C Q k pr ix Tq (⟨dst,op,some (t,Ts)⟩::rest) E=tX P C Q k pr ix Tq dst rest E Ts op (E.tmps t):=by
 refine propext (or_congr Iff.rfl (exists_congr fun b=>?_))
 refine and_congr_right fun _=>?_
 exact or_congr (by rw[<-xW];rfl) (by rw[<-Gh];rfl)
@[simp] theorem RJ{Ts:Bool}{op:al}:tX P C Q k pr ix Tq dst rest E Ts op (.tup [])=eK P C Q k pr (ix+1) Tq rest (E.putO dst (.tup [])):=by
 refine propext ⟨fun h=>?_,fun h=> .inl ⟨rfl,h⟩⟩
 rcases h with⟨_,h⟩|⟨b,h,_⟩
 .exact h
 .cases h
def aj{Ts b:Bool}{op:al}(h:Br (b==Ts) (hZ P C Q k pr ix Tq dst rest E none op) (eK P C Q k pr (ix+1) Tq rest (E.putO dst (.tup [])))):tX P C Q k pr ix Tq dst rest E Ts op (.t (.v (.bool b))):= .inr ⟨b,rfl,.inl h⟩
def qI(I:aa->Prop)(m:aa->Nat)(ns:List Nm)(n:Nat)(E':aa):Prop:=∃ρ,bw ρ=true/\ρ.map (·.2)=ns/\I (E'.canon ρ)/\m (E'.canon ρ)<n
def fA(E:aa)(ρ:List (Nm×Nm)):(E.canon ρ).used=(fun s=>(ρ.map (·.2)).contains s)/\(∀s,(ρ.map (·.2)).contains s=false->(E.canon ρ).slots s=none):=by
 have hk:∀s,((flip ρ).lookup s).isSome=(ρ.map (·.2)).contains s:=by
  intro s
  induction ρ with
  |nil=>simp[flip]
  |cons p ρ ih=>
   simp only[flip,ajQ,List.lookup]at ih⊢
   by_cases he:s=p.2
   .subst he;simp
   .have hb:(s==p.2)=false:=by simpa using he
    simp only[hb,List.contains_cons,Bool.false_or]
    exact ih
 refine⟨funext hk,fun s hs=>?_⟩
 have:(flip ρ).lookup s=none:=by
  have:=hk s
  rw[hs]at this
  simpa using this
 show(match(flip ρ).lookup s with|some s0=>(E.slots s0).map (Row.ren ρ)|none=>none)=none
 rw[this]
def ba{b:ac}(I:aa->Prop)(m:aa->Nat)(ρ:List (Nm×Nm))(h0:bw ρ=true)(h1:I (E.canon ρ))
  (h2:∀E1,I E1->E1.used=(fun s=>(ρ.map (·.2)).contains s)->(∀s,(ρ.map (·.2)).contains s=false->E1.slots s=none)->
   ∀A:aa->Prop,(∀E',qI I m (ρ.map (·.2)) (m E1) E'->A E')->aY P C Q (.code b:: .again A::k) E1):qH P C Q k b E:=
 ⟨fun E1=>I E1/\E1.used=(fun s=>(ρ.map (·.2)).contains s)/\∀s,(ρ.map (·.2)).contains s=false->E1.slots s=none,m,⟨ρ,h0,h1,(fA E ρ).1,(fA E ρ).2⟩,
  fun E1 hi=>h2 E1 hi.1 hi.2.1 hi.2.2 _ fun E' ⟨ρ',q1,q2,q3,q4⟩=>⟨ρ',q1,⟨q3,by rw[<-q2];exact(fA E' ρ').1,by rw[<-q2];exact(fA E' ρ').2⟩,q4⟩⟩
def aH{I:aa->Prop}{m:aa->Nat}{ns:List Nm}{n:Nat}(ρ:List (Nm×Nm))(h0:bw ρ=true)(h1:ρ.map (·.2)=ns)(h2:I (E.canon ρ))(h3:m (E.canon ρ)<n):qI I m ns n E:=⟨ρ,h0,h1,h2,h3⟩
inductive cy where
 |tmp (t:Nat)
 |cell (t n:Nat) (agg:Bool)
def cy.val(E:aa):cy->Option DV
 | .tmp t=>some (E.tmps t)
 | .cell t n agg=>(ma E n agg (E.tmps t)).map (·.d)
def fZ(E:aa):List cy->Option DV
 |[]=>some (.tup [])
 |[r]=>r.val E
 |l=>(l.mapM (cy.val E)).map .tup
def ml(K:DV->aa->Prop)(E:aa):Option DV->Prop
 |some d=>K d E
 |none=>False
def Fin(rs:List cy)(K:DV->aa->Prop):Exit->aa->Prop
 | .normal,E=>ml K E (fZ E rs)
 | .ret,E=>ml K E (fZ E rs)
 |_,_=>False
@[simp] theorem RK(rs:List cy)(K:DV->aa->Prop):Fin rs K .normal E=ml K E (fZ E rs):=db Iff.rfl
@[simp] theorem tY(rs:List cy)(K:DV->aa->Prop):Fin rs K .ret E=ml K E (fZ E rs):=db Iff.rfl
@[simp] theorem RL(K:DV->aa->Prop)(d:DV):ml K E (some d)=K d E:=db Iff.rfl
inductive ah(Z:Nm->Place)(U:Nm->Bool)(w:World)(M:Nat->Prop):Value->DV->Prop where
 |t {v:Value} {x:ab} (h:aM w M v x):ah Z U w M v (.t x)
 |agg {vs:List Value} {ds:List DV} (hl:vs.length=ds.length) (h1:∀v∈vs,co v=true)
   (h:∀(i:Nat) (v:Value) (d:DV),vs[i]?=some v->ds[i]?=some d->ah Z U w M v d):ah Z U w M (.agg vs.toArray) (.agg ds)
 |tup {vs:List Value} {ds:List DV} (hl:vs.length=ds.length)
   (h:∀(i:Nat) (v:Value) (d:DV),vs[i]?=some v->ds[i]?=some d->ah Z U w M v d):ah Z U w M (.tuple vs.toArray) (.tup ds)
 |ptr {s:Nm} {k j:Nat} (hU:U s=true):ah Z U w M (.pointer (some ⟨(Z s).blk,k*(Z s).m+j,none⟩)) (.ptr s k j)
 |tp {b o j:Nat} {x:ab} (u:Nat->Value) (hM:¬M b) (hb:b<w.heap.size)
   (hu:∀(i:Nat) (c:ab),x.cells[i]?=some c->w.cell? ⟨b,o+i,none⟩=some (u i))
   (h1:∀(i:Nat) (c:ab),x.cells[i]?=some c->c.one=true)
   (h:∀(i:Nat) (c:ab),x.cells[i]?=some c->aM w M (u i) c):ah Z U w M (.pointer (some ⟨b,o+j,none⟩)) (.tp x j)
 |osl {s:Nm} {n:Nat} {ad:Option Addr} (hU:U s=true) (hn:n<=(Z s).cap) (ha:0<(Z s).cap->ad=some ⟨(Z s).blk,0,none⟩):ah Z U w M (.slice ad n (Z s).cap) (.osl s n)
 |fn {f:FuncId} {vs:List Value} {ds:List DV} (hl:vs.length=ds.length)
   (h:∀(i:Nat) (v:Value) (d:DV),vs[i]?=some v->ds[i]?=some d->ah Z U w M v d):ah Z U w M (.func (.func f) #[] vs.toArray) (.fn f ds)
 |mfn {f:FuncId} {us vs:List Value} {cs ds:List DV} (Uy:us.length=cs.length) (hl:vs.length=ds.length)
   (h0:∀(i:Nat) (v:Value) (d:DV),us[i]?=some v->cs[i]?=some d->ah Z U w M v d)
   (h:∀(i:Nat) (v:Value) (d:DV),vs[i]?=some v->ds[i]?=some d->ah Z U w M v d):ah Z U w M (.func (.func f) us.toArray vs.toArray) (.mfn f cs ds)
 |mp {s:Nm} (hU:U s=true):ah Z U w M (.map (some (Z s).blk)) (.mp s)
 |yl (hU:U .yl=true):ah Z U w M (.func (.yield (Z .yl).blk) #[] #[]) .yl
 |lst {b cap:Nat} {ds:List DV} (u:Nat->Value) (hM:¬M b) (hb:b<w.heap.size) (hn:ds.length<=cap) (hc:cap<=maxLen)
   (hu:∀(i:Nat) (d:DV),ds[i]?=some d->w.cell? ⟨b,i,none⟩=some (u i))
   (h:∀(i:Nat) (d:DV),ds[i]?=some d->ah Z U w M (u i) d):ah Z U w M (.slice (some ⟨b,0,none⟩) ds.length cap) (.lst ds)
 |xs {ad:Option Addr} {n m:Nat} {l:List ab} (hn:n=l.length) (h:aM w M (.slice ad n n) (.sl m l)):ah Z U w M (.slice ad n n) (.xs m l)
 |ls {b n m:Nat} {l:List ab} {cs:Array Value} {e:TypeId} (hn:n=l.length) (hM:¬M b) (hg:w.heap[b]?=some (.cells cs e (0,0))) (h:aM w M (.slice (some ⟨b,0,none⟩) n n) (.sl m l)):ah Z U w M (.slice (some ⟨b,0,none⟩) n n) (.ls m l)
 |ep {b o:Nat} {u:Value} {d:DV} (hM:¬M b) (hb:b<w.heap.size) (hu:w.cell? ⟨b,o,none⟩=some u) (h:ah Z U w M u d):ah Z U w M (.pointer (some ⟨b,o,none⟩)) (.ep d)
 |er {t:TypeId} {v:Value}:ah Z U w M (.iface t v) .er
 |wh {b Ts:Bool} {v:Value} {d:DV} (h:b=Ts->ah Z U w M v d):ah Z U w M v (.wh b Ts d)
 |junk {v:Value}:ah Z U w M v .junk
def ah.mono{Z Z':Nm->Place}{U U':Nm->Bool}{w w':World}{M M':Nat->Prop}{v:Value}{d:DV}(h:ah Z U w M v d)
  (hs:w.heap.size<=w'.heap.size) (hw:∀b,b<w.heap.size->¬M b->w'.heap[b]?=w.heap[b]?/\¬M' b)
  (hU:∀s,U s=true->U' s=true/\Z' s=Z s):ah Z' U' w' M' v d:=by
 induction h with
 |t h=>exact .t (h.mono hs hw)
 |agg hl h1 _ ih=>exact .agg hl h1 fun i v d hv hd=>ih i v d hv hd
 |tup hl _ ih=>exact .tup hl fun i v d hv hd=>ih i v d hv hd
 |ptr h=>obtain⟨h1,h2⟩:=hU _ h;rw[<-h2];exact .ptr h1
 |tp u hM hb hu h1 h=>
  refine .tp u (hw _ hb hM).2 (by omega) ?_ h1 (fun i c hc=>(h i c hc).mono hs hw)
  intro i c hc
  have:=hu i c hc
  unfold World.cell? at*
  rw[(hw _ hb hM).1]
  exact this
 |osl h hn ha=>obtain⟨h1,h2⟩:=hU _ h;rw[<-h2];exact .osl h1 (by rw[h2];exact hn) (by rw[h2];exact ha)
 |fn hl _ ih=>exact .fn hl fun i v d hv hd=>ih i v d hv hd
 |mfn Uy hl _ _ ih0 ih=>exact .mfn Uy hl (fun i v d hv hd=>ih0 i v d hv hd) fun i v d hv hd=>ih i v d hv hd
 |mp h=>obtain⟨h1,h2⟩:=hU _ h;rw[<-h2];exact .mp h1
 |yl h=>obtain⟨h1,h2⟩:=hU _ h;rw[<-h2];exact .yl h1
 |lst u hM hb hn hc hu _ ih=>
  refine .lst u (hw _ hb hM).2 (by omega) hn hc ?_ ih
  intro i d hd
  have:=hu i d hd
  unfold World.cell? at*
  rw[(hw _ hb hM).1]
  exact this
 |xs hn h=>exact .xs hn (h.mono hs hw)
 |ls hn hM hg h=>exact .ls hn (hw _ (ajy.1 hg).1 hM).2 (by rw[(hw _ (ajy.1 hg).1 hM).1];exact hg) (h.mono hs hw)
 |ep hM hb hu _ ih=>
  refine .ep (hw _ hb hM).2 (by omega) ?_ ih
  unfold World.cell? at*
  rw[(hw _ hb hM).1]
  exact hu
 |er=>exact .er
 |wh _ ih=>exact .wh fun e=>ih e
 |junk=>exact .junk
def ah.one{Z:Nm->Place}{U:Nm->Bool}{w:World}{M:Nat->Prop}{v:Value}{d:DV}(h:ah Z U w M v d)(hd:d.one=true):co v=true:=by
 cases h<;>simp[DV.one]at hd<;>first|rfl|(rename_i h;rw[h.one];exact hd)
def eo(Z:Nm->Place)(U:Nm->Bool)(M:Nat->Prop)(w:World)(pl:Place):Row->Prop
 | .box e d _=>∃cs:List Value,w.heap[pl.blk]?=some (.cells cs.toArray e (0,0))/\cs.length=d.cells.length/\(∀v∈cs,co v=true)/\
   ∀(i:Nat) (v:Value) (x:DV),cs[i]?=some v->d.cells[i]?=some x->ah Z U w M v x
 | .rows e m l _=>(pl.cap=0/\l=[]/\pl.m=m/\0<m)\/∃cs:List Value,0<pl.cap/\w.heap[pl.blk]?=some (.cells cs.toArray e (0,0))/\pl.m=m/\0<m/\cs.length=pl.cap*m/\l.length<=pl.cap/\pl.cap<=maxLen/\
   (∀t∈l,t.cells.length=m)/\
   ∀(k:Nat) (t:ab) (j:Nat) (c:ab),l[k]?=some t->t.cells[j]?=some c->c.one=true/\∃v,cs[k*m+j]?=some v/\aM w M v c
 | .obj (.mp es c) _=>∃ents:Array MapEntry,w.heap[pl.blk]?=some (.map ents c)/\ents.size=es.length/\
   ∀(i:Nat) (e:MapEntry) (x:Value×DV×Nat),ents[i]?=some e->es[i]?=some x->e.key=x.1/\e.born=x.2.2/\ah Z U w M e.val x.2.1
 | .obj (.it s pos) _=>w.heap[pl.blk]?=some (.stringIter s pos)
 | .obj .dfr _=>False
def Row.real:Row->Place->Bool
 | .box _ _ _,_=>true
 | .obj _ _,_=>true
 | .rows _ _ _ _,pl=>decide (0<pl.cap)
def eo.lt{Z:Nm->Place}{U:Nm->Bool}{M:Nat->Prop}{w:World}{pl:Place}{r:Row}(h:eo Z U M w pl r)(hr:r.real pl=true):pl.blk<w.heap.size:=by
 cases r with
 |box e d fz=>obtain⟨cs,h,_⟩:=h;exact(ajy.1 h).1
 |rows e m l fz=>
  simp[Row.real]at hr
  rcases h with⟨h,_⟩|⟨cs,_,h,_⟩
  .omega
  .exact(ajy.1 h).1
 |obj o fz=>
  cases o with
  |mp es c=>obtain⟨ents,h,_⟩:=h;exact(ajy.1 h).1
  |it s p=>exact(ajy.1 h).1
  |dfr=>exact h.elim
def eo.nodf{Z:Nm->Place}{U:Nm->Bool}{M:Nat->Prop}{w:World}{pl:Place}{r:Row}(h:eo Z U M w pl r)(hr:r.real pl=true):w.heap[pl.blk]?≠some (.deferred (some [])):=by
 intro he
 cases r with
 |box e d fz=>obtain⟨cs,h,_⟩:=h;rw[he]at h;cases h
 |rows e m l fz=>
  simp[Row.real]at hr
  rcases h with⟨h,_⟩|⟨cs,_,h,_⟩
  .omega
  .rw[he]at h;cases h
 |obj o fz=>
  cases o with
  |mp es c=>obtain⟨ents,h,_⟩:=h;rw[he]at h;cases h
  |it s p=>have h:w.heap[pl.blk]?=some (.stringIter s p):=h;rw[he]at h;cases h
  |dfr=>exact h
def eo.mono{Z Z':Nm->Place}{U U':Nm->Bool}{w w':World}{M M':Nat->Prop}{pl:Place}{r:Row}(h:eo Z U M w pl r)
  (hs:w.heap.size<=w'.heap.size) (hw:∀b,b<w.heap.size->¬M b->w'.heap[b]?=w.heap[b]?/\¬M' b)
  (hU:∀s,U s=true->U' s=true/\Z' s=Z s) (hb:r.real pl=true->w'.heap[pl.blk]?=w.heap[pl.blk]?):eo Z' U' M' w' pl r:=by
 cases r with
 |box e d fz=>
  obtain⟨cs,h1,h2,h0,h3⟩:=h
  exact⟨cs,by rw[hb rfl];exact h1,h2,h0,fun i v x hv hx=>(h3 i v x hv hx).mono hs hw hU⟩
 |rows e m l fz=>
  rcases h with h|⟨cs,hc,h1,h2,h3,h4,h5,h6,h7,h8⟩
  .exact .inl h
  .refine .inr ⟨cs,hc,by rw[hb (by simpa[Row.real]using hc)];exact h1,h2,h3,h4,h5,h6,h7,fun k t j c hk hj=>?_⟩
   obtain⟨h9,v,UI,bE⟩:=h8 k t j c hk hj
   exact⟨h9,v,UI,bE.mono hs hw⟩
 |obj o fz=>
  cases o with
  |mp es c=>
   obtain⟨ents,h1,h2,h3⟩:=h
   refine⟨ents,by rw[hb rfl];exact h1,h2,fun i e x he hx=>?_⟩
   obtain⟨h4,h5,h6⟩:=h3 i e x he hx
   exact⟨h4,h5,h6.mono hs hw hU⟩
  |it s p=>exact(hb rfl).trans h
  |dfr=>exact h
structure aA where
 w0:World
 M0:Nat->Prop
 X:Nat->Prop
 n:Nat
 pin:Nm->Place
 dl:Option Nat:=some 0
def ae(c:aA)(Z:Nm->Place)(sl:Nm->Option Row)(b:Nat):Prop:=(c.M0 b/\¬c.X b)\/∃s r,sl s=some r/\r.mut=true/\r.real (Z s)=true/\(Z s).blk=b
def qJ(c:aA):Prop:=∀p∈i3,∃cs e fr,c.w0.heap[p.1]?=some (.cells cs e fr)/\p.2 cs/\¬c.X p.1/\¬c.M0 p.1
def oX(w:World)(M:Nat->Prop):Prop:=∀p∈i3,∃cs e fr,w.heap[p.1]?=some (.cells cs e fr)/\p.2 cs/\¬M p.1
structure SimW(c:aA)(Z:Nm->Place)(E:aa)(w:World):Prop where
 size:c.w0.heap.size<=w.heap.size
 os:w.os=c.w0.os
 tape:w.tape=c.w0.tape
 output:w.output=c.w0.output
 old:∀b,b<c.w0.heap.size->¬c.X b->w.heap[b]?=c.w0.heap[b]?
 m0:∀b,c.M0 b->b<c.w0.heap.size
 row:∀s r,E.slots s=some r->E.used s=true/\eo Z E.used (ae c Z E.slots) w (Z s) r/\(r.real (Z s)=true->(r.mut=true->c.X (Z s).blk\/c.w0.heap.size<=(Z s).blk)/\(c.X (Z s).blk\/¬c.M0 (Z s).blk))
 inj:∀s s' r r',E.slots s=some r->E.slots s'=some r'->r.mut=true->r.real (Z s)=true->r'.real (Z s')=true->(Z s).blk=(Z s').blk->s=s'
 fix:∀s,s.fixed=true->E.used s=true->Z s=c.pin s
 gl:(∀g,c.pin (.glob g)=⟨g,0,0⟩)/\qJ c
def SimW.glob{c:aA}{Z:Nm->Place}{E:aa}{w:World}(h:SimW c Z E w)(g:Nat)(hu:E.used (.glob g)=true):Z (.glob g)=⟨g,0,0⟩:=(h.fix _ rfl hu).trans (h.gl.1 g)
def SimW.lay{c:aA}{Z:Nm->Place}{E:aa}{w:World}(h:SimW c Z E w){g:Nat}{Q:Array Value->Prop}(hp:(g,Q)∈i3):∃cs e fr,w.heap[g]?=some (.cells cs e fr)/\Q cs/\g<c.w0.heap.size/\¬c.X g/\¬ae c Z E.slots g:=by
 obtain⟨cs,e,fr,h1,h2,h3,h4⟩:=h.gl.2 _ hp
 have hlt:=(ajy.1 h1).1
 refine⟨cs,e,fr,(h.old _ hlt h3).trans h1,h2,hlt,h3,?_⟩
 rintro(⟨h5,_⟩|⟨s,r,h5,h6,h7,h8⟩)
 .exact h4 h5
 .rcases((h.row s r h5).2.2 h7).1 h6 with h9|h9
  .rw[h8]at h9;exact h3 h9
  .rw[h8]at h9;have hlt:g<c.w0.heap.size:=hlt;omega
def SimW.layW{c:aA}{Z:Nm->Place}{E:aa}{w:World}(h:SimW c Z E w){w':World}{M:Nat->Prop}(hk:∀b,b<w.heap.size->¬ae c Z E.slots b->w'.heap[b]?=w.heap[b]?/\¬M b):oX w' M:=by
 intro p hp
 obtain⟨cs,e,fr,h1,h2,h3,h4,h5⟩:=h.lay (g:=p.1) (Q:=p.2) hp
 obtain⟨k1,k2⟩:=hk p.1 (ajY h3 h.size) h5
 exact⟨cs,e,fr,k1.trans h1,h2,k2⟩
def SimW.lay_to{c:aA}{Z:Nm->Place}{E:aa}{w:World}(h:SimW c Z E w){c':aA}(hk:∀b,b<w.heap.size->¬ae c Z E.slots b->c'.w0.heap[b]?=w.heap[b]?/\¬c'.X b/\¬c'.M0 b):qJ c':=by
 intro p hp
 obtain⟨cs,e,fr,h1,h2,h3,h4,h5⟩:=h.lay (g:=p.1) (Q:=p.2) hp
 obtain⟨k1,k2,k3⟩:=hk p.1 (ajY h3 h.size) h5
 exact⟨cs,e,fr,k1.trans h1,h2,k2,k3⟩
structure ai(c:aA)(Z:Nm->Place)(E:aa)(a:Act)(w:World):Prop extends SimW c Z E w where
 tm:∀t,ah Z E.used w (ae c Z E.slots) (a.tmps.getD t undef) (E.tmps t)
 sz:a.tmps.size=c.n
 df:∃bs:List Nat,a.defers=bs.map (fun b=>{target:= .collected b,args:=#[]})/\bs.Nodup/\∀b∈bs,(∃l,c.dl=some l/\l<=b)/\w.heap[b]?=some (.deferred (some []))
def ai.put{c:aA}{Z:Nm->Place}{E:aa}{a:Act}{w:World}(h:ai c Z E a w){dst:Option Nat}{v:Value}{d:DV}(hd:dst.all (· <c.n)=true)
  (hv:ah Z E.used w (ae c Z E.slots) v d):ai c Z (E.putO dst d) (a.put dst v) w:=by
 cases dst with
 |none=>exact h
 |some t=>
  simp at hd
  refine{h with tm:=fun u=>?_,sz:=by simpa[Act.put]using h.sz}
  show ah Z E.used w (ae c Z E.slots) ((a.tmps.setIfInBounds t v).getD u undef) (if u=t then d else E.tmps u)
  by_cases hu:u=t
  .subst hu
   have:u<a.tmps.size:=by rw[h.sz];exact hd
   simpa[ajM,akj,this]using hv
  .have:=h.tm u
   simp only[hu,ajS]
   simpa[ajM,akj,Ne.symm hu]using this
end
section
open Go.RowKit
variable{c:aA}{Z Z':Nm->Place}{E:aa}{a:Act}{w w':World}{ups:List (Nm×Option Row)}
theorem bM(s:Nm):(E.upd ups).slots s=match ups.lookup s with|some r=>r|none=>E.slots s:=rfl
theorem bJ(s:Nm):(E.upd ups).used s=((ups.lookup s).isSome||E.used s):=rfl
def ai.upd(h:ai c Z E a w)(hs:w.heap.size<=w'.heap.size)(X8:w'.os=w.os)(Uo:w'.tape=w.tape)(UE:w'.output=w.output)
  (hb:∀b,b<w.heap.size->w'.heap[b]?=w.heap[b]?\/∃s r,E.slots s=some r/\r.mut=true/\r.real (Z s)=true/\(Z s).blk=b/\(ups.lookup s).isSome=true)
  (hZ:∀s,E.used s=true->Z' s=Z s)
  (Ub:∀s r,ups.lookup s=some (some r)->eo Z' (E.upd ups).used (ae c Z' (E.upd ups).slots) w' (Z' s) r/\(r.real (Z' s)=true->(r.mut=true->c.X (Z' s).blk\/c.w0.heap.size<=(Z' s).blk)/\(c.X (Z' s).blk\/¬c.M0 (Z' s).blk)))
  (afk:∀s s' r r',(E.upd ups).slots s=some r->(E.upd ups).slots s'=some r'->r.mut=true->r.real (Z' s)=true->r'.real (Z' s')=true->(Z' s).blk=(Z' s').blk->s=s')
  (VK:∀b,b<w.heap.size->ae c Z' (E.upd ups).slots b->ae c Z E.slots b)
  (ade:∀s,s.fixed=true->(ups.lookup s).isSome=true->E.used s=true):ai c Z' (E.upd ups) a w':=by
 have hw:∀b,b<w.heap.size->¬ae c Z E.slots b->w'.heap[b]?=w.heap[b]?/\¬ae c Z' (E.upd ups).slots b:=by
  intro b hlt hM
  refine⟨?_,fun h'=>hM (VK b hlt h')⟩
  rcases hb b hlt with h1|⟨s,r,h1,h2,Xg,h3,_⟩
  .exact h1
  .exact absurd (.inr ⟨s,r,h1,h2,Xg,h3⟩) hM
 have hU:∀s,E.used s=true->(E.upd ups).used s=true/\Z' s=Z s:=fun s hu=>⟨by rw[bJ,hu,Bool.or_true],hZ s hu⟩
 refine⟨⟨akf h.size hs,X8.trans h.os,Uo.trans h.tape,UE.trans h.output,?_,h.m0,?_,afk,?_,h.gl⟩,fun t=>(h.tm t).mono hs hw hU,h.sz,?_⟩
 .intro b hlt hX
  rcases hb b (ajY hlt h.size)with h1|⟨s,r,h1,h2,Xg,h3,_⟩
  .rw[h1];exact h.old b hlt hX
  .rcases((h.row s r h1).2.2 Xg).1 h2 with h4|h4
   .rw[h3]at h4;exact absurd h4 hX
   .omega
 .intro s r hr
  rw[bM]at hr
  cases hl:ups.lookup s with
  |some x=>
   rw[hl]at hr
   simp only at hr
   subst hr
   exact⟨by rw[bJ,hl];rfl,Ub s r hl⟩
  |none=>
   rw[hl]at hr
   simp only at hr
   obtain⟨h1,h2,h3⟩:=h.row s r hr
   have e:=hZ s h1
   refine⟨(hU s h1).1,?_,by rw[e];exact h3⟩
   rw[e]
   refine h2.mono hs hw hU fun Tz=>?_
   rcases hb _ (h2.lt Tz)with h4|⟨s',r',h4,h5,h5',h6,h7⟩
   .exact h4
   .have:=h.inj s' s r' r h4 hr h5 h5' Tz h6
    rw[this,hl]at h7
    simp at h7
 .intro s hf hg
  rw[bJ,Bool.or_eq_true]at hg
  have hu:E.used s=true:=hg.elim (ade s hf) id
  rw[hZ _ hu];exact h.fix s hf hu
 .obtain⟨bs,h1,WF,h2⟩:=h.df
  refine⟨bs,h1,WF,fun b TR=>?_⟩
  obtain⟨lY,h3⟩:=h2 b TR
  refine⟨lY,?_⟩
  rcases hb b (ajy.1 h3).1 with h4|⟨s,r,h4,h5,h6,h7,_⟩
  .rw[h4];exact h3
  .rw[<-h7]at h3;exact absurd h3 ((h.row s r h4).2.1.nodf h6)
def ai.new(h:ai c Z E a w){s:Nm}{r:Row}{pl:Place}(hu:E.used s=false)(hg:s.fixed=false)
  (hs:w.heap.size<=w'.heap.size) (X8:w'.os=w.os) (Uo:w'.tape=w.tape) (UE:w'.output=w.output)
  (hb:∀b,b<w.heap.size->w'.heap[b]?=w.heap[b]?) (Wy:r.real pl=true->w.heap.size<=pl.blk)
  (UM:∀Z' U' M',(∀x,E.used x=true->U' x=true/\Z' x=Z x)->(∀b,b<w.heap.size->¬ae c Z E.slots b->¬M' b)->eo Z' U' M' w' pl r):
  ∃Z',(∀x,E.used x=true->Z' x=Z x)/\Z' s=pl/\ai c Z' (E.upd [(s,some r)]) a w':=by
 have XW:∀x,([(s,some r)]:List (Nm×Option Row)).lookup x=if x=s then some (some r)else none:=by
  intro x
  by_cases hx:x=s
  .subst hx;simp[List.lookup]
  .have hb:(x==s)=false:=by simpa using hx
   simp[List.lookup,hb,hx]
 have Tj:∀x,(E.upd [(s,some r)]).slots x=if x=s then some r else E.slots x:=by
  intro x;rw[bM,XW];by_cases hx:x=s<;>simp[hx]
 let Z':Nm->Place:=fun x=>if x=s then pl else Z x
 have hZ:∀x,E.used x=true->Z' x=Z x:=by
  intro x hx
  have:x≠s:=fun e=>by subst e;rw[hu]at hx;simp at hx
  simp[Z',this]
 have hZs:Z' s=pl:=by simp[Z']
 have Yo:∀x y,E.slots x=some y->x≠s:=fun x y WN e=>by
  have:=(h.row x y WN).1;rw[e,hu]at this;simp at this
 have VK:∀b,b<w.heap.size->ae c Z' (E.upd [(s,some r)]).slots b->ae c Z E.slots b:=by
  intro b hlt hM
  rcases hM with hM|⟨x,y,h1,h2,Xg,h3⟩
  .exact .inl hM
  .rw[Tj]at h1
   by_cases hx:x=s
   .subst hx
    simp at h1
    subst h1
    rw[hZs]at h3 Xg
    have:=Wy Xg
    omega
   .simp only[hx,ajS]at h1
    have e:=hZ x (h.row x y h1).1
    exact .inr ⟨x,y,h1,h2,by rw[<-e];exact Xg,by rw[<-e];exact h3⟩
 refine⟨Z',hZ,hZs,h.upd hs X8 Uo UE (fun b hlt=> .inl (hb b hlt)) hZ ?_ ?_ VK ?_⟩
 .intro x y WN
  rw[XW]at WN
  by_cases hx:x=s
  .subst hx
   simp at WN
   subst WN
   rw[hZs]
   refine⟨UM _ _ _ (fun x' hx'=>⟨by rw[bJ,hx',Bool.or_true],hZ x' hx'⟩) (fun b hlt hM US=>hM (VK b hlt US)),fun Tz=>⟨fun _=> .inr (akf h.size (Wy Tz)),.inr fun VM=>by have:=h.m0 _ VM;have:=Wy Tz;have:=h.size;omega⟩⟩
  .simp[hx]at WN
 .intro x x' y y' h1 h2 hm hr1 hr2 he
  rw[Tj]at h1 h2
  by_cases hx:x=s
  .by_cases hx':x'=s
   .rw[hx,hx']
   .simp only[hx',ajS]at h2
    simp only[hx,if_true,ajr]at h1
    subst h1
    rw[hx,hZs]at he hr1
    have e:=hZ x' (h.row x' y' h2).1
    rw[e]at he hr2
    have:=(h.row x' y' h2).2.1.lt hr2
    have:=Wy hr1
    omega
  .simp only[hx,ajS]at h1
   have e:=hZ x (h.row x y h1).1
   rw[e]at he hr1
   by_cases hx':x'=s
   .simp only[hx',if_true,ajr]at h2
    subst h2
    rw[hx',hZs]at he hr2
    have:=(h.row x y h1).2.1.lt hr1
    have:=Wy hr2
    omega
   .simp only[hx',ajS]at h2
    have e':=hZ x' (h.row x' y' h2).1
    rw[e']at he hr2
    exact h.inj x x' y y' h1 h2 hm hr1 hr2 he
 .intro x hf Yb
  rw[XW]at Yb
  by_cases hx:x=s
  .subst hx;rw[hg]at hf;simp at hf
  .simp[hx]at Yb
def ai.set(h:ai c Z E a w){s:Nm}{r r':Row}(Wa:E.slots s=some r)(hm:r.mut=true)(Tz:r.real (Z s)=true)
  (hs:w.heap.size=w'.heap.size) (X8:w'.os=w.os) (Uo:w'.tape=w.tape) (UE:w'.output=w.output)
  (hb:∀b,b≠(Z s).blk->w'.heap[b]?=w.heap[b]?)
  (UM:∀M',(∀b,b<w.heap.size->¬ae c Z E.slots b->¬M' b)->eo Z E.used M' w' (Z s) r'):
  ai c Z (E.upd [(s,some r')]) a w':=by
 have XW:∀x,([(s,some r')]:List (Nm×Option Row)).lookup x=if x=s then some (some r')else none:=by
  intro x
  by_cases hx:x=s
  .subst hx;simp[List.lookup]
  .have hb:(x==s)=false:=by simpa using hx
   simp[List.lookup,hb,hx]
 have Tj:∀x,(E.upd [(s,some r')]).slots x=if x=s then some r' else E.slots x:=by
  intro x;rw[bM,XW];by_cases hx:x=s<;>simp[hx]
 have VI:∀x,(E.upd [(s,some r')]).used x=E.used x:=by
  intro x
  rw[bJ,XW]
  by_cases hx:x=s
  .subst hx;simp[(h.row x r Wa).1]
  .simp[hx]
 have VK:∀b,b<w.heap.size->ae c Z (E.upd [(s,some r')]).slots b->ae c Z E.slots b:=by
  intro b hlt hM
  rcases hM with hM|⟨x,y,h1,h2,Xg,h3⟩
  .exact .inl hM
  .rw[Tj]at h1
   by_cases hx:x=s
   .subst hx;exact .inr ⟨x,r,Wa,hm,Tz,h3⟩
   .simp only[hx,ajS]at h1
    exact .inr ⟨x,y,h1,h2,Xg,h3⟩
 refine h.upd (by omega) X8 Uo UE ?_ (fun _ _=>rfl) ?_ ?_ VK ?_
 .intro b _
  by_cases Xn:b=(Z s).blk
  .exact .inr ⟨s,r,Wa,hm,Tz,Xn.symm,by rw[XW];simp⟩
  .exact .inl (hb b Xn)
 .intro x y WN
  rw[XW]at WN
  by_cases hx:x=s
  .subst hx
   simp at WN
   subst WN
   refine⟨?_,fun _=>⟨fun _=>((h.row x r Wa).2.2 Tz).1 hm,((h.row x r Wa).2.2 Tz).2⟩⟩
   have:(E.upd [(x,some r')]).used=E.used:=funext VI
   rw[this]
   exact UM _ fun b hlt hM US=>hM (VK b hlt US)
  .simp[hx]at WN
 .intro x x' y y' h1 h2 hm' hr1 hr2 he
  rw[Tj]at h1 h2
  by_cases hx:x=s
  .by_cases hx':x'=s
   .rw[hx,hx']
   .simp only[hx',ajS]at h2
    subst hx
    exact h.inj x x' r y' Wa h2 hm Tz hr2 he
  .simp only[hx,ajS]at h1
   by_cases hx':x'=s
   .subst hx'
    exact h.inj x x' y r h1 Wa hm' hr1 Tz he
   .simp only[hx',ajS]at h2
    exact h.inj x x' y y' h1 h2 hm' hr1 hr2 he
 .intro x hf Yb
  rw[XW]at Yb
  by_cases hx:x=s
  .rw[hx];exact(h.row s r Wa).1
  .simp[hx]at Yb
end
section
open Go.RowKit
variable{P:Program}{c:aA}{Z:Nm->Place}{E:aa}{a:Act}{w:World}{o:Oper}
def bc(P:Program)(c:aA)(E:aa)(a:Act)(w:World)(o:Oper)(r:aq):Prop:=
 ∃v w',((execOp a.eval o).run P w= .ok (.value v) w'\/((execOp a.eval o).run P w= .ok .skip w'/\v=undef))/\∃Z',ai c Z' (r.apply o.dst E) (a.put o.dst v) w'
def be{v:Value}{d:DV}{rd:List Nm}(h:ai c Z E a w)(hd:o.dst.all (· <c.n)=true)(Ti:(execOp a.eval o).run P w= .ok (.value v) w)
  (hv:ah Z E.used w (ae c Z E.slots) v d):bc P c E a w o ⟨d,rd,[]⟩:=⟨v,w,.inl Ti,Z,h.put hd hv⟩
def mn{x:Option DV}{r:aq}(hx:jv x=some r):∃d,x=some d/\r=⟨d,[],[]⟩:=by
 cases x with
 |none=>simp[jv]at hx
 |some d=>simp[jv,val]at hx;exact⟨d,rfl,hx.symm⟩
def tZ{M:Nat->Prop}{v:Value}{t:ab}(h:ab.ofVal1 v=some t):aM w M v t/\t.one=true:=by
 unfold ab.ofVal1 at h
 split at h
 .simp at h;subst h;exact⟨.e0,rfl⟩
 .split at h
  .rename_i hp
   simp at h;subst h;exact⟨.v hp,rfl⟩
  .simp at h
def ec{α β:Type}{f:α->Option β}:∀{l:List α} {m:List β},l.mapM f=some m->l.length=m.length/\∀(i:Nat) (x:α) (y:β),l[i]?=some x->m[i]?=some y->f x=some y
 |[],m,h=>by simp at h;subst h;simp
 |x::l,m,h=>by
  simp only[List.mapM_cons,ajP,ajE]at h
  cases hx:f x with
  |none=>simp[hx]at h
  |some y=>
   cases hl:l.mapM f with
   |none=>simp[hx,hl]at h
   |some m'=>
    simp[hx,hl]at h
    subst h
    obtain⟨h1,h2⟩:=ec hl
    refine⟨by simp[h1],fun i x' y' hi hj=>?_⟩
    cases i with
    |zero=>simp at hi hj;subst hi;subst hj;exact hx
    |succ i=>exact h2 i x' y' (by simpa using hi) (by simpa using hj)
def mo{M:Nat->Prop}{v:Value}{t:ab}(h:ab.ofVal v=some t):aM w M v t:=by
 unfold ab.ofVal at h
 split at h
 .rename_i cs
  cases hm:cs.toList.mapM ab.ofVal1 with
  |none=>simp[hm]at h
  |some l=>
   simp[hm]at h
   subst h
   obtain⟨h1,h2⟩:=ec hm
   have e:cs=cs.toList.toArray:=by simp
   rw[e]
   refine .agg h1 (fun t ht=>?_) (fun i v t hv ht=>(tZ (h2 i v t hv ht)).1)
   obtain⟨i,hi,rfl⟩:=ajL ht
   have TU:i<cs.toList.length:=by omega
   exact(tZ (w:=w) (M:=M) (h2 i _ _ (ajq TU) (ajq hi))).2
 .exact(tZ h).1
def ai.ev(h:ai c Z E a w)(x:Operand):ah Z E.used w (ae c Z E.slots) (a.eval x) (E.ev x):=by
 cases x with
 |tmp t=>exact h.tm t
 |const v=>
  show ah Z E.used w _ v (tM v)
  unfold tM
  cases ht:ab.ofVal v with
  |none=>exact .junk
  |some t=>exact .t (mo ht)
 |global g=>
  show ah Z E.used w _ (.pointer (some ⟨g,0,none⟩)) (if E.used (.glob g)=true then .ptr (.glob g) 0 0 else .junk)
  by_cases hg:E.used (.glob g)=true
  .rw[if_pos hg]
   have:=ah.ptr (Z:=Z) (w:=w) (M:=ae c Z E.slots) (s:= .glob g) (k:=0) (j:=0) hg
   rw[h.glob g hg]at this
   simpa using this
  .rw[if_neg hg];exact .junk
 |func f=>
  show ah Z E.used w _ (.func (.func f) #[] #[]) (.fn f [])
  exact ah.fn (vs:=[]) rfl (fun i v d hv=>by simp at hv)
section inv
variable{U:Nm->Bool}{M:Nat->Prop}{v:Value}
def ah.v_inv{x:Value}(h:ah Z U w M v (.t (.v x))):v=x/\b8 x=true:=by
 cases h with|t h=>cases h with|v h=>exact⟨rfl,h⟩
def ah.e0_inv(h:ah Z U w M v (.t .e0)):∃a,v= .slice a 0 0:=by
 cases h with|t h=>cases h with|e0=>exact⟨_,rfl⟩
def ah.ptr_inv{s:Nm}{k j:Nat}(h:ah Z U w M v (.ptr s k j)):v= .pointer (some ⟨(Z s).blk,k*(Z s).m+j,none⟩)/\U s=true:=by
 cases h with|ptr h=>exact⟨rfl,h⟩
def ah.osl_inv{s:Nm}{n:Nat}(h:ah Z U w M v (.osl s n)):∃ad,v= .slice ad n (Z s).cap/\U s=true/\n<=(Z s).cap/\(0<(Z s).cap->ad=some ⟨(Z s).blk,0,none⟩):=by
 cases h with|osl h hn ha=>exact⟨_,rfl,h,hn,ha⟩
def ah.tup_inv{l:List DV}(h:ah Z U w M v (.tup l)):∃vs:List Value,v= .tuple vs.toArray/\vs.length=l.length/\∀(i:Nat) (v:Value) (d:DV),vs[i]?=some v->l[i]?=some d->ah Z U w M v d:=by
 cases h with|tup hl h=>exact⟨_,rfl,hl,h⟩
def ah.sl_inv{m:Nat}{l:List ab}(h:ah Z U w M v (.t (.sl m l))):∃a cap,v= .slice a l.length cap/\aM w M v (.sl m l)/\cap<=maxLen:=by
 cases h with|t h=>cases h with
  |sl0 hc=>exact⟨_,_,rfl,.sl0 hc,hc⟩
  |sl u hM hb hn hc hm hu h1 h=>exact⟨_,_,rfl,.sl u hM hb hn hc hm hu h1 h,hc⟩
def ah.xs_inv{m:Nat}{l:List ab}(h:ah Z U w M v (.xs m l)):∃ad,v= .slice ad l.length l.length/\aM w M v (.sl m l)/\l.length<=maxLen:=by
 cases h with|xs hn h=>
  subst hn
  refine⟨_,rfl,h,?_⟩
  generalize hv:Value.slice _ l.length l.length=v at h
  cases h with
  |sl0 hc=>simp[maxLen]
  |sl u hM hb hn hc hm hu h1 h=>cases hv;exact hc
def ah.ls_inv{m:Nat}{l:List ab}(h:ah Z U w M v (.ls m l)):∃ad,v= .slice ad l.length l.length/\aM w M v (.sl m l)/\l.length<=maxLen:=by
 cases h with|ls hn hM hg h=>
  subst hn
  refine⟨_,rfl,h,?_⟩
  generalize hv:Value.slice _ l.length l.length=v at h
  cases h with
  |sl0 hc=>simp[maxLen]
  |sl u hM hb hn hc hm hu h1 h=>cases hv;exact hc
def ah.asT{d:DV}(h:ah Z U w M v d):ah Z U w M v d.asT:=by
 unfold DV.asT
 split
 .rename_i l
  split
  .rename_i x hx
   simp only[DV.tree?,ajt]at hx
   obtain⟨ts,V9,rfl⟩:=hx
   cases h with
   |agg hl h1 h=>
    rename_i vs
    obtain⟨h2,h3⟩:=ec V9
    have key:∀(i:Nat) (u:Value) (x:ab),vs[i]?=some u->ts[i]?=some x->aM w M u x/\x.one=true:=by
     intro i u x hu hx
     have hi:i<l.length:=by rw[h2];exact(ajs.1 hx).1
     have h4:=h3 i _ x (ajq hi) hx
     have h5:=h i u _ hu (ajq hi)
     generalize l[i]=z at h4 h5
     cases z<;>simp[DV.t1?]at h4
     obtain⟨h6,rfl⟩:=h4
     cases h5 with|t h5=>exact⟨h5,h6⟩
    refine .t (.agg (by omega) (fun t ht=>?_) fun i u x hu hx=>(key i u x hu hx).1)
    obtain⟨i,hi,rfl⟩:=ajL ht
    exact(key i _ _ (ajq (by omega)) (ajq hi)).2
  .exact h
 .exact h
def ah.agg_inv{d:DV}(h:ah Z U w M v d)(hd:d.isAgg=true):∃vs:List Value,v= .agg vs.toArray/\vs.length=d.cells.length/\(∀u∈vs,co u=true)/\
  ∀(i:Nat) (u:Value) (x:DV),vs[i]?=some u->d.cells[i]?=some x->ah Z U w M u x:=by
 cases h with
 |t h=>
  cases h with
  |agg hl h1 h=>
   rename_i vs ts
   refine⟨vs,rfl,by simp[DV.cells,hl],?_,fun i u x hu hx=>?_⟩
   .intro u hu
    obtain⟨i,hi,rfl⟩:=ajL hu
    have TU:i<ts.length:=by omega
    rw[(h i _ _ (ajq hi) (ajq TU)).one]
    exact h1 _ (akA TU)
   .simp only[DV.cells,ajw,ajt]at hx
    obtain⟨t,ht,rfl⟩:=hx
    exact .t (h i u t hu ht)
  |_=>simp[DV.isAgg]at hd
 |agg hl h1 h=>exact⟨_,rfl,hl,h1,h⟩
 |_=>simp[DV.isAgg]at hd
def ah.mk_tagg{vs:List Value}{ts:List ab}(hl:vs.length=ts.length)(h1:∀u∈vs,co u=true)
  (h:∀(i:Nat) (u:Value) (x:ab),vs[i]?=some u->ts[i]?=some x->ah Z U w M u (.t x)):ah Z U w M (.agg vs.toArray) (.t (.agg ts)):=by
 have h':∀(i:Nat) (u:Value) (x:ab),vs[i]?=some u->ts[i]?=some x->aM w M u x:=fun i u x hu hx=>by
  have:=h i u x hu hx;cases this with|t h=>exact h
 refine .t (.agg hl (fun t ht=>?_) h')
 obtain⟨i,hi,rfl⟩:=ajL ht
 have TU:i<vs.length:=by omega
 rw[<-(h' i _ _ (ajq TU) (ajq hi)).one]
 exact h1 _ (akA TU)
def ah.of_cells{vs:List Value}{d:DV}(hd:d.isAgg=true)(hl:vs.length=d.cells.length)(h1:∀u∈vs,co u=true)
  (h:∀(i:Nat) (u:Value) (x:DV),vs[i]?=some u->d.cells[i]?=some x->ah Z U w M u x):ah Z U w M (.agg vs.toArray) d:=by
 cases d with
 |t x=>
  cases x with
  |agg l=>
   refine .mk_tagg (by simpa[DV.cells]using hl) h1 fun i u x hu hx=>h i u (.t x) hu ?_
   simp[DV.cells,hx]
  |_=>simp[DV.isAgg]at hd
 |agg l=>exact .agg hl h1 h
 |_=>simp[DV.isAgg]at hd
def ub{vs:List Value}{d y:DV}{off n:Nat}(hl:vs.length=d.cells.length)(h1:∀u∈vs,co u=true)
  (h:∀(i:Nat) (u:Value) (x:DV),vs[i]?=some u->d.cells[i]?=some x->ah Z U w M u x) (hy:d.part off n true=some y):
  off+n<=vs.length/\ah Z U w M (.agg ((vs.drop off).take n).toArray) y:=by
 unfold DV.part at hy
 simp only[if_true]at hy
 split at hy
 .simp at hy
 .rename_i Vp
  simp at Vp
  split at hy
  .rename_i h0
   obtain⟨rfl,rfl⟩:=h0
   simp at hy
   subst hy
   refine⟨by omega,?_⟩
   have e:(vs.drop 0).take d.cells.length=vs:=by rw[List.drop_zero,<-hl,akg]
   rw[e]
   exact .of_cells Vp hl h1 h
  .split at hy
   .rename_i TK
    refine⟨by omega,?_⟩
    have Tk:((vs.drop off).take n).length=n:=by simp;omega
    have T1:∀u∈(vs.drop off).take n,co u=true:=fun u hu=>h1 u (akn (akm hu))
    have Ty:∀(i:Nat) (u:Value),((vs.drop off).take n)[i]?=some u->i<n/\vs[off+i]?=some u:=by
     intro i u hu
     rw[ajN]at hu
     split at hu
     .rename_i TE;rw[aka]at hu;exact⟨TE,hu⟩
     .simp at hu
    split at hy
    .rename_i l
     simp at hy
     subst hy
     simp only[DV.cells,ajJ]at TK hl
     refine .mk_tagg (by rw[Tk];simp;omega) T1 fun i u x hu hx=>?_
     obtain⟨TE,hu⟩:=Ty i u hu
     rw[ajN,if_pos TE,aka]at hx
     exact h (off+i) u (.t x) hu (by simp[DV.cells,hx])
    .simp at hy
     subst hy
     refine .agg (by rw[Tk];simp;omega) T1 fun i u x hu hx=>?_
     obtain⟨TE,hu⟩:=Ty i u hu
     rw[ajN,if_pos TE,aka]at hx
     exact h (off+i) u x hu hx
   .simp at hy
def uc{vs:List Value}{d y:DV}{off n:Nat}(hl:vs.length=d.cells.length)
  (h:∀(i:Nat) (u:Value) (x:DV),vs[i]?=some u->d.cells[i]?=some x->ah Z U w M u x) (hy:d.part off n false=some y):
  ∃u,vs[off]?=some u/\ah Z U w M u y:=by
 unfold DV.part at hy
 simp at hy
 have hlt:off<d.cells.length:=(ajs.1 hy).1
 exact⟨vs[off]'(by omega),ajq (by omega),h off _ y (ajq (by omega)) hy⟩
end inv
end
end Go.Wt
