/- A part of the proof of a tier statement (the last text closes it): lemmas without condition. -/
import Derived.Test.YteaimhlobmaghaaGreatDoorP09
set_option linter.all false
set_option maxRecDepth 10000000
set_option maxHeartbeats 0
namespace Go.Wt
section
open Go.RowKit
variable{P:Program}{C:aD}{c:aA}{Z:Nm->Place}{E:aa}{a:Act}{w:World}
def rb(P:Program)(C:aD):Prop:=∀(f:FuncId) (ds:List DV) (E0:aa) (Y:aa->List DV->(Bool->aa->Prop)->Prop) (Kf:aa->Prop),C.ri P f ds E0 Y Kf->
 ∃(fn:Func) (code:Code),P.funcs[f]?=some fn/\(fn.name== "runtime.NumGoroutine")=false/\fn.body=some code/\fn.results=#[]/\ds.length+1<=fn.ntmps/\fn.ntmps<=GH/\
  ∀(Rl:aA->aa->Prop),gc Rl fn.ntmps->jH P {C with yl:=Y,pq:=fun _ _=>False} Rl->∀(c:aA) (Z:Nm->Place) (a:Act) (w:World),Rl c E0->ai c Z E0 a w->∀Q:Exit->Act->World->Prop,
   (∀c e E Z a w,Rl c E->((e= .normal\/e= .ret)/\Kf E)->ai c Z E a w->Q e a w)->bV (FW none) 0 P code Q a w
def zm{e e':Exit}(h1:cQ e)(h2:cQ e')(h:dI e=dI e'):e=e':=by
 cases e<;>cases e'<;>simp[dI,cQ]at h h1 h2⊢<;>omega
def H4{e:Exit}(h:cQ e)(ρ:List (Nm×Nm)):(dI e).ren ρ=dI e:=by
 cases e<;>simp[dI,cQ,DV.ren]at h⊢
def zn{e:Exit}(h:cQ e){U:Nm->Bool}{M:Nat->Prop}{v:Value}:ah Z U w M v (dI e):=by
 cases e<;>simp only[cQ]at h<;>exact .wh fun hh=>by cases hh
def H5{e:Exit}(h:cQ e):(cC e).isNone=mh e:=by
 cases e<;>simp[cQ,cC,mh]at h⊢
structure jJ(R:gh)(c:aA):Prop where
 xm:∀b,c.X b->c.M0 b
 lt:∀b,c.M0 b->b<c.w0.heap.size
 size:R.w0.heap.size<=c.w0.heap.size
 os:c.w0.os=R.w0.os
 tape:c.w0.tape=R.w0.tape
 output:c.w0.output=R.w0.output
 old:∀b,b<R.w0.heap.size->¬R.X1 b->c.w0.heap[b]?=R.w0.heap[b]?
 m1:∀b,R.M1 b->¬R.X1 b->c.M0 b
 m2:∀b,b<R.w0.heap.size->c.M0 b->R.M1 b
 x1:∀b,c.X b->R.X1 b\/R.w0.heap.size<=b
 dk:c.w0.heap[R.D]?=some (.deferred (some []))
 dm:¬c.M0 R.D
 lm:c.M0 R.L
 lx:¬c.X R.L
def jJ.lk{R:gh}(hB:jJ R c)(h:SimW c Z E w):w.heap[R.L]?=c.w0.heap[R.L]?:=h.old _ (hB.lt _ hB.lm) hB.lx
def jJ.rest{R:gh}(hm1:∀b,R.M1 b->b<R.w0.heap.size)(hB:jJ R c)(h:SimW c Z E w):
  Rest {R with pin:=c.pin} E Z w (ae c Z E.slots) (fun b=>Own Z E.slots b\/b=R.L):=by
 have hlt:∀b,ae c Z E.slots b->b<w.heap.size:=by
  rintro b (⟨h1,_⟩|h1)
  .exact ajY (h.m0 b h1) h.size
  .exact h.own_lt h1
 have aas:R.D<c.w0.heap.size:=(ajy.1 hB.dk).1
 have hDX:¬c.X R.D:=fun hx=>hB.dm (hB.xm _ hx)
 refine⟨?_,fun b=>Iff.rfl,?_,hlt,akf hB.size h.size,h.os.trans hB.os,h.tape.trans hB.tape,h.output.trans hB.output,fun b hb hx=>?_,fun b hb hx=>?_,fun b hb hm=>?_,fun b hb=>?_,?_,?_⟩
 .have hw:∀b,b<w.heap.size->¬ae c Z E.slots b->w.heap[b]?=w.heap[b]?/\¬ae (cw w (ae c Z E.slots) (Own Z E.slots) R.n c.pin) Z E.slots b:=by
   intro b _ hb
   refine⟨rfl,?_⟩
   rintro(⟨h1,_⟩|h1)
   .exact hb h1
   .exact hb (.inr h1)
  refine h.move (c':=cw w (ae c Z E.slots) (Own Z E.slots) R.n c.pin) (w':=w) rfl (ajz _) (ajz _) rfl rfl rfl (fun _ _ _=>rfl) hlt hw (fun s r hs Tz=>⟨rfl,fun Us=> .inl ⟨s,r,hs,Us,Tz,rfl⟩,?_⟩) (h.lay_to fun b hb hM=>⟨rfl,fun hx=>hM (.inr hx),fun h0=>hM h0⟩)
  by_cases Us:r.mut=true
  .exact .inl ⟨s,r,hs,Us,Tz,rfl⟩
  .exact .inr (h.frozen_nm hs Us Tz)
 .rintro b (hb|hb)
  .exact .inr hb
  .subst hb;exact .inl ⟨hB.lm,hB.lx⟩
 .rw[h.old b (ajY hb hB.size) fun VS=>by
   rcases hB.x1 b VS with h1|h1
   .exact hx h1
   .have h1:R.w0.heap.size<=b:=h1
    have hb:b<R.w0.heap.size:=hb
    omega]
  exact hB.old b hb hx
 .refine .inl ⟨hB.m1 b hb hx,fun VS=>?_⟩
  rcases hB.x1 b VS with h1|h1
  .exact hx h1
  .have:=hm1 b hb;omega
 .rcases hm with⟨h1,_⟩|h1
  .exact hB.m2 b hb h1
  .rcases h.own_x h1 with h2|h2
   .exact hB.m2 b hb (hB.xm b h2)
   .have:=hB.size;have hb:b<R.w0.heap.size:=hb;omega
 .rcases h.own_x hb with h2|h2
  .exact hB.x1 b h2
  .exact .inr (akf hB.size h2)
 .show w.heap[R.D]?=_
  rw[h.old _ aas hDX]
  exact hB.dk
 .rintro(⟨h1,_⟩|h1)
  .exact hB.dm h1
  .rcases h.own_x h1 with h2|h2
   .exact hDX h2
   .have h2:c.w0.heap.size<=R.D:=h2;omega
def Rest.baseOk{R:gh}{M O:Nat->Prop}(h:Rest R E Z w M O)(hnl:¬Own Z E.slots R.L)(n:Nat)(dl:Option Nat):jJ R ⟨w,M,Own Z E.slots,n,R.pin,dl⟩ where
 xm b hb:=h.oM b ((h.o b).2 (.inl hb))
 lt:=h.lt
 size:=h.size
 os:=h.os
 tape:=h.tape
 output:=h.output
 old:=h.old
 m1:=h.m1
 m2:=h.m2
 x1:=h.x1
 dk:=h.dk
 dm:=h.dm
 lm:=h.oM _ ((h.o _).2 (.inr rfl))
 lx:=hnl
def SimW.repin(h:SimW c Z E w){pin':Nm->Place}(hp:∀s,s.fixed=true->E.used s=true->pin' s=c.pin s)(Yb:∀g,pin' (.glob g)=⟨g,0,0⟩)(n:Nat)(dl:Option Nat):SimW {c with pin:=pin',n:=n,dl:=dl} Z E w:=
 ⟨h.size,h.os,h.tape,h.output,h.old,h.m0,h.row,h.inj,fun s hf hu=>(h.fix s hf hu).trans (hp s hf hu).symm,⟨Yb,fun p hp=>h.gl.2 p hp⟩⟩
def rc{ρ:List (Nm×Nm)}{s:Nm}:(E.canon ρ).used s=true↔s∈ρ.map (·.2):=by
 rw[(fA E ρ).1]
 simp
def SimW.addYl(h:SimW c Z E w)(hs:E.slots .yl=none)(hu:E.used .yl=false)(pl:Place)(n:Nat)(dl:Option Nat)(tm:Nat->DV):
  SimW {c with pin:=fun s=>if s= .yl then pl else c.pin s,n:=n,dl:=dl} (fun s=>if s= .yl then pl else Z s) ⟨tm,E.slots,fun s=>decide (s= .yl)||E.used s⟩ w/\
   (∀v d,ah Z E.used w (ae c Z E.slots) v d->ah (fun s=>if s= .yl then pl else Z s) (fun s=>decide (s= .yl)||E.used s) w (ae c (fun s=>if s= .yl then pl else Z s) E.slots) v d)/\
   (∀b,ae c (fun s=>if s= .yl then pl else Z s) E.slots b↔ae c Z E.slots b):=by
 have hZ:∀s r,E.slots s=some r->(if s= .yl then pl else Z s)=Z s:=by
  intro s r hr
  rw[if_neg (fun e=>by subst e;rw[hs]at hr;cases hr)]
 have hM:∀b,ae c (fun s=>if s= .yl then pl else Z s) E.slots b↔ae c Z E.slots b:=by
  intro b
  constructor
  .rintro(h1|⟨s,r,h1,h2,h3,h4⟩)
   .exact .inl h1
   .have h3:r.real (if s= .yl then pl else Z s)=true:=h3
    have h4:(if s= .yl then pl else Z s).blk=b:=h4
    rw[hZ s r h1]at h3 h4;exact .inr ⟨s,r,h1,h2,h3,h4⟩
  .rintro(h1|⟨s,r,h1,h2,h3,h4⟩)
   .exact .inl h1
   .exact .inr ⟨s,r,h1,h2,by show r.real (if s= .yl then pl else Z s)=true;rw[hZ s r h1];exact h3,by show(if s= .yl then pl else Z s).blk=b;rw[hZ s r h1];exact h4⟩
 have hU:∀s,E.used s=true->(decide (s= .yl)||E.used s)=true/\(if s= .yl then pl else Z s)=Z s:=by
  intro s VI
  refine⟨by rw[VI,Bool.or_true],if_neg fun e=>by subst e;rw[hu]at VI;cases VI⟩
 refine⟨⟨h.size,h.os,h.tape,h.output,h.old,h.m0,fun s r hr=>?_,fun s s' r r' h1 h2 hm hr1 hr2 he=>?_,fun s hf VI=>?_,⟨fun g=>by simpa using h.gl.1 g,fun p hp=>h.gl.2 p hp⟩⟩,fun v d hv=>hv.mono (ajz _) (fun b _ hb=>⟨rfl,fun TR=>hb ((hM b).1 TR)⟩) hU,hM⟩
 .obtain⟨h1,h2,h3⟩:=h.row s r hr
  show(decide (s= .yl)||E.used s)=true/\eo _ _ (ae c (fun s=>if s= .yl then pl else Z s) E.slots) w (if s= .yl then pl else Z s) r/\(r.real (if s= .yl then pl else Z s)=true->_)
  rw[hZ s r hr]
  exact⟨(hU s h1).1,h2.mono (ajz _) (fun b _ hb=>⟨rfl,fun TR=>hb ((hM b).1 TR)⟩) hU (fun _=>rfl),h3⟩
 .simp only[hZ s r h1,hZ s' r' h2]at hr1 hr2 he
  exact h.inj s s' r r' h1 h2 hm hr1 hr2 he
 .by_cases hy:s= .yl
  .subst hy;simp
  .simp only[hy,ajS]
   refine h.fix s hf ?_
   simpa[hy]using VI
def H6(Y7:rb P C){ca cb:Code}{sa sb:ac}(hA:∀L,lh P C c.n L ca sa)(hB:∀L,lh P C c.n L cb sb){g:Operand}{ps:List Nat}(hpn:ps.all (· <c.n)=true)(Uv:∃l,c.dl=some l/\l<=c.w0.heap.size)
  {K:Exit->aa->Prop} {Q:Exit->Act->World->Prop} (h:ai c Z E a w) (hK:∀e ups Z' a' w',K e (E.upd ups)->ai c Z' (E.upd ups) a' w'->Q e a' w')
  {f:FuncId} {caps:List DV} {F S:List Nm} {k:Ct} {d:Nat} (h1:E.ev g= .fn f caps) (hm:cL E caps k S F) (hri:C.ri P f k.ds (jz k) (qG P C E S k ps sa sb) (mj E S F k d K)):
  bV (FW none) 0 P (Code.rangeFunc g ps.toArray ca cb) Q a w:=by
 obtain⟨XN,adM,hfI,ae0,hbI,acH,agv,ah1,aa7⟩:=Y7 _ _ _ _ _ hri
 have Wn:∀s∈F,E.used s=true:=fun s hs=>by
  obtain⟨r,hr⟩:=akb.1 (hm.fu s hs)
  exact(h.row s r hr).1
 have VF:ai c Z (E.upd (am E F)) a w:=h.freeze Wn
 have Ut:=hm.goes
 obtain⟨Z3,Wb,WI⟩:=VF.toSimW.enter Ut
 have Ug:SimW (cS c Z (E.upd (am E F)) w (aL S k.gs)) (bS Z (aL S k.gs)) k.env w:=Z3.congr hm.slots hm.used
 rw[hm.slots,hm.used]at Wb
 rw[hm.slots]at WI
 have YV:∀b,ae c Z (E.upd (am E F)).slots b->ae c Z E.slots b:=by
  rintro b (hb|⟨s,r,h4,h5,h6,h7⟩)
  .exact .inl hb
  .obtain⟨r0,h8,h9⟩:=eL h4
   rcases h9 with rfl|rfl
   .exact .inr ⟨s,r,h8,h5,h6,h7⟩
   .rw[dU]at h5;simp at h5
 have hF:∀s∈F,∀r,E.slots s=some r->r.real (Z s)=true->¬ae c Z (E.upd (am E F)).slots (Z s).blk:=by
  rintro s hs r Tj Tz (⟨TZ,Uu⟩|⟨s2,r2,h4,h5,h6,h7⟩)
  .exact((h.row s r Tj).2.2 Tz).2.elim Uu (fun hh=>hh TZ)
  .obtain⟨r0,h8,h9⟩:=eL h4
   rcases h9 with rfl|rfl
   .have:=h.inj s2 s r2 r h8 Tj h5 h6 Tz h7
    subst this
    rw[bM,fB,if_pos hs]at h4
    simp only[ajt]at h4
    obtain⟨y,_,UI⟩:=h4
    rw[<-UI,dU]at h5
    simp at h5
   .rw[dU]at h5;simp at h5
 have Ww:∀b,ae c Z (E.upd (am E F)).slots b->b<w.heap.size:=by
  rintro b (⟨hb,_⟩|hb)
  .exact ajY (VF.m0 b hb) VF.size
  .exact VF.toSimW.own_lt hb
 have hXo:∀b,(cS c Z (E.upd (am E F)) w (aL S k.gs)).X b->Own (bS Z (aL S k.gs)) k.env.slots b:=by
  rintro b ⟨s,s',r,g1,g2,g3,g4,g5⟩
  refine⟨s',r.ren (aL S k.gs),?_,by rw[ko];exact g3,?_,?_⟩
  .rw[<-hm.slots];exact Ut.slot' g1 g2
  .rw[ic,Ut.pl VF.toSimW g1];exact g4
  .rw[Ut.pl VF.toSimW g1];exact g5
 have hx:=h.ev g
 rw[h1]at hx
 generalize Yx:a.eval g=gv at hx
 cases hx with
 |fn hl hp=>
 rename_i vs
 refine zh fun fn hfn Yc=>?_
 obtain⟨rec,Ua⟩:∃rec:Loop,rec={state:= .ready,pending:=none,fn,tmps:=a.tmps,params:=ps.toArray,assign:=ca,body:=cb,defers:=w.heap.size}:=⟨_,rfl⟩
 obtain⟨W1,XL⟩:∃W1,W1=(w.alloc (.deferred (some []))).alloc (.loop rec):=⟨_,rfl⟩
 have aeM:W1.heap.size=w.heap.size+2:=by rw[XL];simp
 have U4:∀b,b<w.heap.size->W1.heap[b]?=w.heap[b]?:=by
  intro b hb
  rw[XL,ako _ _ (by simp;omega),ako _ _ hb]
 have hL1:W1.heap[w.heap.size+1]?=some (.loop rec):=by
  rw[XL]
  have:=heap_alloc_new (w.alloc (.deferred (some []))) (.loop rec)
  simpa using this
 have hD1:W1.heap[w.heap.size]?=some (.deferred (some [])):=by
  rw[XL,ako _ _ (by simp),heap_alloc_new]
 let R:gh:=⟨w,ae c Z (E.upd (am E F)).slots,(cS c Z (E.upd (am E F)) w (aL S k.gs)).X,c.n,bS Z (aL S k.gs),w.heap.size+1,w.heap.size⟩
 have hR:pk R W1:=⟨Ww,Nat.le_succ _,ajz _,by show w.heap.size+1≠w.heap.size;omega,by show w.heap.size<=_;omega,by show w.heap.size<_;omega,fun p hp=>Ug.gl.2 p hp⟩
 have Vi:∀b,ae c Z (E.upd (am E F)).slots b->ae (cS c Z (E.upd (am E F)) w (aL S k.gs)) (bS Z (aL S k.gs)) k.env.slots b:=by
  intro b hb
  by_cases hX:(cS c Z (E.upd (am E F)) w (aL S k.gs)).X b
  .exact .inr (hXo b hX)
  .exact .inl ⟨hb,hX⟩
 let dN:Exit->Loop:=fun e=>{rec with state:=if(cC e).isNone then .ready else .done,pending:=cC e}
 have aaG:dN .normal=rec:=by
  show({rec with state:=if(cC .normal).isNone then .ready else .done,pending:=cC .normal}:Loop)=rec
  rw[Ua];rfl
 let c1:aA:=⟨W1,fun b=>ae c Z (E.upd (am E F)).slots b\/b=w.heap.size+1,Own (bS Z (aL S k.gs)) k.env.slots,XN.ntmps,bS Z (aL S k.gs),none⟩
 have aaJ:∀b,ae c1 (bS Z (aL S k.gs)) k.env.slots b->b=w.heap.size+1\/ae (cS c Z (E.upd (am E F)) w (aL S k.gs)) (bS Z (aL S k.gs)) k.env.slots b:=by
  rintro b (⟨g1|g1,_⟩|g1)
  .exact .inr (Vi b g1)
  .exact .inl g1
  .exact .inr (.inr g1)
 have acC:SimW c1 (bS Z (aL S k.gs)) k.env W1:=by
  refine Ug.move rfl (by omega) (ajz _) rfl rfl rfl (fun _ _ _=>rfl) ?_ (fun b hb hM=>⟨U4 b hb,?_⟩) (fun s r hs Tz=>?_) (Ug.lay_to fun b hb hM=>⟨U4 b hb,fun hx=>hM (.inr hx),fun h0=>by
   rcases h0 with g1|g1
   .exact hM (Vi b g1)
   .omega⟩)
  .rintro b (hb|hb)
   .have:=Ww b hb;show b<W1.heap.size;omega
   .show b<W1.heap.size;omega
  .intro g1
   rcases aaJ b g1 with g1|g1
   .omega
   .exact hM g1
  .have hlt:=(Ug.row s r hs).2.1.lt Tz
   refine⟨U4 _ hlt,fun Us=> .inl ⟨s,r,hs,Us,Tz,rfl⟩,?_⟩
   by_cases Us:r.mut=true
   .exact .inl ⟨s,r,hs,Us,Tz,rfl⟩
   .refine .inr ?_
    rintro(g1|g1)
    .exact Ug.frozen_nm hs Us Tz (Vi _ g1)
    .omega
 obtain⟨acB,Yq,agt⟩:=acC.addYl (by cases hq:k.env.slots .yl with|none=>rfl|some r=>have:=(Ug.row _ _ hq).1;simp[Ct.env,Ct.used0]at this) (by simp[Ct.env,Ct.used0]) ⟨w.heap.size+1,0,0⟩ XN.ntmps none (jz k).tmps
 have T4:jJ R c1:=by
  refine⟨?_,?_,by show w.heap.size<=W1.heap.size;omega,by show W1.os=w.os;rw[XL];rfl,by show W1.tape=w.tape;rw[XL];rfl,by show W1.output=w.output;rw[XL];rfl,fun b hb _=>U4 b hb,fun b hb _=> .inl hb,?_,fun b hb=>Ug.own_x hb,hD1,?_,.inr rfl,?_⟩
  .intro b hb;exact .inl (WI b (.inr hb))
  .rintro b (hb|hb)
   .have:=Ww b hb;show b<W1.heap.size;omega
   .show b<W1.heap.size;omega
  .rintro b hb (g1|g1)
   .exact g1
   .have hb:b<w.heap.size:=hb;omega
  .rintro(g1|g1)
   .exact absurd (Ww _ g1) (Nat.lt_irrefl _)
   .have g1:w.heap.size=w.heap.size+1:=g1
    omega
  .intro g1
   have:=Ug.own_lt g1
   have this:w.heap.size+1<w.heap.size:=this
   omega
 let Rl:aA->aa->Prop:=fun c' E'=>c'.n=XN.ntmps/\c'.dl=none/\c'.pin .yl=⟨w.heap.size+1,0,0⟩/\(∀s,k.env.used s=true->c'.pin s=bS Z (aL S k.gs) s)/\jJ R c'/\
  ∃e,cQ e/\E'.tmps GH=dI e/\c'.w0.heap[w.heap.size+1]?=some (.loop (dN e))
 have TG:gc Rl XN.ntmps:=by
  refine⟨fun c' E' hh=>hh.1,fun c' E' l hh hl=>(by rw[hh.2.1]at hl;cases hl),fun c' E' dst d' hh VO=>?_,fun c' E' ups hh=>hh,fun c' E' ρ hh=>?_⟩
  .obtain⟨q1,q2,q3,q4,q5,e,q6,q7,q8⟩:=hh
   refine⟨q1,q2,q3,q4,q5,e,q6,?_,q8⟩
   cases dst with
   |none=>exact q7
   |some t=>
    simp at VO
    show(if GH=t then d' else E'.tmps GH)=_
    rw[if_neg (by omega)];exact q7
  .obtain⟨q1,q2,q3,q4,q5,e,q6,q7,q8⟩:=hh
   refine⟨q1,q2,q3,q4,q5,e,q6,?_,q8⟩
   show(E'.tmps GH).ren ρ=_
   rw[q7,H4 q6]
 have hYS:jH P {C with yl:=qG P C E S k ps sa sb,pq:=fun _ _=>False} Rl:=by
  intro c' ZI EI aI wI ds us Kb Z0 hs X6 hu XV hur
  obtain⟨q1,q2,q3,q4,q5,e,q6,q7,q8⟩:=Z0
  obtain⟨y1,y2,y3,ρ,y4,y5⟩:=X6
  have he:e= .normal:=zm q6 trivial (q7.symm.trans y1)
  subst he
  rw[aaG]at q8
  obtain⟨Xq,ZB,b1,b2,b3,b4⟩:=Hh hs y4
  have adl:∀p∈ρ,p.2.fixed=true:=by
   intro p hp
   rcases y4.ok p hp with⟨z1,z2⟩|⟨_,z2⟩
   .rw[<-z1];exact z2
   .cases hp2:p.2<;>rw[hp2]at z2<;>first|rfl|(simp[Nm.isArg]at z2)
  have hq5:jJ R {c' with pin:=Xq}:=⟨q5.xm,q5.lt,q5.size,q5.os,q5.tape,q5.output,q5.old,q5.m1,q5.m2,q5.x1,q5.dk,q5.dm,q5.lm,q5.lx⟩
  have T2:=jJ.rest hR.m1 hq5 b1.toSimW
  have aaH:∀s,k.env.used s=true->Xq s=bS Z (aL S k.gs) s:=fun s TO=>(b4 s (qZ k s TO) (y2 s TO)).trans (q4 s TO)
  have acN:Xq .yl=⟨w.heap.size+1,0,0⟩:=(b4 .yl rfl hu).trans q3
  have hlI:wI.heap[w.heap.size+1]?=some (.loop rec):=(q5.lk hs.toSimW).trans q8
  have hl:(ZI .yl).blk=w.heap.size+1:=by rw[hs.fix .yl rfl hu,q3]
  have hOL:¬Own ZB (EI.canon ρ).slots (w.heap.size+1):=b1.toSimW.noloop' hlI
  have T9:=zk (R:={R with pin:=Xq}) (w1:=W1) ⟨hR.m1,hR.L,hR.D,hR.LD,hR.sz,hR.Dw,fun p hp=>hR.lay p hp⟩ (hA _) (hB _) (rec:=rec) (by rw[Ua]) (by rw[Ua]) (by rw[Ua]) (ps:=ps) (by rw[Ua]) hpn (f0:=fun t=>(E.tmps t).ren (aL S k.gs)) (U0:=k.env.used) (qZ k)
   (by rw[Ua];exact h.sz) (fun t=>?_) (fun b hb=>WI b (.inr (hXo b hb))) T2 (fun s TO=>?_) hlI (us:=us) (x:=ds.map (DV.ren ρ)) (XV.trans y3) (by simpa using y3) (fun j v t hv ht=>?_)
   (KK:=fun e E3=>cQ e/\∃ρ',bw ρ'=true/\(∀p∈ρ,(p.2,p.2)∈ρ')/\Kb (mh e) ⟨fun t=>if t=GH then dI e else(EI.tmps t).ren ρ,(E3.canon ρ').slots,(E3.canon ρ').used⟩)
   (G:=fun e E4=>(∀p∈ρ,E4.used p.2=true)/\Kb (mh e) ⟨fun t=>if t=GH then dI e else(EI.tmps t).ren ρ,E4.slots,E4.used⟩) (q:=fun _ _=>False) (Gp:=fun _ _=>False) (by rw[Ua];exact Yc) (fun _ _ hf=>hf.elim) (fun e E3 hk=>?_) y5
  .obtain⟨fn',tmps,asg,bd,z1,z2⟩:=T9
   rw[hl]
   refine⟨fn',tmps,asg,bd,z1,z2.mono fun e w2 he=>?_⟩
   obtain⟨M2,O2,mv,he⟩:=he
   rcases he with⟨ex,E4,Z3,⟨g1,g2⟩,hr4,rfl,UE,hl4⟩|⟨_,_,_,_,hf,_⟩
   rotate_left
   .exact hf.elim
   left
   have hl4:w2.heap[w.heap.size+1]?=some (.loop (dN ex)):=hl4
   have hnl:¬Own Z3 E4.slots (w.heap.size+1):=hr4.sim.noloop' hl4
   have Yp:(if GH=GH then dI ex else(EI.tmps GH).ren ρ)=dI ex:=if_pos rfl
   have hM4:∀b,ae ⟨w2,M2,Own Z3 E4.slots,XN.ntmps,Xq,none⟩ Z3 E4.slots b↔M2 b:=fun b=>hr4.mutM
   refine⟨mh ex,⟨w2,M2,Own Z3 E4.slots,XN.ntmps,Xq,none⟩,Z3,_,by rw[H5 UE],g2,⟨rfl,rfl,acN,aaH,?_,ex,UE,Yp,hl4⟩,⟨?_,fun t=>?_,by rw[hs.sz,q1],?_⟩⟩
   .have:=hr4.baseOk hnl XN.ntmps none
    exact⟨this.xm,this.lt,this.size,this.os,this.tape,this.output,this.old,this.m1,this.m2,this.x1,this.dk,this.dm,this.lm,this.lx⟩
   .exact(hr4.sim.repin (pin':=Xq) (fun _ _ _=>rfl) hr4.sim.gl.1 XN.ntmps none).congr rfl rfl
   .show ah Z3 E4.used w2 (ae ⟨w2,M2,Own Z3 E4.slots,XN.ntmps,Xq,none⟩ Z3 E4.slots) _ (if t=GH then dI ex else(EI.tmps t).ren ρ)
    by_cases Yn:t=GH
    .rw[if_pos Yn];exact zn UE
    .rw[if_neg Yn]
     refine(b1.tm t).mono mv.size (fun b hb hM=>?_) (fun s VI=>?_)
     .have hO:¬(Own ZB (EI.canon ρ).slots b\/b=w.heap.size+1):=fun ho=>hM (T2.oM b ho)
      refine⟨mv.keep b hb hO,fun US=>?_⟩
      rcases(mv.all b).1 ((hM4 b).1 US)with z|z
      .exact hM z.1
      .rcases mv.own b z with z|z
       .exact hO z
       .omega
     .obtain⟨p,hp,rfl⟩:=ajI.1 (rc.1 VI)
      have hf:=adl p hp
      have hu4:=g1 p hp
      exact⟨hu4,(hr4.sim.fix _ hf hu4).trans (b3 _ hf).symm⟩
   .obtain⟨bs,d1,d2,d3⟩:=hs.df
    cases bs with
    |nil=>exact⟨[],d1,by simp,by simp⟩
    |cons b bs=>
     obtain⟨l,d4,_⟩:=(d3 b ajK).1
     rw[q2]at d4;cases d4
  .have e1:rec.tmps=a.tmps:=by rw[Ua]
   rw[e1]
   refine(VF.tm t).ren (fun b hb=>hb) (fun s s' TO VI=>?_) Ut.hy
   have hU0:k.env.used s'=true:=by
    rw[<-hm.used]
    exact Ut.usd.2 ⟨s,et TO⟩
   exact⟨hU0,(aaH s' hU0).trans (Ut.pl VF.toSimW (et TO))⟩
  .obtain⟨s',hm'⟩:=y4.cov s (y2 s TO)
   have YK:s=s':=by
    rcases y4.ok _ hm' with⟨z1,_⟩|⟨z1,_⟩
    .exact z1
    .have z1:s.fixed=false:=z1
     rw[qZ k s TO]at z1;cases z1
   subst YK
   exact rc.2 (ajI.2 ⟨_,hm',rfl⟩)
  .rw[ajw,ajt]at ht
   obtain⟨t0,ht0,rfl⟩:=ht
   exact b2 v t0 (hur j v t0 hv ht0)
  .obtain⟨k1,ρ',k2,k3,k4⟩:=hk
   refine⟨k1,ρ',k2,fun p hp=>rc.2 (ajI.2 ⟨_,k3 p hp,rfl⟩),k4⟩
 refine⟨w.heap.size+1,[{target:= .collected w.heap.size,args:=#[]}],W1,{target:= .fn (.func f) vs.toArray,args:=#[.func (.yield (w.heap.size+1)) #[] #[]]},W1,f,
  #[.func (.yield (w.heap.size+1)) #[] #[]]++vs.toArray,W1,?_,?_,fun _ _=>trivial,?_,fun h=>by simp[FW,Fence.wide]at h,?_⟩
 .rw[XL,Ua];exact run_enterLoop_outer _ _ _ _ _
 .simp only[resolve,Yx]
  simp[Deferred.ofValue,Act.eval]
 .simp[invoke,kX ⟨XN,adM,hfI,ae0,hbI⟩]
 .have Ye:Calls P f (#[.func (.yield (w.heap.size+1)) #[] #[]]++vs.toArray) W1 fun e w'=>∃v,e= .returned v/\∃c' E' Z' a',Rl c' E'/\mj E S F k d K E'/\ai c' Z' E' a' w':=by
   refine callsIn_wide (n:=0).1 (zi hfI hbI trivial ?_)
   have W6:vs.length=k.ds.length:=hl.trans hm.la
   have hA1:ai {c1 with pin:=fun s=>if s= .yl then⟨w.heap.size+1,0,0⟩else c1.pin s,n:=XN.ntmps,dl:=none} (fun s=>if s= .yl then⟨w.heap.size+1,0,0⟩else bS Z (aL S k.gs) s) (jz k)
     {tmps:=(#[Value.func (.yield (w.heap.size+1)) #[] #[]]++vs.toArray)++Array.replicate (XN.ntmps-(#[Value.func (.yield (w.heap.size+1)) #[] #[]]++vs.toArray).size) undef,defers:=[]} W1:=by
    refine⟨acB.congr rfl rfl,fun t=>?_,?_,[],rfl,by simp,by simp⟩
    .show ah _ (jz k).used W1 (ae c1 (fun s=>if s= .yl then⟨w.heap.size+1,0,0⟩else bS Z (aL S k.gs) s) k.env.slots) _ (if t=GH then dI .normal else match t with|0=> .yl|t+1=>k.ds.getD t .junk)
     by_cases Yn:t=GH
     .rw[if_pos Yn];exact zn (e:=Exit.normal) trivial
     .rw[if_neg Yn]
      cases t with
      |zero=>
       have:((#[Value.func (.yield (w.heap.size+1)) #[] #[]]++vs.toArray)++Array.replicate (XN.ntmps-(#[Value.func (.yield (w.heap.size+1)) #[] #[]]++vs.toArray).size) undef).getD 0 undef= .func (.yield (w.heap.size+1)) #[] #[]:=by
        rw[ajM,akv,akv]
        simp
       rw[this]
       have:=ah.yl (Z:=fun s=>if s= .yl then⟨w.heap.size+1,0,0⟩else bS Z (aL S k.gs) s) (U:=(jz k).used) (w:=W1) (M:=ae c1 (fun s=>if s= .yl then⟨w.heap.size+1,0,0⟩else bS Z (aL S k.gs) s) k.env.slots) (by simp[jz])
       simpa using this
      |succ t=>
       show ah _ _ _ _ _ (k.ds.getD t .junk)
       by_cases ht:t<vs.length
       .have Xi:t<k.ds.length:=by omega
        have htc:t<caps.length:=by rw[hm.la];exact Xi
        have e1:((#[Value.func (.yield (w.heap.size+1)) #[] #[]]++vs.toArray)++Array.replicate (XN.ntmps-(#[Value.func (.yield (w.heap.size+1)) #[] #[]]++vs.toArray).size) undef).getD (t+1) undef=vs[t]:=by
         rw[ajM,akv,akv]
         have h1:t+1<(#[Value.func (.yield (w.heap.size+1)) #[] #[]]++vs.toArray).size:=by simp;omega
         rw[if_pos h1]
         simp[ht]
        have e2:k.ds.getD t .junk=k.ds[t]:=by simp[Xi]
        rw[e1,e2]
        refine Yq _ _ ?_
        have YH:=hp t _ _ (ajq ht) (ajq htc)
        have Z3:ah (bS Z (aL S k.gs)) k.env.used w (ae (cS c Z (E.upd (am E F)) w (aL S k.gs)) (bS Z (aL S k.gs)) k.env.slots) vs[t] k.ds[t]:=by
         rcases hm.ar t _ _ (ajq htc) (ajq Xi)with hq|⟨x,rd,x',h4,TK,hq,h5⟩
         .rw[hq]
          exact Wb _ _ (YH.mono (ajz _) (fun b _ hb=>⟨rfl,fun TR=>hb (YV b TR)⟩) (fun s hu=>⟨by rw[bJ,hu,Bool.or_true],rfl⟩))
         .rw[hq]
          refine .t ((h.toSimW.view (fun b hb=>YV b (WI b hb)) YH h4 fun s hs hcap hb=>?_).le TK)
          obtain⟨e,m,l,fz,Tj⟩:=ia h4 s hs
          exact hF s (h5 s hs) _ Tj (by simpa[Row.real]using hcap) (WI _ hb)
        refine Z3.mono (by omega) (fun b hb hM=>⟨U4 b hb,fun US=>?_⟩) (fun _ hu=>⟨hu,rfl⟩)
        rcases aaJ b US with g1|g1
        .omega
        .exact hM g1
       .have e2:k.ds.getD t .junk= .junk:=by
         rw[aj5,aj2 (by omega)];rfl
        rw[e2]
        exact .junk
    .show(_:Array Value).size=XN.ntmps
     simp;omega
   have aby:Rl {c1 with pin:=fun s=>if s= .yl then⟨w.heap.size+1,0,0⟩else c1.pin s,n:=XN.ntmps,dl:=none} (jz k):=by
    refine⟨rfl,rfl,by simp,fun s TO=>?_,?_,Exit.normal,(trivial:cQ .normal),?_,(by rw[aaG];exact hL1)⟩
    .show(if s= .yl then _ else _)=_
     rw[if_neg (fun e=>by subst e;simp[Ct.env,Ct.used0]at TO)]
    .exact⟨T4.xm,T4.lt,T4.size,T4.os,T4.tape,T4.output,T4.old,T4.m1,T4.m2,T4.x1,T4.dk,T4.dm,T4.lm,T4.lx⟩
    .show(if GH=GH then dI .normal else .junk)=dI .normal
     rw[if_pos rfl]
   refine aa7 Rl TG hYS _ _ _ W1 aby hA1 _ (fun c' e E' Z' a' w' Z0 hk TO=>?_)
   .have Xy:a'.defers=[]:=by
     obtain⟨bs,d1,_,d2⟩:=TO.df
     cases bs with
     |nil=>exact d1
     |cons b bs=>
      obtain⟨l,d3,_⟩:=(d2 b ajK).1
      rw[Z0.2.1]at d3;cases d3
    have Xw:a'.defers=[]/\∃v,(results XN a'.tmps).run P w'= .ok v w'/\∃v',Ending.returned v= .returned v'/\∃c' E' Z' a',Rl c' E'/\mj E S F k d K E'/\ai c' Z' E' a' w':=by
     refine⟨Xy,.tuple #[],?_,_,rfl,c',E',Z',a',Z0,hk.2,TO⟩
     simp[results,acH]
    rcases hk.1 with rfl|rfl
    .exact Xw
    .exact Xw
  refine(callsIn_wide (n:=0-1).2 Ye).mono fun e w' he=>?_
  obtain⟨v,rfl,c',E',Z',a',Z0,hk,TO⟩:=he
  obtain⟨q1,q2,q3,q4,q5,e,q6,q7,q8⟩:=Z0
  obtain⟨ex,k',ρ,k1,k2,k3,k4,k5,k6,k7⟩:=hk
  have Yc:ex=e:=zm k1 q6 (k2.symm.trans q7)
  subst Yc
  have XW:w'.heap[w.heap.size+1]?=some (.loop (dN ex)):=(q5.lk TO.toSimW).trans q8
  have T2:=jJ.rest hR.m1 q5 TO.toSimW
  have aa6:(dN ex).state≠.busy:=by
   show(if(cC ex).isNone then LoopState.ready else LoopState.done)≠.busy
   split<;>simp
  refine⟨(dN ex).pending,_,run_endLoop (P:=P) XW aa6,?_⟩
  obtain⟨o,ho⟩:∃o:Loop,o={dN ex with state:= .exhausted}:=⟨_,rfl⟩
  have hr4:=T2.put (R:={R with pin:=c'.pin}) hR.L hR.LD (o:=o) XW
  have hb:=hr4.base (R:={R with pin:=c'.pin}) ⟨hR.m1,hR.L,hR.D,hR.LD,hR.sz,hR.Dw,fun p hp=>hR.lay p hp⟩ 0
  obtain⟨Z2,Uu⟩:=hb.canonW k3
  have Wu:=Uu.repin (pin':=bS Z (aL S k.gs)) (fun s hf hu=>by
   obtain⟨p,hp,rfl⟩:=ajI.1 (rc.1 hu)
   exact(q4 _ (k4 p hp hf)).symm) Ug.gl.1 0 (some 0)
  obtain⟨Z5,Vy⟩:=VF.exit Ut (E':=E'.canon ρ) Wu (lf hm Wn k6 k5) (v:=undef) (d:= .junk) .junk (dst:=none) rfl
  have Vy:ai c Z5 ((E.upd (am E F)).upd (bB S d k')) a (w'.putObj (w.heap.size+1) (.loop o)):=Vy
  rw[<-jE]at Vy
  have Tx:Q ex {a with defers:=[{target:= .collected w.heap.size,args:=#[]}]++a.defers} (w'.putObj (w.heap.size+1) (.loop o)):=by
   refine hK ex _ Z5 _ _ k7 ⟨Vy.toSimW,Vy.tm,Vy.sz,?_⟩
   obtain⟨bs,g1,WF,g2⟩:=Vy.df
   obtain⟨bs0,Xh,_,g3⟩:=h.df
   have Y5:bs=bs0:=qY (g1.symm.trans Xh)
   refine⟨w.heap.size::bs,by simp[g1],List.nodup_cons.2 ⟨fun TE=>?_,WF⟩,fun b hb=>?_⟩
   .rw[Y5]at TE
    have:=(ajy.1 (g3 _ TE).2).1
    omega
   rcases akc.1 hb with hb|hb
   .subst hb;exact⟨(let⟨l,r1,r2⟩:=Uv;⟨l,r1,akf r2 h.size⟩),hr4.dk⟩
   .exact g2 b hb
  rw[ho]at Tx
  cases ex with
  |normal=>exact Tx
  |ret=>exact fb (wpIn_ret Tx)
  |exit id=>exact fb (wpIn_exit Tx)
  |_=>exact k1.elim
end
section
open Go.RowKit
variable{P:Program}{C:aD}{c:aA}
def fN(K:Exit->aa->Prop):Exit->aa->Prop:=fun e E=>K e E/\cQ e
def re(K:Exit->aa->Prop):fN K .normal=K .normal:=funext fun E=>by simp[fN,cQ]
def zo(K:Exit->aa->Prop):fN K .ret=K .ret:=funext fun E=>by simp[fN,cQ]
def zp(K:Exit->aa->Prop)(id:Nat):fN K (.exit id)=K (.exit id):=funext fun E=>by simp[fN,cQ]
def zq(n n':aa->Prop)(hn:n=n')(K:Exit->aa->Prop):fY n (fN K)=fN (fY n' K):=by
 subst hn
 funext e E
 cases e<;>simp[fY,fN,cQ]
def H7(id:Nat)(K:Exit->aa->Prop):i6 id (fN K)=fN (i6 id K):=by
 funext e E
 cases e<;>simp[i6,fN,cQ]
theorem mA:∀(s:ac) (C:aD) (E:aa) (K:Exit->aa->Prop),W P C s E (fN K)=W P C s E K
 | .skip,C,E,K=>by simp only[W,re]
 | .region ops,C,E,K=>by simp only[W,re]
 | .drawn ops pr,C,E,K=>by simp only[W,re]
 | .seq a b,C,E,K=>by
  simp only[W]
  rw[zq _ _ (funext fun E'=>mA b C E' K) K,mA a]
 | .cond c x y,C,E,K=>by simp only[W,mA x C,mA y C]
 | .block id b,C,E,K=>by
  simp only[W]
  rw[H7,mA b]
 | .loop b,C,E,K=>by
  simp only[W]
  refine congrArg _ (funext fun I=>congrArg _ (funext fun m=>congrArg _ (forall_congr fun E1=>forall_congr fun _=>?_)))
  rw[zq _ _ rfl K,mA b]
 | .exit id,C,E,K=>by simp only[W,zp]
 | .ret,C,E,K=>by simp only[W,zo]
 | .rangef g ps a b,C,E,K=>by
  simp only[W,re,zo,zp]
  congr 1
  have:∀(S F:List Nm) (k:Ct) (d:Nat),mj E S F k d (fN K)=mj E S F k d K:=by
   intro S F k d
   funext EF
   simp only[mj,fN]
   exact propext ⟨fun⟨e,k',ρ,h1,h2,h3,h4,h5,h6,h7⟩=>⟨e,k',ρ,h1,h2,h3,h4,h5,h6,h7.1⟩,fun⟨e,k',ρ,h1,h2,h3,h4,h5,h6,h7⟩=>⟨e,k',ρ,h1,h2,h3,h4,h5,h6,h7,h1⟩⟩
  refine congrArg _ (funext fun f=>congrArg _ (funext fun caps=>congrArg _ (funext fun F=>congrArg _ (funext fun S=>congrArg _ (funext fun k=>congrArg _ (funext fun d=>?_))))))
  exact congrArg (fun z=>E.ev g= .fn f caps/\cL E caps k S F/\C.ri P f k.ds (jz k) (qG P C E S k ps a b) z) (this S F k d)
 | .stuck,C,E,K=>rfl
def H8(s:ac)(C:aD)(E:aa)(K:Exit->aa->Prop)(h:W P C s E K):W P C s E (fun e E=>K e E/\cQ e):=by
 have:=mA (P:=P) s C E K
 show W P C s E (fN K)
 rw[this];exact h
def iJ(hC:iD P C)(hL:iH C)(XM:∀f ts xs,C.it P f ts xs->fD P f ts xs)(hm:P.follows .mixedOrders=true){Rl:aA->aa->Prop}{n:Nat}(hR:gc Rl n)(hY:jH P C Rl)(hP:mu P C){rd:Option Nat}{rf:Bool}(Y7:rf=true->rb P C)(hrf:rf=true->rd=none/\∀c E,Rl c E->c.dl.isSome=true)
  (ZR:∀(code:Code) (s:ac),rf=true->aZ P n false code=some s->∀L,lh P C n L code s):
  ∀(code:Code) (s:ac),aZ P n rf code=some s->∀(c:aA) (E:aa) (K:Exit->aa->Prop) (Q:Exit->Act->World->Prop) (Z:Nm->Place) (a:Act) (w:World),Rl c E->
  PQ C Rl Q->(∀c e E Z a w,Rl c E->K e E->ai c Z E a w->Q e a w)->ai c Z E a w->W P C s E K->bV (FW rd) 0 P code Q a w
 | .skip,s,hc,c,E,K,Q,Z,a,w,TG,hQ,hK,h,hw=>by
  simp only[aZ,ajr]at hc
  subst hc
  exact fb<|wpIn_skip (hK _ _ _ _ _ _ TG hw h)
 | .region id ops false,s,hc,c,E,K,Q,Z,a,w,TG,hQ,hK,h,hw=>by
  simp only[aZ,ajt]at hc
  obtain⟨sl,h1,rfl⟩:=hc
  exact fb<|wpIn_region_list (kZ hR hY hP hC hQ (fun c E Z a w hr hk hs=>hK c _ E Z a w hr hk hs) ops.toList sl 0 [] c Z E a w TG h1 h hw)
 | .region id ops true,s,hc,c,E,K,Q,Z,a,w,TG,hQ,hK,h,hw=>by
  simp only[aZ]at hc
  have hn:=hR.nn _ _ TG
  subst hn
  split at hc
  .rename_i j hj
   obtain⟨ht,hB⟩:=HV hj
   simp only[ajE,ajv,ajP,ajr]at hc
   obtain⟨sl,h1,tl,h2,rfl⟩:=hc
   refine fb<|HU (K:=fun E'=>W P C (.region tl) E' K) hR TG hC hL hm ht hB h1 (fun E Z a w hr hk hs=>?_) h hw.2
   exact kZ hR hY hP hC hQ (fun c E Z a w hr hk hs=>hK c _ E Z a w hr hk hs) _ tl 0 [] c Z E a w hr h2 hs hk
  split at hc
  .rename_i hB
   simp only[ajt]at hc
   obtain⟨sl,h1,rfl⟩:=hc
   exact fb<|HM hR TG hC hL hm hB h1 (fun E Z a w hr hk hs=>hK c _ E Z a w hr hk hs) h hw.2
  .simp only[ajr]at hc;subst hc;exact hw.elim
 | .seq x y,s,hc,c,E,K,Q,Z,a,w,TG,hQ,hK,h,hw=>by
  simp only[aZ,ajE,ajv,ajP,ajr]at hc
  obtain⟨sx,h1,sy,h2,rfl⟩:=hc
  refine nM (iJ hC hL XM hm hR hY hP Y7 hrf ZR x sx h1 c E _ _ Z a w TG (fun u c E Z a w hr hq hs=>hQ u c E Z a w hr hq hs) (fun c e E Z a w hr hk hs=>?_) h hw)
  cases e with
  |normal=>exact iJ hC hL XM hm hR hY hP Y7 hrf ZR y sy h2 c E K Q Z a w hr hQ hK hs hk
  |_=>exact hK c _ E Z a w hr hk hs
 | .cond t x y,s,hc,c,E,K,Q,Z,a,w,TG,hQ,hK,h,hw=>by
  simp only[aZ,ajE,ajv,ajP,ajr]at hc
  obtain⟨sx,h1,sy,h2,rfl⟩:=hc
  obtain⟨b,hb,hx,hy⟩:=hw
  have hv:=h.ev t
  rw[hb]at hv
  refine HW hv.v_inv.1 ?_
  cases b with
  |true=>exact iJ hC hL XM hm hR hY hP Y7 hrf ZR x sx h1 c E K Q Z a w TG hQ hK h (hx rfl)
  |false=>exact iJ hC hL XM hm hR hY hP Y7 hrf ZR y sy h2 c E K Q Z a w TG hQ hK h (hy rfl)
 | .block id b,s,hc,c,E,K,Q,Z,a,w,TG,hQ,hK,h,hw=>by
  simp only[aZ,ajt]at hc
  obtain⟨sb,h1,rfl⟩:=hc
  refine zf (iJ hC hL XM hm hR hY hP Y7 hrf ZR b sb h1 c E _ _ Z a w TG (fun u c E Z a w hr hq hs=>hQ u c E Z a w hr hq hs) (fun c e E Z a w hr hk hs=>?_) h hw)
  cases e with
  |exit i=>
   have hk:if i=id then K .normal E else K (.exit i) E:=hk
   show if i=id then Q .normal a w else Q (.exit i) a w
   split
   .rename_i hi;rw[if_pos hi]at hk;exact hK c _ E Z a w hr hk hs
   .rename_i hi;rw[if_neg hi]at hk;exact hK c _ E Z a w hr hk hs
  |_=>exact hK c _ E Z a w hr hk hs
 | .loop b,s,hc,c,E,K,Q,Z,a,w,TG,hQ,hK,h,hw=>by
  simp only[aZ,ajt]at hc
  obtain⟨sb,h1,rfl⟩:=hc
  obtain⟨I,m,⟨ρ,hρ,hI⟩,T9⟩:=hw
  obtain⟨Z0,WQ⟩:=nH h hρ
  refine zg (fun n a w=>∃c1 E1 Z1,m E1=n/\I E1/\ai c1 Z1 E1 a w/\Rl c1 E1) (m (E.canon ρ)) ⟨c,E.canon ρ,Z0,rfl,hI,WQ,hR.can _ _ _ TG⟩ ?_
  rintro n1 a1 w1 ⟨c1,E1,Z1,rfl,hI1,Uq,hr1⟩
  refine iJ hC hL XM hm hR hY hP Y7 hrf ZR b sb h1 c1 E1 _ _ Z1 a1 w1 hr1 (fun u c E Z a w hr hq hs=>hQ u c E Z a w hr hq hs) (fun c2 e E2 Z2 a2 w2 hr2 hk T8=>?_) Uq (T9 E1 hI1)
  cases e with
  |normal=>
   obtain⟨ρ2,h2,h4,h5⟩:=hk
   obtain⟨Z3,Ug⟩:=nH T8 h2
   exact⟨m (E2.canon ρ2),h5,c2,E2.canon ρ2,Z3,rfl,h4,Ug,hR.can _ _ _ hr2⟩
  |_=>exact hK c2 _ E2 Z2 a2 w2 hr2 hk T8
 | .exit id,s,hc,c,E,K,Q,Z,a,w,TG,hQ,hK,h,hw=>by
  simp only[aZ,ajr]at hc
  subst hc
  exact fb<|wpIn_exit (hK _ _ _ _ _ _ TG hw h)
 | .ret,s,hc,c,E,K,Q,Z,a,w,TG,hQ,hK,h,hw=>by
  simp only[aZ,ajr]at hc
  subst hc
  exact fb<|wpIn_ret (hK _ _ _ _ _ _ TG hw h)
 | .rangeFunc g ps x y,s,hc,c,E,K,Q,Z,a,w,TG,hQ,hK,h,hw=>by
  simp only[aZ]at hc
  split at hc
  .rename_i UB
   simp only[ajE,ajv,ajP,ajr]at hc
   obtain⟨sx,h1,sy,h2,rfl⟩:=hc
   have hn:=hR.nn _ _ TG
   subst hn
   obtain⟨hrd,Zi⟩:=hrf UB.1
   subst hrd
   obtain⟨dl,Uv⟩:=akb.1 (Zi _ _ TG)
   have hK':∀e ups Z' a' w',K e (E.upd ups)->ai c Z' (E.upd ups) a' w'->Q e a' w':=fun e ups Z' a' w' hk hs=>hK c e _ Z' a' w' (hR.upd _ _ _ TG) hk hs
   exact H3 XM (ZR x sx UB.1 h1) (ZR y sy UB.1 h2) UB.2 ⟨dl,Uv,hR.dl _ _ dl TG Uv⟩ h hw hK' (fun u ups Z' a' w' hq hs=>hQ u c _ Z' a' w' (hR.upd _ _ _ TG) hq hs)
    (fun f caps F S k d q1 q2 q3=>H6 (Y7 UB.1) (ZR x sx UB.1 h1) (ZR y sy UB.1 h2) UB.2 ⟨dl,Uv,hR.dl _ _ dl TG Uv⟩ h hK' q1 q2 q3)
  .simp only[ajr]at hc;subst hc;exact hw.elim
 | .scope x,s,hc,c,E,K,Q,Z,a,w,TG,hQ,hK,h,hw=>by
  simp only[aZ]at hc
  refine HY (iJ hC hL XM hm hR hY hP Y7 hrf ZR x s hc c E (fun e E=>K e E/\cQ e) _ Z a w TG (fun u c E Z a w hr hq hs=>hQ u c E Z a w hr hq hs) (fun c e E Z a w hr hk hs=>?_) h (H8 s _ _ _ hw))
  have:=hK c e E Z a w hr hk.1 hs
  cases e with
  |goto l=>exact hk.2.elim
  |_=>exact this
 | .label l,s,hc,c,E,K,Q,Z,a,w,TG,hQ,hK,h,hw=>by
  simp only[aZ,ajr]at hc
  subst hc
  exact fb<|wpIn_label (hK _ _ _ _ _ _ TG hw h)
 | .goto _,s,hc,_,_,_,_,_,_,_,_,_,_,_,hw=>by simp only[aZ,ajr]at hc;subst hc;exact hw.elim
 | .refuse _,s,hc,_,_,_,_,_,_,_,_,_,_,_,hw=>by simp only[aZ,ajr]at hc;subst hc;exact hw.elim
def nN(c:aA)(hd:∀l,c.dl=some l->l<=c.w0.heap.size):gc (fun c' (_:aa)=>c'=c) c.n:=⟨fun _ _ h=>by rw[h],fun _ _ l h=>by rw[h];exact hd l,fun _ _ _ _ h _=>h,fun _ _ _ h=>h,fun _ _ _ h=>h⟩
def H9(C:aD)(q:Value->aa->Prop)(Rl:aA->aa->Prop):jH P (C.wq q) Rl:=fun _ _ _ _ _ _ _ _ _ _ h=>h.elim
def Ia(hC:iD P C)(hL:iH C)(hP:mu P C)(XM:∀f ts xs,C.it P f ts xs->fD P f ts xs)(hm:P.follows .mixedOrders=true){n:Nat}(code:Code)(s:ac)(hc:aZ P n false code=some s)(L:Nat):lh P C n L code s:=by
 intro q c E K Q Z a w hn hd hQ hK h hw
 subst hn
 exact iJ (C:=C.wq q) (rd:=some L) (rf:=false) hC hL XM hm (nN c (fun l hl=>by rw[hd]at hl;cases hl)) (H9 C q _) hP (fun hh=>by simp at hh) (fun hh=>by simp at hh) (fun _ _ hh=>by simp at hh) code s hc c E K Q Z a w rfl (fun u c' E Z a w hr hq hs=>by subst hr;exact hQ u E Z a w hq hs) (fun c' e E Z a w hr hk hs=>by subst hr;exact hK e E Z a w hk hs) h hw
def uO(hC:iD P C)(Y7:rb P C)(hL:iH C)(hP:mu P C)(XM:∀f ts xs,C.it P f ts xs->fD P f ts xs)(hm:P.follows .mixedOrders=true){Rl:aA->aa->Prop}{n:Nat}(hR:gc Rl n)(Zi:∀c E,Rl c E->c.dl.isSome=true)(hY:jH P C Rl)(code:Code)(s:ac)(hc:aZ P n true code=some s)(c:aA)(E:aa)(K:Exit->aa->Prop)(Q:Exit->Act->World->Prop)(Z:Nm->Place)(a:Act)(w:World)(TG:Rl c E)
  (hQ:PQ C Rl Q) (hK:∀c e E Z a w,Rl c E->K e E->ai c Z E a w->Q e a w) (h:ai c Z E a w) (hw:W P C s E K):bV (FW none) 0 P code Q a w:=
 iJ hC hL XM hm hR hY hP (fun _=>Y7) (fun _=>⟨rfl,Zi⟩) (fun code s _ hc L=>Ia hC hL hP XM hm code s hc L) code s hc c E K Q Z a w TG hQ hK h hw
end
section
open Go.RowKit
variable{P:Program}
def uP(hm:P.follows .mixedOrders=true):rb P bu:=by
 rintro f ds E0 Y Kf ⟨fn,code,s,h1,h2,h3,h4,h5,h6,h7,h8⟩
 refine⟨fn,code,h1,h2,h3,h5,h6,h7,fun Rl hR hY c Z a w TG hs Q hQ=>?_⟩
 exact iJ (C:=qV Y) gD iI (fun _ _ _ h=>h) hm hR hY (my rfl) (rd:=none) (rf:=false) (fun hh=>by simp at hh) (fun hh=>by simp at hh) (fun _ _ hh=>by simp at hh) code s h4 c E0 _ Q Z a w TG (fun _ _ _ _ _ _ _ hf=>hf.elim) hQ hs h8
end
section
open Go.RowKit
variable{P:Program}{C:aD}{c:aA}{Z:Nm->Place}{E:aa}{a:Act}{w:World}
def Ib(h:SimW c Z E w){t:TypeId}{n:Nat}{x:Value}{d:DV}{r:aq}(hn:bm P t=some n)(hx:ah Z E.used w (ae c Z E.slots) x d)(hr:ma E n (bI P t) d=some r):
  ∃ad v,x= .pointer (some ad)/\(loadVar t ad).run P w= .ok v w/\ah Z E.used w (ae c Z E.slots) v r.d:=by
 have Tx:∀{b o:Nat} {v:Value} {y:DV} {rd:List Nm},x= .pointer (some ⟨b,o,none⟩)->(Instr.loadAt t (.pointer (some ⟨b,o,none⟩))).run P w= .ok v w->ah Z E.used w (ae c Z E.slots) v y->
   ∃ad v,x= .pointer (some ad)/\(loadVar t ad).run P w= .ok v w/\ah Z E.used w (ae c Z E.slots) v (aq.mk y rd []).d:=by
  intro b o v y rd hv Ti Tn
  exact⟨_,v,hv,Ti,Tn⟩
 unfold ma at hr
 split at hr
 .rename_i s k j
  obtain⟨hv,hU⟩:=hx.ptr_inv
  split at hr
  .rename_i e d fz Tj
   split at hr
   .rename_i hk
    subst hk
    split at hr
    .rename_i y hy
     simp only[ajr]at hr
     subst hr
     obtain⟨_,⟨cs,hg,hl,h1,hp⟩,_⟩:=h.row s _ Tj
     obtain⟨v,Ti,Tn⟩:=nz (Z:=Z) (U:=E.used) (M:=ae c Z E.slots) hn (Z s).blk 0 cs (fun i v hv=>by rw[gb hg,ajX];exact hv) hl h1 hp hy
     simp only[Nat.zero_mul,ajX]at hv Ti
     exact Tx hv Ti Tn
    .simp at hr
   .simp at hr
  .rename_i e m l fz Tj
   split at hr
   .rename_i y0 hk
    split at hr
    .rename_i y hy
     simp only[ajr]at hr
     subst hr
     obtain⟨_,hB,_⟩:=h.row s _ Tj
     have Vj:(Z s).m=m:=by rcases hB with⟨_,_,Vj,_⟩|⟨cs,_,_,Vj,_⟩<;>exact Vj
     obtain⟨vs,hl,h1,hc,hp⟩:=yh hB hk
     have TA:(DV.t y0).cells.length=y0.cells.length:=by cases y0<;>simp[DV.cells,ab.cells]
     obtain⟨v,Ti,Tn⟩:=nz (Z:=Z) (U:=E.used) (M:=ae c Z E.slots) hn (Z s).blk (k*m) vs hc (by rw[TA];exact hl) h1 hp hy
     rw[Vj]at hv
     exact Tx hv Ti Tn
    .simp at hr
   .simp at hr
  .simp at hr
 .rename_i y0 j
  obtain⟨y,hy,rfl⟩:=mn hr
  cases hx with
  |tp u hM hb hu h1 h2=>
   have TA:(DV.t y0).cells=y0.cells.map .t:=by cases y0<;>rfl
   have Ty:∀i v,((List.range y0.cells.length).map u)[i]?=some v->i<y0.cells.length/\v=u i:=by
    intro i v hv
    simp only[ajw,ajt]at hv
    obtain⟨i',h1,rfl⟩:=hv
    have:=ajs.1 h1
    obtain⟨h2,h3⟩:=this
    simp at h2 h3
    subst h3
    exact⟨h2,rfl⟩
   rename_i b o
   obtain⟨v,Ti,Tn⟩:=nz (Z:=Z) (U:=E.used) (M:=ae c Z E.slots) hn b o ((List.range y0.cells.length).map u) (fun i v hv=>by
     obtain⟨hi,rfl⟩:=Ty i v hv
     exact hu i _ (ajq hi)) (by rw[TA];simp) (fun v hv=>by
     obtain⟨i,hi,rfl⟩:=ajL hv
     obtain⟨TU,he⟩:=Ty i _ (ajq hi)
     rw[he,(h2 i _ (ajq TU)).one]
     exact h1 i _ (ajq TU)) (fun i v z hv hz=>by
     obtain⟨hi,rfl⟩:=Ty i v hv
     rw[TA,ajw,ajq hi]at hz
     simp at hz
     subst hz
     exact .t (h2 i _ (ajq hi))) hy
   exact Tx rfl Ti Tn
 .split at hr
  .rename_i hc
   simp only[val,ajr]at hr
   subst hr
   cases hx with
   |ep hM hb hu h2=>exact Tx (rd:=[]) rfl (uh hn hc.2 _ _ hu) h2
  .simp at hr
 .simp at hr
def rg(P:Program):ResultVar->Option cy
 | .tmp t=>some (.tmp t)
 | .cell a t=>(bm P t).map fun n=> .cell a n (bI P t)
def i8(P:Program)(fn:Func):Option (List cy):=fn.results.toList.mapM (rg P)
theorem Ic(ad:Addr)(P:Program)(w:World):(asAddr (.pointer (some ad))).run P w= .ok ad w:=rfl
def mB(tmps:Array Value):ResultVar->Sem Value
 | .tmp t=>pure (tmps.getD t undef)
 | .cell ad t=>do loadVar t (<-asAddr (tmps.getD ad undef))
def Id(fn:Func)(tmps:Array Value):results fn tmps=(do let vs<-fn.results.mapM (mB tmps);pure (if h:vs.size=1 then vs[0]else .tuple vs)):=by
 have:(fun| .tmp t=>pure (tmps.getD t undef)| .cell a t=>do loadVar t (<-asAddr (tmps.getD a undef)):ResultVar->Sem Value)=mB tmps:=by
  funext x;cases x<;>rfl
 rw[<-this]
 rfl
def Ie(h:ai c Z E a w){rv:ResultVar}{sr:cy}(hc:rg P rv=some sr){d:DV}(hd:sr.val E=some d):
  ∃v,(mB a.tmps rv).run P w= .ok v w/\ah Z E.used w (ae c Z E.slots) v d:=by
 cases rv with
 |tmp t=>
  simp only[rg,ajr]at hc
  subst hc
  simp only[cy.val,ajr]at hd
  subst hd
  exact⟨_,rfl,h.tm t⟩
 |cell ad t=>
  simp only[rg,ajt]at hc
  obtain⟨n,hn,rfl⟩:=hc
  simp only[cy.val,ajt]at hd
  obtain⟨r,hr,rfl⟩:=hd
  obtain⟨p,v,h1,h2,h3⟩:=Ib h.toSimW hn (h.tm ad) hr
  refine⟨v,?_,h3⟩
  simp only[mB,ajH,h1,Ic,ajF,h2]
theorem zr{α:Type}(f:α->Sem Value):∀(l:List α) (vs:List Value) (w:World),l.length=vs.length->(∀(i:Nat) (x:α) (v:Value),l[i]?=some x->vs[i]?=some v->(f x).run P w= .ok v w)->(l.mapM f).run P w= .ok vs w
 |[],[],w,_,_=>rfl
 |x::l,v::vs,w,hl,h=>by
  have h1:=h 0 x v rfl rfl
  have h2:=zr f l vs w (by simpa using hl) (fun i y u hy hu=>h (i+1) y u (by simpa using hy) (by simpa using hu))
  simp only[List.mapM_cons,ajH,h1,ajF,h2,aj0]
def rh(h:ai c Z E a w){fn:Func}{rs:List cy}(hc:i8 P fn=some rs){d:DV}(hd:fZ E rs=some d):
  ∃v,(results fn a.tmps).run P w= .ok v w/\ah Z E.used w (ae c Z E.slots) v d:=by
 obtain⟨hl,Ty⟩:=ec hc
 have T1:∀(ds:List DV),rs.mapM (cy.val E)=some ds->∃vs:List Value,vs.length=ds.length/\(∀(i:Nat) (v:Value) (d:DV),vs[i]?=some v->ds[i]?=some d->ah Z E.used w (ae c Z E.slots) v d)/\
   (fn.results.toList.mapM (mB a.tmps)).run P w= .ok vs w:=by
  intro ds hds
  obtain⟨Xa,adh⟩:=ec hds
  have Yc:∀i,i<ds.length->∃v,∀(rv:ResultVar) (d:DV),fn.results.toList[i]?=some rv->ds[i]?=some d->(mB a.tmps rv).run P w= .ok v w/\ah Z E.used w (ae c Z E.slots) v d:=by
   intro i hi
   have h1:i<rs.length:=by omega
   have h2:i<fn.results.toList.length:=by omega
   obtain⟨v,h3,h4⟩:=Ie h (Ty i _ _ (ajq h2) (ajq h1)) (adh i _ _ (ajq h1) (ajq hi))
   refine⟨v,fun rv d ZZ Un=>?_⟩
   rw[ajq h2]at ZZ
   rw[ajq hi]at Un
   cases ZZ
   cases Un
   exact⟨h3,h4⟩
  let V:Nat->Value:=fun i=>if hi:i<ds.length then(Yc i hi).choose else undef
  refine⟨(List.range ds.length).map V,by simp,fun i v d hv hd=>?_,zr _ _ _ _ (by rw[ajJ,List.length_range];omega) fun i rv v ZZ hv=>?_⟩
  .have hi:=(ajs.1 hd).1
   have h2:i<fn.results.toList.length:=by omega
   rw[ajw,List.getElem?_range hi]at hv
   simp only[akq,ajr,V,hi,dif_pos]at hv
   rw[<-hv]
   exact((Yc i hi).choose_spec _ d (ajq h2) hd).2
  .have hi:i<ds.length:=by
    have:=(ajs.1 hv).1
    simpa using this
   rw[ajw,List.getElem?_range hi]at hv
   simp only[akq,ajr,V,hi,dif_pos]at hv
   rw[<-hv]
   exact((Yc i hi).choose_spec rv _ ZZ (ajq hi)).1
 have Ti:∀vs:List Value,(fn.results.toList.mapM (mB a.tmps)).run P w= .ok vs w->
   (results fn a.tmps).run P w= .ok (if h:vs.toArray.size=1 then vs.toArray[0]else .tuple vs.toArray) w:=by
  intro vs hvs
  rw[Id,ajH,Array.mapM_eq_mapM_toList,Sem.run_map,hvs]
  rfl
 unfold fZ at hd
 split at hd
 .simp only[ajr]at hd
  subst hd
  obtain⟨vs,h1,h2,h3⟩:=T1 [] rfl
  have:vs=[]:=aj3.1 h1
  subst this
  exact⟨_,Ti _ h3,.tup (vs:=[]) rfl (fun i v d hv=>by simp at hv)⟩
 .rename_i sr
  obtain⟨vs,h1,h2,h3⟩:=T1 [d] (by simp[hd])
  match vs,h1 with
  |[v],_=>exact⟨v,Ti _ h3,h2 0 v d rfl rfl⟩
 .rename_i l ahH abh
  simp only[ajt]at hd
  obtain⟨ds,h4,rfl⟩:=hd
  obtain⟨vs,h1,h2,h3⟩:=T1 ds h4
  have TW:vs.length≠1:=by
   intro he
   have h5:=(ec h4).1
   have Tk:rs.length=1:=by omega
   obtain⟨x,hx⟩:=List.length_eq_one_iff.1 Tk
   exact abh x hx
  refine⟨.tuple vs.toArray,?_,.tup h1 h2⟩
  rw[Ti _ h3,dif_neg (by simpa using TW)]
def aa.out1(E:aa)(ρ:List (Nm×Nm)):DV->DV
 | .xs m l=> .xs m l
 |d=>match E.view d with
  |some (x,rd)=>if rd.all (fun s=>(ρ.lookup s).isNone)=true then .t x else d.ren ρ
  |none=>d.ren ρ
def aa.outD(E:aa)(ρ:List (Nm×Nm)):DV->DV
 | .tup l=> .tup (l.map (E.out1 ρ))
 |d=>E.out1 ρ d
inductive bZ:DV->DV->Prop where
 |rfl {d:DV}:bZ d d
 |t {x y:ab} (h:aE x y):bZ (.t x) (.t y)
 |tup {l l':List DV} (hl:l.length=l'.length) (h:∀(i:Nat) (x y:DV),l[i]?=some x->l'[i]?=some y->bZ x y):bZ (.tup l) (.tup l')
def ah.le{Z:Nm->Place}{U:Nm->Bool}{M:Nat->Prop}{d d':DV}(hd:bZ d d'):∀{v:Value},ah Z U w M v d->ah Z U w M v d':=by
 induction hd with
 |rfl=>intro v h;exact h
 |t TK=>intro v h;exact .t (h.t_inv.le TK)
 |tup hl _ ih=>
  intro v h
  cases h with
  |tup Xa hp=>
   refine .tup (Xa.trans hl) fun i v d hv Un=>?_
   have hi:=(ajs.1 Un).1
   have TU:=Nat.lt_of_lt_of_eq hi hl.symm
   exact ih i _ d (ajq TU) Un (hp i v _ hv (ajq TU))
def Ends(k:Ct)(d:DV)(E:aa):Prop:=(∃ρ,bw ρ=true/\(E.canon ρ).slots=k.out/\E.outD ρ d=k.d)\/
 (d= .t .e0/\k.d= .osl (.loc 0 0) 0/\∃ρ e m,bw ρ=true/\0<m/\k.new=[.rows e m [] false]/\(E.canon ρ).used (.loc 0 0)=false/\(E.canon ρ).slots=aU [] k.rows' [])\/
 ∃ρ,bw ρ=true/\(E.canon ρ).slots=k.out/\bZ (E.outD ρ d) k.d
def zu(h:ai c Z E a w){ρ:List (Nm×Nm)}{Z':Nm->Place}(h1:∀v d,ah Z E.used w (ae c Z E.slots) v d->ah Z' (E.canon ρ).used w (ae c Z' (E.canon ρ).slots) v (d.ren ρ))
  (h2:∀b,ae c Z' (E.canon ρ).slots b->ae c Z E.slots b) (h3:∀s r,E.slots s=some r->r.real (Z s)=true->ρ.lookup s=none->¬ae c Z' (E.canon ρ).slots (Z s).blk) {v:Value} {d:DV}
  (hv:ah Z E.used w (ae c Z E.slots) v d):ah Z' (E.canon ρ).used w (ae c Z' (E.canon ρ).slots) v (E.out1 ρ d):=by
 unfold aa.out1
 split
 .have:=h1 v _ hv;simpa only[DV.ren]using this
 split
 .rename_i x rd hx
  split
  .rename_i Tt
   refine .t (h.toSimW.view h2 hv hx fun s hs hcap=>?_)
   obtain⟨e,m,l,fz,Tj⟩:=ia hx s hs
   exact h3 s _ Tj (by simpa[Row.real]using hcap) (by simpa using ajR.1 Tt s hs)
  .exact h1 v d hv
 .exact h1 v d hv
def uQ(h:ai c Z E a w){ρ:List (Nm×Nm)}{Z':Nm->Place}(h1:∀v d,ah Z E.used w (ae c Z E.slots) v d->ah Z' (E.canon ρ).used w (ae c Z' (E.canon ρ).slots) v (d.ren ρ))
  (h2:∀b,ae c Z' (E.canon ρ).slots b->ae c Z E.slots b) (h3:∀s r,E.slots s=some r->r.real (Z s)=true->ρ.lookup s=none->¬ae c Z' (E.canon ρ).slots (Z s).blk) {v:Value} {d:DV}
  (hv:ah Z E.used w (ae c Z E.slots) v d):ah Z' (E.canon ρ).used w (ae c Z' (E.canon ρ).slots) v (E.outD ρ d):=by
 cases d with
 |tup l=>
  cases hv with
  |tup hl hp=>
   refine .tup (by simpa using hl) fun i u d hu hd=>?_
   simp only[ajw,ajt]at hd
   obtain⟨d0,UU,rfl⟩:=hd
   exact zu h h1 h2 h3 (hp i u d0 hu UU)
 |_=>exact zu h h1 h2 h3 hv
def aM.world{w':World}{M:Nat->Prop}{v:Value}{t:ab}(h:aM w M v t)(hs:w.heap.size<=w'.heap.size)(hw:∀(b:Nat) cs e z,w.heap[b]?=some (Obj.cells cs e z)->w'.heap[b]?=w.heap[b]?):aM w' M v t:=by
 have hc:∀(p:Addr) (x:Value),w.cell? p=some x->w'.cell? p=some x:=by
  intro p x hx
  unfold World.cell? at*
  cases ho:w.heap[p.block]? with
  |none=>rw[ho]at hx;simp at hx
  |some o=>
   cases o with
   |cells cs e z=>rw[hw _ _ _ _ ho];exact hx
   |_=>rw[ho]at hx;simp at hx
 induction h with
 |v h=>exact .v h
 |agg hl h1 _ ih=>exact .agg hl h1 fun i v t hv ht=>ih i v t hv ht
 |e0=>exact .e0
 |sl0 hc=>exact .sl0 hc
 |sl u hM hb hn hcap hm hu h1 _ ih=>exact .sl u hM (by omega) hn hcap hm (fun k t j c hk hj=>hc _ _ (hu k t j c hk hj)) h1 ih
def ah.world{U:Nm->Bool}{w':World}{M:Nat->Prop}{v:Value}{d:DV}(h:ah Z U w M v d)(hs:w.heap.size<=w'.heap.size)(hw:∀(b:Nat) cs e z,w.heap[b]?=some (Obj.cells cs e z)->w'.heap[b]?=w.heap[b]?):ah Z U w' M v d:=by
 have hc:∀(p:Addr) (x:Value),w.cell? p=some x->w'.cell? p=some x:=by
  intro p x hx
  unfold World.cell? at*
  cases ho:w.heap[p.block]? with
  |none=>rw[ho]at hx;simp at hx
  |some o=>
   cases o with
   |cells cs e z=>rw[hw _ _ _ _ ho];exact hx
   |_=>rw[ho]at hx;simp at hx
 induction h with
 |t h=>exact .t (h.world hs hw)
 |agg hl h1 _ ih=>exact .agg hl h1 fun i v d hv hd=>ih i v d hv hd
 |tup hl _ ih=>exact .tup hl fun i v d hv hd=>ih i v d hv hd
 |ptr h=>exact .ptr h
 |tp u hM hb hu h1 h=>exact .tp u hM (by omega) (fun i c hi=>hc _ _ (hu i c hi)) h1 (fun i c hi=>(h i c hi).world hs hw)
 |osl h hn ha=>exact .osl h hn ha
 |fn hl _ ih=>exact .fn hl fun i v d hv hd=>ih i v d hv hd
 |mfn Uy hl _ _ ih0 ih=>exact .mfn Uy hl (fun i v d hv hd=>ih0 i v d hv hd) fun i v d hv hd=>ih i v d hv hd
 |mp h=>exact .mp h
 |yl h=>exact .yl h
 |lst u hM hb hn hcap hu _ ih=>exact .lst u hM (by omega) hn hcap (fun i d hi=>hc _ _ (hu i d hi)) ih
 |xs hn h=>exact .xs hn (h.world hs hw)
 |ls hn hM hg h=>exact .ls hn hM (by rw[hw _ _ _ _ hg];exact hg) (h.world hs hw)
 |er=>exact .er
 |ep hM hb hu _ ih=>exact .ep hM (by omega) (hc _ _ hu) ih
 |wh _ ih=>exact .wh fun e=>ih e
 |junk=>exact .junk
def ai.taken(h:ai c Z E a w){bs:List Nat}(V1:∀b∈bs,c.w0.heap.size<=b/\w.heap[b]?=some (.deferred (some []))){w':World}(hs:w'.heap.size=w.heap.size)(X8:w'.os=w.os)(Uo:w'.tape=w.tape)(UE:w'.output=w.output)
  (hb:∀b,b∉bs->w'.heap[b]?=w.heap[b]?):ai c Z E {a with defers:=[]} w':=by
 have hw:∀(b:Nat) cs e z,w.heap[b]?=some (Obj.cells cs e z)->w'.heap[b]?=w.heap[b]?:=by
  intro b cs e z ho
  refine hb b fun TE=>?_
  rw[(V1 b TE).2]at ho
  cases ho
 have TK:w.heap.size<=w'.heap.size:=by omega
 refine⟨⟨by rw[hs];exact h.size,X8.trans h.os,Uo.trans h.tape,UE.trans h.output,fun b hlt hx=>?_,h.m0,fun s r hr=>?_,h.inj,h.fix,h.gl⟩,fun t=>(h.tm t).world TK hw,h.sz,[],rfl,by simp,by simp⟩
 .rw[hb b fun TE=>by have:=(V1 b TE).1;omega]
  exact h.old b hlt hx
 .obtain⟨h1,h2,h3⟩:=h.row s r hr
  refine⟨h1,?_,h3⟩
  cases r with
  |box e d fz=>
   obtain⟨cs,g1,g2,g3,g4⟩:=h2
   exact⟨cs,by rw[hw _ _ _ _ g1];exact g1,g2,g3,fun i v x hv hx=>(g4 i v x hv hx).world TK hw⟩
  |rows e m l fz=>
   rcases h2 with h2|⟨cs,g0,g1,g2,g3,g4,g5,g6,g7,g8⟩
   .exact .inl h2
   .refine .inr ⟨cs,g0,by rw[hw _ _ _ _ g1];exact g1,g2,g3,g4,g5,g6,g7,fun k t j cc hk hj=>?_⟩
    obtain⟨q1,v,q2,q3⟩:=g8 k t j cc hk hj
    exact⟨q1,v,q2,q3.world TK hw⟩
  |obj o fz=>
   have Yu:∀ob,w.heap[(Z s).blk]?=some ob->(∀l,ob≠.deferred l)->w'.heap[(Z s).blk]?=some ob:=by
    intro ob ho TW
    rw[hb _ fun TE=>?_]
    .exact ho
    .rw[(V1 _ TE).2]at ho;cases ho;exact TW _ rfl
   cases o with
   |mp es cl=>
    obtain⟨ents,g1,g2,g3⟩:=h2
    refine⟨ents,Yu _ g1 (fun _=>by simp),g2,fun i e x he hx=>?_⟩
    obtain⟨q1,q2,q3⟩:=g3 i e x he hx
    exact⟨q1,q2,q3.world TK hw⟩
   |it str p=>exact Yu _ h2 (fun _=>by simp)
   |dfr=>exact h2
theorem rj{fn:Func}{tmps:Array Value}{R:Ending->World->Prop}:∀(bs:List Nat) (w:World),bs.Nodup->(∀b∈bs,w.heap[b]?=some (.deferred (some [])))->
  (∀w',w'.heap.size=w.heap.size->w'.os=w.os->w'.tape=w.tape->w'.output=w.output->(∀b,b∉bs->w'.heap[b]?=w.heap[b]?)->∃v,(results fn tmps).run P w'= .ok v w'/\R (.returned v) w')->
  LeavesInM Fence.wide 0 P fn tmps R (bs.map fun b=>{target:= .collected b,args:=#[]}) .returning w
 |[],w,_,_,h=>h w rfl rfl rfl rfl (fun _ _=>rfl)
 |b::bs,w,hn,hb,h=>by
  have V1:=hb b ajK
  refine⟨by simp,.inl ⟨b,_,rfl,run_takeDeferred V1,?_⟩⟩
  rw[List.nodup_cons]at hn
  refine rj bs _ hn.2 (fun x hx=>?_) (fun w' h1 h2 h3 h4 h5=>?_)
  .rw[World.putObj_heap_other (fun e:x=b=>hn.1 (by rw[<-e];exact hx))];exact hb x (ajW _ hx)
  .refine h w' (by rw[h1];simp) h2 h3 h4 (fun x hx=>?_)
   rw[h5 x (fun hh=>hx (ajW _ hh)),World.putObj_heap_other (fun e:x=b=>hx (by rw[e];exact ajK))]
theorem mC(hC:iD P bu)(hL:iH bu)(XM:∀f ts xs,bu.it P f ts xs->fD P f ts xs)(hCy:∀E ds Kb,¬bu.yl E ds Kb)(hm:P.follows .mixedOrders=true){f:FuncId}{fn:Func}{code:Code}{s:ac}{rs:List cy}(hf:P.funcs[f]?=some fn)(Vk:(fn.name== "runtime.NumGoroutine")=false)
  (hb:fn.body=some code) (hs:aZ P fn.ntmps true code=some s) (hr:i8 P fn=some rs) (k:Ct) (hn:k.ds.length<=fn.ntmps) (hw:W P bu s k.env (Fin rs (Ends k))):ay P f k:=by
 refine⟨⟨fn,code,hf,Vk,hb⟩,fun c Z w vs Wf Tr hl hv=>?_⟩
 refine callsIn_wide (n:=0).1 (pn hf hb trivial ?_)
 let c':aA:={c with n:=fn.ntmps,dl:=some w.heap.size}
 have Uv:w.heap.size=c'.w0.heap.size:=by show w.heap.size=c.w0.heap.size;rw[Wf]
 have Wi:SimW c' Z k.env w:=⟨Tr.size,Tr.os,Tr.tape,Tr.output,Tr.old,Tr.m0,Tr.row,Tr.inj,Tr.fix,Tr.gl⟩
 have hA:ai c' Z k.env {tmps:=vs.toArray++Array.replicate (fn.ntmps-vs.toArray.size) undef,defers:=[]} w:=by
  refine⟨Wi,fun t=>?_,by show(vs.toArray++Array.replicate (fn.ntmps-vs.toArray.size) undef).size=fn.ntmps;simp;omega,[],rfl,by simp,by simp⟩
  show ah Z k.env.used w (ae c' Z k.env.slots) _ (k.ds.getD t .junk)
  by_cases ht:t<vs.length
  .have Xi:t<k.ds.length:=by omega
   have e1:(vs.toArray++Array.replicate (fn.ntmps-vs.toArray.size) undef).getD t undef=vs[t]:=by
    rw[ajM,akv]
    simp[ht]
   have e2:k.ds.getD t .junk=k.ds[t]:=by simp[Xi]
   rw[e1,e2]
   exact hv t _ _ (ajq ht) (ajq Xi)
  .have e2:k.ds.getD t .junk= .junk:=by simp[aj2 (show k.ds.length<=t by omega)]
   rw[e2]
   exact .junk
 have Tx:∀(E:aa) (Z1:Nm->Place) (a1:Act) (w1:World) (o:Option DV),fZ E rs=o->ml (Ends k) E o->ai c' Z1 E a1 w1->LeavesInM Fence.wide 0 P fn a1.tmps (fun e w'=>∃v,e= .returned v/\∃(Z':Nm->Place) (E':aa),E'.slots=k.out/\SimW c Z' E' w'/\ah Z' E'.used w' (ae c Z' E'.slots) v k.d) a1.defers .returning w1:=by
  intro E Z1 a1 w1 o ho hk Uq
  cases o with
  |none=>exact hk.elim
  |some d=>
   obtain⟨bs,Xn,WF,Yh⟩:=Uq.df
   rw[Xn]
   refine rj bs w1 WF (fun b hb=>(Yh b hb).2) (fun w' g1 g2 g3 g4 g5=>?_)
   have T8:=Uq.taken (fun b hb=>⟨by obtain⟨l,q1,q2⟩:=(Yh b hb).1;cases q1;rw[<-Uv];exact q2,(Yh b hb).2⟩) g1 g2 g3 g4 g5
   obtain⟨v,h1,h2⟩:=rh T8 hr ho
   have hk:(∃ρ,bw ρ=true/\(E.canon ρ).slots=k.out/\bZ (E.outD ρ d) k.d)\/(d= .t .e0/\k.d= .osl (.loc 0 0) 0/\∃ρ e m,bw ρ=true/\0<m/\k.new=[.rows e m [] false]/\(E.canon ρ).used (.loc 0 0)=false/\(E.canon ρ).slots=aU [] k.rows' []):=by
    rcases hk with⟨ρ,hρ,Tj,hd⟩|hk|hk
    .exact .inl ⟨ρ,hρ,Tj,hd▸.rfl⟩
    .exact .inr hk
    .exact .inl hk
   rcases hk with⟨ρ,hρ,Tj,hd⟩|⟨rfl,hd,ρ,e,m,hρ,VM,Ub,VI,Tj⟩
   .obtain⟨Z',h3,h4,h5,h6⟩:=kY T8 hρ
    refine⟨v,h1,v,rfl,Z',E.canon ρ,Tj,?_,?_⟩
    .exact⟨h3.size,h3.os,h3.tape,h3.output,h3.old,h3.m0,h3.row,h3.inj,h3.fix,h3.gl⟩
    .exact ah.le hd (uQ T8 h4 h5 h6 h2)
   .obtain⟨Z',h3,h4,h5,h6⟩:=kY T8 hρ
    obtain⟨ad,rfl⟩:=h2.e0_inv
    obtain⟨Z2,q1,q2,q3⟩:=h3.new (w':=w') (s:= .loc 0 0) (r:= .rows e m [] false) (pl:=⟨0,0,m⟩) VI rfl (ajz _) rfl rfl rfl (fun _ _=>rfl) (fun hr=>by simp[Row.real]at hr) (by
     intro Z' U' M' hU hM
     exact .inl ⟨rfl,rfl,rfl,VM⟩)
    refine⟨_,h1,_,rfl,Z2,(E.canon ρ).upd [(.loc 0 0,some (.rows e m [] false))],?_,⟨q3.size,q3.os,q3.tape,q3.output,q3.old,q3.m0,q3.row,q3.inj,q3.fix,q3.gl⟩,?_⟩
    .funext s
     rw[bM,dV,Tj]
     show _=aU [] k.rows' k.new s
     rw[Ub]
     by_cases hs:s= .loc 0 0
     .subst hs;rfl
     .rw[if_neg hs]
      cases s with
      |loc d i=>
       simp only[aU]
       by_cases UU:d=0
       .subst UU
        cases i with
        |zero=>exact absurd rfl hs
        |succ i=>simp
       .simp[UU]
      |_=>rfl
    .rw[hd]
     have:=ah.osl (Z:=Z2) (U:=((E.canon ρ).upd [(.loc 0 0,some (.rows e m [] false))]).used) (w:=w') (M:=ae c' Z2 ((E.canon ρ).upd [(.loc 0 0,some (.rows e m [] false))]).slots) (s:= .loc 0 0) (n:=0) (ad:=ad) (by
      rw[bJ,dV];simp) (by rw[q2];exact ajz _) (by rw[q2];intro hh;exact absurd hh (by simp))
     rw[q2]at this
     exact this
 have hY:jH P bu (fun Z9 (_:aa)=>Z9=c'):=fun _ _ _ _ _ _ _ _ _ _ h=>absurd h (hCy _ _ _)
 refine uO hC (uP hm) hL (my rfl) XM hm (nN c' (fun l hl=>by cases hl;rw[Uv];exact ajz _)) (fun _ _ hc=>by subst hc;rfl) hY code s hs c' k.env _ _ Z _ w rfl (fun _ _ _ _ _ _ _ hf=>hf.elim) (fun Z9 e E Z1 a1 w1 hc hk Uq=>?_) hA hw
 subst hc
 cases e with
 |normal=>exact Tx E Z1 a1 w1 _ rfl hk Uq
 |ret=>exact Tx E Z1 a1 w1 _ rfl hk Uq
 |_=>exact hk.elim
theorem zw{fn:Func}{tmps:Array Value}{R:Ending->World->Prop}{ch:List PanicEntry}:∀(bs:List Nat) (w:World),bs.Nodup->(∀b∈bs,w.heap[b]?=some (.deferred (some [])))->
  (∀w',w'.heap.size=w.heap.size->w'.os=w.os->w'.tape=w.tape->w'.output=w.output->(∀b,b∉bs->w'.heap[b]?=w.heap[b]?)->R (.panicked ch) w')->
  LeavesInM Fence.wide 0 P fn tmps R (bs.map fun b=>{target:= .collected b,args:=#[]}) (.panicking ch) w
 |[],w,_,_,h=>h w rfl rfl rfl rfl (fun _ _=>rfl)
 |b::bs,w,hn,hb,h=>by
  have V1:=hb b ajK
  refine⟨by simp,.inl ⟨b,_,rfl,run_takeDeferred V1,?_⟩⟩
  rw[List.nodup_cons]at hn
  refine zw bs _ hn.2 (fun x hx=>?_) (fun w' h1 h2 h3 h4 h5=>?_)
  .rw[World.putObj_heap_other (fun e:x=b=>hn.1 (by rw[<-e];exact hx))];exact hb x (ajW _ hx)
  .refine h w' (by rw[h1];simp) h2 h3 h4 (fun x hx=>?_)
   rw[h5 x (fun hh=>hx (ajW _ hh)),World.putObj_heap_other (fun e:x=b=>hx (by rw[e];exact ajK))]
def nO(k:Ct)(u u':Value)(E:aa):Prop:=u'=u/\∃ρ,bw ρ=true/\(E.canon ρ).slots=k.out
def uR:Exit->aa->Prop:=fun _ _=>False
def If(hm:P.follows .mixedOrders=true){f:FuncId}{fn:Func}{code:Code}{s:ac}(hf:P.funcs[f]?=some fn)(Vk:(fn.name== "runtime.NumGoroutine")=false)
  (hb:fn.body=some code) (hs:aZ P fn.ntmps true code=some s) (k:Ct) (u:Value) (hn:k.ds.length<=fn.ntmps) (hw:W P (bj (nO k u)) s k.env uR):eZ P f k u:=by
 refine⟨⟨fn,code,hf,Vk,hb⟩,fun c Z w vs Wf Tr hl hv=>?_⟩
 refine callsIn_wide (n:=0).1 (pn hf hb trivial ?_)
 let c':aA:={c with n:=fn.ntmps,dl:=some w.heap.size}
 have Uv:w.heap.size=c'.w0.heap.size:=by show w.heap.size=c.w0.heap.size;rw[Wf]
 have Wi:SimW c' Z k.env w:=⟨Tr.size,Tr.os,Tr.tape,Tr.output,Tr.old,Tr.m0,Tr.row,Tr.inj,Tr.fix,Tr.gl⟩
 have hA:ai c' Z k.env {tmps:=vs.toArray++Array.replicate (fn.ntmps-vs.toArray.size) undef,defers:=[]} w:=by
  refine⟨Wi,fun t=>?_,by show(vs.toArray++Array.replicate (fn.ntmps-vs.toArray.size) undef).size=fn.ntmps;simp;omega,[],rfl,by simp,by simp⟩
  show ah Z k.env.used w (ae c' Z k.env.slots) _ (k.ds.getD t .junk)
  by_cases ht:t<vs.length
  .have Xi:t<k.ds.length:=by omega
   have e1:(vs.toArray++Array.replicate (fn.ntmps-vs.toArray.size) undef).getD t undef=vs[t]:=by
    rw[ajM,akv]
    simp[ht]
   have e2:k.ds.getD t .junk=k.ds[t]:=by simp[Xi]
   rw[e1,e2]
   exact hv t _ _ (ajq ht) (ajq Xi)
  .have e2:k.ds.getD t .junk= .junk:=by simp[aj2 (show k.ds.length<=t by omega)]
   rw[e2]
   exact .junk
 refine uO (C:=bj (nO k u)) gD (uP hm) iI (my rfl) (fun _ _ _ h=>h) hm (nN c' (fun l hl=>by cases hl;rw[Uv];exact ajz _)) (fun _ _ hc=>by subst hc;rfl) (fun _ _ _ _ _ _ _ _ _ _ h=>h.elim) code s hs c' k.env _ _ Z _ w rfl
  (fun u' Z9 E Z1 a1 w1 hc hq Uq=>?_) (fun Z9 e E Z1 a1 w1 hc hk Uq=>hk.elim) hA hw
 subst hc
 obtain⟨rfl,ρ,hρ,Tj⟩:=hq
 obtain⟨bs,Xn,WF,Yh⟩:=Uq.df
 show LeavesInM Fence.wide 0 P fn a1.tmps _ a1.defers (.panicking (gf u')) w1
 rw[Xn]
 refine zw bs w1 WF (fun b hb=>(Yh b hb).2) (fun w' g1 g2 g3 g4 g5=>?_)
 have T8:=Uq.taken (fun b hb=>⟨by obtain⟨l,q1,q2⟩:=(Yh b hb).1;cases q1;rw[<-Uv];exact q2,(Yh b hb).2⟩) g1 g2 g3 g4 g5
 obtain⟨Z',h3,h4,h5,h6⟩:=kY T8 hρ
 exact⟨rfl,Z',E.canon ρ,Tj,⟨h3.size,h3.os,h3.tape,h3.output,h3.old,h3.m0,h3.row,h3.inj,h3.fix,h3.gl⟩⟩
end
end Go.Wt
