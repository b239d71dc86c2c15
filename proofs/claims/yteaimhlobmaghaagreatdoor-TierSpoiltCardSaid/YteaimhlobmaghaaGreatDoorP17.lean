/- A part of the proof of a tier statement (the last text closes it): lemmas without condition. -/
import Derived.Test.YteaimhlobmaghaaGreatDoorP16
set_option linter.all false
set_option maxRecDepth 10000000
set_option maxHeartbeats 0
namespace Go.Wt
section
open Go.RowKit Go.Proofs Go.Lib Go.Wm
@[simp] theorem LS(ρ:List (Nm×Nm)):∀l:List Int,DV.renL ρ (l.map fun n=>DV.t (int n))=l.map fun n=>DV.t (int n)
 |[]=>rfl
 |x::l=>by rw[ajQ];show _::DV.renL ρ (l.map _)=_;rw[LS ρ l];rfl
def LT{b:aF}(hf:fm b=true):(gN b).length<=10000:=by
 obtain⟨_,_,_,_,WR,Tk⟩:=DF hf
 have h1:=pV bK 11 (dh b) fun x _=>gj x
 have h2:(dh b).length=7:=rfl
 have h3:=gj b.recs.length
 have h4:(ot b).length<=11+200*b.recs.length:=by
  unfold ot
  split
  .simp
  .rename_i r l hr
   have h5:=gj r.stamp
   have h6:=pV (fun x=>gM x b.base r.stamp) 200 (r::l) fun x hx=>wF (WR x (by rw[hr];exact hx)).1 _ _
   rw[ajB,hr]
   omega
 simp only[gN,ajB,akx,List.length_nil]
 omega
def DG(b:aF)(i:Nat):(((dh b).take i).flatMap bK).length<=77:=by
 have h1:=pV bK 11 ((dh b).take i) fun x _=>gj x
 have h2:((dh b).take i).length<=7:=by simp[dh];omega
 omega
def DH(b:aF)(hf:fm b=true):ajl 191 [aG b] (.osl (.loc 0 0) (bT b).length) 5 1 ((bT b).map aC):=by
 obtain⟨b1,b2,sp,ctl,WR,Tk⟩:=DF hf
 have Yv:=LR ctl
 refine iN I6 rfl ?_
 obtain⟨W,hW⟩:∃W,W=bT b:=⟨_,rfl⟩
 rw[<-hW]
 have U3:∀(E:aa) (s:Nm),(s= .loc 51 0\/s= .head 1 1)->E.tmps 3= .osl s (gN b).length->E.slots s=some (.rows 5 1 ((gN b).map aC) false)->E.used (.loc 84 0)=false->E.used (.loc 88 0)=false->E.used (.loc 90 0)=false->aY Tryz.prog bu (Fin [cy.tmp 2] (Ends (ll [aG b] (DV.osl (Nm.loc 0 0) (List.length W)) 5 1 (List.map aC W)))) [.code vi] E:=by
  intro E s hs e3 es u1 u2 u3
  have hq:bT b=cg (eB (gN b)).length++eB (gN b):=rfl
  have XJ:(gN b).length<=10000:=LT hf
  obtain⟨q,hqq⟩:∃q,q=gN b:=⟨_,rfl⟩
  rw[<-hqq]at e3 es hq XJ
  have c1:=wD q (by omega)
  have Tj:(eB q).length=q.length+4:=by simp[eB,cg]
  obtain⟨q2,Wk⟩:∃q2,q2=eB q:=⟨_,rfl⟩
  rw[<-Wk]at c1 hq Tj
  have c2:=Lx q2.length
  have Yg:(cg q2.length).length=4:=rfl
  have hlim:q2.length+4<=100000000:=by omega
  have hw8:IntKind.u64.wrap (q2.length:Int)=q2.length:=by rw[IntKind.wrap_u64];omega
  have hWq:W=cg q2.length++q2:=by rw[hW,hq]
  rw[hWq]
  have TX:(cg q2.length).length+q2.length<=100000000:=by omega
  obtain⟨q4,hq4⟩:∃q4,q4=cg q2.length:=⟨_,rfl⟩
  rw[<-hq4]at c2 Yg TX⊢
  simp[vi]
  rcases hs with rfl|rfl
  .try simp[e3,es,u1,u2,u3,hw8,aB,aa.more,LIM,TX]
   all_goals try(repeat'(first|((first|(refine UN (F:=[.loc 51 0]) c1 ?_ ?_;(· simp[e3,es,u1,u2,u3,hw8,aB,aa.more,LIM,TX]))|(refine UN (F:=[]) c2 ?_ ?_;(· simp[e3,es,u1,u2,u3,hw8,aB,aa.more,LIM,TX])))<;>try simp[e3,es,u1,u2,u3,hw8,aB,aa.more,LIM,TX])))
   refine gE (.loc 90 0) rfl ?_ ?_
   .simp
   .simp
  .try simp[e3,es,u1,u2,u3,hw8,aB,aa.more,LIM,TX]
   all_goals try(repeat'(first|((first|(refine UN (F:=[.head 1 1]) c1 ?_ ?_;(· simp[e3,es,u1,u2,u3,hw8,aB,aa.more,LIM,TX]))|(refine UN (F:=[]) c2 ?_ ?_;(· simp[e3,es,u1,u2,u3,hw8,aB,aa.more,LIM,TX])))<;>try simp[e3,es,u1,u2,u3,hw8,aB,aa.more,LIM,TX])))
   refine gE (.loc 90 0) rfl ?_ ?_
   .simp
   .simp
 have aaK:∀E:aa,E.tmps 6= .t (aC (mX b))->E.tmps 3= .osl (.head 1 1) ((dh b).flatMap bK).length->E.slots (.head 1 1)=some (.rows 5 1 (((dh b).flatMap bK).map aC) false)->E.tmps 1= .ptr (.head 1 0) 0 0->E.slots (.head 1 0)=some (.box 79 (.t (aG b)) false)->(E.used=fun s=>[Nm.head 1 0,.head 1 1].contains s)->
   aY Tryz.prog bu (Fin [cy.tmp 2] (Ends (ll [aG b] (DV.osl (Nm.loc 0 0) (List.length W)) 5 1 (List.map aC W)))) [.code vj] E:=by
  intro E e6 e3 WK e1 es hU
  have hnl:=DG b 7
  rw[show(dh b).take 7=dh b from rfl]at hnl
  have V7:gN b=(dh b).flatMap bK++[mX b]++bK b.recs.length++ot b:=rfl
  obtain⟨q0,Zo⟩:∃q,q=(dh b).flatMap bK:=⟨_,rfl⟩
  rw[<-Zo]at e3 WK hnl V7
  obtain⟨m,hm⟩:∃m,m=mX b:=⟨_,rfl⟩
  rw[<-hm]at e6 V7
  obtain⟨q1,Yr⟩:∃q,q=q0++[m]:=⟨_,rfl⟩
  rw[<-Yr]at V7
  have WA:q0.length+1=q1.length:=by rw[Yr];simp
  have e3m:q0.map aC++[.v (.int .u8 m.toNat)]=q1.map aC:=by rw[Yr];simp
  have c1:=pP q1 b.recs.length (by omega)
  have Wy:=gj b.recs.length
  obtain⟨q2,Wk⟩:∃q,q=q1++bK b.recs.length:=⟨_,rfl⟩
  rw[<-Wk]at c1 V7
  have ahz:q2.length<=100:=by rw[Wk,ajB];omega
  have hlim:q1.length<=100000000:=by omega
  simp[vj]
  cases hr:b.recs with
  |nil=>
   rw[hr]at c1
   have Uu:gN b=q2:=by rw[V7];simp[ot,hr]
   try simp[e6,e3,WK,e1,es,hU,hr,az,ax,aB,aa.more,LIM,WA,e3m,hlim]
   all_goals try(repeat'(first|((refine UN (F:=[.loc 47 0]) c1 ?_ ?_;(· simp[e6,e3,WK,e1,es,hU,hr,az,ax,aB,aa.more,LIM,WA,e3m,hlim]))<;>try simp[e6,e3,WK,e1,es,hU,hr,az,ax,aB,aa.more,LIM,WA,e3m,hlim])))
   refine U3 _ (.loc 51 0) (.inl rfl) ?_ ?_ ?_ ?_ ?_
   .simp[Uu]
   .simp[Uu]
   .simp[hU]
   .simp[hU]
   .simp[hU]
  |cons r l=>
   rw[hr]at c1
   have c2:=pP q2 r.stamp (by omega)
   have TT:=gj r.stamp
   obtain⟨q3,Zn⟩:∃q,q=q2++bK r.stamp:=⟨_,rfl⟩
   rw[<-Zn]at c2
   have ahy:q3.length<=111:=by rw[Zn,ajB];omega
   have Wu:gN b=q3++(r::l).flatMap fun x=>gM x b.base r.stamp:=by rw[V7,Zn];simp[ot,hr]
   have Uy:(0:Int)<l.length+1:=by omega
   rw[hr]at WR Tk
   try simp[e6,e3,WK,e1,es,hU,hr,Uy,az,ax,aB,aa.more,LIM,WA,e3m,hlim]
   all_goals try(repeat'(first|((first|(refine UN (F:=[.loc 47 0]) c1 ?_ ?_;(· simp[e6,e3,WK,e1,es,hU,hr,Uy,az,ax,aB,aa.more,LIM,WA,e3m,hlim]))|(refine UN (F:=[.loc 51 0]) c2 ?_ ?_;(· simp[e6,e3,WK,e1,es,hU,hr,Uy,az,ax,aB,aa.more,LIM,WA,e3m,hlim])))<;>try simp[e6,e3,WK,e1,es,hU,hr,Uy,az,ax,aB,aa.more,LIM,WA,e3m,hlim])))
   have Z0:b.recs.length=l.length+1:=by rw[hr];rfl
   refine ba (fun E=>∃(i:Nat) (q:Bs),i<=l.length+1/\q=q3++((r::l).take i).flatMap (fun x=>gM x b.base r.stamp)/\E.tmps 67= .t (int i)/\E.tmps 66= .t (int (l.length+1))/\E.tmps 65= .t (.sl 5 ((r::l).map recT))/\E.tmps 7= .t (int r.stamp)/\E.tmps 1= .ptr (.head 1 0) 0 0/\E.slots (.head 1 0)=some (.box 79 (.t (aG b)) false)/\E.tmps 3= .osl (.head 1 1) q.length/\E.slots (.head 1 1)=some (.rows 5 1 (q.map aC) false)) (fun E=>match E.tmps 67 with| .t (.v (.int _ i))=>l.length+1-i.toNat|_=>0) [(.head 1 0,.head 1 0),(.loc 63 0,.head 1 1)] rfl ?_ ?_
   .refine⟨0,q3,by omega,by simp,?_,?_,?_,?_,?_,?_,?_,?_⟩<;>simp[e1,es,hr]
   clear e6 e3 WK e1 es hU
   rintro E1 ⟨i,q,hi,hq,f67,f66,f65,f7,f1,f1s,f3,f3s⟩ hU hS A hA
   have TD:=pV (fun x=>gM x b.base r.stamp) 200 ((r::l).take i) fun x hx=>wF (WR x (akm hx)).1 _ _
   have hql:q.length<=3400:=by
    rw[hq,ajB]
    have h200:=List.length_take_le' i (r::l)
    omega
   simp[Ae,f67,f66]
   refine aN (fun h=>?_) (fun h=>?_)
   .have hlt:i<(r::l).length:=by simp;omega
    have hx:=ajq hlt
    obtain⟨x,Tm⟩:∃x,(r::l)[i]=x:=⟨_,rfl⟩
    rw[Tm]at hx
    have hxe:=WR x (ajx hx)
    have hss:fh r.stamp=true:=(sC (WR r (by simp)).1).2.1
    have c3:=LJ x b.base r.stamp hxe.1 (ol.2 b1) hss
    have acy:q3++((r::l).take (i+1)).flatMap (fun x=>gM x b.base r.stamp)=q++gM x b.base r.stamp:=by rw[fO hx,hq];simp
    have hrb:=wF hxe.1 b.base r.stamp
    obtain⟨z,hz⟩:∃z,z=gM x b.base r.stamp:=⟨_,rfl⟩
    rw[<-hz]at c3 acy hrb
    have TX:q.length+z.length<=100000000:=by omega
    have Zz:(recT r::l.map recT)[i]?=some (recT x):=by rw[<-ajQ,ajw,hx];rfl
    try simp[f67,f66,f65,f7,f1,f1s,f3,f3s,hU,hx,Tm,Zz,h,hlt,aB,aa.more,LIM,TX]
    all_goals try(repeat'(first|((first|(refine UN (F:=[]) c3 ?_ ?_;(· simp[f67,f66,f65,f7,f1,f1s,f3,f3s,hU,hx,Tm,Zz,h,hlt,aB,aa.more,LIM,TX]))|simp(disch:=omega) only[wr])<;>try simp[f67,f66,f65,f7,f1,f1s,f3,f3s,hU,hx,Tm,Zz,h,hlt,aB,aa.more,LIM,TX])))
    refine hA _ (aH [(.head 1 0,.head 1 0),(.loc 81 0,.head 1 1)] rfl rfl ⟨i+1,q++z,by omega,acy.symm,?_,?_,?_,?_,?_,?_,?_,?_⟩ ?_)
    .simp
    .simp[f66]
    .simp[f65]
    .simp[f7]
    .simp[f1]
    .simp[f1s]
    .simp
    .simp
    .simp[f67]
     omega
   .have TC:(r::l).take i=r::l:=aju (by simp;omega)
    rw[TC]at hq
    have hqb:q=gN b:=by rw[hq,Wu]
    subst hqb
    simp[f67,f66,h]
    refine U3 _ (.head 1 1) (.inr rfl) ?_ ?_ ?_ ?_ ?_
    .simp[f3]
    .simp[f3s]
    .simp[hU]
    .simp[hU]
    .simp[hU]
 simp[Af]
 all_goals try(repeat'(first|(simp(disch:=omega) only[wr]<;>try simp)))
 refine nP (fun ns E=>∃(i:Nat),i<=7/\E.tmps 30= .t (int i)/\E.tmps 29= .agg ((dh b).map fun n=> .t (int n))/\E.tmps 1= .ptr (.head 1 0) 0 0/\E.slots (.head 1 0)=some (.box 79 (.t (aG b)) false)/\
   ((i=0/\ns=[.head 1 0]/\E.tmps 3= .t .e0)\/(0<i/\ns=[.head 1 0,.head 1 1]/\E.tmps 3= .osl (.head 1 1) (((dh b).take i).flatMap bK).length/\E.slots (.head 1 1)=some (.rows 5 1 ((((dh b).take i).flatMap bK).map aC) false))))
  (fun E=>match E.tmps 30 with| .t (.v (.int _ i))=>7-i.toNat|_=>0) [(.loc 1 0,.head 1 0)] rfl ?_ ?_
 .refine⟨0,by omega,?_,?_,?_,?_,.inl ⟨rfl,rfl,?_⟩⟩<;>simp[dh]
 rintro ns E1 ⟨i,hi,Y9,ZV,e1,es,UQ⟩ hU hS A hA
 have hnl:=DG b i
 simp[Ad,Y9]
 refine aN (fun h=>?_) (fun h=>?_)
 .have h7:i<7:=by omega
  have Xz:(dh b).length=7:=rfl
  have hx:=ajq (show i<(dh b).length by rw[Xz];exact h7)
  obtain⟨x,Tm⟩:∃x,(dh b)[i]'(by rw[Xz];exact h7)=x:=⟨_,rfl⟩
  rw[Tm]at hx
  have TT:((dh b).take (i+1)).flatMap bK=((dh b).take i).flatMap bK++bK x:=by rw[fO hx];simp
  obtain⟨q,hq⟩:∃q,q=((dh b).take i).flatMap bK:=⟨_,rfl⟩
  rw[<-hq]at TT UQ hnl
  rcases UQ with⟨rfl,rfl,e3⟩|⟨UL,rfl,e3,WK⟩
  .have Zo:q=[]:=by rw[hq];rfl
   rw[Zo,List.nil_append]at TT
   have c1:=Dm x
   try simp[Y9,ZV,e1,es,e3,hU,hx,Tm,Xz]
   all_goals try(repeat'(first|((refine UN (F:=[]) c1 ?_ ?_;(· simp[Y9,ZV,e1,es,e3,hU,hx,Tm,Xz]))<;>try simp[Y9,ZV,e1,es,e3,hU,hx,Tm,Xz])))
   refine hA _ [(.head 1 0,.head 1 0),(.loc 35 0,.head 1 1)] rfl ⟨1,by omega,?_,?_,?_,?_,.inr ⟨by omega,rfl,?_,?_⟩⟩ ?_
   .simp
   .simp[ZV,aky]
   .simp[e1]
   .simp[es]
   .simp[TT]
   .simp[TT]
   .simp[Y9]
  .have c1:=pP q x (by omega)
   try simp[Y9,ZV,e1,es,e3,WK,hU,hx,Tm,h,Xz]
   all_goals try(repeat'(first|((first|(refine UN (F:=[.head 1 1]) c1 ?_ ?_;(· simp[Y9,ZV,e1,es,e3,WK,hU,hx,Tm,h,Xz]))|simp(disch:=omega) only[wr])<;>try simp[Y9,ZV,e1,es,e3,WK,hU,hx,Tm,h,Xz])))
   refine hA _ [(.head 1 0,.head 1 0),(.loc 35 0,.head 1 1)] rfl ⟨i+1,by omega,?_,?_,?_,?_,.inr ⟨by omega,rfl,?_,?_⟩⟩ ?_
   .simp
   .simp[ZV,aky]
   .simp[e1]
   .simp[es]
   .simp[TT]
   .simp[TT]
   .simp[Y9]
    omega
 .have:i=7:=by omega
  subst this
  obtain⟨_,rfl,e3,WK⟩:=UQ.resolve_left (by omega)
  have Tt:(dh b).take 7=dh b:=rfl
  rw[Tt]at e3 WK hnl
  obtain⟨q0,Zo⟩:∃q,q=(dh b).flatMap bK:=⟨_,rfl⟩
  rw[<-Zo]at e3 WK hnl
  have ae8:=Yv.1
  have ae7:=Yv.2
  clear hA hS
  cases htx:b.txn with
  |true=>
   have Yv:=ae8 htx
   try simp[Y9,ZV,e1,es,e3,WK,htx,Yv,h]
   all_goals try(repeat'(first|(simp(disch:=omega) only[wr]<;>try simp[Y9,ZV,e1,es,e3,WK,htx,Yv,h])))
   refine aaK _ ?_ ?_ ?_ ?_ ?_ ?_
   .simp
   .simp[e3,Zo]
   .simp[WK,Zo]
   .simp[e1]
   .simp[es]
   .simp[hU]
  |false=>
   have Yv:=ae7 htx
   try simp[Y9,ZV,e1,es,e3,WK,htx,Yv,h]
   skip
   refine aaK _ ?_ ?_ ?_ ?_ ?_ ?_
   .simp
   .simp[e3,Zo]
   .simp[WK,Zo]
   .simp[e1]
   .simp[es]
   .simp[hU]
def di(b:aF):Int:=if fm b=false then 1 else if 2048<(bT b).length then 2 else 0
def sF{b:aF}(h:di b=0):fm b=true/\(bT b).length<=2048:=by
 unfold di at h
 split at h
 .simp at h
 .split at h
  .simp at h
  .exact⟨by simp_all,by omega⟩
def sG(b:aF)(hl:b.recs.length<=1000000)(h:di b=0):ajl 100 [aG b] (.tup [.osl (.loc 0 0) (bT b).length,.t (int 0)]) 5 1 ((bT b).map aC):=by
 obtain⟨h1,h2⟩:=sF h
 have c1:=DD b hl
 have c2:=DH b h1
 rw[h1]at c1
 obtain⟨q,hq⟩:∃q,q=bT b:=⟨_,rfl⟩
 rw[<-hq]at c2 h2⊢
 refine iN vY rfl ?_
 have h3:¬(2048:Int)<q.length:=by omega
 simp[rV]
 try simp[h3]
 all_goals try(repeat'(first|((first|(refine UV (F:=[]) c1 rfl ?_ ?_;(· simp[h3]))|(refine UN (F:=[]) c2 ?_ ?_;(· simp[h3])))<;>try simp[h3])))
 refine gE (.loc 9 0) rfl ?_ ?_
 .simp
 .simp
def DI(b:aF)(hl:b.recs.length<=1000000)(h:¬di b=0):aji 100 [aG b] (.tup [.t .e0,.t (int (di b))]):=by
 have c1:=DD b hl
 cases h1:fm b with
 |false=>
  have hv:di b=1:=by simp[di,h1]
  rw[hv]
  rw[h1]at c1
  refine pu vY rfl ?_
  simp[rV]
  repeat'(first|simp[*]|refine UV (F:=[]) c1 rfl ?_ ?_)
  all_goals exact kr rfl rfl
 |true=>
  have c2:=DH b h1
  rw[h1]at c1
  have h2:2048<(bT b).length:=by
   unfold di at h
   rw[h1]at h
   simp at h
   exact h
  have hv:di b=2:=by simp[di,h1,h2]
  rw[hv]
  obtain⟨q,hq⟩:∃q,q=bT b:=⟨_,rfl⟩
  rw[<-hq]at c2 h2
  have h2:(2048:Int)<q.length:=by omega
  refine pu vY rfl ?_
  simp[rV]
  repeat'(first|simp[*]|refine UV (F:=[]) c1 rfl ?_ ?_|refine UN (F:=[]) c2 ?_ ?_|(apply aN<;>intro h))
  all_goals first|exact kr rfl rfl|(exfalso;simp_all;done)
def wG(b:aF)(hl:b.recs.length<=1000000):aji 34 [aG b] (.t (int (di b))):=by
 refine pu J4 rfl ?_
 simp[BA]
 by_cases h:di b=0
 .have c1:=sG b hl h
  rw[h]
  repeat'(first|simp[*]|refine UN (F:=[]) c1 ?_ ?_)
  all_goals exact au rfl
 .have c1:=DI b hl h
  repeat'(first|simp[*]|refine UV (F:=[]) c1 rfl ?_ ?_)
  all_goals exact au rfl
def batSz(b:aF):Nat:=if di b=0 then(bT b).length else 0
def wH(b:aF)(hl:b.recs.length<=1000000):aji 193 [aG b] (.t (int (batSz b))):=by
 refine pu I8 rfl ?_
 simp[Ah]
 by_cases h:di b=0
 .have c1:=sG b hl h
  have hv:batSz b=(bT b).length:=if_pos h
  rw[hv]
  repeat'(first|simp[*]|refine UN (F:=[]) c1 ?_ ?_)
  all_goals exact au rfl
 .have c1:=DI b hl h
  have hv:batSz b=0:=if_neg h
  rw[hv]
  repeat'(first|simp[*]|refine UV (F:=[]) c1 rfl ?_ ?_)
  all_goals exact au rfl
def eP(l:Bs)(s:Int×Bool):Int×(Int×Bool):=if(cz l s.1).2.2=0 then((cz l s.1).1,((cz l s.1).2.1,s.2))else(0,(s.1,false))
abbrev pW(l:Bs)(s:Int×Bool):Ct:=⟨[],[.ptr (.arg 0) 0 0,.ptr (.arg 1) 0 0,.ptr (.arg 2) 0 0],[.box 59 (.t (aS l)) false,.box 3 (.t (int s.1)) false,.box 4 (.t (bo s.2)) false],.t (int (eP l s).1),
 [some (.box 59 (.t (aS l)) false),some (.box 3 (.t (int (eP l s).2.1)) false),some (.box 4 (.t (bo (eP l s).2.2)) false)],[]⟩
def wJ(l:Bs)(s:Int×Bool)(hl:l.length<=1000000000)(hs:s.1<=1000000000):ajk 316 (pW l s):=by
 refine aJ JP rfl ?_
 have c1:=wA l s.1 hl hs
 have hn:eP l s=eP l s:=rfl
 conv at hn=>rhs;unfold eP
 simp only[pW]
 generalize eP l s=r at*
 generalize cz l s.1=g at*
 by_cases he:g.2.2=0
 .simp only[he,if_true]at hn
  subst hn
  simp[vw]
  repeat'(first|simp[*]|refine UV (F:=[]) c1 rfl ?_ ?_)
  exact ug [(.arg 0,.arg 0),(.arg 1,.arg 1),(.arg 2,.arg 2)] rfl (by simp[*]) .rfl
 .simp only[he,ajS]at hn
  subst hn
  simp[vw]
  repeat'(first|simp[*]|refine UV (F:=[]) c1 rfl ?_ ?_)
  exact ug [(.arg 0,.arg 0),(.arg 1,.arg 1),(.arg 2,.arg 2)] rfl (by simp[*]) .rfl
def ij(l:Bs):Nat->Int×Bool
 |0=>(0,true)
 |k+1=>(eP l (ij l k)).2
def dn(l:Bs)(k:Nat):Int:=(eP l (ij l k)).1
def gO(l:Bs)(k:Nat):List Int:=(List.range 7).map fun i=>if i<k then dn l i else 0
def LU{l:Bs}{s:Int×Bool}(h:0<=s.1/\s.1<=l.length):0<=(eP l s).2.1/\(eP l s).2.1<=l.length:=by
 unfold eP
 split
 .exact sv l s.1
 .exact h
def DJ(l:Bs):∀k,0<=(ij l k).1/\(ij l k).1<=l.length
 |0=>by simp[ij]
 |k+1=>LU (DJ l k)
abbrev tI(n:Int):DV:= .t (int n)
theorem LV(l:Bs):∀k,k<7->ck ((gO l k).map tI) k [tI (dn l k)]=(gO l (k+1)).map tI
 |0,_=>rfl
 |1,_=>rfl
 |2,_=>rfl
 |3,_=>rfl
 |4,_=>rfl
 |5,_=>rfl
 |6,_=>rfl
 |n+7,h=>absurd h (by omega)
def fF(l:Bs)(base stamp:Int):Nat->Bool->Int×Bool->List fj×(Int×Bool)
 |0,_,s=>([],s)
 |k+1,f,s=>if s.2=false then([],s)else
  let g:=jl l s.1 base stamp
  let q:=fF l base stamp k false (g.2.1,decide (g.2.2=0)&&(!f||decide (g.1.stamp=stamp)))
  (g.1::q.1,q.2)
def eg:aF:=⟨0,0,0,0,0,0,0,false,0,[]⟩
def lN(l:Bs)(m:UInt8):aF:=⟨dn l 0,dn l 0+dn l 1,dn l 2,dn l 3,dn l 4,dn l 5,dn l 6,decide (¬bits .and .u8 m.toNat 4=0),bits .andNot .u8 m.toNat 4,[]⟩
def eC(l:Bs):aF×Bool:=
 let s:=ij l 7
 if s.2=false then(eg,false)else match l[s.1.toNat]? with
 |none=>(eg,false)
 |some m=>
  if 8<=(m.toNat:Int)then(eg,false)
  else if dn l 0<0 then(eg,false)
  else if 1099511627776<dn l 0 then(eg,false)
  else if dn l 1<0 then(eg,false)
  else if 16<=dn l 1 then(eg,false)
  else
   let c:=eP l (s.1+1,true)
   if c.2.2=false then(eg,false)
   else if c.1<0 then(eg,false)
   else if 16<c.1 then(eg,false)
   else
    let t:=if 0<c.1 then eP l c.2 else(0,c.2)
    let r:=fF l (dn l 0) t.1 c.1.toNat true t.2
    ({lN l m with recs:=r.1},r.2.2&&decide (r.2.1=l.length))
def iP{a b c d e f g h i:ab}:aE (.agg [a,b,c,d,e,f,g,h,i,.e0]) (.agg [a,b,c,d,e,f,g,h,i,.sl 5 []]):=aE.aggL ⟨.rfl,.rfl,.rfl,.rfl,.rfl,.rfl,.rfl,.rfl,.rfl,.nil,trivial⟩
def wK{E:aa}{ts:List ab}{x:ab}{b:aF}{o o':Bool}(hx:aE x (aG b))(ho:o'=o):Ends (de ts (.tup [.t (aG b),.t (bo o)])) (.tup [.t x,.t (bo o')]) E:=by
 subst ho
 refine jP ?_
 simp only[aa.outD,aa.out1,aa.view,ajQ,aj4,List.all_nil,if_true]
 exact .tup2 (.t hx) .rfl
def sH{E:aa}{ts:List ab}{ds:List DV}{x:ab}{rd:List Nm}{b:aF}{o o':Bool}(hv:E.view (.agg ds)=some (x,rd))(hx:aE x (aG b))(ho:o'=o):Ends (de ts (.tup [.t (aG b),.t (bo o)])) (.tup [.agg ds,.t (bo o')]) E:=by
 subst ho
 refine jP ?_
 have Tt:rd.all (fun s=>(([]:List (Nm×Nm)).lookup s).isNone)=true:=by simp[ajR]
 have h1:E.out1 [] (.agg ds)= .t x:=by
  show(match E.view (.agg ds)with|some (x,rd)=>if rd.all (fun s=>(([]:List (Nm×Nm)).lookup s).isNone)=true then DV.t x else(DV.agg ds).ren []|none=>(DV.agg ds).ren [])=_
  rw[hv]
  simp only[Tt,if_true]
 have h2:E.out1 [] (.t (bo o'))= .t (bo o'):=by simp
 show bZ (.tup [E.out1 [] (.agg ds),E.out1 [] (.t (bo o'))]) _
 rw[h1,h2]
 exact .tup2 (.t hx) .rfl
def LW(l:Bs)(hl:l.length<=1000000)(E:aa)(bb:aF)(X3 stamp at_:Int)(a:Nat)(ok:Bool):bb.recs=[]->X3=a/\a<=16->eC l=({bb with recs:=(fF l bb.base stamp a true (at_,ok)).1},(fF l bb.base stamp a true (at_,ok)).2.2&&decide ((fF l bb.base stamp a true (at_,ok)).2.1=l.length))->
    E.tmps 9= .t (int X3)->E.tmps 10= .t (int stamp)->E.tmps 1= .ptr (.head 1 0) 0 0->E.tmps 2= .ptr (.head 1 1) 0 0->E.tmps 3= .ptr (.head 1 2) 0 0->E.tmps 4= .ptr (.head 1 3) 0 0->
    E.slots (.head 1 0)=some (.box 59 (.t (aS l)) false)->E.slots (.head 1 1)=some (.box 79 (.agg [tI bb.base,tI bb.last,tI bb.frm,tI bb.epoch,tI bb.pid,tI bb.gen,tI bb.seq,.t (bo bb.txn),tI bb.ctl,.t .e0]) false)->
    E.slots (.head 1 2)=some (.box 4 (.t (bo ok)) false)->E.slots (.head 1 3)=some (.box 3 (.t (int at_)) false)->
    aY Tryz.prog bu (Fin [.cell 2 10 true,.cell 3 1 false] (Ends (de [aS l] (.tup [.t (aG (eC l).1),.t (bo (eC l).2)])))) [.code vu] E:=by
 rintro hbr ⟨rfl,agu⟩ hp t9 t10 t1 t2 t3 t4 z0 z1 z2 z3
 generalize hRR:fF l bb.base stamp a true (at_,ok)=RR at*
 replace hRR:RR=([]++(fF l bb.base stamp (a-0) (decide (0=0)) (at_,ok)).1,(fF l bb.base stamp (a-0) (decide (0=0)) (at_,ok)).2):=by simp[hRR]
 simp[vu]
 refine nP (fun ns E=>∃(i:Nat) (done:List fj) (abG:Int) (ok1:Bool) (r:DV),i<=a/\done.length=i/\RR=(done++(fF l bb.base stamp (a-i) (decide (i=0)) (abG,ok1)).1,(fF l bb.base stamp (a-i) (decide (i=0)) (abG,ok1)).2)/\
   E.tmps 11= .t (int i)/\E.tmps 9= .t (int a)/\E.tmps 10= .t (int stamp)/\E.tmps 1= .ptr (.head 1 0) 0 0/\E.tmps 2= .ptr (.head 1 1) 0 0/\E.tmps 3= .ptr (.head 1 2) 0 0/\E.tmps 4= .ptr (.head 1 3) 0 0/\
   E.slots (.head 1 0)=some (.box 59 (.t (aS l)) false)/\E.slots (.head 1 1)=some (.box 79 (.agg [tI bb.base,tI bb.last,tI bb.frm,tI bb.epoch,tI bb.pid,tI bb.gen,tI bb.seq,.t (bo bb.txn),tI bb.ctl,r]) false)/\
   E.slots (.head 1 2)=some (.box 4 (.t (bo ok1)) false)/\E.slots (.head 1 3)=some (.box 3 (.t (int abG)) false)/\
   ((i=0/\ns=[.head 1 0,.head 1 1,.head 1 2,.head 1 3]/\r= .t .e0)\/(0<i/\ns=[.head 1 0,.head 1 1,.head 1 2,.head 1 3,.head 1 4]/\r= .osl (.head 1 4) done.length/\E.slots (.head 1 4)=some (.rows 239 5 (done.map recT) false))))
  (fun E=>match E.tmps 11 with| .t (.v (.int _ i))=>16-i.toNat|_=>0) [(.head 1 0,.head 1 0),(.head 1 1,.head 1 1),(.head 1 2,.head 1 2),(.head 1 3,.head 1 3)] rfl ?_ ?_
 .refine⟨0,[],at_,ok,.t .e0,by omega,rfl,hRR,?_,?_,?_,?_,?_,?_,?_,?_,?_,?_,?_,.inl ⟨rfl,rfl,rfl⟩⟩<;>simp[t9,t10,t1,t2,t3,t4,z0,z1,z2,z3,hbr]
 rintro ns E2 ⟨i,done,at1,ok1,r,hi,Uv,abb,VE,u9,We,u1,u2,u3,u4,y0,y1,y2,y3,hr⟩ hU hS A hA
 clear t9 t10 t1 t2 t3 t4 z0 z1 z2 z3
 subst abb
 generalize hP:eC l=P at*
 subst hp
 cases ok1 with
 |false=>
  have Vd:fF l bb.base stamp (a-i) (decide (i=0)) (at1,false)=([],(at1,false)):=by
   cases a-i<;>simp[fF]
  simp only[Vd]at*
  clear hA hS
  rcases hr with⟨rfl,rfl,rfl⟩|⟨h0,rfl,rfl,y4⟩
  .simp[mL]
   try simp[VE,u9,We,u1,u2,u3,u4,y0,y1,y2,y3,hU]
   all_goals try(repeat'(first|(refine aj ?_<;>try simp[VE,u9,We,u1,u2,u3,u4,y0,y1,y2,y3,hU])|(apply aN<;>intro h<;>try simp[VE,u9,We,u1,u2,u3,u4,y0,y1,y2,y3,hU,h])))
   all_goals exact sH (x:= .agg [int bb.base,int bb.last,int bb.frm,int bb.epoch,int bb.pid,int bb.gen,int bb.seq,bo bb.txn,int bb.ctl,.e0]) (rd:=[]) (by simp) (by rw[show done=[]from aj3.1 Uv];exact iP) rfl
  .simp[mL]
   try simp[VE,u9,We,u1,u2,u3,u4,y0,y1,y2,y3,y4,hU]
   all_goals try(repeat'(first|(refine aj ?_<;>try simp[VE,u9,We,u1,u2,u3,u4,y0,y1,y2,y3,y4,hU])|(apply aN<;>intro h<;>try simp[VE,u9,We,u1,u2,u3,u4,y0,y1,y2,y3,y4,hU,h])))
   all_goals exact sH (x:= .agg [int bb.base,int bb.last,int bb.frm,int bb.epoch,int bb.pid,int bb.gen,int bb.seq,bo bb.txn,int bb.ctl,.sl 5 (done.map recT)]) (rd:=[.head 1 4]) (by simp[y4]) .rfl rfl
 |true=>
  by_cases hlt:i<a
  .obtain⟨k,hk⟩:∃k,a-i=k+1:=⟨a-i-1,by omega⟩
   have Uz:a-(i+1)=k:=by omega
   have c1:=LI l at1 bb.base stamp (by omega)
   obtain⟨g,hg⟩:∃g,jl l at1 bb.base stamp=g:=⟨_,rfl⟩
   simp only[hk,fF,hg,Bool.true_eq_false,ajS]at hA
   rw[hg]at c1
   obtain⟨r0,at2,e⟩:=g
   simp only at c1 hA
   have XI:done.length=i:=Uv
   have TD:(done.map recT).take i=done.map recT:=aju (by simp[Uv])
   have YS:i+1<=100000000:=by omega
   rcases hr with⟨rfl,rfl,rfl⟩|⟨h0,rfl,rfl,y4⟩
   .obtain rfl:=aj3.1 Uv
    simp[mL]
    try simp[VE,u9,We,u1,u2,u3,u4,y0,y1,y2,y3,hU,hlt,az,ax,aB,aa.more,LIM,XI,YS,TD]
    all_goals try(repeat'(first|((first|refine aj ?_|(refine UV (F:=[]) c1 rfl ?_ ?_;(· simp[VE,u9,We,u1,u2,u3,u4,y0,y1,y2,y3,hU,hlt,az,ax,aB,aa.more,LIM,XI,YS,TD])))<;>try simp[VE,u9,We,u1,u2,u3,u4,y0,y1,y2,y3,hU,hlt,az,ax,aB,aa.more,LIM,XI,YS,TD])|(apply aN<;>intro h<;>try simp[VE,u9,We,u1,u2,u3,u4,y0,y1,y2,y3,hU,hlt,az,ax,aB,aa.more,LIM,XI,YS,TD,h])))
    all_goals refine hA _ [(.head 1 0,.head 1 0),(.head 1 1,.head 1 1),(.head 1 2,.head 1 2),(.head 1 3,.head 1 3),(.loc 145 0,.head 1 4)] rfl ⟨1,[r0],at2,(decide (e=0)&&(!decide ((0:Nat)=0)||decide (r0.stamp=stamp))),.osl (.head 1 4) 1,by omega,by simp[Uv],by simp[Uz],?_,?_,?_,?_,?_,?_,?_,?_,?_,?_,?_,.inr ⟨by omega,rfl,by simp,?_⟩⟩ ?_
    all_goals first
     |(simp[VE,u9,We,u1,u2,u3,u4,y0,y1,y2,y3];done)
     |(simp[VE,u9,We,u1,u2,u3,u4,y0,y1,y2,y3];omega)
     |(simp_all;done)
   .simp[mL]
    try simp[VE,u9,We,u1,u2,u3,u4,y0,y1,y2,y3,y4,hU,h0,hlt,az,ax,aB,aa.more,LIM,XI,YS,TD]
    all_goals try(repeat'(first|((first|refine aj ?_|(refine UV (F:=[]) c1 rfl ?_ ?_;(· simp[VE,u9,We,u1,u2,u3,u4,y0,y1,y2,y3,y4,hU,h0,hlt,az,ax,aB,aa.more,LIM,XI,YS,TD]))|simp(disch:=omega) only[wr])<;>try simp[VE,u9,We,u1,u2,u3,u4,y0,y1,y2,y3,y4,hU,h0,hlt,az,ax,aB,aa.more,LIM,XI,YS,TD])|(apply aN<;>intro h<;>try simp[VE,u9,We,u1,u2,u3,u4,y0,y1,y2,y3,y4,hU,h0,hlt,az,ax,aB,aa.more,LIM,XI,YS,TD,h])))
    all_goals refine hA _ [(.head 1 0,.head 1 0),(.head 1 1,.head 1 1),(.head 1 2,.head 1 2),(.head 1 3,.head 1 3),(.loc 145 0,.head 1 4)] rfl ⟨i+1,done++[r0],at2,(decide (e=0)&&(!decide (i=0)||decide (r0.stamp=stamp))),.osl (.head 1 4) (done.length+1),by omega,by simp[Uv],by simp[Uz],?_,?_,?_,?_,?_,?_,?_,?_,?_,?_,?_,.inr ⟨by omega,rfl,by simp,?_⟩⟩ ?_
    all_goals first
     |(simp[VE,u9,We,u1,u2,u3,u4,y0,y1,y2,y3,y4,h0,Uv,(show¬i=0 by omega)];done)
     |(simp[VE,u9,We,u1,u2,u3,u4,y0,y1,y2,y3,y4,h0,Uv,(show¬i=0 by omega)];omega)
     |(simp_all;done)
  .have Xc:a-i=0:=by omega
   simp only[Xc,fF]at*
   clear hA hS
   rcases hr with⟨rfl,rfl,rfl⟩|⟨h0,rfl,rfl,y4⟩
   .simp[mL]
    try simp[VE,u9,We,u1,u2,u3,u4,y0,y1,y2,y3,hU,hlt]
    all_goals try(repeat'(first|(refine aj ?_<;>try simp[VE,u9,We,u1,u2,u3,u4,y0,y1,y2,y3,hU,hlt])))
    all_goals exact sH (x:= .agg [int bb.base,int bb.last,int bb.frm,int bb.epoch,int bb.pid,int bb.gen,int bb.seq,bo bb.txn,int bb.ctl,.e0]) (rd:=[]) (by simp) (by rw[show done=[]from aj3.1 Uv];exact iP) rfl
   .simp[mL]
    try simp[VE,u9,We,u1,u2,u3,u4,y0,y1,y2,y3,y4,hU,hlt]
    all_goals try(repeat'(first|(refine aj ?_<;>try simp[VE,u9,We,u1,u2,u3,u4,y0,y1,y2,y3,y4,hU,hlt])))
    all_goals exact sH (x:= .agg [int bb.base,int bb.last,int bb.frm,int bb.epoch,int bb.pid,int bb.gen,int bb.seq,bo bb.txn,int bb.ctl,.sl 5 (done.map recT)]) (rd:=[.head 1 4]) (by simp[y4]) .rfl rfl
def DK(m:UInt8):IntKind.i64.wrap (bits .andNot .u8 m.toNat 4)=bits .andNot .u8 m.toNat 4:=by
 have h:∀n:_root_.Fin 256,IntKind.i64.wrap (bits .andNot .u8 (n.val:Int) 4)=bits .andNot .u8 (n.val:Int) 4:=by decide+kernel
 exact h ⟨m.toNat,m.toNat_lt⟩
def LX(l:Bs)(hl:l.length<=1000000):aji 296 [aS l] (.tup [.t (aG (eC l).1),.t (bo (eC l).2)]):=by
 refine pu JO rfl ?_
 simp[Bb]
 refine ba (fun E=>∃(k:Nat) (d:DV),k<=7/\E.tmps 16= .t (int k)/\E.tmps 1= .ptr (.head 1 0) 0 0/\E.tmps 2= .ptr (.head 1 1) 0 0/\E.tmps 3= .ptr (.head 1 2) 0 0/\E.tmps 4= .ptr (.head 1 3) 0 0/\E.tmps 6= .ptr (.head 1 4) 0 0/\
   E.tmps 5= .fn 316 [.ptr (.head 1 0) 0 0,.ptr (.head 1 3) 0 0,.ptr (.head 1 2) 0 0]/\
   E.slots (.head 1 0)=some (.box 59 (.t (aS l)) false)/\E.slots (.head 1 1)=some (.box 79 (.t (.agg [int 0,int 0,int 0,int 0,int 0,int 0,int 0,bo false,int 0,.e0])) false)/\
   E.slots (.head 1 2)=some (.box 4 (.t (bo (ij l k).2)) false)/\E.slots (.head 1 3)=some (.box 3 (.t (int (ij l k).1)) false)/\E.slots (.head 1 4)=some (.box 283 d false)/\((k=0/\d= .t (.agg ((gO l 0).map fun n=>int n)))\/d= .agg ((gO l k).map tI)))
  (fun E=>match E.tmps 16 with| .t (.v (.int _ i))=>7-i.toNat|_=>0) [(.loc 1 0,.head 1 0),(.loc 2 0,.head 1 1),(.loc 3 0,.head 1 2),(.loc 4 0,.head 1 3),(.loc 6 0,.head 1 4)] rfl ?_ ?_
 .refine⟨0,.t (.agg ((gO l 0).map fun n=>int n)),by omega,?_,?_,?_,?_,?_,?_,?_,?_,?_,?_,?_,?_,.inl ⟨rfl,rfl⟩⟩<;>simp[ij]
  rfl
 rintro E1 ⟨k,d,hk,Wg,e1,e2,e3,e4,e6,e5,s0,s1,s2,s3,s4,hd⟩ hU hS A hA
 have TK:=DJ l k
 have Z4:(gO l k).length=7:=by simp[gO]
 simp[Ba,Wg]
 refine aN (fun h=>?_) (fun h=>?_)
 .have Uz:k<7:=by omega
  have c1:=wJ l (ij l k) (by omega) (by omega)
  have VX:=LV l k Uz
  have TT:eP l (ij l k)=(dn l k,ij l (k+1)):=rfl
  rw[pW,TT]at c1
  have ZC:k+1<=7:=by omega
  simp only[ck]at VX
  have YK:List.take k ((gO l k).map tI)++tI (dn l k)::List.drop (k+1) ((gO l k).map tI)=(gO l (k+1)).map tI:=by simpa using VX
  rcases hd with⟨rfl,rfl⟩|rfl
  .try simp[Wg,e1,e2,e3,e4,e6,e5,s0,s1,s2,s3,s4,hU,Z4,Uz]
   all_goals try(repeat'(first|((refine UR (S:=[.head 1 0,.head 1 3,.head 1 2]) c1 ?_ ?_;(· simp[Wg,e1,e2,e3,e4,e6,e5,s0,s1,s2,s3,s4,hU,Z4,Uz]))<;>try simp[Wg,e1,e2,e3,e4,e6,e5,s0,s1,s2,s3,s4,hU,Z4,Uz])))
   refine hA _ (aH [(.head 1 0,.head 1 0),(.head 1 1,.head 1 1),(.head 1 2,.head 1 2),(.head 1 3,.head 1 3),(.head 1 4,.head 1 4)] rfl rfl ⟨1,.agg ((gO l 1).map tI),by omega,?_,?_,?_,?_,?_,?_,?_,?_,?_,?_,?_,?_,.inr rfl⟩ ?_)
   .simp
   .simp[e1]
   .simp[e2]
   .simp[e3]
   .simp[e4]
   .simp[e6]
   .simp[e5]
   .simp
   .simp[s1]
   .simp
   .simp
   .simp
    rfl
   .simp[Wg]
  .try simp[Wg,e1,e2,e3,e4,e6,e5,s0,s1,s2,s3,s4,hU,Z4,h,ZC]
   all_goals try(repeat'(first|((first|(refine UR (S:=[.head 1 0,.head 1 3,.head 1 2]) c1 ?_ ?_;(· simp[Wg,e1,e2,e3,e4,e6,e5,s0,s1,s2,s3,s4,hU,Z4,h,ZC]))|simp(disch:=omega) only[wr])<;>try simp[Wg,e1,e2,e3,e4,e6,e5,s0,s1,s2,s3,s4,hU,Z4,h,ZC])))
   refine hA _ (aH [(.head 1 0,.head 1 0),(.head 1 1,.head 1 1),(.head 1 2,.head 1 2),(.head 1 3,.head 1 3),(.head 1 4,.head 1 4)] rfl rfl ⟨k+1,.agg ((gO l (k+1)).map tI),by omega,?_,?_,?_,?_,?_,?_,?_,?_,?_,?_,?_,?_,.inr rfl⟩ ?_)
   .simp
   .simp[e1]
   .simp[e2]
   .simp[e3]
   .simp[e4]
   .simp[e6]
   .simp[e5]
   .simp
   .simp[s1]
   .simp
   .simp
   .simp
    rw[YK]
    simp
   .simp[Wg]
    omega
 .have:k=7:=by omega
  subst this
  have hd:d= .agg ((gO l 7).map tI):=by
   rcases hd with⟨h0,_⟩|hd
   .omega
   .exact hd
  subst hd
  have TI:(gO l 7).map tI=[tI (dn l 0),tI (dn l 1),tI (dn l 2),tI (dn l 3),tI (dn l 4),tI (dn l 5),tI (dn l 6)]:=rfl
  rw[TI]at s4
  clear hA hS Z4 TI
  have hx:eC l=eC l:=rfl
  conv at hx=>rhs;unfold eC
  have Vv:=LW l hl
  have hx:eC l=eC l:=rfl
  conv at hx=>rhs;unfold eC
  generalize hss:ij l 7=s at*
  generalize hpp:eC l=r at*
  have hhd:∀m,lN l m=lN l m:=fun _=>rfl
  conv at hhd=>enter [m];rhs;unfold lN
  generalize dn l 0=n0 at*
  generalize dn l 1=n1 at*
  obtain⟨at_,ok⟩:=s
  simp only at hx s2 s3 TK
  cases ok with
  |false=>
   simp only[if_true]at hx
   subst hx
   clear Vv
   try simp[Wg,e1,e2,e3,e4,e6,e5,s0,s1,s2,s3,s4,hU]
   all_goals try(repeat'(first|(refine aj ?_<;>try simp[Wg,e1,e2,e3,e4,e6,e5,s0,s1,s2,s3,s4,hU])))
   exact wK iP rfl
  |true=>
   simp only[Bool.true_eq_false,ajS]at hx
   obtain⟨a,rfl⟩:=akp TK.1
   by_cases hb:a<l.length
   .have Tm:=ajq hb
    obtain⟨m,hm⟩:∃m,l[a]=m:=⟨_,rfl⟩
    rw[hm]at Tm
    simp only[akl,Tm]at hx
    have c2:=wJ l ((a:Int)+1,true) (by omega) (by simp;omega)
    have afw:=@LU l ((a:Int)+1,true) (by simp;omega)
    simp only[pW]at c2
    generalize eP l ((a:Int)+1,true)=c at*
    obtain⟨X3,at2,ok2⟩:=c
    simp only at c2 hx afw
    have c3:=wJ l (at2,true) (by omega) (by simp;omega)
    simp only[pW]at c3
    have Yu:¬(l.length:Int)<=a:=by omega
    try simp[Wg,e1,e2,e3,e4,e6,e5,s0,s1,s2,s3,s4,hU,hb,hm,Yu]
    all_goals try(repeat'(first|((first|refine aj ?_|(refine UR (S:=[.head 1 0,.head 1 3,.head 1 2]) c2 ?_ ?_;(· simp[Wg,e1,e2,e3,e4,e6,e5,s0,s1,s2,s3,s4,hU,hb,hm,Yu]))|(refine UR (S:=[.head 1 0,.head 1 3,.head 1 2]) c3 ?_ ?_;(· simp[Wg,e1,e2,e3,e4,e6,e5,s0,s1,s2,s3,s4,hU,hb,hm,Yu]))|simp(disch:=omega) only[wr])<;>try simp[Wg,e1,e2,e3,e4,e6,e5,s0,s1,s2,s3,s4,hU,hb,hm,Yu])|((first|apply aN|apply dL|apply kq)<;>intro h<;>try simp[Wg,e1,e2,e3,e4,e6,e5,s0,s1,s2,s3,s4,hU,hb,hm,Yu,h])))
    all_goals first
     |(clear Vv c2 c3 Wg e1 e2 e3 e4 e6 e5 s0 s1 s2 s3 s4 hU
       have hr:r=(eg,false):=by
        rw[hx]
        (repeat' split)<;>first|rfl|(exfalso;omega)|(exfalso;simp_all;done)|(exfalso;simp_all;omega)
       rw[hr]
       exact wK iP rfl)
     |skip
    .rename_i q1 q2 q3 q4 q5 q6 q7 q8
     subst q6
     rw[if_neg q1,if_neg q2,if_neg q3,if_neg q4,if_neg q5,if_neg (by simp),if_neg q7,if_neg q8]at hx
     simp only[if_pos h]at hx
     refine Vv _ (lN l m) X3 (eP l (at2,true)).1 (eP l (at2,true)).2.1 X3.toNat (eP l (at2,true)).2.2 rfl ⟨by omega,by omega⟩ ?_ ?_ ?_ ?_ ?_ ?_ ?_ ?_ ?_ ?_ ?_
     .rw[hx,show(lN l m).base=n0 by rw[hhd]]
     .simp
     .simp
     .simp[e1]
     .simp[e2]
     .simp[e3]
     .simp[e4]
     .simp[s0]
     .simp[hhd,DK]
     .simp
     .simp
    .rename_i q1 q2 q3 q4 q5 q6 q7 q8
     subst q6
     rw[if_neg q1,if_neg q2,if_neg q3,if_neg q4,if_neg q5,if_neg (by simp),if_neg q7,if_neg q8]at hx
     simp only[if_neg h]at hx
     refine Vv _ (lN l m) X3 0 at2 X3.toNat true rfl ⟨by omega,by omega⟩ ?_ ?_ ?_ ?_ ?_ ?_ ?_ ?_ ?_ ?_ ?_
     .rw[hx,show(lN l m).base=n0 by rw[hhd]]
     .simp
     .simp
     .simp[e1]
     .simp[e2]
     .simp[e3]
     .simp[e4]
     .simp[s0]
     .simp[hhd,DK]
     .simp
     .simp
   .have Tm:l[a]?=none:=aj2 (by omega)
    simp only[akl,Tm]at hx
    subst hx
    have Yu:(l.length:Int)<=a:=by omega
    clear Vv
    try simp[Wg,e1,e2,e3,e4,e6,e5,s0,s1,s2,s3,s4,hU,Yu]
    all_goals try(repeat'(first|(refine aj ?_<;>try simp[Wg,e1,e2,e3,e4,e6,e5,s0,s1,s2,s3,s4,hU,Yu])))
    exact wK iP rfl
def wL(l:Bs)(base stamp:Int):∀(k:Nat) (f:Bool) (s:Int×Bool),(fF l base stamp k f s).1.length<=k
 |0,_,_=>by simp[fF]
 |k+1,f,s=>by
  unfold fF
  split
  .simp
  .have:=wL l base stamp k false ((jl l s.1 base stamp).2.1,decide ((jl l s.1 base stamp).2.2=0)&&(!f||decide ((jl l s.1 base stamp).1.stamp=stamp)))
   simp only[akx]
   omega
def DL(l:Bs):(eC l).1.recs.length<=16:=by
 unfold eC
 simp only
 split
 .simp[eg]
 split
 .simp[eg]
 (repeat' split)<;>first
  |(simp[eg];done)
  |(rename_i h _
    refine akf (wL _ _ _ _ _ _) ?_
    omega)
  |(refine akf (wL _ _ _ _ _ _) ?_
    omega)
def eh(l:Bs)(a:Nat):aF×Int×Int:=
 if(l.drop a).length<4 then(eg,0,10)
 else if dW ((l.drop a).take 4)<5 then(eg,0,11)
 else if 2044<dW ((l.drop a).take 4)then(eg,0,11)
 else if((l.drop (a+4)).length:Int)<dW ((l.drop a).take 4)then(eg,0,10)
 else if gk ((l.drop (a+4)).take (dW ((l.drop a).take 4)).toNat)=0 then
  (if(eC (bk ((l.drop (a+4)).take (dW ((l.drop a).take 4)).toNat))).2=false then(eg,0,11)
   else if di (eC (bk ((l.drop (a+4)).take (dW ((l.drop a).take 4)).toNat))).1=0 then((eC (bk ((l.drop (a+4)).take (dW ((l.drop a).take 4)).toNat))).1,a+4+dW ((l.drop a).take 4),0)
   else(eg,0,11))
 else(eg,0,gk ((l.drop (a+4)).take (dW ((l.drop a).take 4)).toNat))
def lO{E:aa}{ts:List ab}{x:ab}{b:aF}{n n' e e':Int}(hx:aE x (aG b))(hn:n'=n)(he:e'=e):Ends (de ts (.tup [.t (aG b),.t (int n),.t (int e)])) (.tup [.t x,.t (int n'),.t (int e')]) E:=by
 subst hn he
 refine jP ?_
 simp only[aa.outD,aa.out1,aa.view,ajQ,aj4,List.all_nil,if_true]
 exact .tup3 (.t hx) .rfl .rfl
def LY(l:Bs)(a:Nat)(hl:l.length<=1000000):aji 260 [aS l,int a] (.tup [.t (aG (eh l a).1),.t (int (eh l a).2.1),.t (int (eh l a).2.2)]):=by
 have c1:=wz l a 4
 have hg:jj l a 4=if(l.drop a).length<4 then(0,10)else(dW ((l.drop a).take 4),0):=by
  unfold jj
  rw[if_neg (by omega)]
  simp only[akl]
  congr 1
  exact propext (by omega)
 rw[hg]at c1
 have hx:eh l a=eh l a:=rfl
 conv at hx=>rhs;unfold eh
 generalize eh l a=r at*
 by_cases h4:(l.drop a).length<4
 .simp only[h4,if_true]at hx c1
  subst hx
  refine pu lz rfl ?_
  simp[kz]
  repeat'(first|simp[*]|refine Up c1 rfl ?_)
  all_goals first|exact lO iP rfl rfl|(exfalso;omega)
 simp only[h4,ajS]at hx c1
 have hd:a+4<=l.length:=by simp at h4;omega
 clear h4 hg
 generalize dW ((l.drop a).take 4)=n at*
 by_cases h5:n<5
 .simp only[h5,if_true]at hx
  subst hx
  refine pu lz rfl ?_
  simp[kz]
  repeat'(first|simp[*,h5]|apply aj|refine Up c1 rfl ?_)
  all_goals first|exact lO iP rfl rfl|(exfalso;omega)
 by_cases h6:2044<n
 .simp only[h5,h6,if_true,ajS]at hx
  subst hx
  refine pu lz rfl ?_
  simp[kz]
  repeat'(first|simp[*,h5,h6]|apply aj|refine Up c1 rfl ?_)
  all_goals first|exact lO iP rfl rfl|(exfalso;omega)
 obtain⟨m,rfl⟩:=akp (show 0<=n by omega)
 simp only[h5,h6,ajS,akl]at hx
 have Uv:(l.drop (a+4)).length=l.length-(a+4):=by simp
 have k0:((a:Int)+4).toNat=a+4:=by omega
 have k1:(0:Int)<=(a:Int)+4:=by omega
 have k2:(a:Int)+4<=l.length:=by omega
 have k3:(0:Int)<=m:=by omega
 have k4:(List.drop (a+4) (l.map aC)).take (l.length-(a+4))=(l.drop (a+4)).map aC:=by rw[<-List.map_drop,aju (by simp)]
 have k5:¬(a:Int)+4<0:=by omega
 by_cases h7:((l.drop (a+4)).length:Int)<m
 .simp only[h7,if_true]at hx
  subst hx
  rw[Uv]at h7
  refine pu lz rfl ?_
  simp[kz]
  repeat'(first|simp[*,h5,h6,bt,h7]|apply aj|refine Up c1 rfl ?_|simp(disch:=omega) only[wr])
  all_goals first|exact lO iP rfl rfl|(exfalso;omega)
 .simp only[h7,ajS]at hx
  have Z0:(l.drop (a+4)).length<=1000000:=by omega
  have XJ:((l.drop (a+4)).take m).length<=1000000:=by rw[ajA];omega
  have k7:¬(l.length:Int)-(a+4)<m:=by omega
  have k8:(m:Int)<=l.length-(a+4):=by omega
  rw[Uv]at h7
  have k9:(m:Int)<=((l.length-(a+4):Nat):Int):=by omega
  have k10:m<=l.length-(a+4):=by omega
  generalize T2:l.drop (a+4)=rest at*
  have hdm:List.drop (a+4) (l.map aC)=rest.map aC:=by rw[<-List.map_drop,T2]
  by_cases UY:gk (rest.take m)=0
  .have c2:=sE (rest.take m) XJ UY
   have Wy:=DL (bk (rest.take m))
   have c3:=LX (bk (rest.take m)) (by unfold bk;rw[ajA];omega)
   have c4:=wG (eC (bk (rest.take m))).1 (by omega)
   simp only[UY,if_true]at hx
   generalize eC (bk (rest.take m))=p at*
   obtain⟨pb,ok⟩:=p
   simp only at hx c3 c4 Wy
   cases ok with
   |false=>
    simp only[if_true]at hx
    subst hx
    refine pu lz rfl ?_
    simp[kz]
    repeat'(first|simp[*,h5,h6,bt,h7,<-List.map_take]|apply aj|refine Up c1 rfl ?_|refine UN (F:=[]) c2 ?_ ?_|refine UV (F:=[.loc 42 0]) c3 rfl ?_ ?_|simp(disch:=omega) only[wr])
    all_goals first|exact lO iP rfl rfl|(exfalso;omega)
   |true=>
    simp only[Bool.true_eq_false,ajS]at hx
    by_cases Yg:di pb=0
    .rw[Yg]at c4
     simp only[Yg,if_true]at hx
     subst hx
     refine pu lz rfl ?_
     simp[kz]
     repeat'(first|simp[*,h5,h6,bt,h7,<-List.map_take]|apply aj|refine Up c1 rfl ?_|refine UN (F:=[]) c2 ?_ ?_|refine UV (F:=[.loc 42 0]) c3 rfl ?_ ?_|refine Up c4 rfl ?_|simp(disch:=omega) only[wr])
     all_goals first|exact lO .rfl rfl rfl|(exfalso;omega)
    .simp only[Yg,ajS]at hx
     subst hx
     refine pu lz rfl ?_
     simp[kz]
     repeat'(first|simp[*,h5,h6,bt,h7,<-List.map_take]|apply aj|refine Up c1 rfl ?_|refine UN (F:=[]) c2 ?_ ?_|refine UV (F:=[.loc 42 0]) c3 rfl ?_ ?_|refine Up c4 rfl ?_|simp(disch:=omega) only[wr])
     all_goals first|exact lO iP rfl rfl|(exfalso;omega)
  .have c2:=DB (rest.take m) XJ UY
   simp only[UY,ajS]at hx
   subst hx
   refine pu lz rfl ?_
   simp[kz]
   repeat'(first|simp[*,h5,h6,bt,h7,<-List.map_take]|apply aj|refine Up c1 rfl ?_|refine Up c2 rfl ?_|simp(disch:=omega) only[wr])
   all_goals first|exact lO iP rfl rfl|(exfalso;omega)
def jX(l:Bs):Nat->Nat->Int->List (aF×Int)
 |0,_,_=>[]
 |k+1,a,next=>if¬(eh l a).2.2=0 then[]else if(eh l a).1.base<next then[]else((eh l a).1,(eh l a).2.1)::jX l k (eh l a).2.1.toNat ((eh l a).1.last+1)
abbrev ik(base:Int)(l:Bs):ab:= .agg [int base,aS l]
def cO(base:Int)(l:Bs):List (aF×Int):=jX l (l.length+1) 0 base
def gm(base:Int)(l:Bs):List (List ab):=(cO base l).map fun p=>[aG p.1,int p.2]
def DM{l:Bs}{a:Nat}(h:(eh l a).2.2=0):∃b:Nat,(eh l a).2.1=b/\a+9<=b/\b<=l.length/\di (eh l a).1=0/\(eh l a).1.recs.length<=16:=by
 unfold eh at h⊢
 split at h
 .simp at h
 rename_i q1
 split at h
 .simp at h
 rename_i q2
 split at h
 .simp at h
 rename_i q3
 split at h
 .simp at h
 rename_i q4
 split at h
 .rename_i q5
  split at h
  .simp at h
  rename_i q6
  split at h
  .rename_i q7
   rw[if_neg q1,if_neg q2,if_neg q3,if_neg q4,if_pos q5,if_neg q6,if_pos q7]
   have:=aj9 (i:=a+4) (l:=l)
   refine⟨a+4+(dW ((l.drop a).take 4)).toNat,?_,?_,?_,q7,DL _⟩
   .simp only
    omega
   .omega
   .simp at q1
    omega
  .simp at h
 .rename_i q5
  exact absurd h q5
def LZ{b:aF}(h:fm b=true):(0<=b.base/\b.base<=1099511627776)/\(0<=b.last/\b.last<=1099511627776)/\b.base<=b.last:=by
 unfold fm at h
 split at h
 .simp at h
 rename_i h1
 simp only[Bool.not_eq_false]at h1
 rw[wE]at h1
 split at h
 .simp at h
 split at h
 .simp at h
 exact⟨h1.1,h1.2.1,by omega⟩
def DN{b:aF}(h:di b=0):(0<=b.base/\b.base<=1099511627776)/\(0<=b.last/\b.last<=1099511627776)/\b.base<=b.last:=LZ (sF h).1
def wM{α:Type}{l:List α}{i:Nat}(h:l.drop i=[])(hi:i<=l.length):i=l.length:=by
 have:=congrArg List.length h
 simp at this
 omega
def DO{α:Type}{l m:List α}{i:Nat}{x:α}(h:l.drop i=x::m):l[i]?=some x/\l.drop (i+1)=m/\i<l.length:=by
 refine⟨?_,?_,?_⟩
 .have:=congrArg (fun t=>t[0]?) h
  simpa using this
 .have:=congrArg (List.drop 1) h
  simpa using this
 .have:=congrArg List.length h
  simp at this
  omega
def DP(base:Int)(l:Bs)(hl:l.length<=1000000):ajp 259 [.tp (ik base l) 0] (gm base l):=by
 refine sf JG rfl ?_
 simp[AZ,i9,GH]
 refine ba (fun E=>∃(i k a:Nat) (next:Int),a<=l.length/\l.length<a+k/\i<=(cO base l).length/\(cO base l).drop i=jX l k a next/\E.tmps 0= .yl/\E.tmps 1= .tp (ik base l) 0/\E.tmps 3= .t (int a)/\E.tmps 4= .t (int next)/\E.tmps 1000000000=cD (some i))
  (fun E=>match E.tmps 3 with| .t (.v (.int _ i))=>l.length-i.toNat|_=>0) [(.yl,.yl)] rfl ?_ ?_
 .refine⟨0,l.length+1,0,base,by omega,by omega,by omega,rfl,?_,?_,?_,?_,?_⟩<;>simp[jL]
 rintro E1 ⟨i,k,a,next,ha,hk,hi,hd,e0,e1,e3,e4,eG⟩ hU hS A hA
 obtain⟨k,rfl⟩:∃j,k=j+1:=⟨k-1,by omega⟩
 have c1:=LY l a hl
 have hn:=@DM l a
 unfold jX at hd
 generalize eh l a=g at*
 obtain⟨b,nx,e⟩:=g
 simp only at c1 hn hd
 have VR:(gm base l).length=(cO base l).length:=by simp[gm]
 simp[AY,VR]
 by_cases he:e=0
 .subst he
  obtain⟨nn,rfl,UO,Y3,Zw,Y2⟩:=hn rfl
  have TE:=DN Zw
  simp only[not_true,ajS,akl]at hd
  by_cases hb:b.base<next
  .rw[if_pos hb]at hd
   have:=wM hd hi
   try simp[e0,e1,e3,e4,hU,hb]
   all_goals try(repeat'(first|((first|refine aj ?_|refine u0 c1 rfl ?_)<;>try simp[e0,e1,e3,e4,hU,hb])))
   refine⟨.inr rfl,.inl ?_⟩
   simp[GH,eG,this]
  .rw[if_neg hb]at hd
   obtain⟨q1,q2,q3⟩:=DO hd
   have q4:(gm base l)[i]?=some [aG b,int nn]:=by simp[gm,q1]
   try simp[e0,e1,e3,e4,hU,hb]
   all_goals try(repeat'(first|((first|refine aj ?_|refine u0 c1 rfl ?_)<;>try simp[e0,e1,e3,e4,hU,hb])))
   refine rx (i:=i) (x:=[aG b,int nn]) [] ?_ q4 ?_ ?_ ?_
   .simp[GH,eG]
   .simp
   .try simp[e0,e1,e3,e4,hU,GH]
    all_goals try(repeat'(first|((first|refine aj ?_|simp(disch:=omega) only[wr])<;>try simp[e0,e1,e3,e4,hU,GH])))
    refine hA _ (aH [(.yl,.yl)] rfl rfl ⟨i+1,k,nn,b.last+1,by omega,by omega,by omega,q2,?_,?_,?_,?_,?_⟩ ?_)
    .simp[e0]
    .simp[e1]
    .simp
    .simp
    .simp[jL]
    .simp[e3]
     omega
   .try simp[e0,e1,e3,e4,hU,GH]
    all_goals try(repeat'(first|(refine aj ?_<;>try simp[e0,e1,e3,e4,hU,GH])))
    refine⟨.inr rfl,.inr ?_⟩
    simp[GH]
 .rw[if_pos he]at hd
  have:=wM hd hi
  try simp[e0,e1,e3,e4,hU,he]
  all_goals try(repeat'(first|((first|refine aj ?_|refine u0 c1 rfl ?_)<;>try simp[e0,e1,e3,e4,hU,he])))
  refine⟨.inr rfl,.inl ?_⟩
  simp[GH,eG,this]
abbrev wN(base:Int)(l:Bs):Row:= .box 61 (.t (ik base l)) false
def DQ(base:Int)(l:Bs):ajj 220 [ik base l] (.fn 259 [.ptr (.loc 0 0) 0 0]) (wN base l):=by
 refine pO Jm rfl ?_
 simp[Ay]
 refine pt (.loc 1 0) rfl ?_ (fun _=>rfl) ?_
 .simp
 .simp
def lP:List (aF×Int)->Int
 |[]=>0
 |[p]=>p.2
 |_::l=>lP l
theorem L0(l:List (aF×Int))(p:aF×Int):lP (l++[p])=p.2:=by
 induction l with
 |nil=>rfl
 |cons x l ih=>cases l with
  |nil=>rfl
  |cons y l=>exact ih
abbrev dw(base:Int)(l:Bs):List aF:=(cO base l).map (·.1)
def iQ(base:Int)(l:Bs):Int:=lP (cO base l)
def DR(l:Bs):∀(k a:Nat) (next:Int),a<=l.length->(jX l k a next).length+a<=l.length
 |0,a,next,h=>by simp[jX,h]
 |k+1,a,next,h=>by
  unfold jX
  split
  .simp[h]
  .rename_i h1
   simp only[Decidable.not_not]at h1
   obtain⟨b,q1,q2,q3,_⟩:=DM h1
   split
   .simp[h]
   .have:=DR l k (eh l a).2.1.toNat ((eh l a).1.last+1) (by omega)
    simp only[akx]
    omega
def pX(base:Int)(l:Bs):(cO base l).length<=l.length:=by
 have:=DR l (l.length+1) 0 base (by omega)
 unfold cO
 omega
def DS(base:Int)(l:Bs)(hl:l.length<=1000000)(K:DV->aa->Prop)(h0:cO base l=[]->∀E,K (.tup [.t .e0,.t (int 0)]) E)
  (h1:cO base l≠[]->∀E s,s.fixed=false->E.slots s=some (.rows 79 10 ((dw base l).map aG) false)->K (.tup [.osl s (dw base l).length,.t (int (iQ base l))]) E):
  aY Tryz.prog bu (Fin [.cell 2 1 false,.cell 3 1 false] K) [.code wk] (ew [ik base l]):=by
 have YA:=pX base l
 have hit:=DP base l hl
 have c1:=DQ base l
 simp[wk]
 refine jO (ts:=[ik base l]) (F:=[]) c1 (fun _=>rfl) (by simp) (by simp) ?_
 simp
 generalize hE:aa.put _ 7 _=E0
 have t2:E0.tmps 2= .ptr (.loc 2 0) 0 0:=by rw[<-hE];simp
 have t3:E0.tmps 3= .ptr (.loc 3 0) 0 0:=by rw[<-hE];simp
 have t7:E0.tmps 7= .fn 259 [.ptr (.loc 7 0) 0 0]:=by rw[<-hE];simp
 have z2:E0.slots (.loc 2 0)=some (.box 47 (.t .e0) false):=by rw[<-hE];simp
 have z3:E0.slots (.loc 3 0)=some (.box 3 (.t (int 0)) false):=by rw[<-hE];simp
 have z7:E0.slots (.loc 7 0)=some (wN base l):=by rw[<-hE];simp
 have v2:E0.used (.loc 2 0)=true:=by rw[<-hE];simp
 have v3:E0.used (.loc 3 0)=true:=by rw[<-hE];simp
 have v7:E0.used (.loc 1000 0)=false:=by rw[<-hE];simp
 clear hE
 refine lr (xs:=gm base l) (f:=259) (caps:=[.ptr (.loc 7 0) 0 0]) (ts:=[.tp (ik base l) 0]) (F:=[.loc 7 0]) [.loc 2 0,.loc 3 0] [.box 47 (.t .e0) false,.box 3 (.t (int 0)) false] 1000
  (fun i ns E=>∃(x:DV),E.slots (.arg 0)=some (.box 47 x false)/\E.slots (.arg 1)=some (.box 3 (.t (int (lP ((cO base l).take i)))) false)/\
   ((i=0/\x= .t .e0/\ns=[.arg 0,.arg 1])\/(0<i/\x= .osl (.head 1 0) i/\ns=[.arg 0,.arg 1,.head 1 0]/\E.slots (.head 1 0)=some (.rows 79 10 (((cO base l).take i).map fun p=>aG p.1) false))))
  hit ?_ ?_ ?_ (gF rfl (by decide) rfl ?_ ?_ trivial ?_) ?_ ?_ ?_
 .simp[t7]
 .simp[aa.viewps,aa.viewp,z7]
 .intro x hx
  simp only[gm,ajI]at hx
  obtain⟨p,_,rfl⟩:=hx
  rfl
 .simp[z2,z3]
 .simp[v2,v3]
 .simp[z7]
 .exact⟨_,rfl,rfl,.inl ⟨rfl,rfl,rfl⟩⟩
 .rintro i x ns E1 hx ⟨y,e0,e1,hc⟩ hU hS A hA
  simp only[gm,ajw,ajt]at hx
  obtain⟨p,hp,rfl⟩:=hx
  have TD:=fO hp
  have hgd:lP ((cO base l).take (i+1))=p.2:=by rw[TD,L0]
  have TC:=(ajs.1 hp).1
  rcases hc with⟨rfl,rfl,rfl⟩|⟨UL,rfl,rfl,e2⟩
  .simp[t2,t3]
   try simp[e0,e1,hU,t2,t3,az,ax,aB,aa.more,LIM]
   skip
   refine hA _ [(.arg 0,.arg 0),(.arg 1,.arg 1),(.loc 13 0,.head 1 0)] rfl rfl ⟨.osl (.head 1 0) 1,?_,?_,.inr ⟨by omega,rfl,rfl,?_⟩⟩
   .simp
   .simp[hgd]
   .simp[TD]
  .have Zy:min i (cO base l).length=i:=by omega
   have YS:i<=99999999:=by omega
   simp[t2,t3]
   try simp[e0,e1,e2,hU,t2,t3,az,ax,aB,aa.more,LIM,Zy,YS]
   skip
   refine hA _ [(.arg 0,.arg 0),(.arg 1,.arg 1),(.loc 13 0,.head 1 0)] rfl rfl ⟨.osl (.head 1 0) (i+1),?_,?_,.inr ⟨by omega,rfl,rfl,?_⟩⟩
   .simp
   .simp[hgd]
   .simp[TD,List.take_take]
 .rintro ns E1 ⟨y,e0,e1,hc⟩ hU hS
  have VR:(gm base l).length=(cO base l).length:=by simp[gm]
  rw[VR]at e1 hc
  rw[akg]at e1 hc
  rcases hc with⟨h,rfl,rfl⟩|⟨UL,rfl,rfl,e2⟩
  .have Vd:=aj3.1 h
   rw[Vd]at e1
   refine gG ⟨[],[],[],.junk,[some (.box 47 (.t .e0) false),some (.box 3 (.t (int 0)) false)],[]⟩ [(.arg 0,.arg 0),(.arg 1,.arg 1)] rfl ?_ ?_ ?_ ?_ ?_
   .simp[e0,e1,lP]
   .simp
    omega
   .simp
   .simp
   .simp[t2,t3,z2,z3,z7]
    try simp[t2,t3,z2,z3,z7]
    skip
    exact h0 Vd _
  .have TW:cO base l≠[]:=fun h=>by rw[h]at UL;simp at UL
   refine gG ⟨[],[],[],.junk,[some (.box 47 (.osl (.loc 0 0) (cO base l).length) false),some (.box 3 (.t (int (lP (cO base l)))) false)],[.rows 79 10 ((cO base l).map fun p=>aG p.1) false]⟩ [(.arg 0,.arg 0),(.arg 1,.arg 1),(.head 1 0,.loc 0 0)] rfl ?_ ?_ ?_ ?_ ?_
   .simp[e0,e1,e2]
   .simp
    omega
   .simp
   .simp[v7]
   .simp[t2,t3,z2,z3,z7]
    try simp[t2,t3,z2,z3,z7]
    skip
    have Tk:(dw base l).length=(cO base l).length:=by simp
    rw[Tk]at h1
    refine h1 TW _ (.loc 1000 0) rfl ?_
    simp
abbrev kE(l:List aF):ab:= .sl 10 (l.map aG)
def ou(base:Int)(l:Bs)(hl:l.length<=1000000):aji 153 [ik base l] (.tup [.t (kE (dw base l)),.t (int (iQ base l))]):=by
 refine pu CK rfl (DS base l hl _ (fun h E=>?_) (fun h E s hs Tj=>?_))
 .refine jP ?_
  simp only[aa.outD,aa.out1,aa.view,ajQ,aj4,List.all_nil,if_true,h,iQ,lP,kE,dw]
  exact .tup2 (.t .nil) .rfl
 .refine eM ?_
  simp[Tj]
def L1(base:Int)(l:Bs)(hl:l.length<=1000000)(TW:cO base l≠[]):ajl 153 [ik base l] (.tup [.osl (.loc 0 0) (dw base l).length,.t (int (iQ base l))]) 79 10 ((dw base l).map aG):=by
 refine iN CK rfl (DS base l hl _ (fun h E=>absurd h TW) (fun h E s hs Tj=>?_))
 refine gE s hs Tj ?_
 simp[Tj]
def DT(l:Bs):∀(k a:Nat) (next:Int) (p:aF×Int),p∈jX l k a next->di p.1=0/\p.1.recs.length<=16
 |0,a,next,p,h=>by simp[jX]at h
 |k+1,a,next,p,h=>by
  unfold jX at h
  split at h
  .simp at h
  .rename_i h1
   simp only[Decidable.not_not]at h1
   obtain⟨b,q1,q2,q3,q4,q5⟩:=DM h1
   split at h
   .simp at h
   .rcases akc.1 h with rfl|h
    .exact⟨q4,q5⟩
    .exact DT l k _ _ p h
def L2{base:Int}{l:Bs}{p:aF×Int}(h:p∈cO base l):di p.1=0/\p.1.recs.length<=16:=DT l _ _ _ p h
def pY(base:Int):List (aF×Int)->Int
 |[]=>base
 |p::l=>pY (p.1.last+1) l
def L3(l:List (aF×Int))(p:aF×Int):∀base,pY base (l++[p])=p.1.last+1:=by
 induction l with
 |nil=>intro base;rfl
 |cons x l ih=>intro base;exact ih _
def jY(base:Int)(l:Bs):Int:=pY base (cO base l)
def sI(base:Int)(l:Bs)(hl:l.length<=1000000):aji 204 [ik base l] (.t (int (jY base l))):=by
 have hit:=DP base l hl
 have c1:=DQ base l
 refine pu Je rfl ?_
 simp[Aq]
 refine jO (ts:=[ik base l]) (F:=[]) c1 (fun _=>rfl) (by simp) (by simp) ?_
 simp
 generalize hE:aa.put _ 8 _=E0
 have t3:E0.tmps 3= .ptr (.loc 3 0) 0 0:=by rw[<-hE];simp
 have t8:E0.tmps 8= .fn 259 [.ptr (.loc 8 0) 0 0]:=by rw[<-hE];simp
 have z3:E0.slots (.loc 3 0)=some (.box 3 (.t (int base)) false):=by rw[<-hE];simp
 have z8:E0.slots (.loc 8 0)=some (wN base l):=by rw[<-hE];simp
 have v3:E0.used (.loc 3 0)=true:=by rw[<-hE];simp
 clear hE
 refine lr (xs:=gm base l) (f:=259) (caps:=[.ptr (.loc 8 0) 0 0]) (ts:=[.tp (ik base l) 0]) (F:=[.loc 8 0]) [.loc 3 0] [.box 3 (.t (int base)) false] 1000
  (fun i ns E=>ns=[.arg 0]/\E.slots (.arg 0)=some (.box 3 (.t (int (pY base ((cO base l).take i)))) false))
  hit ?_ ?_ ?_ (gF rfl (by decide) rfl ?_ ?_ trivial ?_) ?_ ?_ ?_
 .simp[t8]
 .simp[aa.viewps,aa.viewp,z8]
 .intro x hx
  simp only[gm,ajI]at hx
  obtain⟨p,_,rfl⟩:=hx
  rfl
 .simp[z3]
 .simp[v3]
 .simp[z8]
 .exact⟨rfl,rfl⟩
 .rintro i x ns E1 hx ⟨rfl,e0⟩ hU hS A hA
  simp only[gm,ajw,ajt]at hx
  obtain⟨p,hp,rfl⟩:=hx
  have TD:=fO hp
  have Z3:pY base ((cO base l).take (i+1))=p.1.last+1:=by rw[TD,L3]
  have TE:=DN (L2 (ajx hp)).1
  simp[t3]
  try simp[e0,hU,t3]
  all_goals try(repeat'(first|(simp(disch:=omega) only[wr]<;>try simp[e0,hU,t3])))
  refine hA _ [(.arg 0,.arg 0)] rfl rfl ⟨rfl,?_⟩
  simp[Z3]
 .rintro ns E1 ⟨rfl,e0⟩ hU hS
  have VR:(gm base l).length=(cO base l).length:=by simp[gm]
  rw[VR,akg]at e0
  refine gG ⟨[],[],[],.junk,[some (.box 3 (.t (int (jY base l))) false)],[]⟩ [(.arg 0,.arg 0)] rfl ?_ ?_ ?_ ?_ ?_
  .simp[e0,jY]
  .simp
  .simp
  .simp
  .simp[t3,z3,z8]
   try simp[t3,z3,z8]
   skip
   exact au rfl
structure bL where
 base:Int
 bytes:Bs
abbrev bF(s:bL):ab:=ik s.base s.bytes
structure Lg where
 limit:Int
 start:Int
 segs:List bL
abbrev aO(l:Lg):ab:= .agg [int l.limit,int l.start,.sl 2 (l.segs.map bF)]
def fQ(n:Int):Bool:=decide (0<=n)&&decide (n<=1099511627776)
def DU(n:Int):aji 203 [int n] (tt (fQ n)):=by
 refine pu Jd rfl ?_
 simp[Ap]
 repeat'(first|simp[*]|apply aj|(apply aN<;>intro h))
 all_goals(refine au ?_<;>simp[*,fQ];done)
def pZ(limit start:Int):Bool:=decide (256<=limit)&&decide (limit<=4096)&&fQ start
def DW(limit start:Int):aji 115 [int limit,int start] (tt (pZ limit start)):=by
 have c1:=DU start
 unfold pZ
 generalize fQ start=b at*
 refine pu KF rfl ?_
 simp[Cn]
 repeat'(first|simp[*]|apply aj|refine Up c1 rfl ?_|(apply aN<;>intro h))
 all_goals exact au rfl
def sJ(s:bL):Bool:=fQ s.base&&decide (iQ s.base s.bytes=s.bytes.length)
def L4(s:bL)(hl:s.bytes.length<=1000000):aji 116 [bF s] (tt (sJ s)):=by
 have c1:=ou s.base s.bytes hl
 have c2:=DU s.base
 unfold sJ
 generalize fQ s.base=b at*
 refine pu KG rfl ?_
 simp[Co]
 cases b with
 |true=>
  repeat'(first|simp[*]|apply aj|refine Up c1 rfl ?_|refine Up c2 rfl ?_)
  all_goals exact au rfl
 |false=>
  repeat'(first|simp[*]|apply aj|refine Up c1 rfl ?_|refine Up c2 rfl ?_)
  all_goals exact au rfl
def sK(a b:bL):Bool:=decide (a.base<b.base)&&decide (jY a.base a.bytes<=b.base)
def L5(a b:bL)(hl:a.bytes.length<=1000000):aji 117 [bF a,bF b] (tt (sK a b)):=by
 have c1:=sI a.base a.bytes hl
 unfold sK
 refine pu KH rfl ?_
 simp[Cp]
 by_cases h:a.base<b.base
 .repeat'(first|simp[*]|apply aj|refine Up c1 rfl ?_)
  all_goals exact au rfl
 .repeat'(first|simp[*]|apply aj)
  all_goals exact au rfl
def kF(limit:Int)(l:List bL)(i:Nat):Bool:=match l[i]? with
 |none=>true
 |some s=>decide ((s.bytes.length:Int)<=limit)&&(sJ s&&(decide (i=0)||match l[i-1]? with|some p=>sK p s|none=>true))
def cj(l:Lg):Int:=
 if pZ l.limit l.start=false\/l.segs=[]then 1
 else if((List.range l.segs.length).all (kF l.limit l.segs))=false then 1
 else if 256<l.segs.length then 2 else 0
def wO{p:Nat->Bool}{n i:Nat}(hi:i<n)(h:p i=false):(List.range n).all p=false:=by
 rw[Bool.eq_false_iff]
 intro h2
 rw[ajR.1 h2 i (List.mem_range.2 hi)]at h
 cases h
def wP{p:Nat->Bool}{n:Nat}(h:∀j,j<n->p j=true):(List.range n).all p=true:=ajR.2 fun j hj=>h j (List.mem_range.1 hj)
def p6(L:Lg)(hn:L.segs.length<=1000000)(hl:∀s∈L.segs,s.bytes.length<=1000000):aji 44 [aO L] (.t (int (cj L))):=by
 obtain⟨limit,start,l⟩:=L
 simp only at hn hl
 have c0:=DW limit start
 have hv:cj ⟨limit,start,l⟩=cj ⟨limit,start,l⟩:=rfl
 conv at hv=>rhs;unfold cj
 simp only at hv
 generalize cj ⟨limit,start,l⟩=r at*
 generalize pZ limit start=may at*
 cases may with
 |false=>
  simp only[true_or,if_true]at hv
  subst hv
  refine pu vH rfl ?_
  simp[rL]
  all_goals try(repeat'(first|((first|refine aj ?_|refine Up c0 rfl ?_)<;>try simp)))
  all_goals exact au rfl
 |true=>
  cases l with
  |nil=>
   simp only[or_true,if_true]at hv
   subst hv
   refine pu vH rfl ?_
   simp[rL]
   all_goals try(repeat'(first|((first|refine aj ?_|refine Up c0 rfl ?_)<;>try simp)))
   all_goals exact au rfl
  |cons s0 l=>
   have Zr:0<(s0::l).length:=by simp
   generalize s0::l=L at*
   have TW:L≠[]:=List.ne_nil_of_length_pos Zr
   simp only[TW,or_false,Bool.true_eq_false,ajS]at hv
   have h0:¬L.length=0:=by omega
   have WJ:¬(L.length:Int)=0:=by omega
   refine pu vH rfl ?_
   simp[rL]
   try simp[h0,WJ,TW]
   all_goals try(repeat'(first|((first|refine aj ?_|refine Up c0 rfl ?_)<;>try simp[h0,WJ,TW])))
   refine ba (fun E=>∃i,i<=L.length/\(∀j,j<i->kF limit L j=true)/\E.tmps 1= .ptr (.head 1 0) 0 0/\E.tmps 18= .t (.sl 2 (L.map bF))/\E.tmps 19= .t (int L.length)/\E.tmps 20= .t (int i)/\E.slots (.head 1 0)=some (.box 24 (.t (aO ⟨limit,start,L⟩)) false))
    (fun E=>match E.tmps 20 with| .t (.v (.int _ i))=>L.length-i.toNat|_=>0) [(.loc 1 0,.head 1 0)] rfl ?_ ?_
   .refine⟨0,by omega,by omega,?_,?_,?_,?_,?_⟩<;>simp
   rintro E1 ⟨i,hi,Uf,e1,Ue,Ud,WB,s1⟩ hU hS A hA
   simp[BJ,Ud,WB]
   refine aN (fun h=>?_) (fun h=>?_)
   .have hx:=ajq h
    obtain⟨x,Tm⟩:∃x,L[i]=x:=⟨_,rfl⟩
    rw[Tm]at hx
    have VR:=hl x (ajx hx)
    have hb:kF limit L i=kF limit L i:=rfl
    conv at hb=>rhs;unfold kF
    simp only[hx]at hb
    have WC:kF limit L i=false->r=1:=fun hf=>by rw[hv,wO h hf];rfl
    have step:kF limit L i=true->∀j,j<i+1->kF limit L j=true:=fun ht j hj=>by
     by_cases Uk:j<i
     .exact Uf j Uk
     .rw[show j=i by omega];exact ht
    have c1:=L4 x VR
    generalize kF limit L i=ok at*
    generalize sJ x=wh at*
    by_cases Tk:(x.bytes.length:Int)<=limit
    .cases wh with
     |false=>
      simp only[Bool.false_and,Bool.and_false]at hb
      rw[WC hb]
      try simp[e1,Ue,Ud,WB,s1,hU,h,Tm,Tk]
      all_goals try(repeat'(first|((first|refine aj ?_|refine Up c1 rfl ?_)<;>try simp[e1,Ue,Ud,WB,s1,hU,h,Tm,Tk])|(apply dL<;>intro h<;>try simp[e1,Ue,Ud,WB,s1,hU,h,Tm,Tk])))
      all_goals first|exact au rfl|(exfalso;omega)
     |true=>
      by_cases UL:i=0
      .subst UL
       simp only[Tk,decide_true,Bool.true_and,Bool.true_or]at hb
       try simp[e1,Ue,Ud,WB,s1,hU,h,Tm,Tk]
       all_goals try(repeat'(first|((first|refine aj ?_|refine Up c1 rfl ?_)<;>try simp[e1,Ue,Ud,WB,s1,hU,h,Tm,Tk])|(apply dL<;>intro h<;>try simp[e1,Ue,Ud,WB,s1,hU,h,Tm,Tk])))
       all_goals first|(exfalso;omega)|skip
       refine hA _ (aH [(.head 1 0,.head 1 0)] rfl rfl ⟨0+1,by omega,step hb,?_,?_,?_,?_,?_⟩ ?_)<;>first|(simp[e1,Ue,Ud,WB,s1];done)|(simp[WB];omega)
      .have hi1:i-1<L.length:=by omega
       have hy:=ajq hi1
       obtain⟨y,hgy⟩:∃y,L[i-1]=y:=⟨_,rfl⟩
       rw[hgy]at hy
       have X6:=hl y (ajx hy)
       have c2:=L5 y x X6
       simp only[Tk,UL,hy,decide_true,decide_false,Bool.true_and,Bool.false_or]at hb
       generalize sK y x=fo at*
       have k1:((i:Int)-1).toNat=i-1:=by omega
       have k2:(1:Int)<=i:=by omega
       have k3:(i:Int)-1<L.length:=by omega
       have k4:(0:Int)<i:=by omega
       have k5:0<i:=by omega
       cases fo with
       |true=>
        try simp[e1,Ue,Ud,WB,s1,hU,h,Tm,Tk,hy,k1,k2,k3,k4,k5]
        all_goals try(repeat'(first|((first|refine aj ?_|refine Up c1 rfl ?_|refine Up c2 rfl ?_|simp(disch:=omega) only[wr])<;>try simp[e1,Ue,Ud,WB,s1,hU,h,Tm,Tk,hy,k1,k2,k3,k4,k5])|(apply dL<;>intro h<;>try simp[e1,Ue,Ud,WB,s1,hU,h,Tm,Tk,hy,k1,k2,k3,k4,k5])))
        all_goals first|(exfalso;omega)|skip
        refine hA _ (aH [(.head 1 0,.head 1 0)] rfl rfl ⟨i+1,by omega,step hb,?_,?_,?_,?_,?_⟩ ?_)<;>first|(simp[e1,Ue,Ud,WB,s1];done)|(simp[WB];omega)
       |false=>
        rw[WC hb]
        try simp[e1,Ue,Ud,WB,s1,hU,h,Tm,Tk,hy,k1,k2,k3,k4,k5]
        all_goals try(repeat'(first|((first|refine aj ?_|refine Up c1 rfl ?_|refine Up c2 rfl ?_|simp(disch:=omega) only[wr])<;>try simp[e1,Ue,Ud,WB,s1,hU,h,Tm,Tk,hy,k1,k2,k3,k4,k5])|(apply dL<;>intro h<;>try simp[e1,Ue,Ud,WB,s1,hU,h,Tm,Tk,hy,k1,k2,k3,k4,k5])))
        all_goals first|exact au rfl|(exfalso;omega)
    .simp only[Tk,decide_false,Bool.false_and]at hb
     rw[WC hb]
     try simp[e1,Ue,Ud,WB,s1,hU,h,Tm,Tk]
     all_goals try(repeat'(first|((first|refine aj ?_|refine Up c1 rfl ?_|simp(disch:=omega) only[wr])<;>try simp[e1,Ue,Ud,WB,s1,hU,h,Tm,Tk])|((first|apply aN|apply dL|apply kq)<;>intro h<;>try simp[e1,Ue,Ud,WB,s1,hU,h,Tm,Tk])))
     all_goals first|exact au rfl|(exfalso;omega)
   .have:i=L.length:=by omega
    subst this
    rw[wP Uf]at hv
    simp only[Bool.true_eq_false,ajS]at hv
    subst hv
    try simp[e1,Ue,Ud,WB,s1,hU]
    all_goals try(repeat'(first|(apply aN<;>intro h<;>try simp[e1,Ue,Ud,WB,s1,hU,h])))
    all_goals first
     |(rw[if_pos (by omega)];exact au rfl)
     |(rw[if_neg (by omega)];exact au rfl)
end
end Go.Wt
