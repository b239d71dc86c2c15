/- A part of the proof of a tier statement (the last text closes it): lemmas without condition. -/
import Derived.Test.YteaimhlobmaghaaGreatDoorP23
set_option linter.all false
set_option maxRecDepth 10000000
set_option maxHeartbeats 0
namespace Go.Wt
section
open Go.RowKit Go.Proofs Go.Lib Go.Wm
def OX(p:Pc)(l:List aF)(hl:l.length<=1000000):ajk 198 ⟨[],[.osl (.arg 0) l.length,.fn 155 [.ptr (.arg 1) 0 0]],[.rows 79 10 (l.map aG) false,eS p],.t (int (bf (gy p) l)),[some (.rows 79 10 (l.map aG) false),some (eS p)],[]⟩:=by
 refine aJ rB rfl ?_
 simp[pB]
 refine ba (fun E=>∃(i:Nat),i<=l.length/\E.tmps 8= .t (int i)/\E.tmps 7= .t (int l.length)/\E.tmps 0= .osl (.arg 0) l.length/\E.tmps 1= .fn 155 [.ptr (.arg 1) 0 0]/\E.slots (.arg 0)=some (.rows 79 10 (l.map aG) false)/\E.slots (.arg 1)=some (eS p)/\(∀(j:Nat) (x:aF),j<i->l[j]?=some x->(gy p) x=false)) (fun E=>match E.tmps 8 with| .t (.v (.int _ i))=>l.length-i.toNat|_=>0) [(.arg 0,.arg 0),(.arg 1,.arg 1)] rfl ?_ ?_
 .refine⟨0,by omega,?_,?_,?_,?_,?_,?_,fun j x hj=>by omega⟩<;>simp
 rintro E1 ⟨i,hi,e8,e7,e0,e1,s0,s1,hb⟩ hU hS A hA
 simp[pA,e8,e7]
 refine aN (fun h=>?_) (fun h=>?_)
 .have hx:=ajq h
  obtain⟨x,Tm⟩:∃x,l[i]=x:=⟨_,rfl⟩
  rw[Tm]at hx
  have TN:=ajx hx
  have c1:=Fx p x
  cases TJ:(gy p) x with
  |true=>
   rw[TJ]at c1
   repeat'(first|simp[*,s0,s1,h]|refine UR (S:=[.arg 1]) c1 ?_ ?_)
   refine ug [(.arg 0,.arg 0),(.arg 1,.arg 1)] rfl (by simp[*]) ?_
   .rw[fE hx hb TJ]
    exact .rfl
  |false=>
   rw[TJ]at c1
   repeat'(first|simp[*,s0,s1,h]|refine UR (S:=[.arg 1]) c1 ?_ ?_|simp(disch:=omega) only[wr])
   refine hA _ (aH [(.arg 0,.arg 0),(.arg 1,.arg 1)] rfl rfl ⟨i+1,by omega,?_,?_,?_,?_,?_,?_,fun j y hj hy=>?_⟩ ?_)
   .simp
   .simp[e7]
   .simp[e0]
   .simp[e1]
   .simp[s0]
   .simp[s1]
   .by_cases Uk:j=i
    .subst Uk
     rw[hx]at hy
     cases hy
     exact TJ
    .exact hb j y (by omega) hy
   .simp[e8]
    omega
 .repeat' simp[*,s0,s1,h]
  refine ug [(.arg 0,.arg 0),(.arg 1,.arg 1)] rfl (by simp[*]) ?_
  .rw[fP fun j x hx=>hb j x (by have:=(ajs.1 hx).1;omega) hx]
   exact .rfl
def dR(k:Int)(b:aF):Bool:=decide (b.last<k)
def FD(k:Int)(b:aF):ajk 108 ⟨[],[.t (aG b),.ptr (.arg 0) 0 0],[av k],.t (bo (dR k b)),[some (av k)],[]⟩:=by
 unfold dR
 refine aJ KA rfl ?_
 simp[Cf]
 skip
 exact ug [(.arg 0,.arg 0)] rfl (by simp[*]) .rfl
def OY(fr:Int)(l:List aF)(hl:l.length<=1000000):ajk 198 ⟨[],[.osl (.arg 0) l.length,.fn 108 [.ptr (.arg 1) 0 0]],[.rows 79 10 (l.map aG) false,av fr],.t (int (bf (dR fr) l)),[some (.rows 79 10 (l.map aG) false),some (av fr)],[]⟩:=by
 refine aJ rB rfl ?_
 simp[pB]
 refine ba (fun E=>∃(i:Nat),i<=l.length/\E.tmps 8= .t (int i)/\E.tmps 7= .t (int l.length)/\E.tmps 0= .osl (.arg 0) l.length/\E.tmps 1= .fn 108 [.ptr (.arg 1) 0 0]/\E.slots (.arg 0)=some (.rows 79 10 (l.map aG) false)/\E.slots (.arg 1)=some (av fr)/\(∀(j:Nat) (x:aF),j<i->l[j]?=some x->(dR fr) x=false)) (fun E=>match E.tmps 8 with| .t (.v (.int _ i))=>l.length-i.toNat|_=>0) [(.arg 0,.arg 0),(.arg 1,.arg 1)] rfl ?_ ?_
 .refine⟨0,by omega,?_,?_,?_,?_,?_,?_,fun j x hj=>by omega⟩<;>simp
 rintro E1 ⟨i,hi,e8,e7,e0,e1,s0,s1,hb⟩ hU hS A hA
 simp[pA,e8,e7]
 refine aN (fun h=>?_) (fun h=>?_)
 .have hx:=ajq h
  obtain⟨x,Tm⟩:∃x,l[i]=x:=⟨_,rfl⟩
  rw[Tm]at hx
  have TN:=ajx hx
  have c1:=FD fr x
  cases TJ:(dR fr) x with
  |true=>
   rw[TJ]at c1
   repeat'(first|simp[*,s0,s1,h]|refine UR (S:=[.arg 1]) c1 ?_ ?_)
   refine ug [(.arg 0,.arg 0),(.arg 1,.arg 1)] rfl (by simp[*]) ?_
   .rw[fE hx hb TJ]
    exact .rfl
  |false=>
   rw[TJ]at c1
   repeat'(first|simp[*,s0,s1,h]|refine UR (S:=[.arg 1]) c1 ?_ ?_|simp(disch:=omega) only[wr])
   refine hA _ (aH [(.arg 0,.arg 0),(.arg 1,.arg 1)] rfl rfl ⟨i+1,by omega,?_,?_,?_,?_,?_,?_,fun j y hj hy=>?_⟩ ?_)
   .simp
   .simp[e7]
   .simp[e0]
   .simp[e1]
   .simp[s0]
   .simp[s1]
   .by_cases Uk:j=i
    .subst Uk
     rw[hx]at hy
     cases hy
     exact TJ
    .exact hb j y (by omega) hy
   .simp[e8]
    omega
 .repeat' simp[*,s0,s1,h]
  refine ug [(.arg 0,.arg 0),(.arg 1,.arg 1)] rfl (by simp[*]) ?_
  .rw[fP fun j x hx=>hb j x (by have:=(ajs.1 hx).1;omega) hx]
   exact .rfl
noncomputable def el:Code:=Tryz.f107.body.getD .skip
def FE:el= .seq (c1 el) (.seq (c1 (c2 el)) (.seq (c1 (c2 (c2 el))) (.seq (c1 (c2 (c2 (c2 el)))) (.seq (c1 (c2 (c2 (c2 (c2 el))))) (.seq (c1 (c2 (c2 (c2 (c2 (c2 el)))))) .ret))))):=by kernel_rfl
noncomputable def OZ:Array Oper:=match c1 (c2 (c2 (c2 (c2 el))))with| .region _ ops _=>ops|_=>#[]
noncomputable def O0:Nat:=match c1 (c2 (c2 (c2 (c2 el))))with| .region i _ _=>i|_=>0
noncomputable def O5:Array Oper:=match c1 (c2 (c2 (c2 (c2 (c2 el)))))with| .region _ ops _=>ops|_=>#[]
noncomputable def O6:Nat:=match c1 (c2 (c2 (c2 (c2 (c2 el)))))with| .region i _ _=>i|_=>0
def O7:c1 (c2 (c2 (c2 (c2 el))))= .region O0 OZ false:=by kernel_rfl
def O8:c1 (c2 (c2 (c2 (c2 (c2 el)))))= .region O6 O5 false:=by kernel_rfl
def FF:aZ Tryz.prog Tryz.f107.ntmps true (c1 el)=some (d1 jh):=by kernel_rfl
def FG:aZ Tryz.prog Tryz.f107.ntmps true (c1 (c2 el))=some (d1 (d2 jh)):=by kernel_rfl
def FH:aZ Tryz.prog Tryz.f107.ntmps true (c1 (c2 (c2 el)))=some (d1 (d2 (d2 jh))):=by kernel_rfl
def O9:aZ Tryz.prog Tryz.f107.ntmps true (c1 (c2 (c2 (c2 el))))=some (d1 (d2 (d2 (d2 jh)))):=by kernel_rfl
def Pa(fr:Int)(l:List aF)(hl:l.length<=1000000):ajk 107 ⟨[],[.osl (.arg 0) l.length,.fn 108 [.ptr (.arg 1) 0 0]],[.rows 79 10 (l.map aG) false,av fr],.osl (.arg 0) (l.filter (fun x=>!(dR fr) x)).length,[some (.rows 79 10 ((l.filter (fun x=>!(dR fr) x)).map aG) false),some (av fr)],[]⟩:=by
 have YD:=OY fr l hl
 rcases pM ((dR fr)) l with⟨YR,Tt⟩|⟨i0,YR,UL,hat,ZM⟩
 .have XG:l.filter (fun x=>!(dR fr) x)=l:=List.filter_eq_self.2 fun x hx=>by simp[Tt x hx]
  rw[YR]at YD
  rw[XG]
  refine oe (fn:=Tryz.f107) (code:=el) (rs:=[.tmp 4]) Tryz.func107 (by kernel_rfl) (by kernel_rfl) (by kernel_rfl) rfl (aj6 rfl) ?_
  rw[FE]
  refine bN (b9 bC FF ?_)
  simp[d1,d2,jh]
  refine bN (b9 bC FG ?_)
  simp[d1,d2,jh]
  try simp
  all_goals try(repeat'(first|((refine UR (S:=[.arg 0,.arg 1]) YD ?_ ?_;(· simp))<;>try simp)))
  refine bN (b9 bC FH ?_)
  simp[d1,d2,jh]
  try simp
  skip
  refine ug [(.arg 0,.arg 0),(.arg 1,.arg 1)] rfl (by simp[*]) ?_
  .simp
   exact .rfl
 rw[YR]at YD
 refine oe (fn:=Tryz.f107) (code:=el) (rs:=[.tmp 4]) Tryz.func107 (by kernel_rfl) (by kernel_rfl) (by kernel_rfl) rfl (aj6 rfl) ?_
 rw[FE]
 refine bN (b9 bC FF ?_)
 simp[d1,d2,jh]
 refine bN (b9 bC FG ?_)
 simp[d1,d2,jh]
 try simp
 all_goals try(repeat'(first|((refine UR (S:=[.arg 0,.arg 1]) YD ?_ ?_;(· simp))<;>try simp)))
 refine bN (b9 bC FH ?_)
 simp[d1,d2,jh]
 try simp
 skip
 refine bN (b9 bC O9 ?_)
 simp[d1,d2,jh]
 try simp
 all_goals try(repeat'(first|(simp(disch:=omega) only[wr]<;>try simp)))
 have Tx:∀(E:aa),E.tmps 0= .osl (.arg 0) l.length->E.tmps 5= .t (int (l.filter (fun x=>!(dR fr) x)).length)->(∃T6:List aF,T6.length=l.length/\T6.take (l.filter (fun x=>!(dR fr) x)).length=l.filter (fun x=>!(dR fr) x)/\E.slots (.arg 0)=some (.rows 79 10 (T6.map aG) false))->E.slots (.arg 1)=some (av fr)->
   cM Tryz.prog Tryz.f107.ntmps (.seq (c1 (c2 (c2 (c2 (c2 el))))) (.seq (c1 (c2 (c2 (c2 (c2 (c2 el)))))) .ret)) E (Fin [.tmp 4] (Ends ⟨[],[.osl (.arg 0) l.length,.fn 108 [.ptr (.arg 1) 0 0]],[.rows 79 10 (l.map aG) false,av fr],.osl (.arg 0) (l.filter (fun x=>!(dR fr) x)).length,[some (.rows 79 10 ((l.filter (fun x=>!(dR fr) x)).map aG) false),some (av fr)],[]⟩)):=by
  rintro E e0 e5 ⟨T6,TA,Uj,s0⟩ s1
  have UA:(l.filter (fun x=>!(dR fr) x)).length<=l.length:=aks _ _
  generalize XG:l.filter (fun x=>!(dR fr) x)=fl at*
  rw[O7,O8]
  refine bN (wt (x:=0) (y:=5) (d1:=36) (d2:=37) (d3:=38) (t:=47) (e:=79) (m:=10) (zt:=(.agg [int 0,int 0,int 0,int 0,int 0,int 0,int 0,bo false,int 0,.e0])) (s:= .arg 0) (l:=T6.map aG) (i:=fl.length) (by kernel_rfl) (by kernel_rfl) (by kernel_rfl) (by kernel_rfl) rfl (by decide) (by decide) (by decide) (by decide) (by decide) (by rw[e0,ajJ,TA]) e5 s0 (by rw[ajJ,TA];exact UA) ?_)
  simp only[n9]
  refine bN (wu (x:=0) (y:=5) (d1:=39) (d2:=40) (d3:=41) (d4:=4) (t:=47) (e:=79) (m:=10) (s:= .arg 0) (k:=l.length) (i:=fl.length) (.inr (by kernel_rfl)) (by kernel_rfl) (by kernel_rfl) (by decide) (by decide) (by decide) (by decide) (by decide) (by decide) (by simp[e0]) (by simp[e5]) UA ?_)
  simp only[n9]
  refine wo ?_
  have TD:List.take fl.length (T6.map aG)=fl.map aG:=by rw[<-List.map_take,Uj]
  simp only[tY]
  simp[fZ,cy.val]
  refine ug [(.arg 0,.arg 0),(.arg 1,.arg 1)] rfl (by simp[*]) ?_
  .simp[TD]
   exact .rfl
 have U5:IntKind.i64.wrap ((i0:Int)+1)=((i0+1:Nat):Int):=by rw[bx (by omega) (by omega)];omega
 try simp[U5]
 refine ba (fun E=>∃(j i:Nat) (T6:List aF),i<j/\j<=l.length/\i=((l.take j).filter (fun x=>!(dR fr) x)).length/\T6.length=l.length/\T6.take i=(l.take j).filter (fun x=>!(dR fr) x)/\(∀k,j<=k->T6[k]?=l[k]?)/\E.tmps 0= .osl (.arg 0) l.length/\E.tmps 1= .fn 108 [.ptr (.arg 1) 0 0]/\E.tmps 5= .t (int i)/\E.tmps 6= .t (int j)/\E.slots (.arg 0)=some (.rows 79 10 (T6.map aG) false)/\E.slots (.arg 1)=some (av fr)) (fun E=>match E.tmps 6 with| .t (.v (.int _ i))=>l.length-i.toNat|_=>0) [(.arg 0,.arg 0),(.arg 1,.arg 1)] rfl ?_ ?_
 .have hx:=ajq UL
  have TD:(l.take i0).filter (fun x=>!(dR fr) x)=l.take i0:=List.filter_eq_self.2 fun x hx=>by simp[ZM x hx]
  have W9:(l.take (i0+1)).filter (fun x=>!(dR fr) x)=l.take i0:=by rw[og hx,TD,hat _ hx];simp
  refine⟨i0+1,i0,l,by omega,by omega,by rw[W9,ajA];omega,rfl,by rw[W9],fun _ _=>rfl,?_,?_,?_,?_,?_,?_⟩<;>simp
 rintro E1 ⟨j,i,T6,XE,hj,hi,TA,Uj,YB,e0,e1,e5,e6,s0,s1⟩ hU hS A hA
 simp[Ce]
 have UT:IntKind.i64.wrap ((i:Int)+1)=((i+1:Nat):Int):=by rw[bx (by omega) (by omega)];omega
 have Vs:IntKind.i64.wrap ((j:Int)+1)=((j+1:Nat):Int):=by rw[bx (by omega) (by omega)];omega
 have TC:i<T6.length:=by omega
 by_cases h:j<l.length
 .have hx:=ajq h
  obtain⟨x,Tm⟩:∃x,l[j]=x:=⟨_,rfl⟩
  rw[Tm]at hx
  have TN:=ajx hx
  have VP:=YB j (ajz _)
  rw[hx]at VP
  have hjc:j<T6.length:=by omega
  have UP:i<l.length:=by omega
  have WV:T6[j]=x:=(ajs.1 VP).2
  have c1:=FD fr x
  have WU:=og (q:=fun x=>!(dR fr) x) hx
  cases TJ:(dR fr) x with
  |true=>
   rw[TJ]at c1
   simp only[TJ,Bool.not_true,ajU,ajS,akr]at WU
   try simp[e0,e1,e5,e6,s0,hU,h,TA,VP,WV,UP,TC,UT,Vs,s1]
   all_goals try(repeat'(first|((refine UR (S:=[.arg 1]) c1 ?_ ?_;(· simp[e0,e1,e5,e6,s0,hU,h,TA,VP,WV,UP,TC,UT,Vs,s1]))<;>try simp[e0,e1,e5,e6,s0,hU,h,TA,VP,WV,UP,TC,UT,Vs,s1])))
   refine hA _ (aH [(.arg 0,.arg 0),(.arg 1,.arg 1)] rfl rfl ⟨j+1,i,T6,by omega,by omega,by rw[WU];exact hi,TA,by rw[WU];exact Uj,fun k hk=>YB k (by omega),?_,?_,?_,?_,?_,?_⟩ ?_)
   all_goals first|(simp[e0,e1,e5,e6,s0,Vs,s1];done)|(simp[e6,Vs];omega)
  |false=>
   rw[TJ]at c1
   simp only[TJ,Bool.not_false,if_true]at WU
   try simp[e0,e1,e5,e6,s0,hU,h,TA,VP,WV,UP,TC,UT,Vs,s1]
   all_goals try(repeat'(first|((refine UR (S:=[.arg 1]) c1 ?_ ?_;(· simp[e0,e1,e5,e6,s0,hU,h,TA,VP,WV,UP,TC,UT,Vs,s1]))<;>try simp[e0,e1,e5,e6,s0,hU,h,TA,VP,WV,UP,TC,UT,Vs,s1])))
   refine hA _ (aH [(.arg 0,.arg 0),(.arg 1,.arg 1)] rfl rfl ⟨j+1,i+1,T6.set i x,by omega,by omega,by rw[WU,ajB];simp;omega,by simp[TA],?_,fun k hk=>by rw[List.getElem?_set_ne (by omega)];exact YB k (by omega),?_,?_,?_,?_,?_,?_⟩ ?_)
   .rw[WU,<-Uj,List.take_add_one,List.take_set_of_le (ajz _),List.getElem?_set_self TC]
    rfl
   all_goals first|(simp[e0,e1,e5,e6,s0,UT,Vs,List.map_set,s1];done)|(simp[e6,Vs];omega)
 .have:j=l.length:=by omega
  subst this
  rw[akg]at hi Uj
  try simp[e0,e1,e5,e6,s0,hU,h,s1]
  skip
  refine Tx _ ?_ ?_ ⟨T6,TA,by rw[<-hi];exact Uj,?_⟩ ?_
  all_goals simp[e0,e1,e5,e6,s0,hi,s1]
def Pb(p:Pc)(l:List aF)(hl:l.length<=1000000):ajk 154 ⟨[],[.osl (.arg 0) l.length,.fn 155 [.ptr (.arg 1) 0 0]],[.rows 79 10 (l.map aG) false,eS p],.t (bo (l.any (gy p))),[some (.rows 79 10 (l.map aG) false),some (eS p)],[]⟩:=by
 have c1:=OX p l hl
 refine aJ CL rfl ?_
 rw[<-mI]
 generalize bf (gy p) l=r at*
 simp[wl]
 repeat'(first|simp[*]|refine UR (S:=[.arg 0,.arg 1]) c1 ?_ ?_)
 exact ug [(.arg 0,.arg 0),(.arg 1,.arg 1)] rfl (by simp[*]) .rfl
def Pd(s:aw)(c:Ca)(n:ByteArray)(p:Pc)(B:Nat)(hi:kO s c n p B)(hz:(bQ s c n p).e=0)(TW:(bQ s c n p).l≠[]):
  ajk 77 ⟨[],[.ptr (.arg 0) 0 0,.t (aW p)],[da s c n],.osl (.loc 0 0) (bQ s c n p).l.length,[some (da (bQ s c n p).s (bQ s c n p).c n)],[.rows 79 10 ((bQ s c n p).l.map aG) false]⟩:=by
 have c1:=lY n p.id hi.hn (by have:=hi.hp.id;omega) (by have:=hi.hp.id;omega)
 have aR:=xz s c n (dF n p.id) p.size B hi.h1 hi.h2 (by have:=hi.hl;omega) hi.hb hi.hB hi.hlB hi.hp.size.1 hi.hp.size.2
 have hab:=hi.hab
 have hac:=hi.hac
 have hcb:=hi.hcb
 unfold bQ at hz TW⊢
 generalize dF n p.id=nm at*
 generalize d8 s c nm p.size=a at*
 unfold ql at hz TW⊢
 by_cases e1:a.e=0
 .rw[if_neg (by simp[e1])]at hz TW⊢
  have aR:=aR e1
  by_cases Uf:na p a.b=false
  .rw[if_pos Uf]at hz
   exact absurd hz (show¬(20:Int)=0 by decide)
  .rw[if_neg Uf]at TW⊢
   simp only at TW
   have abh:cO p.base (bk a.b)≠[]:=fun h=>TW (by simp[dw,h])
   obtain⟨q1,q2,q3,q4,q5⟩:=FB Uf
   have c2:=sE a.b hab q1
   have hol:(bk a.b).length<=a.b.length:=by simp[bk]
   have c3:=L1 p.base (bk a.b) (by omega) abh
   have c4:=Pb p (dw p.base (bk a.b)) (by have:=pX p.base (bk a.b);simp[dw];omega)
   have c5:=lL (bk a.b) (by omega)
   rw[q5]at c4
   rw[q4]at c3
   rw[q3]at c5
   have c7:=Fq a.b 512 hab (by decide) (by decide)
   have hcn:512*(fw 512 a.b).length<=a.b.length+511:=xB (a.b.length+1) a.b
   have VG:∀x∈fw 512 a.b,x.length<=a.b.length:=xC 512 (a.b.length+1) a.b
   simp only
   cases ZN:a.asked with
   |false=>
    rw[ZN]at aR
    simp only[ajU,ajS]
    refine aJ mQ rfl ?_
    simp[lD,pH]
    repeat'(first|simp[*,q2]|apply aj|refine Up c1 rfl ?_|refine UR (S:=[.arg 0]) aR ?_ ?_|refine UN (F:=[]) c2 ?_ ?_|refine UN (F:=[.loc 32 0]) c3 ?_ ?_|refine UR (S:=[.loc 40 0,.loc 3 0]) c4 ?_ ?_|refine UV (F:=[.loc 32 0]) c5 rfl ?_ ?_)
    refine ug [(.arg 0,.arg 0),(.loc 40 0,.loc 0 0)] rfl (by simp[*]) ?_
    .simp
     exact .rfl
   |true=>
    rw[ZN]at aR
    simp only[if_true]
    generalize Yd:fw 512 a.b=ch at*
    refine aJ mQ rfl ?_
    simp[lD,pH]
    repeat'(first|simp[*,q2]|apply aj|refine Up c1 rfl ?_|refine UR (S:=[.arg 0]) aR ?_ ?_|refine UN (F:=[]) c2 ?_ ?_|refine UN (F:=[.loc 32 0]) c3 ?_ ?_|refine UR (S:=[.loc 40 0,.loc 3 0]) c4 ?_ ?_|refine UV (F:=[.loc 32 0]) c5 rfl ?_ ?_|refine Up c7 rfl ?_)
    refine ba (fun E=>∃(i:Nat) (ci:Ca),i<=ch.length/\ci.l.length<=800000+i/\(∀h∈ci.l,h.bytes.length<=1000000)/\iY nm 0 ch a.c=iY nm i (ch.drop i) ci/\E.tmps 0= .ptr (.arg 0) 0 0/\E.tmps 5= .t (str nm)/\E.tmps 83= .t (.sl 1 (ch.map aS))/\E.tmps 84= .t (int ch.length)/\E.tmps 85= .t (int i)/\E.tmps 10= .osl (.head 1 0) (dw p.base (bk a.b)).length/\E.slots (.arg 0)=some (da a.s ci n)/\E.slots (.head 1 0)=some (.rows 79 10 ((dw p.base (bk a.b)).map aG) false))
     (fun E=>match E.tmps 85 with| .t (.v (.int _ i))=>ch.length-i.toNat|_=>0) [(.arg 0,.arg 0),(.loc 40 0,.head 1 0)] rfl ?_ ?_
    .refine⟨0,a.c,by omega,by omega,hcb,rfl,?_,?_,?_,?_,?_,?_,?_,?_⟩<;>simp
    rintro E1 ⟨i,ci,TC,TA,Wr,UD,e0,e5,e83,e84,e85,Vb,s0,s1⟩ hU hS A hA
    simp[vQ,e84,e85]
    by_cases h:i<ch.length
    .have hx:=ajq h
     obtain⟨x,Tm⟩:∃x,ch[i]=x:=⟨_,rfl⟩
     have ZG:=aku h
     rw[Tm]at hx ZG
     have hxm:x∈ch:=Tm▸akA h
     have VR:=VG x hxm
     have hw:IntKind.i64.wrap ((i:Int)+1)=((i+1:Nat):Int):=by rw[bx (by omega) (by omega)];omega
     have d1:=Fh ci nm i x (by omega) Wr (by omega)
     have g1:=Fz ci nm i x
     have g2:=FA ci nm i x Wr (by omega)
     rw[ZG]at UD
     have UD:iY nm 0 ch a.c=iY nm (i+1) (ch.drop (i+1)) (gx ci nm i x).1:=UD
     generalize gx ci nm i x=Pc at*
     repeat'(first|simp[*,s0,s1,h]|refine UV (F:=[]) d1 rfl ?_ ?_)
     refine hA _ (aH [(.arg 0,.arg 0),(.head 1 0,.head 1 0)] rfl rfl ⟨i+1,Pc.1,by omega,by omega,g2,UD,?_,?_,?_,?_,?_,?_,?_,?_⟩ ?_)
     all_goals simp[*,s0,s1]
     all_goals omega
    .have TE:i=ch.length:=by omega
     subst TE
     rw[List.drop_length]at UD
     have UD:iY nm 0 ch a.c=ci:=UD
     rw[UD]
     repeat' simp[*,s0,s1]
     refine ug [(.arg 0,.arg 0),(.head 1 0,.loc 0 0)] rfl (by simp[*]) ?_
     .simp[s1]
      exact .rfl
 .rw[if_pos e1]at hz
  exact absurd hz e1
def Pe(b:aF):batSz b<=2048:=by
 unfold batSz
 split
 .rename_i h
  unfold di at h
  split at h
  .cases h
  .split at h
   .cases h
   .omega
 .omega
def Pf(TS:Int)(b:aF)(hr:b.recs.length<=1000000):ajk 199 ⟨[],[.t (aG b),.ptr (.arg 0) 0 0,.ptr (.arg 1) 0 0],[av 0,av TS],.t (bo (decide (TS<batSz b))),[some (av (batSz b)),some (av TS)],[]⟩:=by
 have c1:=wH b hr
 have hs:=Pe b
 have hw:IntKind.i64.wrap (batSz b:Int)=batSz b:=by rw[bx (by omega) (by omega)]
 generalize batSz b=z at*
 refine aJ Jc rfl ?_
 simp[An]
 repeat'(first|simp[*]|refine Up c1 rfl ?_)
 exact ug [(.arg 0,.arg 0),(.arg 1,.arg 1)] rfl (by simp[*]) .rfl
def Pg(TS:Int)(x:aF)(l:List aF)(hr:x.recs.length<=1000000)(hx:TS<batSz x):ajk 198 ⟨[],[.osl (.arg 0) (l.length+1),.fn 199 [.ptr (.arg 1) 0 0,.ptr (.arg 2) 0 0]],[.rows 79 10 ((x::l).map aG) false,av 0,av TS],.t (int 0),[some (.rows 79 10 ((x::l).map aG) false),some (av (batSz x)),some (av TS)],[]⟩:=by
 have c1:=Pf TS x hr
 rw[decide_eq_true hx]at c1
 refine aJ rB rfl ?_
 simp[pB]
 refine ba (fun E=>E.tmps 8= .t (int 0)/\E.tmps 7= .t (int (l.length+1:Nat))/\E.tmps 0= .osl (.arg 0) (l.length+1)/\E.tmps 1= .fn 199 [.ptr (.arg 1) 0 0,.ptr (.arg 2) 0 0]/\E.slots (.arg 0)=some (.rows 79 10 ((x::l).map aG) false)/\E.slots (.arg 1)=some (av 0)/\E.slots (.arg 2)=some (av TS)) (fun _=>0) [(.arg 0,.arg 0),(.arg 1,.arg 1),(.arg 2,.arg 2)] rfl ?_ ?_
 .refine⟨?_,?_,?_,?_,?_,?_,?_⟩<;>simp
 rintro E1 ⟨e8,e7,e0,e1,s0,s1,s2⟩ hU hS A hA
 have Zr:(0:Int)<l.length+1:=by omega
 simp[*,pA]
 repeat'(first|simp[*,s0,s1,s2]|refine UR (S:=[.arg 1,.arg 2]) c1 ?_ ?_)
 exact ug [(.arg 0,.arg 0),(.arg 1,.arg 1),(.arg 2,.arg 2)] rfl (by simp[*]) .rfl
def Ph(TS:Int)(x:aF)(l:List aF)(hr:x.recs.length<=1000000)(hx:TS<batSz x):ajk 106 ⟨[],[.osl (.arg 0) (l.length+1),.t (int TS)],[.rows 79 10 ((x::l).map aG) false],.osl (.arg 0) 1,[some (.rows 79 10 ((x::l).map aG) false)],[]⟩:=by
 have c1:=Pg TS x l hr hx
 have h1:(1:Int)<=(l.length:Int)+1:=by omega
 refine aJ Kz rfl ?_
 simp[Cd]
 repeat'(first|simp[*,bt,jx]|refine UR (S:=[.arg 0,.loc 5 0,.loc 3 0]) c1 ?_ ?_)
 refine ug [(.arg 0,.arg 0)] rfl (by simp[*]) ?_
 .simp
  exact .rfl
abbrev xD:List DV:=[.ptr (.arg 1) 0 0,.ptr (.arg 2) 0 0,.ptr (.arg 3) 0 0,.ptr (.arg 4) 0 0,.ptr (.arg 5) 0 0,.ptr (.arg 6) 0 0,.ptr (.arg 7) 0 0]
abbrev nc(r:Row)(TS fr:Int)(L:Lg)(M:Mn)(n:ByteArray)(b:Row):List Row:=[r,av TS,av fr,cd L,bp M,bX n,bq (.arg 0),b]
abbrev FI(k:Nat):Row:= .box 47 (.osl (.loc 0 0) k) false
structure tj(L:Lg)(M:Mn)(s:aw)(c:Ca)(n:ByteArray)(fr TS:Int)(p:Pc)(B:Nat)(x:aF)(K:List aF):Prop where
 hm:M.l.length<=1000000
 m0:0<=TS
 f0:jm L M<=fr
 f1:fr<L.start
 hp:(lS M.l)[0]?=some p
 f2:fr<p.fin
 pf:sP n=true
 fi:kO s c n p B
 fz:(bQ s c n p).e=0
 fl:(bQ s c n p).l.length<=1000000
 fk:(bQ s c n p).l.filter (fun b=>!(dR fr) b)=x::K
 xr:x.recs.length<=1000000
 xm:TS<batSz x
def Pi(L:Lg)(M:Mn)(s:aw)(c:Ca)(n:ByteArray)(fr TS:Int)(p:Pc)(B:Nat)(x:aF)(K:List aF)(hi:tj L M s c n fr TS p B x K):
  ajk 105 ⟨[],xD,nc (da s c n) TS fr L M n iy,.tup [],(nc (da (bQ s c n p).s (bQ s c n p).c n) TS fr L M n (FI 1)).map some,[.rows 79 10 ((x::K).map aG) false]⟩:=by
 have c1:=m3 L M hi.hm
 have c2:=D5 M
 have hit:=D7 M hi.hm
 have c3:=sQ n
 rw[if_pos hi.pf]at c3
 have Xp:=m7
 have TW:(bQ s c n p).l≠[]:=fun h=>by have:=hi.fk;rw[h]at this;simp at this
 have c4:=Pd s c n p B hi.fi hi.fz TW
 have c5:=Pa fr (bQ s c n p).l hi.fl
 rw[hi.fk]at c5
 have c6:=Ph TS x K hi.xr hi.xm
 have m0:¬TS<0:=by have:=hi.m0;omega
 have f0:¬fr<jm L M:=by have:=hi.f0;omega
 have f1:¬L.start<=fr:=by have:=hi.f1;omega
 have f2:¬p.fin<=fr:=by have:=hi.f2;omega
 have hp:=hi.hp
 generalize jm L M=st at*
 generalize bQ s c n p=R at*
 refine aJ Kx rfl ?_
 simp[Cc,B9,Cb]
 try simp[m0,f0]
 all_goals try(repeat'(first|(refine Up c1 rfl ?_<;>try simp[m0,f0])))
 refine jO (ts:=[bh M]) (F:=[]) c2 (fun _=>rfl) (by simp) (by simp) ?_
 simp
 generalize hE:aa.put _ 23 _=E0
 have t0:E0.tmps 0= .ptr (.arg 1) 0 0:=by rw[<-hE];simp
 have t1:E0.tmps 1= .ptr (.arg 2) 0 0:=by rw[<-hE];simp
 have t2:E0.tmps 2= .ptr (.arg 3) 0 0:=by rw[<-hE];simp
 have t4:E0.tmps 4= .ptr (.arg 5) 0 0:=by rw[<-hE];simp
 have t5:E0.tmps 5= .ptr (.arg 6) 0 0:=by rw[<-hE];simp
 have t6:E0.tmps 6= .ptr (.arg 7) 0 0:=by rw[<-hE];simp
 have t23:E0.tmps 23= .fn 148 [.ptr (.loc 23 0) 0 0]:=by rw[<-hE];simp
 have z0:E0.slots (.arg 0)=some (da s c n):=by rw[<-hE];simp
 have z1:E0.slots (.arg 1)=some (av TS):=by rw[<-hE];simp
 have z2:E0.slots (.arg 2)=some (av fr):=by rw[<-hE];simp
 have z3:E0.slots (.arg 3)=some (cd L):=by rw[<-hE];simp
 have z4:E0.slots (.arg 4)=some (bp M):=by rw[<-hE];simp
 have z5:E0.slots (.arg 5)=some (bX n):=by rw[<-hE];simp
 have z6:E0.slots (.arg 6)=some (bq (.arg 0)):=by rw[<-hE];simp
 have z7:E0.slots (.arg 7)=some iy:=by rw[<-hE];simp
 have z23:E0.slots (.loc 23 0)=some (bp M):=by rw[<-hE];simp
 have v0:E0.used (.arg 0)=true:=by rw[<-hE];simp
 have v1:E0.used (.arg 1)=true:=by rw[<-hE];simp
 have v2:E0.used (.arg 2)=true:=by rw[<-hE];simp
 have v3:E0.used (.arg 3)=true:=by rw[<-hE];simp
 have v5:E0.used (.arg 5)=true:=by rw[<-hE];simp
 have v6:E0.used (.arg 6)=true:=by rw[<-hE];simp
 have v7:E0.used (.arg 7)=true:=by rw[<-hE];simp
 have acl:E0.used (.loc 1000 0)=false:=by rw[<-hE];simp
 clear hE
 refine lr (xs:=iS M.l) (f:=148) (caps:=[.ptr (.loc 23 0) 0 0]) (ts:=[.tp (bh M) 0]) (F:=[.loc 23 0]) [.arg 0,.arg 1,.arg 2,.arg 3,.arg 5,.arg 6,.arg 7] [da s c n,av TS,av fr,cd L,bX n,bq (.arg 0),iy] 1000
  (fun i ns E=>i=0/\ns=[.arg 0,.arg 1,.arg 2,.arg 3,.arg 4,.arg 5,.arg 6]/\E.slots (.arg 0)=some (da s c n)/\E.slots (.arg 1)=some (av TS)/\E.slots (.arg 2)=some (av fr)/\E.slots (.arg 3)=some (cd L)/\E.slots (.arg 4)=some (bX n)/\E.slots (.arg 5)=some (bq (.arg 0))/\E.slots (.arg 6)=some iy)
  hit ?_ ?_ ?_ (gF rfl (by decide) rfl ?_ ?_ trivial ?_) ?_ ?_ ?_
 .simp[t23]
 .simp[aa.viewps,aa.viewp,z23]
 .intro x hx
  simp only[iS,ajI]at hx
  obtain⟨p,_,rfl⟩:=hx
  rfl
 .simp[z0,z1,z2,z3,z5,z6,z7]
 .simp[v0,v1,v2,v3,v5,v6,v7]
 .simp[z23]
 .exact⟨rfl,rfl,rfl,rfl,rfl,rfl,rfl,rfl,rfl⟩
 .rintro i y ns E1 hx ⟨rfl,rfl,y0,y1,y2,y3,y4,y5,y6⟩ hU hS A hA
  simp only[iS,ajw,ajt]at hx
  obtain⟨p',Xj,rfl⟩:=hx
  rw[hp]at Xj
  cases Xj
  simp[t0,t1,t2,t4,t5,t6]
  try simp[y0,y1,y2,y3,y4,y5,y6,hU,t0,t1,t2,t4,t5,t6,f1,f2]
  all_goals try(repeat'(first|((first|refine Up c3 rfl ?_|refine Up Xp rfl ?_|(refine UR (S:=[.arg 0]) c4 ?_ ?_;(· simp[y0,y1,y2,y3,y4,y5,y6,hU,t0,t1,t2,t4,t5,t6,f1,f2]))|(refine UR (S:=[.loc 38 0,.arg 2]) c5 ?_ ?_;(· simp[y0,y1,y2,y3,y4,y5,y6,hU,t0,t1,t2,t4,t5,t6,f1,f2]))|(refine UR (S:=[.loc 38 0]) c6 ?_ ?_;(· simp[y0,y1,y2,y3,y4,y5,y6,hU,t0,t1,t2,t4,t5,t6,f1,f2])))<;>try simp[y0,y1,y2,y3,y4,y5,y6,hU,t0,t1,t2,t4,t5,t6,f1,f2])))
  refine gG ⟨[],[],[],.junk,[some (da R.s R.c n),some (av TS),some (av fr),some (cd L),some (bX n),some (bq (.arg 0)),some (FI 1)],[.rows 79 10 ((x::K).map aG) false]⟩ [(.arg 0,.arg 0),(.arg 1,.arg 1),(.arg 2,.arg 2),(.arg 3,.arg 3),(.arg 4,.arg 4),(.arg 5,.arg 5),(.arg 6,.arg 6),(.loc 38 0,.loc 0 0)] rfl ?_ ?_ ?_ ?_ ?_
  .simp[y0,y1,y2,y3,y4,y5,y6]
  .simp
   omega
  .simp
  .simp[acl]
  .simp
   exact ug [(.arg 0,.arg 0),(.arg 1,.arg 1),(.arg 2,.arg 2),(.arg 3,.arg 3),(.arg 4,.arg 4),(.arg 5,.arg 5),(.arg 6,.arg 6),(.arg 7,.arg 7),(.loc 1000 0,.loc 0 0)] rfl (by simp[*]) .rfl
 .rintro ns E1 ⟨h0,rfl,_⟩ hU hS
  exfalso
  have:(lS M.l).length=0:=by simpa[iS]using h0
  have:=(ajs.1 hp).1
  omega
def Pj(L:Lg)(M:Mn)(s:aw)(c:Ca)(n:ByteArray)(fr TS:Int)(p:Pc)(B:Nat)(x:aF)(K:List aF)(hi:tj L M s c n fr TS p B x K):
  ajk 46 ⟨[],[.ptr (.arg 0) 0 0,.fn 105 xD],nc (da s c n) TS fr L M n iy,.t (int 0),(nc (oG (bQ s c n p).s (bQ s c n p).c n) TS fr L M n (qm [x])).map some,[]⟩:=by
 have c0:=(Pi L M s c n fr TS p B x K hi).unbox (i:=7) (t:=47) (n:=1) rfl (by simp)
 have c1:=c0.rows (rows2:=nc (da s c n) TS fr L M n iy) (rows2':=(nc (oG (bQ s c n p).s (bQ s c n p).c n) TS fr L M n (qm [x])).map some)
  ⟨.inl rfl,.inl rfl,.inl rfl,.inl rfl,.inl rfl,.inl rfl,.inl rfl,.inl rfl,trivial⟩ ⟨.inr ⟨_,_,rfl,rfl,xw _ _ _⟩,.inl rfl,.inl rfl,.inl rfl,.inl rfl,.inl rfl,.inl rfl,.inl rfl,trivial⟩
 refine sV (n:=8) c1 rfl rfl (by decide) ?_ ?_ ?_
 .simp only[xD,akd]
  exact⟨rfl,rfl,rfl,rfl,rfl,rfl,rfl,by simp⟩
 .simp only[nc,akd]
  exact⟨rfl,rfl,rfl,rfl,rfl,rfl,rfl,rfl,by simp⟩
 .intro i r hi
  match i with
  |0=>cases hi;rfl
  |1=>cases hi;rfl
  |2=>cases hi;rfl
  |3=>cases hi;rfl
  |4=>cases hi;rfl
  |5=>cases hi;rfl
  |6=>cases hi;rfl
  |7=>cases hi;rfl
  |i+8=>simp at hi
def Pk(L:Lg)(M:Mn)(s:aw)(c:Ca)(n:ByteArray)(fr TS:Int)(p:Pc)(B:Nat)(x:aF)(K:List aF)(hi:tj L M s c n fr TS p B x K)(hn:L.segs.length<=1000000)(hb:∀s∈L.segs,s.bytes.length<=1000000)(hcb:∀h∈c.l,h.bytes.length<=1000000)(hc:dx [cj L,bH M,bP s,dG c]=0):
  aji 37 [aO L,bh M,bi s,dr c,str n,int fr,int TS] (.tup [.t (kE [x]),.t (bi (bQ s c n p).s),.t (dr (bQ s c n p).c),.t (int 0)]):=by
 have c1:=p6 L hn hb
 have c2:=oF c (by have:=hi.fi.hl;omega) hcb
 have c3:=lQ M hi.hm
 have c4:=tc s
 have c5:=p7 [cj L,bH M,bP s,dG c] (by simp)
 rw[hc]at c5
 have c6:=Pj L M s c n fr TS p B x K hi
 generalize bQ s c n p=R at*
 generalize cj L=e1 at*
 generalize dG c=e2 at*
 generalize bH M=e3 at*
 generalize bP s=e4 at*
 simp only[ajQ,aj4]at c5
 refine pu J6 rfl ?_
 simp[BD,BC]
 repeat'(first|simp[*,az,ax]|refine Up c1 rfl ?_|refine Up c2 rfl ?_|refine Up c3 rfl ?_|refine Up c4 rfl ?_|refine Up c5 rfl ?_|refine UG (S:=[.loc 38 0,.loc 13 0,.loc 12 0,.loc 7 0,.loc 8 0,.loc 11 0,.loc 18 0,.loc 14 0]) (F:=[]) c6 ?_ ?_)
 all_goals exact qn .rfl .rfl .rfl .rfl
def Pm(n:Nat)(h0:0<n)(hn:n<=100000000):ajl 291 [.e0,int n] (.osl (.loc 0 0) 0) 5 1 (List.replicate n (.v (.int .u8 0))):=by
 have g0:¬(n:Int)<0:=by omega
 have g1:(0:Int)<n:=by omega
 have g2:(n:Int)<=100000000:=by omega
 refine iN JN rfl ?_
 simp[A9,A8]
 repeat'(first|simp[*,bt,nq,aB,aa.more,LIM]|simp(disch:=omega) only[wr])
 refine gE (.loc 22 0) rfl ?_ ?_
 .simp
 .simp
def eH(ls:List Bs)(i:Nat):Bs:=(ls.take i).flatten
def FJ{ls:List Bs}{i:Nat}{x:Bs}(h:ls[i]?=some x):eH ls (i+1)=eH ls i++x:=by
 unfold eH
 rw[List.take_add_one,h,List.flatten_append]
 simp
def FK:∀(ls:List Bs) (i:Nat),(ls.take i).flatten.length<=ls.flatten.length
 |[],i=>by simp
 |x::ls,0=>by simp
 |x::ls,i+1=>by
  have:=FK ls i
  simp only[List.take_succ_cons,List.flatten_cons,ajB]
  omega
def Pn(ls:List Bs):eH ls ls.length=ls.flatten:=by unfold eH;rw[akg]
def tk(ls:List Bs):eH ls 0=[]:=by simp[eH]
def Po(ls:List Bs)(F:Bs)(hF:ls.flatten=F)(hl:ls.length<=1000000)(h0:0<F.length)(hn:F.length<=100000000):ajl 251 [.sl 1 (ls.map aS)] (.osl (.loc 0 0) F.length) 5 1 (F.map aC):=by
 have c1:=Pm F.length h0 hn
 have UA:∀i,(eH ls i).length<=F.length:=fun i=>by rw[<-hF];exact FK ls i
 have Z4:eH ls ls.length=F:=by rw[Pn,hF]
 refine iN JD rfl ?_
 simp[AS]
 skip
 refine ba (fun E=>∃i:Nat,i<=ls.length/\E.tmps 0= .t (.sl 1 (ls.map aS))/\E.tmps 9= .t (.sl 1 (ls.map aS))/\E.tmps 10= .t (int ls.length)/\E.tmps 11= .t (int i)/\E.tmps 3= .t (int (eH ls i).length)) (fun E=>match E.tmps 11 with| .t (.v (.int _ i))=>ls.length-i.toNat|_=>0) [] rfl ?_ ?_
 .refine⟨0,by omega,?_,?_,?_,?_,?_⟩<;>simp[tk]
 rintro E1 ⟨i,hi,e0,e9,Vb,Wd,e3⟩ hU hS A hA
 simp[AQ,Vb,Wd]
 by_cases h:i<ls.length
 .have hx:=ajq h
  obtain⟨x,Tm⟩:∃x,ls[i]=x:=⟨_,rfl⟩
  rw[Tm]at hx
  have hs:=FJ hx
  have h1:=UA (i+1)
  rw[hs,ajB]at h1
  have hw:IntKind.i64.wrap ((i:Int)+1)=((i+1:Nat):Int):=by rw[bx (by omega) (by omega)];omega
  have Ui:IntKind.i64.wrap (((eH ls i).length:Int)+x.length)=(((eH ls (i+1)).length:Nat):Int):=by rw[bx (by omega) (by omega),hs,ajB];omega
  have hnn:¬(((eH ls (i+1)).length:Nat):Int)<0:=by omega
  try simp[e0,e9,Vb,Wd,e3,hU,h,Tm,hx,hw,Ui,hnn]
  skip
  refine hA _ (aH [] rfl rfl ⟨i+1,by omega,?_,?_,?_,?_,?_⟩ ?_)
  all_goals simp[e0,e9,Vb,Wd,e3]
  all_goals omega
 .have TE:i=ls.length:=by omega
  subst TE
  rw[Z4]at e3
  try simp[e0,e9,Vb,Wd,e3,hU]
  all_goals try(repeat'(first|((refine UN (F:=[]) c1 ?_ ?_;(· simp[e0,e9,Vb,Wd,e3,hU]))<;>try simp[e0,e9,Vb,Wd,e3,hU])))
  refine ba (fun E=>∃(i:Nat) (R:List ab),i<=ls.length/\(eH ls i).length<=R.length/\R.take (eH ls i).length=(eH ls i).map aC/\(0<i->R=(eH ls i).map aC)/\E.tmps 25= .t (.sl 1 (ls.map aS))/\E.tmps 26= .t (int ls.length)/\E.tmps 27= .t (int i)/\E.tmps 6= .osl (.head 1 0) (eH ls i).length/\E.slots (.head 1 0)=some (.rows 5 1 R false)) (fun E=>match E.tmps 27 with| .t (.v (.int _ i))=>ls.length-i.toNat|_=>0) [(.loc 24 0,.head 1 0)] rfl ?_ ?_
  .refine⟨0,List.replicate F.length (.v (.int .u8 0)),by omega,by simp[tk],by simp[tk],by omega,?_,?_,?_,?_,?_⟩<;>simp[tk,e0]
  rintro E2 ⟨i,R,Ya,TG,hRt,hR0,f25,f26,f27,f6,s0⟩ Xe hS2 A2 hA2
  simp[AR,f26,f27]
  by_cases h2:i<ls.length
  .have hx:=ajq h2
   obtain⟨x,Tm⟩:∃x,ls[i]=x:=⟨_,rfl⟩
   rw[Tm]at hx
   have hs:=FJ hx
   have h1:=UA (i+1)
   rw[hs,ajB]at h1
   have hw:IntKind.i64.wrap ((i:Int)+1)=((i+1:Nat):Int):=by rw[bx (by omega) (by omega)];omega
   have hlim:(eH ls i).length+x.length<=100000000:=by omega
   try simp[f25,f26,f27,f6,s0,Xe,h2,Tm,hx,hw,TG,hRt,hlim,aB,aa.more,LIM]
   skip
   refine hA2 _ (aH [(.loc 33 0,.head 1 0)] rfl rfl ⟨i+1,(eH ls i).map aC++x.map aC,by omega,by rw[hs];simp,by rw[hs,aki];exact aju (by simp),fun _=>by rw[hs,aki],?_,?_,?_,?_,?_⟩ ?_)
   all_goals simp[f25,f26,f27,f6,hs]
   all_goals omega
  .have TE:i=ls.length:=by omega
   subst TE
   rw[Z4]at f6 hR0
   have hlp:0<ls.length:=by
    rcases Nat.eq_zero_or_pos ls.length with h|h
    .rw[aj3.1 h]at hF
     rw[<-hF]at h0
     simp at h0
    .exact h
   have hR:=hR0 hlp
   subst hR
   try simp[f25,f26,f27,f6,s0,Xe]
   skip
   refine gE (.head 1 0) rfl ?_ ?_
   .simp[s0]
   .simp[s0]
def tn{a:ab}:aE (.agg [a,.e0]) (.agg [a,.sl 1 []]):=aE.aggL ⟨.rfl,.nil,trivial⟩
def xE(n:Int):aji 249 [int n] (tt (fQ n)):=by
 unfold fQ
 refine pu JB rfl ?_
 simp[AO]
 repeat'(first|simp[*]|apply aj|(apply aN<;>intro h))
 all_goals exact au rfl
def nf(n:Int):Bool:=decide (1<=n)&&decide (n<=4096)
def xF(n:Int):aji 250 [int n] (tt (nf n)):=by
 unfold nf
 refine pu JC rfl ?_
 simp[AP]
 repeat'(first|simp[*]|apply aj|(apply aN<;>intro h))
 all_goals exact au rfl
def l7(s:bL)(b:aF)(limit:Int):Int:=
 if¬iQ s.base s.bytes=s.bytes.length then 1 else if fQ s.base=false then 1 else if nf limit=false then 1
 else if b.base<jY s.base s.bytes then 71 else if limit<(s.bytes.length:Int)+(bT b).length then 70 else 0
def FL(s:bL)(b:aF)(limit:Int)(hs:s.bytes.length<=100000)(hr:b.recs.length<=1000000)(hb:di b=0)(h0:l7 s b limit=0):
  aji 195 [bF s,aG b,int limit] (.tup [.t (bF ⟨s.base,s.bytes++bT b⟩),.t (int 0)]):=by
 unfold l7 at h0
 split at h0
 .cases h0
 rename_i q1
 split at h0
 .cases h0
 rename_i q2
 split at h0
 .cases h0
 rename_i q3
 split at h0
 .cases h0
 rename_i q4
 split at h0
 .cases h0
 rename_i q5
 have q1:iQ s.base s.bytes=s.bytes.length:=Classical.not_not.1 q1
 have hw:=(sF hb).2
 have c1:=ou s.base s.bytes (by omega)
 have c2:=xE s.base
 have c3:=xF limit
 have c4:=sG b hr hb
 have c5:=sI s.base s.bytes (by omega)
 rw[q1]at c1
 rw[(by simpa using q2:fQ s.base=true)]at c2
 rw[(by simpa using q3:nf limit=true)]at c3
 have hp:4<=(bT b).length:=by simp[bT,cg]
 generalize bT b=wb at*
 have c6:=Po [s.bytes,wb] (s.bytes++wb) (by simp) (by simp) (by simp;omega) (by simp;omega)
 generalize jY s.base s.bytes=en at*
 have hwr:IntKind.i64.wrap ((s.bytes.length:Int)+wb.length)=(s.bytes.length:Int)+wb.length:=by rw[bx (by omega) (by omega)]
 refine pu Aj rfl ?_
 simp[vk]
 repeat'(first|simp[*,q4,q5,az,ax,DV.noview,aa.viewPs]|apply aj|refine Up c1 rfl ?_|refine Up c2 rfl ?_|refine Up c3 rfl ?_|refine UN (F:=[]) c4 ?_ ?_|refine Up c5 rfl ?_|refine UN (F:=[]) c6 ?_ ?_)
 have TD:List.take (s.bytes.length+wb.length) (s.bytes.map aC++wb.map aC)=s.bytes.map aC++wb.map aC:=aju (by simp)
 refine sN (x:=bF ⟨s.base,s.bytes++wb⟩) (rd:=[.loc 67 0]) ?_ .rfl .rfl
 simp[TD]
def Pp(s:bL)(b:aF)(limit:Int)(hs:s.bytes.length<=100000)(hr:b.recs.length<=1000000)(hb:di b=0)(h0:l7 s b limit=70):
  aji 195 [bF s,aG b,int limit] (.tup [.t (bF ⟨0,[]⟩),.t (int 70)]):=by
 unfold l7 at h0
 split at h0
 .cases h0
 rename_i q1
 split at h0
 .cases h0
 rename_i q2
 split at h0
 .cases h0
 rename_i q3
 split at h0
 .cases h0
 rename_i q4
 split at h0
 rotate_left
 .cases h0
 rename_i q5
 have q1:iQ s.base s.bytes=s.bytes.length:=Classical.not_not.1 q1
 have hw:=(sF hb).2
 have c1:=ou s.base s.bytes (by omega)
 have c2:=xE s.base
 have c3:=xF limit
 have c4:=sG b hr hb
 have c5:=sI s.base s.bytes (by omega)
 rw[q1]at c1
 rw[(by simpa using q2:fQ s.base=true)]at c2
 rw[(by simpa using q3:nf limit=true)]at c3
 have hp:4<=(bT b).length:=by simp[bT,cg]
 generalize bT b=wb at*
 generalize jY s.base s.bytes=en at*
 have hwr:IntKind.i64.wrap ((s.bytes.length:Int)+wb.length)=(s.bytes.length:Int)+wb.length:=by rw[bx (by omega) (by omega)]
 refine pu Aj rfl ?_
 simp[vk]
 repeat'(first|simp[*,q4,q5,az,ax,DV.noview,aa.viewPs]|apply aj|refine Up c1 rfl ?_|refine Up c2 rfl ?_|refine Up c3 rfl ?_|refine UN (F:=[]) c4 ?_ ?_|refine Up c5 rfl ?_)
 exact lR tn .rfl
def Pq(n:Int):aji 252 [int n] (.tup [.t (bF ⟨if fQ n=true then n else 0,[]⟩),.t (int (if fQ n=true then 0 else 1))]):=by
 have c1:=xE n
 generalize fQ n=b at*
 cases b with
 |true=>
  refine pu AT rfl ?_
  simp[vr]
  repeat'(first|simp[*]|refine Up c1 rfl ?_)
  all_goals exact sN (x:= .agg [int n,.e0]) (rd:=[]) (by simp) tn .rfl
 |false=>
  refine pu AT rfl ?_
  simp[vr]
  repeat'(first|simp[*]|refine Up c1 rfl ?_)
  all_goals exact lR tn .rfl
def Pr(base:Int)(b:aF)(limit:Int)(hr:b.recs.length<=1000000)(hb:di b=0)(h0:l7 ⟨base,[]⟩ b limit=0)(q1:fQ base=true)(q2:nf limit=true):
  aji 197 [int base,.sl 10 [aG b],int limit] (.tup [.t (bF ⟨base,bT b⟩),.t (int 0)]):=by
 have c1:=Pq base
 rw[if_pos q1,if_pos q1]at c1
 have c2:=xF limit
 rw[q2]at c2
 have c3:=FL ⟨base,[]⟩ b limit (by simp) hr hb h0
 refine pu Jb rfl ?_
 simp[Am]
 repeat'(first|simp[*]|apply aj|refine Up c1 rfl ?_|refine Up c2 rfl ?_)
 refine ba (fun E=>∃(i:Nat) (s:bL),i<=1/\s=(if i=0 then⟨base,[]⟩else⟨base,bT b⟩)/\E.tmps 25= .t (.sl 10 [aG b])/\E.tmps 26= .t (int 1)/\E.tmps 27= .t (int i)/\E.tmps 2= .t (int limit)/\E.tmps 6= .ptr (.head 1 0) 0 0/\E.tmps 8= .ptr (.head 1 1) 0 0/\E.slots (.head 1 0)=some (.box 61 (.t (.agg [int 0,.e0])) false)/\E.slots (.head 1 1)=some (.box 61 (.t (bF s)) false))
  (fun E=>match E.tmps 27 with| .t (.v (.int _ i))=>1-i.toNat|_=>0) [(.loc 6 0,.head 1 0),(.loc 8 0,.head 1 1)] rfl ?_ ?_
 .refine⟨0,_,by omega,rfl,?_,?_,?_,?_,?_,?_,?_,?_⟩<;>simp
 rintro E1 ⟨i,s,hi,rfl,e25,e26,Z8,e2,e6,e8,s0,s1⟩ hU hS A hA
 simp[Al,e26,Z8]
 match i,hi with
 |0,_=>
  simp only[if_true]at s1
  repeat'(first|simp[*,s0,s1]|refine Up c3 rfl ?_)
  refine hA _ (aH [(.head 1 0,.head 1 0),(.head 1 1,.head 1 1)] rfl rfl ⟨1,_,by omega,rfl,?_,?_,?_,?_,?_,?_,?_,?_⟩ ?_)
  all_goals simp[*,s0,s1]
 |1,_=>
  simp only[show¬(1=0) by decide,ajS]at s1
  repeat' simp[*,s0,s1]
  exact lR .rfl .rfl
def xG(L:Lg)(hn:L.segs.length<=1000000):aji 194 [aO L] (.t (int ((L.segs.length:Int)-1))):=by
 refine pu I9 rfl ?_
 simp[Ai]
 repeat' simp(disch:=omega) only[wr]
 all_goals exact au rfl
def xH(a b:Int):Int:=if a<b then b else a
def nh(L:Lg):Int:=match L.segs[L.segs.length-1]? with|some s=>xH L.start (jY s.base s.bytes)|none=>0
def FM(L:Lg)(hn:L.segs.length<=1000000)(hl:∀s∈L.segs,s.bytes.length<=1000000)(h0:L.segs≠[]):aji 192 [aO L] (.t (int (nh L))):=by
 have hp:=List.length_pos_iff.2 h0
 have hi:L.segs.length-1<L.segs.length:=by omega
 have hx:=ajq hi
 obtain⟨x,Tm⟩:∃x,L.segs[L.segs.length-1]=x:=⟨_,rfl⟩
 rw[Tm]at hx
 have c1:=xG L hn
 have c2:=sI x.base x.bytes (hl x (ajx hx))
 have hv:nh L=xH L.start (jY x.base x.bytes):=by simp only[nh,hx]
 rw[hv]
 unfold xH
 generalize jY x.base x.bytes=e at*
 have k1:((L.segs.length:Int)-1).toNat=L.segs.length-1:=by omega
 have k2:(1:Int)<=L.segs.length:=by omega
 have k3:(L.segs.length:Int)-1<L.segs.length:=by omega
 refine pu I7 rfl ?_
 simp[Ag]
 repeat'(first|simp[*]|refine Up c1 rfl ?_|refine Up c2 rfl ?_)
 all_goals exact au rfl
def FN(L:Lg)(l:List ab):aji 196 [aO L,.sl 2 l] (.t (.agg [int L.limit,int L.start,.sl 2 l])):=by
 refine pu Ja rfl ?_
 simp[Ak]
 skip
 all_goals first
  |exact au rfl
  |exact adK rfl
  |(refine eM ?_;simp;done)
def qo(limit start:Int)(pre:List bL)(s:bL)(b:aF)(hn:pre.length<=1000)(hb:∀x∈pre++[s],x.bytes.length<=100000)(hr:b.recs.length<=1000000)
  (q1:cj ⟨limit,start,pre++[s]⟩=0) (q2:di b=0) (q3:¬b.base<nh ⟨limit,start,pre++[s]⟩) (q4:¬limit<batSz b) (q5:l7 s b limit=0):
  aji 103 [aO ⟨limit,start,pre++[s]⟩,aG b] (.tup [.t (aO ⟨limit,start,pre++[⟨s.base,s.bytes++bT b⟩]⟩),.t (int 0)]):=by
 have Tk:(pre++[s]).length=pre.length+1:=by simp
 have c1:=p6 ⟨limit,start,pre++[s]⟩ (by simp;omega) (fun x hx=>by have:=hb x hx;omega)
 have c2:=wG b hr
 have c3:=FM ⟨limit,start,pre++[s]⟩ (by simp;omega) (fun x hx=>by have:=hb x hx;omega) (by simp)
 have c4:=wH b hr
 have c5:=xG ⟨limit,start,pre++[s]⟩ (by simp;omega)
 have c6:=FL s b limit (hb s (by simp)) hr q2 q5
 have c7:=wW pre (by simp only[LIM];omega)
 have c8:=FN ⟨limit,start,pre++[s]⟩ ((pre++[(⟨s.base,s.bytes++bT b⟩:bL)]).map bF)
 rw[q1]at c1
 rw[q2]at c2
 have hm:((pre++[s]).length:Int)-1=pre.length:=by rw[Tk];omega
 simp only at c5
 rw[hm]at c5
 have Ty:(pre++[s])[pre.length]?=some s:=by simp
 generalize nh ⟨limit,start,pre++[s]⟩=en at*
 generalize batSz b=bz at*
 generalize hw:(⟨s.base,s.bytes++bT b⟩:bL)=s' at*
 have hlim:pre.length+1<=100000000:=by omega
 have k1:(pre.length:Int)<=(pre.length:Int)+1:=by omega
 have k0:(pre.length:Int)<(pre.length:Int)+1:=by omega
 have TD:List.take pre.length (pre.map bF)=pre.map bF:=aju (by simp)
 have aeK:∀y:ab,List.take (pre.length+1) (pre.map bF++[y])=pre.map bF++[y]:=fun y=>aju (by simp)
 have hbz:¬limit<(bz:Int):=q4
 simp only[aki,ajQ,aj4]at c8
 refine pu B7 rfl ?_
 simp[v9,vZ]
 repeat'(first|simp[*,q3,bt,az,aB,aa.more,LIM,ax,DV.noview,aa.viewPs]|refine Up c1 rfl ?_|refine Up c2 rfl ?_|refine Up c3 rfl ?_|refine Up c4 rfl ?_|refine Up c5 rfl ?_|refine Up c6 rfl ?_|refine UN (F:=[]) c7 ?_ ?_|refine UV (F:=[.loc 60 0]) c8 rfl ?_ ?_)
 refine lR (aE.refl' ?_) .rfl
 simp
def xI(limit start:Int)(pre:List bL)(s:bL)(b:aF)(hn:pre.length<=200)(hb:∀x∈pre++[s],x.bytes.length<=100000)(hr:b.recs.length<=1000000)
  (q1:cj ⟨limit,start,pre++[s]⟩=0) (q2:di b=0) (q3:¬b.base<nh ⟨limit,start,pre++[s]⟩) (q4:¬limit<batSz b) (q5:l7 s b limit=70) (q6:l7 ⟨b.base,[]⟩ b limit=0) (q7:fQ b.base=true) (q8:nf limit=true):
  aji 103 [aO ⟨limit,start,pre++[s]⟩,aG b] (.tup [.t (aO ⟨limit,start,pre++[s]++[⟨b.base,bT b⟩]⟩),.t (int 0)]):=by
 have Tk:(pre++[s]).length=pre.length+1:=by simp
 have c1:=p6 ⟨limit,start,pre++[s]⟩ (by simp;omega) (fun x hx=>by have:=hb x hx;omega)
 have c2:=wG b hr
 have c3:=FM ⟨limit,start,pre++[s]⟩ (by simp;omega) (fun x hx=>by have:=hb x hx;omega) (by simp)
 have c4:=wH b hr
 have c5:=xG ⟨limit,start,pre++[s]⟩ (by simp;omega)
 have c6:=Pp s b limit (hb s (by simp)) hr q2 q5
 have c9:=Pr b.base b limit hr q2 q6 q7 q8
 have c7:=wW (pre++[s]) (by simp only[LIM];simp;omega)
 have c8:=FN ⟨limit,start,pre++[s]⟩ ((pre++[s]++[(⟨b.base,bT b⟩:bL)]).map bF)
 rw[q1]at c1
 rw[q2]at c2
 have hm:((pre++[s]).length:Int)-1=pre.length:=by rw[Tk];omega
 simp only at c5
 rw[hm]at c5
 have Ty:(pre++[s])[pre.length]?=some s:=by simp
 generalize nh ⟨limit,start,pre++[s]⟩=en at*
 generalize batSz b=bz at*
 generalize hw:(⟨b.base,bT b⟩:bL)=s' at*
 have hlim:pre.length+1+1<=100000000:=by omega
 have k0:(pre.length:Int)<(pre.length:Int)+1:=by omega
 have k3:¬(pre.length:Int)+1=256:=by omega
 have TD:List.take (pre.length+1) (pre.map bF++[bF s])=pre.map bF++[bF s]:=aju (by simp)
 have W9:List.take (pre.length+1) (pre.map bF++[.agg [int s.base,aS s.bytes]])=pre.map bF++[.agg [int s.base,aS s.bytes]]:=aju (by simp)
 have aeK:∀y z:ab,List.take (pre.length+1+1) (pre.map bF++[y,z])=pre.map bF++[y,z]:=fun y z=>aju (by simp)
 have hbz:¬limit<(bz:Int):=q4
 simp only[aki,ajQ,aj4,aj1,List.cons_append,List.nil_append]at c7 c8
 rw[Tk]at c7
 refine pu B7 rfl ?_
 simp[v9,vZ]
 repeat'(first|simp[*,q3,bt,az,aB,aa.more,LIM,ax,DV.noview,aa.viewPs]|refine Up c1 rfl ?_|refine Up c2 rfl ?_|refine Up c3 rfl ?_|refine Up c4 rfl ?_|refine Up c5 rfl ?_|refine Up c6 rfl ?_|refine UV (F:=[]) c9 rfl ?_ ?_|refine UN (F:=[]) c7 ?_ ?_|refine UV (F:=[.loc 87 0]) c8 rfl ?_ ?_)
 refine lR (aE.refl' ?_) .rfl
 simp
def xJ:ByteArray:=⟨#[48,49,50,51,52,53,54,55,56,57,48,49,50,51,52,53,54,55,56,57,48,49,50,51,52,53,54,55,56,57,48,49,50,51,52,53,54,55,56,57,48,49,50,51,52,53,54,55,56,57,48,49,50,51,52,53,54,55,56,57,48,49,50,51]⟩
def b7(i:Int):aF:=⟨i,i,i,0,-1,0,0,false,0,[⟨i,xJ,xJ,false,0⟩]⟩
def Ps(i:Int):aji 104 [int i] (.t (aG (b7 i))):=by
 unfold b7 xJ
 refine pu Kw rfl ?_
 simp[B8]
 repeat' simp[*,az,ax]
 refine wR (x:=aG ⟨i,i,i,0,-1,0,0,false,0,[⟨i,_,_,false,0⟩]⟩) (rd:=[]) ?_ .rfl
 simp
def fJ:Bs:=[0,0,0,149,0,0,0,0,1,0,0,0,2,0,0,0,0,128,1,48,49,50,51,52,53,54,55,56,57,48,49,50,51,52,53,54,55,56,57,48,49,50,51,52,53,54,55,56,57,48,49,50,51,52,53,54,55,56,57,48,49,50,51,52,53,54,55,56,57,48,49,50,51,52,53,54,55,56,57,48,49,50,51,128,1,48,49,50,51,52,53,54,55,56,57,48,49,50,51,52,53,54,55,56,57,48,49,50,51,52,53,54,55,56,57,48,49,50,51,52,53,54,55,56,57,48,49,50,51,52,53,54,55,56,57,48,49,50,51,52,53,54,55,56,57,48,49,50,51,180,105,134,1]
def Pt:bT (b7 0)=fJ:=by kernel_rfl
def gz:Bs:=[0,0,0,149,2,0,2,0,1,0,0,0,2,0,0,0,0,128,1,48,49,50,51,52,53,54,55,56,57,48,49,50,51,52,53,54,55,56,57,48,49,50,51,52,53,54,55,56,57,48,49,50,51,52,53,54,55,56,57,48,49,50,51,52,53,54,55,56,57,48,49,50,51,52,53,54,55,56,57,48,49,50,51,128,1,48,49,50,51,52,53,54,55,56,57,48,49,50,51,52,53,54,55,56,57,48,49,50,51,52,53,54,55,56,57,48,49,50,51,52,53,54,55,56,57,48,49,50,51,52,53,54,55,56,57,48,49,50,51,52,53,54,55,56,57,48,49,50,51,216,141,82,91]
def Pu:bT (b7 1)=gz:=by kernel_rfl
def iz:Bs:=[0,0,0,149,4,0,4,0,1,0,0,0,2,0,0,0,0,128,1,48,49,50,51,52,53,54,55,56,57,48,49,50,51,52,53,54,55,56,57,48,49,50,51,52,53,54,55,56,57,48,49,50,51,52,53,54,55,56,57,48,49,50,51,52,53,54,55,56,57,48,49,50,51,52,53,54,55,56,57,48,49,50,51,128,1,48,49,50,51,52,53,54,55,56,57,48,49,50,51,52,53,54,55,56,57,48,49,50,51,52,53,54,55,56,57,48,49,50,51,52,53,54,55,56,57,48,49,50,51,52,53,54,55,56,57,48,49,50,51,52,53,54,55,56,57,48,49,50,51,109,160,46,181]
def Pv:bT (b7 2)=iz:=by kernel_rfl
def jr:Bs:=[0,0,0,149,6,0,6,0,1,0,0,0,2,0,0,0,0,128,1,48,49,50,51,52,53,54,55,56,57,48,49,50,51,52,53,54,55,56,57,48,49,50,51,52,53,54,55,56,57,48,49,50,51,52,53,54,55,56,57,48,49,50,51,52,53,54,55,56,57,48,49,50,51,52,53,54,55,56,57,48,49,50,51,128,1,48,49,50,51,52,53,54,55,56,57,48,49,50,51,52,53,54,55,56,57,48,49,50,51,52,53,54,55,56,57,48,49,50,51,52,53,54,55,56,57,48,49,50,51,52,53,54,55,56,57,48,49,50,51,52,53,54,55,56,57,48,49,50,51,1,68,250,239]
def Pw:bT (b7 3)=jr:=by kernel_rfl
def kQ:Bs:=[0,0,0,149,8,0,8,0,1,0,0,0,2,0,0,0,0,128,1,48,49,50,51,52,53,54,55,56,57,48,49,50,51,52,53,54,55,56,57,48,49,50,51,52,53,54,55,56,57,48,49,50,51,52,53,54,55,56,57,48,49,50,51,52,53,54,55,56,57,48,49,50,51,52,53,54,55,56,57,48,49,50,51,128,1,48,49,50,51,52,53,54,55,56,57,48,49,50,51,52,53,54,55,56,57,48,49,50,51,52,53,54,55,56,57,48,49,50,51,52,53,54,55,56,57,48,49,50,51,52,53,54,55,56,57,48,49,50,51,52,53,54,55,56,57,48,49,50,51,220,139,209,40]
def Px:bT (b7 4)=kQ:=by kernel_rfl
def ni:Bs:=[0,0,0,149,10,0,10,0,1,0,0,0,2,0,0,0,0,128,1,48,49,50,51,52,53,54,55,56,57,48,49,50,51,52,53,54,55,56,57,48,49,50,51,52,53,54,55,56,57,48,49,50,51,52,53,54,55,56,57,48,49,50,51,52,53,54,55,56,57,48,49,50,51,52,53,54,55,56,57,48,49,50,51,128,1,48,49,50,51,52,53,54,55,56,57,48,49,50,51,52,53,54,55,56,57,48,49,50,51,52,53,54,55,56,57,48,49,50,51,52,53,54,55,56,57,48,49,50,51,52,53,54,55,56,57,48,49,50,51,52,53,54,55,56,57,48,49,50,51,176,111,5,114]
def Py:bT (b7 5)=ni:=by kernel_rfl
def qp:Bs:=[0,0,0,149,12,0,12,0,1,0,0,0,2,0,0,0,0,128,1,48,49,50,51,52,53,54,55,56,57,48,49,50,51,52,53,54,55,56,57,48,49,50,51,52,53,54,55,56,57,48,49,50,51,52,53,54,55,56,57,48,49,50,51,52,53,54,55,56,57,48,49,50,51,52,53,54,55,56,57,48,49,50,51,128,1,48,49,50,51,52,53,54,55,56,57,48,49,50,51,52,53,54,55,56,57,48,49,50,51,52,53,54,55,56,57,48,49,50,51,52,53,54,55,56,57,48,49,50,51,52,53,54,55,56,57,48,49,50,51,52,53,54,55,56,57,48,49,50,51,5,66,121,156]
def Pz:bT (b7 6)=qp:=by kernel_rfl
def xK:Bs:=[0,0,0,149,14,0,14,0,1,0,0,0,2,0,0,0,0,128,1,48,49,50,51,52,53,54,55,56,57,48,49,50,51,52,53,54,55,56,57,48,49,50,51,52,53,54,55,56,57,48,49,50,51,52,53,54,55,56,57,48,49,50,51,52,53,54,55,56,57,48,49,50,51,52,53,54,55,56,57,48,49,50,51,128,1,48,49,50,51,52,53,54,55,56,57,48,49,50,51,52,53,54,55,56,57,48,49,50,51,52,53,54,55,56,57,48,49,50,51,52,53,54,55,56,57,48,49,50,51,52,53,54,55,56,57,48,49,50,51,52,53,54,55,56,57,48,49,50,51,105,166,173,198]
def PA:bT (b7 7)=xK:=by kernel_rfl
def to:Lg:=⟨400,0,[⟨0,[]⟩]⟩
def tq:Lg:=⟨400,0,[⟨0,fJ⟩]⟩
def tu:Lg:=⟨400,0,[⟨0,fJ++gz⟩]⟩
def tv:Lg:=⟨400,0,[⟨0,fJ++gz⟩,⟨2,iz⟩]⟩
def tw:Lg:=⟨400,0,[⟨0,fJ++gz⟩,⟨2,iz++jr⟩]⟩
def tx:Lg:=⟨400,0,[⟨0,fJ++gz⟩,⟨2,iz++jr⟩,⟨4,kQ⟩]⟩
def tz:Lg:=⟨400,0,[⟨0,fJ++gz⟩,⟨2,iz++jr⟩,⟨4,kQ++ni⟩]⟩
def tA:Lg:=⟨400,0,[⟨0,fJ++gz⟩,⟨2,iz++jr⟩,⟨4,kQ++ni⟩,⟨6,qp⟩]⟩
def fK:Lg:=⟨400,0,[⟨0,fJ++gz⟩,⟨2,iz++jr⟩,⟨4,kQ++ni⟩,⟨6,qp++xK⟩]⟩
def PB:cj to=0:=by kernel_rfl
def PC:cj tq=0:=by kernel_rfl
def PD:cj tu=0:=by kernel_rfl
def PE:cj tv=0:=by kernel_rfl
def PF:cj tw=0:=by kernel_rfl
def PG:cj tx=0:=by kernel_rfl
def PH:cj tz=0:=by kernel_rfl
def PI:cj tA=0:=by kernel_rfl
def PJ:aji 103 [aO to,aG (b7 0)] (.tup [.t (aO tq),.t (int 0)]):=by
 have h:=qo 400 0 [] ⟨0,[]⟩ (b7 0) (by decide) (ajC (by kernel_rfl)) (by decide) PB (ajC (by kernel_rfl)) (ajC (by kernel_rfl)) (ajC (by kernel_rfl)) (ajC (by kernel_rfl))
 rw[Pt]at h
 exact h
def PK:aji 103 [aO tq,aG (b7 1)] (.tup [.t (aO tu),.t (int 0)]):=by
 have h:=qo 400 0 [] ⟨0,fJ⟩ (b7 1) (by decide) (ajC (by kernel_rfl)) (by decide) PC (ajC (by kernel_rfl)) (ajC (by kernel_rfl)) (ajC (by kernel_rfl)) (ajC (by kernel_rfl))
 rw[Pu]at h
 exact h
def PL:aji 103 [aO tu,aG (b7 2)] (.tup [.t (aO tv),.t (int 0)]):=by
 have h:=xI 400 0 [] ⟨0,fJ++gz⟩ (b7 2) (by decide) (ajC (by kernel_rfl)) (by decide) PD (ajC (by kernel_rfl)) (ajC (by kernel_rfl)) (ajC (by kernel_rfl)) (ajC (by kernel_rfl)) (ajC (by kernel_rfl)) (by kernel_rfl) (by kernel_rfl)
 rw[Pv]at h
 exact h
def PM:aji 103 [aO tv,aG (b7 3)] (.tup [.t (aO tw),.t (int 0)]):=by
 have h:=qo 400 0 [⟨0,fJ++gz⟩] ⟨2,iz⟩ (b7 3) (by decide) (ajC (by kernel_rfl)) (by decide) PE (ajC (by kernel_rfl)) (ajC (by kernel_rfl)) (ajC (by kernel_rfl)) (ajC (by kernel_rfl))
 rw[Pw]at h
 exact h
def PN:aji 103 [aO tw,aG (b7 4)] (.tup [.t (aO tx),.t (int 0)]):=by
 have h:=xI 400 0 [⟨0,fJ++gz⟩] ⟨2,iz++jr⟩ (b7 4) (by decide) (ajC (by kernel_rfl)) (by decide) PF (ajC (by kernel_rfl)) (ajC (by kernel_rfl)) (ajC (by kernel_rfl)) (ajC (by kernel_rfl)) (ajC (by kernel_rfl)) (by kernel_rfl) (by kernel_rfl)
 rw[Px]at h
 exact h
def PO:aji 103 [aO tx,aG (b7 5)] (.tup [.t (aO tz),.t (int 0)]):=by
 have h:=qo 400 0 [⟨0,fJ++gz⟩,⟨2,iz++jr⟩] ⟨4,kQ⟩ (b7 5) (by decide) (ajC (by kernel_rfl)) (by decide) PG (ajC (by kernel_rfl)) (ajC (by kernel_rfl)) (ajC (by kernel_rfl)) (ajC (by kernel_rfl))
 rw[Py]at h
 exact h
def PP:aji 103 [aO tz,aG (b7 6)] (.tup [.t (aO tA),.t (int 0)]):=by
 have h:=xI 400 0 [⟨0,fJ++gz⟩,⟨2,iz++jr⟩] ⟨4,kQ++ni⟩ (b7 6) (by decide) (ajC (by kernel_rfl)) (by decide) PH (ajC (by kernel_rfl)) (ajC (by kernel_rfl)) (ajC (by kernel_rfl)) (ajC (by kernel_rfl)) (ajC (by kernel_rfl)) (by kernel_rfl) (by kernel_rfl)
 rw[Pz]at h
 exact h
def PR:aji 103 [aO tA,aG (b7 7)] (.tup [.t (aO fK),.t (int 0)]):=by
 have h:=qo 400 0 [⟨0,fJ++gz⟩,⟨2,iz++jr⟩,⟨4,kQ++ni⟩] ⟨6,qp⟩ (b7 7) (by decide) (ajC (by kernel_rfl)) (by decide) PI (ajC (by kernel_rfl)) (ajC (by kernel_rfl)) (ajC (by kernel_rfl)) (ajC (by kernel_rfl))
 rw[PA]at h
 exact h
def nj:Nat->Lg
 |0=>to
 |1=>tq
 |2=>tu
 |3=>tv
 |4=>tw
 |5=>tx
 |6=>tz
 |7=>tA
 |_=>fK
def PS(i:Nat)(hi:i<8):aji 103 [aO (nj i),aG (b7 i)] (.tup [.t (aO (nj (i+1))),.t (int 0)]):=by
 match i,hi with
 |0,_=>exact PJ
 |1,_=>exact PK
 |2,_=>exact PL
 |3,_=>exact PM
 |4,_=>exact PN
 |5,_=>exact PO
 |6,_=>exact PP
 |7,_=>exact PR
def PT:aji 102 [int 400,int 0] (.tup [.t (aO to),.t (int 0)]):=by
 have c1:=DW 400 0
 rw[show pZ 400 0=true by decide]at c1
 refine pu Kv rfl ?_
 simp[B6]
 repeat'(first|simp[*,az,ax]|refine Up c1 rfl ?_)
 refine sN (x:= .agg [int 400,int 0,.sl 2 [.agg [int 0,.e0]]]) (rd:=[]) (by simp) ?_ .rfl
 exact aE.aggL ⟨.rfl,.rfl,aE.slL ⟨tn,trivial⟩,trivial⟩
def PU:aji 36 [] (.tup [.t (aO fK),.t (bo true)]):=by
 have c1:=PT
 refine pu J5 rfl ?_
 simp[BB]
 repeat'(first|simp[*]|refine Up c1 rfl ?_)
 refine ba (fun E=>∃i:Nat,i<=8/\E.tmps 5= .t (int i)/\E.tmps 4=tt true/\E.tmps 0= .ptr (.head 1 1) 0 0/\E.tmps 2= .ptr (.head 1 0) 0 0/\E.slots (.head 1 0)=some (.box 24 (.t (aO (nj i))) false)/\E.slots (.head 1 1)=some (.box 24 (.t (.agg [int 0,int 0,.e0])) false)) (fun E=>match E.tmps 5 with| .t (.v (.int _ i))=>8-i.toNat|_=>0) [(.loc 2 0,.head 1 0),(.loc 0 0,.head 1 1)] rfl ?_ ?_
 .refine⟨0,by omega,?_,?_,?_,?_,?_,?_⟩<;>simp[nj]
 rintro E1 ⟨i,hi,e5,e4,e0,e2,s0,s1⟩ hU hS A hA
 by_cases h:i<8
 .have h':(i:Int)<8:=by omega
  have hw:IntKind.i64.wrap ((i:Int)+1)=((i+1:Nat):Int):=by rw[bx (by omega) (by omega)];omega
  have c2:=Ps i
  have c3:=PS i h
  generalize nj i=La at*
  generalize hLb:nj (i+1)=Lb at*
  simp[vF,e5]
  repeat'(first|simp[*,s0,s1,h]|apply aj|refine Up c2 rfl ?_|refine Up c3 rfl ?_)
  refine hA _ (aH [(.head 1 0,.head 1 0),(.head 1 1,.head 1 1)] rfl rfl ⟨i+1,by omega,?_,?_,?_,?_,?_,?_⟩ ?_)
  all_goals simp[*,s0,s1]
  all_goals omega
 .have TE:i=8:=by omega
  subst TE
  simp[vF,e5]
  repeat'(first|simp[*,s0,s1]|apply aj)
  exact lR .rfl (aE.refl' (by simp[nj,fK]))
def js:List ByteArray->aw->aw×Int
 |[],s=>(s,0)
 |x::l,s=>if(eE s x).2≠0 then eE s x else js l (eE s x).1
def dH(m:Mn)(s:aw)(n:ByteArray):Mn×aw×Int:=
 if(dP s (b6 n)).2.2≠0 then(m,(dP s (b6 n)).1,(dP s (b6 n)).2.2)
 else((ir m n (dP s (b6 n)).2.1).1,(js (ir m n (dP s (b6 n)).2.1).2 (dP s (b6 n)).1).1,(js (ir m n (dP s (b6 n)).2.1).2 (dP s (b6 n)).1).2)
theorem FO(x:ByteArray)(l:List ByteArray)(t:aw):js (x::l) t=if(eE t x).2≠0 then eE t x else js l (eE t x).1:=rfl
abbrev tB:List DV:=[.ptr (.arg 1) 0 0,.ptr (.arg 2) 0 0,.ptr (.arg 3) 0 0,.ptr (.arg 4) 0 0]
abbrev FP(m:Mn)(s:aw)(n:ByteArray)(d:DV)(r:Row):Ct:=⟨[],tB,[dZ s m es,bA s,bX n,bq (.arg 0),bp m],d,[some r,some (bA s),some (bX n),some (bq (.arg 0)),some (bp m)],[]⟩
def PV(l:List oBj)(i:Nat):(gT l i).length<=l.length:=by simp[gT];omega
def FQ(s:aw)(n:ByteArray):(eE s n).1.objs.length<=s.objs.length/\(eE s n).1.faults.length<=s.faults.length:=by
 unfold eE
 split
 .simp[fG]
 .refine⟨?_,ajz _⟩
  simp only
  split
  .exact PV _ _
  .exact ajz _
def FR(s:aw)(p:ByteArray):(dP s p).1.objs.length<=s.objs.length/\(dP s p).1.faults.length<=s.faults.length:=by
 unfold dP
 split
 .simp[fG]
 .exact⟨ajz _,ajz _⟩
def PW{l:List oBj}(h:((List.range l.length).all (io l))=true):∀o∈l,dX o.name=true/\o.bytes.length<=8192:=by
 intro o ho
 obtain⟨i,hi,rfl⟩:=ajL ho
 have:=ajR.1 h i (List.mem_range.2 hi)
 unfold io at this
 rw[ajq hi]at this
 simp at this
 exact⟨this.1,this.2.2⟩
def PX{n:ByteArray}(h:dX n=true):n.size<=200:=by
 unfold dX at h
 simp at h
 omega
def FSq(s:aw)(p:ByteArray):(dP s p).2.1.length<=1024/\∀x∈(dP s p).2.1,x.size<=200:=by
 unfold dP
 split
 .simp
 .rename_i h
  simp only
  split
  .simp
  .have h0:=(qe (by simpa using h)).1
   have hk:=lW h0
   unfold fp
   refine⟨?_,?_⟩
   .rw[ajJ]
    exact akf (aks _ _) hk.1
   .intro x hx
    obtain⟨o,ho,rfl⟩:=ajI.1 hx
    exact PX (PW hk.2.2.2.2 o (List.mem_filter.1 ho).1).1
def PY(l:List ByteArray):(jp l).length<=l.length:=by
 unfold jp
 rw[ajJ]
 exact akf (Lib.compact_length_le _) (by simp)
def FT(m:Mn)(p:ByteArray)(TB:List ByteArray):(ir m p TB).2.length<=TB.length:=by
 unfold ir
 split
 .simp
 .refine akf (PY _) ?_
  have:(gR (TB.filter (fq (gp m.l) p))).length=(TB.filter (fq (gp m.l) p)).length:=by simp[gR]
  rw[this]
  exact aks _ _
def PZ(m:Mn)(s:aw)(n:ByteArray)(hm:m.l.length<=1000000)(h1:s.objs.length<=1000000)(h2:s.faults.length<=1000000)(hp:n.size<=900000)(hz:(dH m s n).2.2=0):
  ajk 81 (FP m s n (.tup []) (dZ (dH m s n).2.1 (dH m s n).1 es)):=by
 have k1:∀x y,aX Tryz.prog .add 9 x y (.t (str n)) (.t (str ⟨#[45]⟩))=val (.t (str (b6 n))):=fun x y=>qi _ _ (by show(n.size:Int)+1<=_;omega)
 have c1:=Ez s (b6 n) h1 h2
 have Xl:=FR s (b6 n)
 have hnm:=FSq s (b6 n)
 unfold dH at hz⊢
 generalize dP s (b6 n)=r at*
 have c2:=EA m n r.2.1 hm (by omega) (by omega) (fun x hx=>by have:=hnm.2 x hx;omega)
 have Xp:=m7
 by_cases e1:r.2.2=0
 .rw[if_neg (by simp[e1])]at hz⊢
  simp only at hz⊢
  have hDl:(ir m n r.2.1).2.length<=1000000:=akf (FT _ _ _) (by omega)
  generalize ir m n r.2.1=H at*
  rw[e1]at c1
  refine aJ vS rfl ?_
  simp[rP]
  try simp[k1]
  all_goals try(repeat'(first|((first|refine Up c1 rfl ?_|refine Up c2 rfl ?_|refine Up Xp rfl ?_)<;>try simp[k1])))
  refine ba (fun E=>∃(i:Nat) (t:aw),i<=H.2.length/\t.objs.length<=1000000/\t.faults.length<=1000000/\js H.2 r.1=js (H.2.drop i) t/\E.tmps 2= .ptr (.arg 3) 0 0/\E.tmps 36= .t (.sl 1 (H.2.map str))/\E.tmps 37= .t (int H.2.length)/\E.tmps 38= .t (int i)/\
    E.slots (.arg 0)=some (dZ t H.1 es)/\E.slots (.arg 1)=some (bA s)/\E.slots (.arg 2)=some (bX n)/\E.slots (.arg 3)=some (bq (.arg 0))/\E.slots (.arg 4)=some (bp m))
   (fun E=>match E.tmps 38 with| .t (.v (.int _ i))=>H.2.length-i.toNat|_=>0) [(.arg 0,.arg 0),(.arg 1,.arg 1),(.arg 2,.arg 2),(.arg 3,.arg 3),(.arg 4,.arg 4)] rfl ?_ ?_
  .refine⟨0,r.1,by omega,by omega,by omega,rfl,?_,?_,?_,?_,?_,?_,?_,?_,?_⟩<;>simp
  rintro E1 ⟨i,t,hi,ht1,ht2,hd,e2,YW,Um,Ul,s0,s1,s2,s3,s4⟩ hU hS A hA
  simp[vR,Um,Ul]
  by_cases h:i<H.2.length
  .have hx:=ajq h
   obtain⟨x,Tm⟩:∃x,H.2[i]=x:=⟨_,rfl⟩
   have ZG:=aku h
   rw[Tm]at hx ZG
   have hw:IntKind.i64.wrap ((i:Int)+1)=((i+1:Nat):Int):=by rw[bx (by omega) (by omega)];omega
   have c3:=Ey t x ht1 ht2
   have Tk:=FQ t x
   rw[ZG,FO]at hd
   by_cases e3:(eE t x).2=0
   .rw[if_neg (by simp[e3])]at hd
    rw[e3]at c3
    generalize eE t x=O at*
    try simp[e2,YW,Um,Ul,s0,s1,s2,s3,s4,hU,h,Tm,hx,hw]
    all_goals try(repeat'(first|((first|(refine UV (F:=[]) c3 rfl ?_ ?_;(· simp[e2,YW,Um,Ul,s0,s1,s2,s3,s4,hU,h,Tm,hx,hw]))|refine Up Xp rfl ?_)<;>try simp[e2,YW,Um,Ul,s0,s1,s2,s3,s4,hU,h,Tm,hx,hw])))
    refine hA _ (aH [(.arg 0,.arg 0),(.arg 1,.arg 1),(.arg 2,.arg 2),(.arg 3,.arg 3),(.arg 4,.arg 4)] rfl rfl ⟨i+1,O.1,by omega,by omega,by omega,hd,?_,?_,?_,?_,?_,?_,?_,?_,?_⟩ ?_)
    all_goals simp[e2,YW,Um,Ul,s0,s1,s2,s3,s4]
    all_goals omega
   .rw[if_pos e3]at hd
    rw[hd]at hz
    exact absurd hz e3
  .have TE:i=H.2.length:=by omega
   subst TE
   rw[List.drop_length]at hd
   have hd:js H.2 r.1=(t,0):=hd
   rw[hd]
   try simp[e2,YW,Um,Ul,s0,s1,s2,s3,s4,hU]
   skip
   exact ug [(.arg 0,.arg 0),(.arg 1,.arg 1),(.arg 2,.arg 2),(.arg 3,.arg 3),(.arg 4,.arg 4)] rfl (by simp[*]) .rfl
 .rw[if_pos e1]at hz
  exact absurd hz e1
def P0(m:Mn)(s:aw)(n:ByteArray)(hm:m.l.length<=1000000)(h1:s.objs.length<=1000000)(h2:s.faults.length<=1000000)(hp:n.size<=900000)(hz:(dH m s n).2.2≠0):
  ajm 81 (FP m s n (.tup []) (dZ (dH m s n).2.1 (dH m s n).1 es)) (j4 (dH m s n).2.2):=by
 have k1:∀x y,aX Tryz.prog .add 9 x y (.t (str n)) (.t (str ⟨#[45]⟩))=val (.t (str (b6 n))):=fun x y=>qi _ _ (by show(n.size:Int)+1<=_;omega)
 have c1:=Ez s (b6 n) h1 h2
 have Xl:=FR s (b6 n)
 have hnm:=FSq s (b6 n)
 unfold dH at hz⊢
 generalize dP s (b6 n)=r at*
 have c2:=EA m n r.2.1 hm (by omega) (by omega) (fun x hx=>by have:=hnm.2 x hx;omega)
 have Xp:=m7
 by_cases e1:r.2.2=0
 .rw[if_neg (by simp[e1])]at hz⊢
  simp only at hz⊢
  have hDl:(ir m n r.2.1).2.length<=1000000:=akf (FT _ _ _) (by omega)
  generalize ir m n r.2.1=H at*
  rw[e1]at c1
  refine jS vS rfl ?_
  simp[rP]
  try simp[k1]
  all_goals try(repeat'(first|((first|refine Up c1 rfl ?_|refine Up c2 rfl ?_|refine Up Xp rfl ?_)<;>try simp[k1])))
  refine ba (fun E=>∃(i:Nat) (t:aw),i<=H.2.length/\t.objs.length<=1000000/\t.faults.length<=1000000/\js H.2 r.1=js (H.2.drop i) t/\E.tmps 2= .ptr (.arg 3) 0 0/\E.tmps 36= .t (.sl 1 (H.2.map str))/\E.tmps 37= .t (int H.2.length)/\E.tmps 38= .t (int i)/\
    E.slots (.arg 0)=some (dZ t H.1 es)/\E.slots (.arg 1)=some (bA s)/\E.slots (.arg 2)=some (bX n)/\E.slots (.arg 3)=some (bq (.arg 0))/\E.slots (.arg 4)=some (bp m))
   (fun E=>match E.tmps 38 with| .t (.v (.int _ i))=>H.2.length-i.toNat|_=>0) [(.arg 0,.arg 0),(.arg 1,.arg 1),(.arg 2,.arg 2),(.arg 3,.arg 3),(.arg 4,.arg 4)] rfl ?_ ?_
  .refine⟨0,r.1,by omega,by omega,by omega,rfl,?_,?_,?_,?_,?_,?_,?_,?_,?_⟩<;>simp
  rintro E1 ⟨i,t,hi,ht1,ht2,hd,e2,YW,Um,Ul,s0,s1,s2,s3,s4⟩ hU hS A hA
  simp[vR,Um,Ul]
  by_cases h:i<H.2.length
  .have hx:=ajq h
   obtain⟨x,Tm⟩:∃x,H.2[i]=x:=⟨_,rfl⟩
   have ZG:=aku h
   rw[Tm]at hx ZG
   have hw:IntKind.i64.wrap ((i:Int)+1)=((i+1:Nat):Int):=by rw[bx (by omega) (by omega)];omega
   have c3:=Ey t x ht1 ht2
   have Tk:=FQ t x
   rw[ZG,FO]at hd
   by_cases e3:(eE t x).2=0
   .rw[if_neg (by simp[e3])]at hd
    rw[e3]at c3
    generalize eE t x=O at*
    try simp[e2,YW,Um,Ul,s0,s1,s2,s3,s4,hU,h,Tm,hx,hw]
    all_goals try(repeat'(first|((first|(refine UV (F:=[]) c3 rfl ?_ ?_;(· simp[e2,YW,Um,Ul,s0,s1,s2,s3,s4,hU,h,Tm,hx,hw]))|refine Up Xp rfl ?_)<;>try simp[e2,YW,Um,Ul,s0,s1,s2,s3,s4,hU,h,Tm,hx,hw])))
    refine hA _ (aH [(.arg 0,.arg 0),(.arg 1,.arg 1),(.arg 2,.arg 2),(.arg 3,.arg 3),(.arg 4,.arg 4)] rfl rfl ⟨i+1,O.1,by omega,by omega,by omega,hd,?_,?_,?_,?_,?_,?_,?_,?_,?_⟩ ?_)
    all_goals simp[e2,YW,Um,Ul,s0,s1,s2,s3,s4]
    all_goals omega
   .rw[if_pos e3]at hd
    rw[hd]at hz⊢
    generalize eE t x=O at*
    try simp[e2,YW,Um,Ul,s0,s1,s2,s3,s4,hU,h,Tm,hx,hw]
    all_goals try(repeat'(first|((first|(refine UV (F:=[]) c3 rfl ?_ ?_;(· simp[e2,YW,Um,Ul,s0,s1,s2,s3,s4,hU,h,Tm,hx,hw]))|refine jT (kM _ hz) ?_)<;>try simp[e2,YW,Um,Ul,s0,s1,s2,s3,s4,hU,h,Tm,hx,hw])))
    exact kC [(.arg 0,.arg 0),(.arg 1,.arg 1),(.arg 2,.arg 2),(.arg 3,.arg 3),(.arg 4,.arg 4)] rfl (by simp[*])
  .have TE:i=H.2.length:=by omega
   subst TE
   rw[List.drop_length]at hd
   have hd:js H.2 r.1=(t,0):=hd
   rw[hd]at hz
   exact absurd rfl hz
 .rw[if_pos e1]at hz⊢
  simp only at hz⊢
  refine jS vS rfl ?_
  simp[rP]
  try simp[k1]
  all_goals try(repeat'(first|((first|refine Up c1 rfl ?_|refine jT (kM _ hz) ?_)<;>try simp[k1])))
  exact kC [(.arg 0,.arg 0),(.arg 1,.arg 1),(.arg 2,.arg 2),(.arg 3,.arg 3),(.arg 4,.arg 4)] rfl (by simp[*])
end
end Go.Wt
