/- A part of the proof of a tier statement (the last text closes it): lemmas without condition. -/
import Derived.Test.YteaimhlobmaghaaGreatDoorP20
set_option linter.all false
set_option maxRecDepth 10000000
set_option maxHeartbeats 0
namespace Go.Wt
section
open Go.RowKit Go.Proofs Go.Lib Go.Wm
def NK(l:List oBj)(fl:List cE)(calls Tl:Int)(n:ByteArray)(hl:l.length<=1000000)(hh:dq l n=false\/Tl=1\/Tl=3):ajk 129 ⟨[],[.ptr (.arg 1) 0 0,Ex,.fn 167 []],
  [dA (.arg 1),cF l.length calls fl.length Tl (.arg 2) (.arg 3),cG l,cH fl,bW n],
  .tup [.agg [.osl (.arg 2) l.length,.t (int calls),.osl (.arg 3) fl.length],.t (int (fH Tl))],
  [some (dA (.arg 1)),some (cF l.length calls fl.length Tl (.arg 2) (.arg 3)),some (cG l),some (cH fl),some (bW n)],[]⟩:=by
 have c2:=Ew
 have Vt:List.take l.length (l.map a0)=l.map a0:=aju (by simp)
 have UJ:List.take fl.length (fl.map bD)=fl.map bD:=aju (by simp)
 unfold fH
 by_cases f1:Tl=1
 .subst f1
  refine aJ fe rfl ?_
  simp[eO]
  try simp
  skip
  refine ug [(.arg 0,.arg 0),(.arg 1,.arg 1),(.arg 2,.arg 2),(.arg 3,.arg 3),(.arg 4,.arg 4)] rfl (by simp[*]) ?_
  .simp[Vt,UJ]
   exact .rfl
 by_cases f3:Tl=3
 .subst f3
  refine aJ fe rfl ?_
  simp[eO]
  try simp
  all_goals try(repeat'(first|(refine Up c2 rfl ?_<;>try simp)))
  refine ug [(.arg 0,.arg 0),(.arg 1,.arg 1),(.arg 2,.arg 2),(.arg 3,.arg 3),(.arg 4,.arg 4)] rfl (by simp[*]) ?_
  .simp[Vt,UJ]
   exact .rfl
 have c1:=NI l fl calls Tl n hl (hh.resolve_right fun h=>h.elim f1 f3)
 by_cases f2:Tl=2
 .subst f2
  refine aJ fe rfl ?_
  simp[eO]
  try simp
  all_goals try(repeat'(first|((refine UR (S:=[.arg 0,.arg 1,.arg 2,.arg 3,.arg 4]) c1 ?_ ?_;(· simp))<;>try simp)))
  refine ug [(.arg 0,.arg 0),(.arg 1,.arg 1),(.arg 2,.arg 2),(.arg 3,.arg 3),(.arg 4,.arg 4)] rfl (by simp[*]) ?_
  .simp[Vt,UJ]
   exact .rfl
 .refine aJ fe rfl ?_
  simp[eO]
  try simp[f1,f2,f3]
  all_goals try(repeat'(first|((refine UR (S:=[.arg 0,.arg 1,.arg 2,.arg 3,.arg 4]) c1 ?_ ?_;(· simp[f1,f2,f3]))<;>try simp[f1,f2,f3])))
  refine ug [(.arg 0,.arg 0),(.arg 1,.arg 1),(.arg 2,.arg 2),(.arg 3,.arg 3),(.arg 4,.arg 4)] rfl (by simp[*]) ?_
  .simp[Vt,UJ]
   exact .rfl
def NL(l:List oBj)(fl:List cE)(calls Tl:Int)(n:ByteArray)(hl:l.length<=1000000)(hh:dq l n=true)(hi:cA l n<l.length)(f1:¬Tl=1)(f3:¬Tl=3):ajk 129 ⟨[],[.ptr (.arg 1) 0 0,Ex,.fn 167 []],
  [dA (.arg 1),cF l.length calls fl.length Tl (.arg 2) (.arg 3),cG l,cH fl,bW n],
  .tup [.agg [.osl (.loc 0 0) (l.length-1),.t (int calls),.osl (.arg 3) fl.length],.t (int (fH Tl))],
  [some (dA (.arg 1)),some (cF (l.length-1) calls fl.length Tl (.loc 0 0) (.arg 3)),none,some (cH fl),some (bW n)],[cG (gT l (cA l n))]⟩:=by
 have c1:=NJ l fl calls Tl n hl hh hi
 have TA:=xg l _ hi
 generalize gT l (cA l n)=A at*
 have Vt:List.take (l.length-1) (A.map a0)=A.map a0:=aju (by simp[TA])
 have UJ:List.take fl.length (fl.map bD)=fl.map bD:=aju (by simp)
 unfold fH
 by_cases f2:Tl=2
 .subst f2
  refine aJ fe rfl ?_
  simp[eO]
  try simp
  all_goals try(repeat'(first|((refine UR (S:=[.arg 0,.arg 1,.arg 2,.arg 3,.arg 4]) c1 ?_ ?_;(· simp))<;>try simp)))
  refine ug [(.arg 0,.arg 0),(.arg 1,.arg 1),(.arg 2,.arg 2),(.loc 27 0,.loc 0 0),(.arg 3,.arg 3),(.arg 4,.arg 4)] rfl (by simp[*]) ?_
  .simp[Vt,UJ,TA]
   exact .rfl
 .refine aJ fe rfl ?_
  simp[eO]
  try simp[f1,f2,f3]
  all_goals try(repeat'(first|((refine UR (S:=[.arg 0,.arg 1,.arg 2,.arg 3,.arg 4]) c1 ?_ ?_;(· simp[f1,f2,f3]))<;>try simp[f1,f2,f3])))
  refine ug [(.arg 0,.arg 0),(.arg 1,.arg 1),(.arg 2,.arg 2),(.loc 27 0,.loc 0 0),(.arg 3,.arg 3),(.arg 4,.arg 4)] rfl (by simp[*]) ?_
  .simp[Vt,UJ,TA]
   exact .rfl
def eE(s:aw)(n:ByteArray):aw×Int:=
 if fU s (dX n)≠0 then(fG,fU s (dX n))
 else(⟨if dq s.objs n=true/\cV s≠1/\cV s≠3 then gT s.objs (cA s.objs n)else s.objs,s.calls+1,s.faults⟩,fH (cV s))
def Ey(s:aw)(n:ByteArray)(h1:s.objs.length<=1000000)(h2:s.faults.length<=1000000):aji 84 [bi s,str n] (.tup [.t (bi (eE s n).1),.t (int (eE s n).2)]):=by
 have c1:=sO n
 have c2:=s8 s (dX n) h1 h2
 have Uf:=fun h=>qe (s:=s) (b:=dX n) h
 have hv:eE s n=eE s n:=rfl
 conv at hv=>rhs;unfold eE
 generalize eE s n=r at*
 generalize dX n=nb at*
 generalize fU s nb=me at*
 by_cases h0:me=0
 .subst h0
  obtain⟨WQ,rfl⟩:=Uf rfl
  obtain⟨_,_,g3,g4,_⟩:=lW WQ
  have c3:=sX s h1 h2 g3 g4
  simp only[ne_eq,akB,ajS]at hv
  have TF:List.range 3=[0,1,2]:=rfl
  have hlt:dq s.objs n=true->cA s.objs n<s.objs.length:=fun h=>by
   unfold dq at h
   cases hx:s.objs[cA s.objs n]? with
   |none=>rw[hx]at h;cases h
   |some o=>exact(ajs.1 hx).1
  have cT:=NL s.objs s.faults (s.calls+1) (cV s) n h1
  have cN:=NK s.objs s.faults (s.calls+1) (cV s) n h1
  generalize cV s=fa at*
  generalize dq s.objs n=ha at*
  generalize cA s.objs n=lo at*
  by_cases hc:ha=true/\¬fa=1/\¬fa=3
  .rw[if_pos hc]at hv
   have c4:=cT hc.1 (hlt hc.1) hc.2.1 hc.2.2
   have TA:=xg s.objs lo (hlt hc.1)
   subst hv
   refine pu vU rfl ?_
   simp[rS]
   repeat'(first|simp[*]|refine Up c1 rfl ?_|refine Up c2 rfl ?_|refine UR (S:=[]) c3 ?_ ?_|refine UR (S:=[.loc 7 0,.loc 17 0,.loc 17 1,.loc 17 2,.loc 3 0]) c4 ?_ ?_)
   have UJ:List.take s.faults.length (s.faults.map bD)=s.faults.map bD:=aju (by simp)
   refine j9 (x:=bi ⟨gT s.objs lo,s.calls+1,s.faults⟩) (dp (rd:=[.loc 20 0,.loc 17 2]) ?_) (bn _) .rfl .rfl
   have Vt:List.take (s.objs.length-1) ((gT s.objs lo).map a0)=(gT s.objs lo).map a0:=aju (by simp[TA])
   simp[*]
  .rw[if_neg hc]at hv
   have c4:=cN (by
    cases ha
    .exact .inl rfl
    .by_cases f1:fa=1
     .exact .inr (.inl f1)
     .by_cases f3:fa=3
      .exact .inr (.inr f3)
      .exact absurd ⟨rfl,f1,f3⟩ hc)
   subst hv
   refine pu vU rfl ?_
   simp[rS]
   repeat'(first|simp[*]|refine Up c1 rfl ?_|refine Up c2 rfl ?_|refine UR (S:=[]) c3 ?_ ?_|refine UR (S:=[.loc 7 0,.loc 17 0,.loc 17 1,.loc 17 2,.loc 3 0]) c4 ?_ ?_)
   have Vt:List.take s.objs.length (s.objs.map a0)=s.objs.map a0:=aju (by simp)
   have UJ:List.take s.faults.length (s.faults.map bD)=s.faults.map bD:=aju (by simp)
   refine j9 (x:=bi ⟨s.objs,s.calls+1,s.faults⟩) (dp (rd:=[.loc 17 1,.loc 17 2]) ?_) (bn _) .rfl .rfl
   simp[Vt,UJ]
 .rw[if_pos h0]at hv
  subst hv
  refine pu vU rfl ?_
  simp[rS]
  repeat'(first|simp[*]|refine Up c1 rfl ?_|refine Up c2 rfl ?_)
  all_goals exact iV iq .rfl
def NM{α:Type}{p:α->Bool}{l:List α}{i:Nat}{x:α}(h:l[i]?=some x):(l.take (i+1)).filter p=(l.take i).filter p++(if p x=true then[x]else[]):=by
 rw[fO h,List.filter_append]
 by_cases hx:p x=true<;>simp[hx]
def fp(l:List oBj)(p:ByteArray):List ByteArray:=(l.filter fun o=>lV o.name p).map (·.name)
def NN{l:List oBj}{p:ByteArray}{i:Nat}{x:oBj}(h:l[i]?=some x):fp (l.take (i+1)) p=fp (l.take i) p++(if lV x.name p=true then[x.name]else[]):=by
 unfold fp
 rw[NM h,aki]
 by_cases hx:lV x.name p=true<;>simp[hx]
abbrev lX(N:List ByteArray)(s:Nm):Row:= .box 128 (if N=[]then .t .e0 else .osl s N.length) false
abbrev xh(N:List ByteArray):Row:= .rows 9 1 (N.map str) false
abbrev NO:DV:= .fn 165 [.ptr (.arg 0) 0 0,.ptr (.arg 4) 0 0,.ptr (.arg 5) 0 0]
abbrev xj(l:List oBj)(fl:List cE)(calls Tl:Int)(p:ByteArray)(N:List ByteArray):Ct:=⟨[],[.ptr (.arg 0) 0 0,.ptr (.arg 4) 0 0,.ptr (.arg 5) 0 0],
  [dA (.arg 1),cF l.length calls fl.length Tl (.arg 2) (.arg 3),cG l,cH fl,bW p,.box 128 (.t .e0) false],.tup [],
  [some (dA (.arg 1)),some (cF l.length calls fl.length Tl (.arg 2) (.arg 3)),some (cG l),some (cH fl),some (bW p),some (lX N (.loc 0 0))],if N=[]then[]else[xh N]⟩
def NP(l:List oBj)(fl:List cE)(calls Tl:Int)(p:ByteArray)(hl:l.length<=1000000):ajk 165 (xj l fl calls Tl p (fp l p)):=by
 refine aJ KZ rfl ?_
 simp only[CQ]
 simp
 skip
 refine nP (fun ns E=>∃i:Nat,i<=l.length/\E.tmps 1= .ptr (.arg 4) 0 0/\E.tmps 2= .ptr (.arg 5) 0 0/\E.tmps 9= .osl (.arg 2) l.length/\E.tmps 10= .t (int l.length)/\E.tmps 11= .t (int i)/\
   E.slots (.arg 0)=some (dA (.arg 1))/\E.slots (.arg 1)=some (cF l.length calls fl.length Tl (.arg 2) (.arg 3))/\E.slots (.arg 2)=some (cG l)/\E.slots (.arg 3)=some (cH fl)/\E.slots (.arg 4)=some (bW p)/\
   ((fp (l.take i) p=[]/\E.slots (.arg 5)=some (.box 128 (.t .e0) false)/\ns=[.arg 0,.arg 1,.arg 2,.arg 3,.arg 4,.arg 5])\/
    (fp (l.take i) p≠[]/\E.slots (.arg 5)=some (.box 128 (.osl (.head 1 0) (fp (l.take i) p).length) false)/\E.slots (.head 1 0)=some (xh (fp (l.take i) p))/\ns=[.arg 0,.arg 1,.arg 2,.arg 3,.arg 4,.arg 5,.head 1 0])))
  (fun E=>match E.tmps 11 with| .t (.v (.int _ i))=>l.length-i.toNat|_=>0) [(.arg 0,.arg 0),(.arg 1,.arg 1),(.arg 2,.arg 2),(.arg 3,.arg 3),(.arg 4,.arg 4),(.arg 5,.arg 5)] rfl ?_ ?_
 .refine⟨0,by omega,?_,?_,?_,?_,?_,?_,?_,?_,?_,?_,.inl ⟨rfl,?_,rfl⟩⟩<;>simp
 rintro ns E1 ⟨i,hi,e1,e2,e9,Vb,Wd,s0,s1,s2,s3,s4,hd⟩ hU hS A hA
 simp[CP,Vb,Wd]
 refine aN (fun h=>?_) (fun h=>?_)
 .have hx:=ajq h
  obtain⟨x,Tm⟩:∃x,l[i]=x:=⟨_,rfl⟩
  rw[Tm]at hx
  have c1:=Nh x.name p
  have VZ:=NN (p:=p) hx
  have hw:IntKind.i64.wrap ((i:Int)+1)=((i+1:Nat):Int):=by rw[bx (by omega) (by omega)];omega
  have hnl:(fp (l.take i) p).length<=i:=by
   unfold fp
   rw[ajJ]
   exact akf (aks _ _) (by simp[ajA];omega)
  generalize fp (l.take i) p=D at*
  generalize lV x.name p=b at*
  cases b with
  |false=>
   simp only[ajU,ajS,akr]at VZ
   rcases hd with⟨d1,s5,rfl⟩|⟨d1,s5,s6,rfl⟩
   .repeat'(first|simp[*,s0,s1,s2,s3,s4,s5,h]|refine Up c1 rfl ?_)
    all_goals refine hA _ [(.arg 0,.arg 0),(.arg 1,.arg 1),(.arg 2,.arg 2),(.arg 3,.arg 3),(.arg 4,.arg 4),(.arg 5,.arg 5)] rfl ⟨i+1,by omega,?_,?_,?_,?_,?_,?_,?_,?_,?_,?_,.inl ⟨by rw[VZ];exact d1,?_,rfl⟩⟩ ?_
    all_goals simp[*,s0,s1,s2,s3,s4,s5]
    all_goals omega
   .repeat'(first|simp[*,s0,s1,s2,s3,s4,s5,s6,h]|refine Up c1 rfl ?_)
    all_goals refine hA _ [(.arg 0,.arg 0),(.arg 1,.arg 1),(.arg 2,.arg 2),(.arg 3,.arg 3),(.arg 4,.arg 4),(.arg 5,.arg 5),(.head 1 0,.head 1 0)] rfl ⟨i+1,by omega,?_,?_,?_,?_,?_,?_,?_,?_,?_,?_,.inr ⟨by rw[VZ];exact d1,?_,?_,rfl⟩⟩ ?_
    all_goals simp[*,s0,s1,s2,s3,s4,s5,s6]
    all_goals omega
  |true=>
   simp only[if_true]at VZ
   rcases hd with⟨rfl,s5,rfl⟩|⟨d1,s5,s6,rfl⟩
   .repeat'(first|simp[*,s0,s1,s2,s3,s4,s5,h,aB,aa.more,LIM,az,ax]|refine Up c1 rfl ?_)
    all_goals refine hA _ [(.arg 0,.arg 0),(.arg 1,.arg 1),(.arg 2,.arg 2),(.arg 3,.arg 3),(.arg 4,.arg 4),(.arg 5,.arg 5),(.loc 23 0,.head 1 0)] rfl ⟨i+1,by omega,?_,?_,?_,?_,?_,?_,?_,?_,?_,?_,.inr ⟨by rw[VZ];simp,?_,?_,rfl⟩⟩ ?_
    all_goals simp[*,s0,s1,s2,s3,s4,s5]
    all_goals omega
   .have hlim:D.length+1<=100000000:=by omega
    have TD:List.take D.length (D.map str)=D.map str:=aju (by simp)
    repeat'(first|simp[*,s0,s1,s2,s3,s4,s5,s6,h,aB,aa.more,LIM,az,ax]|refine Up c1 rfl ?_)
    all_goals refine hA _ [(.arg 0,.arg 0),(.arg 1,.arg 1),(.arg 2,.arg 2),(.arg 3,.arg 3),(.arg 4,.arg 4),(.arg 5,.arg 5),(.loc 23 0,.head 1 0)] rfl ⟨i+1,by omega,?_,?_,?_,?_,?_,?_,?_,?_,?_,?_,.inr ⟨by rw[VZ];simp,?_,?_,rfl⟩⟩ ?_
    all_goals simp[*,s0,s1,s2,s3,s4,s5,s6]
    all_goals omega
 .have TE:i=l.length:=by omega
  subst TE
  rw[akg]at hd
  clear hA hS A
  generalize fp l p=D at*
  rcases hd with⟨rfl,s5,rfl⟩|⟨d1,s5,s6,rfl⟩
  .exact ug [(.arg 0,.arg 0),(.arg 1,.arg 1),(.arg 2,.arg 2),(.arg 3,.arg 3),(.arg 4,.arg 4),(.arg 5,.arg 5)] rfl (by simp[*]) .rfl
  .refine px [(.arg 0,.arg 0),(.arg 1,.arg 1),(.arg 2,.arg 2),(.arg 3,.arg 3),(.arg 4,.arg 4),(.arg 5,.arg 5),(.head 1 0,.loc 0 0)] rfl ?_ ?_ ?_ ?_
   .simp[s0,s1,s2,s3,s4,s5,s6,d1]
   .simp
    omega
   .simp[d1]
   .exact .rfl
def qh(Tl:Int)(l:List oBj)(p:ByteArray):List ByteArray:=if Tl=1 then[]else if Tl=3 then[]else fp l p
abbrev xk(l:List oBj)(fl:List cE)(calls Tl:Int)(p:ByteArray)(N:List ByteArray):Ct:=⟨[],[.ptr (.arg 1) 0 0,NO,.fn 167 []],
  [dA (.arg 1),cF l.length calls fl.length Tl (.arg 2) (.arg 3),cG l,cH fl,bW p,.box 128 (.t .e0) false],.tup [.agg [.osl (.arg 2) l.length,.t (int calls),.osl (.arg 3) fl.length],.t (int (fH Tl))],
  [some (dA (.arg 1)),some (cF l.length calls fl.length Tl (.arg 2) (.arg 3)),some (cG l),some (cH fl),some (bW p),some (lX N (.loc 0 0))],if N=[]then[]else[xh N]⟩
def NQ(l:List oBj)(fl:List cE)(calls Tl:Int)(p:ByteArray)(hl:l.length<=1000000):ajk 129 (xk l fl calls Tl p (qh Tl l p)):=by
 have c2:=Ew
 have Vt:List.take l.length (l.map a0)=l.map a0:=aju (by simp)
 have UJ:List.take fl.length (fl.map bD)=fl.map bD:=aju (by simp)
 have c1:=NP l fl calls Tl p hl
 unfold xk fH qh
 by_cases f1:Tl=1
 .subst f1
  refine aJ fe rfl ?_
  simp[eO]
  skip
  refine ug [(.arg 0,.arg 0),(.arg 1,.arg 1),(.arg 2,.arg 2),(.arg 3,.arg 3),(.arg 4,.arg 4),(.arg 5,.arg 5)] rfl (by simp[*]) ?_
  .simp[Vt,UJ]
   exact .rfl
 by_cases f3:Tl=3
 .subst f3
  refine aJ fe rfl ?_
  simp[eO]
  repeat'(first|simp[*]|refine Up c2 rfl ?_)
  refine ug [(.arg 0,.arg 0),(.arg 1,.arg 1),(.arg 2,.arg 2),(.arg 3,.arg 3),(.arg 4,.arg 4),(.arg 5,.arg 5)] rfl (by simp[*]) ?_
  .simp[Vt,UJ]
   exact .rfl
 simp only[if_neg f1,if_neg f3]
 generalize fp l p=N at*
 by_cases hN:N=[]
 .subst hN
  unfold xj at c1
  simp only[if_true]at c1
  simp only[lX,if_true]
  refine aJ fe rfl ?_
  simp[eO]
  repeat'(first|simp[*]|refine UR (S:=[.arg 0,.arg 1,.arg 2,.arg 3,.arg 4,.arg 5]) c1 ?_ ?_|(apply aN<;>intro h))
  all_goals refine px [(.arg 0,.arg 0),(.arg 1,.arg 1),(.arg 2,.arg 2),(.arg 3,.arg 3),(.arg 4,.arg 4),(.arg 5,.arg 5)] rfl ?_ ?_ ?_ ?_
  all_goals first
   |(simp;done)
   |(simp;omega)
   |(simp[Vt,UJ, *];done)
   |(simp[Vt,UJ, *];exact .rfl)
 .unfold xj at c1
  simp only[if_neg hN]at c1
  simp only[lX,if_neg hN]
  refine aJ fe rfl ?_
  simp[eO]
  repeat'(first|simp[*]|refine UR (S:=[.arg 0,.arg 1,.arg 2,.arg 3,.arg 4,.arg 5]) c1 ?_ ?_|(apply aN<;>intro h))
  all_goals refine px [(.arg 0,.arg 0),(.arg 1,.arg 1),(.arg 2,.arg 2),(.arg 3,.arg 3),(.arg 4,.arg 4),(.arg 5,.arg 5),(.loc 27 0,.loc 0 0)] rfl ?_ ?_ ?_ ?_
  all_goals first
   |(simp[hN];done)
   |(simp;omega)
   |(simp[hN];done)
   |(simp[Vt,UJ, *];done)
   |(simp[Vt,UJ, *];exact .rfl)
def dP(s:aw)(p:ByteArray):aw×List ByteArray×Int:=
 if fU s (decide (p.size<=64))≠0 then(fG,[],fU s (decide (p.size<=64)))else(dz s,if fH (cV s)≠0 then[]else fp s.objs p,fH (cV s))
def Ez(s:aw)(p:ByteArray)(h1:s.objs.length<=1000000)(h2:s.faults.length<=1000000):aji 82 [bi s,str p] (.tup [.t (bi (dP s p).1),.t (.sl 1 ((dP s p).2.1.map str)),.t (int (dP s p).2.2)]):=by
 have c2:=s8 s (decide (p.size<=64)) h1 h2
 have Uf:=fun h=>qe (s:=s) (b:=decide (p.size<=64)) h
 have hv:dP s p=dP s p:=rfl
 conv at hv=>rhs;unfold dP
 generalize dP s p=r at*
 have Xm:decide ((p.size:Int)<=64)=decide (p.size<=64):=by
  by_cases h:p.size<=64
  .simp[h,show(p.size:Int)<=64 by omega]
  .simp[h,show¬(p.size:Int)<=64 by omega]
 generalize decide (p.size<=64)=nb at*
 generalize fU s nb=me at*
 by_cases h0:me=0
 .subst h0
  obtain⟨WQ,rfl⟩:=Uf rfl
  obtain⟨_,_,g3,g4,_⟩:=lW WQ
  have c3:=sX s h1 h2 g3 g4
  simp only[ne_eq,akB,ajS]at hv
  have TF:List.range 3=[0,1,2]:=rfl
  have Vt:List.take s.objs.length (s.objs.map a0)=s.objs.map a0:=aju (by simp)
  have UJ:List.take s.faults.length (s.faults.map bD)=s.faults.map bD:=aju (by simp)
  have c4:=NQ s.objs s.faults (s.calls+1) (cV s) p h1
  unfold xk at c4
  have hz:fH (cV s)=0->qh (cV s) s.objs p=fp s.objs p:=fun h=>by
   unfold fH at h
   unfold qh
   split at h
   .cases h
   split at h
   .cases h
   rename_i a b
   rw[if_neg a,if_neg b]
  generalize qh (cV s) s.objs p=N at*
  generalize fp s.objs p=K at*
  generalize fH (cV s)=e at*
  generalize cV s=fa at*
  by_cases he:e=0
  .have hz:=hz he
   subst hz he
   simp only[akB,ajS]at hv
   by_cases hN:N=[]
   .subst hN
    simp only[lX,if_true]at c4
    subst hv
    refine pu pI rfl ?_
    simp[nW]
    try simp[TF,Xm]
    all_goals try(repeat'(first|((first|refine Up c2 rfl ?_|(refine UR (S:=[]) c3 ?_ ?_;(· simp[TF,Xm]))|(refine UR (S:=[.loc 8 0,.loc 22 0,.loc 22 1,.loc 22 2,.loc 3 0,.loc 9 0]) c4 ?_ ?_;(· simp[TF,Xm])))<;>try simp[TF,Xm])))
    refine gr (x:=bi (dz s)) (y:= .e0) (dp (rd:=[.loc 22 1,.loc 22 2]) ?_) (bn _) (bn _) .rfl .nil .rfl
    .simp[Vt,UJ,dz]
   .simp only[lX,if_neg hN]at c4
    subst hv
    refine pu pI rfl ?_
    simp[nW]
    try simp[TF,Xm]
    all_goals try(repeat'(first|((first|refine Up c2 rfl ?_|(refine UR (S:=[]) c3 ?_ ?_;(· simp[TF,Xm]))|(refine UR (S:=[.loc 8 0,.loc 22 0,.loc 22 1,.loc 22 2,.loc 3 0,.loc 9 0]) c4 ?_ ?_;(· simp[TF,Xm])))<;>try simp[TF,Xm])))
    refine gr (x:=bi (dz s)) (y:= .sl 1 (N.map str)) (dp (rd:=[.loc 22 1,.loc 22 2]) ?_) (oB (rd:=[.loc 26 0]) ?_) (bn _) .rfl .rfl .rfl
    .simp[Vt,UJ,dz]
    .simp
  .rw[if_pos he]at hv
   subst hv
   by_cases hN:N=[]
   .subst hN
    simp only[lX,if_true]at c4
    refine pu pI rfl ?_
    simp[nW]
    try simp[TF,Xm,he]
    all_goals try(repeat'(first|((first|refine Up c2 rfl ?_|(refine UR (S:=[]) c3 ?_ ?_;(· simp[TF,Xm,he]))|(refine UR (S:=[.loc 8 0,.loc 22 0,.loc 22 1,.loc 22 2,.loc 3 0,.loc 9 0]) c4 ?_ ?_;(· simp[TF,Xm,he])))<;>try simp[TF,Xm,he])))
    refine gr (x:=bi (dz s)) (y:= .e0) (dp (rd:=[.loc 22 1,.loc 22 2]) ?_) (bn _) (bn _) .rfl .nil .rfl
    .simp[Vt,UJ,dz]
   .simp only[lX,if_neg hN]at c4
    refine pu pI rfl ?_
    simp[nW]
    try simp[TF,Xm,he]
    all_goals try(repeat'(first|((first|refine Up c2 rfl ?_|(refine UR (S:=[]) c3 ?_ ?_;(· simp[TF,Xm,he]))|(refine UR (S:=[.loc 8 0,.loc 22 0,.loc 22 1,.loc 22 2,.loc 3 0,.loc 9 0]) c4 ?_ ?_;(· simp[TF,Xm,he])))<;>try simp[TF,Xm,he])))
    refine gr (x:=bi (dz s)) (y:= .e0) (dp (rd:=[.loc 22 1,.loc 22 2]) ?_) (bn _) (bn _) .rfl .nil .rfl
    .simp[Vt,UJ,dz]
 .rw[if_pos h0]at hv
  subst hv
  refine pu pI rfl ?_
  simp[nW]
  try simp[h0,Xm]
  all_goals try(repeat'(first|(refine Up c2 rfl ?_<;>try simp[h0,Xm])))
  all_goals exact gr (bn _) (bn _) (bn _) iq .nil .rfl
section
variable{P:Program}{t:TypeId}{x y:Operand}
def qi(a b:ByteArray)(h:(a.size:Int)+b.size<=9223372036854775807):aX P .add t x y (.t (.v (.string a))) (.t (.v (.string b)))=val (.t (.v (.string (a++b)))):=by
 simp[aX,dD,DV.asT,eqGuard,binOp,Op.stringOp,aQ,bU,b8,cB,Bind.bind,Sem.bind,Pure.pure,show¬(9223372036854775807:Int)<a.size+b.size by omega]
def NR(h:qv P t=true):aX P .neq t x y .er (.t (.v .nilIface))=val (.t (.v (.bool true))):=by
 simp[aX,dD,DV.asT,h,eI]
end
def NS(n:Int)(h0: -9223372036854775808<=n)(h1:n<=9223372036854775807):(oA n).size<=21:=by
 have h1:(oA n).size=(Lib.itoa n).length:=List.size_toArray ..
 rw[h1]
 exact itoa_length_le n (by omega) (by omega)
def lY(p:ByteArray)(id:Int)(hp:p.size<=1000000)(h0: -9223372036854775808<=id)(h1:id<=9223372036854775807):aji 30 [str p,int id] (.t (str (dF p id))):=by
 have c1:=Nd id h0 h1
 have hi:=NS id h0 h1
 have e1:∀x y,aX Tryz.prog .add 9 x y (.t (str p)) (.t (str ⟨#[45]⟩))=val (.t (str (p++⟨#[45]⟩))):=fun x y=>qi _ _ (by show(p.size:Int)+1<=_;omega)
 have hs:(p++⟨#[45]⟩).size=p.size+1:=by rw[ByteArray.size_append];rfl
 have e2:∀x y,aX Tryz.prog .add 9 x y (.t (str (p++⟨#[45]⟩))) (.t (str (oA id)))=val (.t (str (p++⟨#[45]⟩++oA id))):=fun x y=>qi _ _ (by omega)
 refine pu J3 rfl ?_
 simp[Bx]
 try simp[e1,e2]
 all_goals try(repeat'(first|(refine Up c1 rfl ?_<;>try simp[e1,e2])))
 all_goals exact au rfl
def NT(n:Int)(p:Pc):ajk 170 ⟨[],[.t (aW p),.ptr (.arg 0) 0 0],[av n],.t (bo (eT n p)),[some (av n)],[]⟩:=by
 unfold eT
 refine aJ K1 rfl ?_
 simp[CS]
 skip
 exact ug [(.arg 0,.arg 0)] rfl (by simp[*]) .rfl
def NU(n:Int)(l:List Pc)(hl:l.length<=1000000):ajk 98 ⟨[],[.t (.sl 6 (l.map aW)),.fn 170 [.ptr (.arg 0) 0 0]],[av n],.t (int (bf (eT n) l)),[some (av n)],[]⟩:=by
 refine aJ nX rfl ?_
 simp[mS]
 refine ba (fun E=>∃(i:Nat),i<=l.length/\E.tmps 8= .t (int i)/\E.tmps 7= .t (int l.length)/\E.tmps 0= .t (.sl 6 (l.map aW))/\E.tmps 1= .fn 170 [.ptr (.arg 0) 0 0]/\E.slots (.arg 0)=some (av n)/\(∀(j:Nat) (x:Pc),j<i->l[j]?=some x->(eT n) x=false)) (fun E=>match E.tmps 8 with| .t (.v (.int _ i))=>l.length-i.toNat|_=>0) [(.arg 0,.arg 0)] rfl ?_ ?_
 .refine⟨0,by omega,?_,?_,?_,?_,?_,fun j x hj=>by omega⟩<;>simp
 rintro E1 ⟨i,hi,e8,e7,e0,e1,s0,hb⟩ hU hS A hA
 simp[mR,e8,e7]
 refine aN (fun h=>?_) (fun h=>?_)
 .have hx:=ajq h
  obtain⟨x,Tm⟩:∃x,l[i]=x:=⟨_,rfl⟩
  rw[Tm]at hx
  have TN:=ajx hx
  have c1:=NT n x
  cases TJ:(eT n) x with
  |true=>
   rw[TJ]at c1
   repeat'(first|simp[*,s0,h]|refine UR (S:=[.arg 0]) c1 ?_ ?_)
   refine ug [(.arg 0,.arg 0)] rfl (by simp[*]) ?_
   .rw[fE hx hb TJ]
    exact .rfl
  |false=>
   rw[TJ]at c1
   repeat'(first|simp[*,s0,h]|refine UR (S:=[.arg 0]) c1 ?_ ?_|simp(disch:=omega) only[wr])
   refine hA _ (aH [(.arg 0,.arg 0)] rfl rfl ⟨i+1,by omega,?_,?_,?_,?_,?_,fun j y hj hy=>?_⟩ ?_)
   .simp
   .simp[e7]
   .simp[e0]
   .simp[e1]
   .simp[s0]
   .by_cases Uk:j=i
    .subst Uk
     rw[hx]at hy
     cases hy
     exact TJ
    .exact hb j y (by omega) hy
   .simp[e8]
    omega
 .repeat' simp[*,s0,h]
  refine ug [(.arg 0,.arg 0)] rfl (by simp[*]) ?_
  .rw[fP fun j x hx=>hb j x (by have:=(ajs.1 hx).1;omega) hx]
   exact .rfl
def NV(n:Int)(l:List Pc)(hl:l.length<=1000000):ajk 70 ⟨[],[.t (.sl 6 (l.map aW)),.fn 170 [.ptr (.arg 0) 0 0]],[av n],.t (bo (l.any (eT n))),[some (av n)],[]⟩:=by
 have c1:=NU n l hl
 refine aJ vN rfl ?_
 rw[<-mI]
 generalize bf (eT n) l=r at*
 simp[rM]
 repeat'(first|simp[*]|refine UR (S:=[.arg 0]) c1 ?_ ?_)
 exact ug [(.arg 0,.arg 0)] rfl (by simp[*]) .rfl
abbrev b6(p:ByteArray):ByteArray:=p++⟨#[45]⟩
def fq(l:List Pc)(p s:ByteArray):Bool:=
 if lV s (b6 p)=false then false else if sZ (gQ s (b6 p))=false then false else if dO (jo (gQ s (b6 p)))=true then false
 else if((dF p (jo (gQ s (b6 p)))).toList==s.toList)=false then false else !l.any (eT (jo (gQ s (b6 p))))
def ir(m:Mn)(p:ByteArray)(TB:List ByteArray):Mn×List ByteArray:=
 if bH m≠0 then(ej,[])else
 (⟨if(gp m.l).length<m.l.length then(if 1099511627776<m.ver+1 then 1099511627776 else m.ver+1)else m.ver,m.next,gp m.l⟩,jp (gR (TB.filter (fq (gp m.l) p))))
def NW(s p:ByteArray):(gQ s p).size<=s.size:=by
 have h1:(gQ s p).size=(Lib.trimPrefix s.data.toList p.data.toList).length:=List.size_toArray ..
 have h2:s.data.toList.length=s.size:=Array.length_toList
 rw[h1,<-h2]
 unfold Lib.trimPrefix
 split
 .rw[aj9];exact Nat.sub_le _ _
 .exact ajz _
def cX(x y:Operand):aX Tryz.prog .neq 213 x y .er (.t (.v .nilIface))=val (tt true):=NR (by kernel_rfl)
def cY(x:Operand):aX Tryz.prog .neq 213 x (.const .nilIface) (.t (.v .nilIface)) (.t (.v .nilIface))=val (tt false):=by
 cases x<;>kernel_rfl
theorem cZ(E:aa):E.ev (.const .nilIface)= .t (.v .nilIface):=rfl
def NX{α:Type}{p:α->Bool}{l:List α}{i:Nat}{x:α}(h:l[i]?=some x):(l.take (i+1)).filter p=(l.take i).filter p++(if p x=true then[x]else[]):=by
 rw[fO h,List.filter_append]
 by_cases hx:p x=true<;>simp[hx]
def NY(ts:List ab)(p:ByteArray)(TB:List ByteArray)(ver next:Int)(l:List Pc)(hp:p.size<=1000000)(hl:l.length<=1000000)(hn:TB.length<=1000000)(hs:∀s∈TB,s.size<=1000000)(E:aa):
  E.tmps 1= .t (str p)->E.tmps 2= .t (.sl 1 (TB.map str))->E.tmps 6= .ptr (.loc 6 0) 0 0->E.tmps 7= .t .e0->
  E.slots (.loc 6 0)=some (.box 27 (.agg [.t (int ver),.t (int next),.osl (.loc 23 0) l.length]) false)->E.slots (.loc 23 0)=some (.rows 58 6 (l.map aW) false)->
  aY Tryz.prog bu (Fin [.cell 6 3 true,.tmp 7] (Ends (de ts (.tup [.t (bh ⟨ver,next,l⟩),.t (.sl 1 ((jp (gR (TB.filter (fq l p)))).map str))])))) [.code rQ] E:=by
 intro t1 t2 t6 t7 z6 z23
 simp[rQ]
 try simp[t2]
 skip
 refine nP (fun ns E=>∃(i:Nat) (fr:Bool),i<=TB.length/\E.tmps 1= .t (str p)/\E.tmps 37= .t (.sl 1 (TB.map str))/\E.tmps 38= .t (int TB.length)/\E.tmps 39= .t (int i)/\E.tmps 6= .ptr (.head 1 0) 0 0/\
   E.slots (.head 1 0)=some (.box 27 (.agg [.t (int ver),.t (int next),.osl (.head 1 1) l.length]) false)/\E.slots (.head 1 1)=some (.rows 58 6 (l.map aW) fr)/\
   (((TB.take i).filter (fq l p)=[]/\E.tmps 7= .t .e0/\ns=[.head 1 0,.head 1 1])\/((TB.take i).filter (fq l p)≠[]/\E.tmps 7= .osl (.head 1 2) ((TB.take i).filter (fq l p)).length/\E.slots (.head 1 2)=some (.rows 9 1 (((TB.take i).filter (fq l p)).map str) false)/\ns=[.head 1 0,.head 1 1,.head 1 2])))
  (fun E=>match E.tmps 39 with| .t (.v (.int _ i))=>TB.length-i.toNat|_=>0) [(.loc 6 0,.head 1 0),(.loc 23 0,.head 1 1)] rfl ?_ ?_
 .refine⟨0,false,by omega,?_,?_,?_,?_,?_,?_,?_,.inl ⟨rfl,?_,rfl⟩⟩<;>simp[t1,t2,t6,t7,z6,z23]
 rintro ns E1 ⟨i,fr,hi,e1,Um,Ul,Va,e6,s0,s1,hd⟩ hU hS A hA
 clear t1 t2 t6 t7 z6 z23
 simp[BW,Ul,Va]
 refine aN (fun h=>?_) (fun h=>?_)
 .have hx:=ajq h
  obtain⟨x,Tm⟩:∃x,TB[i]=x:=⟨_,rfl⟩
  rw[Tm]at hx
  have hxs:x.size<=1000000:=hs x (Tm▸akA h)
  have hcs:=NW x (b6 p)
  have c1:=Ng x (b6 p)
  have c2:=Nf (gQ x (b6 p)) (by omega)
  have VZ:=NX (p:=fq l p) hx
  have Ut:fq l p x=fq l p x:=rfl
  conv at Ut=>rhs;unfold fq
  have WS:(b6 p).size=p.size+1:=by rw[ByteArray.size_append];rfl
  have k1:∀x y,aX Tryz.prog .add 9 x y (.t (str p)) (.t (str ⟨#[45]⟩))=val (.t (str (b6 p))):=fun x y=>qi _ _ (by show(p.size:Int)+1<=_;omega)
  have hw:IntKind.i64.wrap ((i:Int)+1)=((i+1:Nat):Int):=by rw[bx (by omega) (by omega)];omega
  have c3:=kG (jo (gQ x (b6 p)))
  have c5:=NV (jo (gQ x (b6 p))) l hl
  have Vr:E1.used (.loc 12 0)=false:=by rcases hd with⟨_,_,rfl⟩|⟨_,_,_,rfl⟩<;>simp[hU]
  have v0:E1.used (.head 1 0)=true:=by rcases hd with⟨_,_,rfl⟩|⟨_,_,_,rfl⟩<;>simp[hU]
  have v1:E1.used (.head 1 1)=true:=by rcases hd with⟨_,_,rfl⟩|⟨_,_,_,rfl⟩<;>simp[hU]
  have Wp:fq l p x=false->∀(E':aa) (Z7:Bool),E'.tmps 1= .t (str p)->E'.tmps 37= .t (.sl 1 (TB.map str))->E'.tmps 38= .t (int TB.length)->E'.tmps 39= .t (int (i+1:Nat))->E'.tmps 6= .ptr (.head 1 0) 0 0->E'.tmps 7=E1.tmps 7->E'.slots (.head 1 0)=some (.box 27 (.agg [.t (int ver),.t (int next),.osl (.head 1 1) l.length]) false)->E'.slots (.head 1 1)=some (.rows 58 6 (l.map aW) Z7)->E'.slots (.head 1 2)=E1.slots (.head 1 2)->A E':=by
   intro hg E' Z7 f1 f37 f38 f39 f6 f7 g0 g1 g2
   rw[hg]at VZ
   simp only[ajU,ajS,akr]at VZ
   rcases hd with⟨d1,d2,rfl⟩|⟨d1,d2,d3,rfl⟩
   .refine hA E' [(.head 1 0,.head 1 0),(.head 1 1,.head 1 1)] rfl ⟨i+1,Z7,by omega,?_,?_,?_,?_,?_,?_,?_,.inl ⟨by rw[VZ];exact d1,?_,rfl⟩⟩ ?_<;>simp[f1,f37,f38,f39,f6,f7,g0,g1,g2,d2,Va]
    all_goals omega
   .refine hA E' [(.head 1 0,.head 1 0),(.head 1 1,.head 1 1),(.head 1 2,.head 1 2)] rfl ⟨i+1,Z7,by omega,?_,?_,?_,?_,?_,?_,?_,.inr ⟨by rw[VZ];exact d1,?_,?_,rfl⟩⟩ ?_<;>simp[f1,f37,f38,f39,f6,f7,g0,g1,g2,d2,d3,VZ,Va]
    all_goals omega
  have c4:dO (jo (gQ x (b6 p)))=false->aji 30 [str p,int (jo (gQ x (b6 p)))] (.t (str (dF p (jo (gQ x (b6 p)))))):=fun hb=>lY p _ hp (by have:=s7 hb;omega) (by have:=s7 hb;omega)
  generalize fq l p x=go at*
  generalize lV x (b6 p)=b1 at*
  generalize gQ x (b6 p)=ct at*
  generalize sZ ct=b2 at*
  generalize jo ct=v at*
  generalize dO v=b3 at*
  generalize Vh:((dF p v).toList==x.toList)=b4 at*
  generalize l.any (eT v)=b5 at*
  cases b2 with
  |false=>
   simp only[ajU,ajS]at c2
   cases b1 with
   |false=>
    try simp[e1,Um,Ul,Va,e6,s0,s1,Vr,v0,v1,h,Tm,hx,hw,k1,cX,cY,cZ]
    all_goals try(repeat'(first|((first|refine aj ?_|refine Up c1 rfl ?_|refine Up c2 rfl ?_)<;>try simp[e1,Um,Ul,Va,e6,s0,s1,Vr,v0,v1,h,Tm,hx,hw,k1,cX,cY,cZ])))
    all_goals refine Wp (by simpa using Ut) _ fr ?_ ?_ ?_ ?_ ?_ ?_ ?_ ?_ ?_
    all_goals simp[e1,Um,Ul,Va,e6,s0,s1,Vr,v0,v1,h,Tm,hx,hw,k1,cX,cY,cZ]
   |true=>
    try simp[e1,Um,Ul,Va,e6,s0,s1,Vr,v0,v1,h,Tm,hx,hw,k1,cX,cY,cZ]
    all_goals try(repeat'(first|((first|refine aj ?_|refine Up c1 rfl ?_|refine Up c2 rfl ?_)<;>try simp[e1,Um,Ul,Va,e6,s0,s1,Vr,v0,v1,h,Tm,hx,hw,k1,cX,cY,cZ])))
    all_goals refine Wp (by simpa using Ut) _ fr ?_ ?_ ?_ ?_ ?_ ?_ ?_ ?_ ?_
    all_goals simp[e1,Um,Ul,Va,e6,s0,s1,Vr,v0,v1,h,Tm,hx,hw,k1,cX,cY,cZ]
  |true=>
  simp only[if_true]at c2
  cases b1 with
  |false=>
   try simp[e1,Um,Ul,Va,e6,s0,s1,Vr,v0,v1,h,Tm,hx,hw,k1,cX,cY,cZ]
   all_goals try(repeat'(first|((first|refine aj ?_|refine Up c1 rfl ?_|refine Up c2 rfl ?_)<;>try simp[e1,Um,Ul,Va,e6,s0,s1,Vr,v0,v1,h,Tm,hx,hw,k1,cX,cY,cZ])))
   all_goals refine Wp (by simpa using Ut) _ fr ?_ ?_ ?_ ?_ ?_ ?_ ?_ ?_ ?_
   all_goals simp[e1,Um,Ul,Va,e6,s0,s1,Vr,v0,v1,h,Tm,hx,hw,k1,cX,cY,cZ]
  |true=>
  cases b3 with
  |true=>
   try simp[e1,Um,Ul,Va,e6,s0,s1,Vr,v0,v1,h,Tm,hx,hw,k1,cX,cY,cZ]
   all_goals try(repeat'(first|((first|refine aj ?_|refine Up c1 rfl ?_|refine Up c2 rfl ?_|refine Up c3 rfl ?_)<;>try simp[e1,Um,Ul,Va,e6,s0,s1,Vr,v0,v1,h,Tm,hx,hw,k1,cX,cY,cZ])))
   all_goals refine Wp (by simpa using Ut) _ fr ?_ ?_ ?_ ?_ ?_ ?_ ?_ ?_ ?_
   all_goals simp[e1,Um,Ul,Va,e6,s0,s1,Vr,v0,v1,h,Tm,hx,hw,k1,cX,cY,cZ]
  |false=>
  have c4:=c4 rfl
  cases b4 with
  |false=>
   try simp[e1,Um,Ul,Va,e6,s0,s1,Vr,v0,v1,h,Tm,hx,hw,k1,cX,cY,cZ,Vh]
   all_goals try(repeat'(first|((first|refine aj ?_|refine Up c1 rfl ?_|refine Up c2 rfl ?_|refine Up c3 rfl ?_|refine Up c4 rfl ?_)<;>try simp[e1,Um,Ul,Va,e6,s0,s1,Vr,v0,v1,h,Tm,hx,hw,k1,cX,cY,cZ,Vh])))
   all_goals refine Wp (by simpa using Ut) _ fr ?_ ?_ ?_ ?_ ?_ ?_ ?_ ?_ ?_
   all_goals simp[e1,Um,Ul,Va,e6,s0,s1,Vr,v0,v1,h,Tm,hx,hw,k1,cX,cY,cZ,Vh]
  |true=>
  have v81:E1.used (.loc 81 0)=false:=by rcases hd with⟨_,_,rfl⟩|⟨_,_,_,rfl⟩<;>simp[hU]
  cases b5 with
  |true=>
   try simp[e1,Um,Ul,Va,e6,s0,s1,Vr,v0,v1,h,Tm,hx,hw,k1,cX,cY,cZ,Vh]
   all_goals try(repeat'(first|((first|refine aj ?_|refine Up c1 rfl ?_|refine Up c2 rfl ?_|refine Up c3 rfl ?_|refine Up c4 rfl ?_|(refine UG (S:=[.loc 12 0]) (F:=[.head 1 1]) c5 ?_ ?_;(· simp[e1,Um,Ul,Va,e6,s0,s1,Vr,v0,v1,h,Tm,hx,hw,k1,cX,cY,cZ,Vh])))<;>try simp[e1,Um,Ul,Va,e6,s0,s1,Vr,v0,v1,h,Tm,hx,hw,k1,cX,cY,cZ,Vh])))
   all_goals refine Wp (by simpa using Ut) _ true ?_ ?_ ?_ ?_ ?_ ?_ ?_ ?_ ?_
   all_goals simp[e1,Um,Ul,Va,e6,s0,s1,Vr,v0,v1,h,Tm,hx,hw,k1,cX,cY,cZ,Vh]
  |false=>
   clear Wp
   have VN:go=true:=by simpa using Ut
   subst VN
   simp only[if_true]at VZ
   have UA:((TB.take i).filter (fq l p)).length<=i:=akf (aks _ _) (by simp[ajA];omega)
   generalize hD:(TB.take i).filter (fq l p)=D at*
   rcases hd with⟨rfl,e7,rfl⟩|⟨d1,e7,s2,rfl⟩
   .try simp[e1,Um,Ul,Va,e6,s0,s1,Vr,v0,v1,h,Tm,hx,hw,k1,cX,cY,cZ,Vh,e7,v81,aB,aa.more,LIM,az,ax]
    all_goals try(repeat'(first|((first|refine aj ?_|refine Up c1 rfl ?_|refine Up c2 rfl ?_|refine Up c3 rfl ?_|refine Up c4 rfl ?_|(refine UG (S:=[.loc 12 0]) (F:=[.head 1 1]) c5 ?_ ?_;(· simp[e1,Um,Ul,Va,e6,s0,s1,Vr,v0,v1,h,Tm,hx,hw,k1,cX,cY,cZ,Vh,e7,v81,aB,aa.more,LIM,az,ax])))<;>try simp[e1,Um,Ul,Va,e6,s0,s1,Vr,v0,v1,h,Tm,hx,hw,k1,cX,cY,cZ,Vh,e7,v81,aB,aa.more,LIM,az,ax])))
    all_goals refine hA _ [(.head 1 0,.head 1 0),(.head 1 1,.head 1 1),(.loc 81 0,.head 1 2)] rfl ⟨i+1,true,by omega,?_,?_,?_,?_,?_,?_,?_,.inr ⟨by rw[VZ];simp,?_,?_,rfl⟩⟩ ?_
    all_goals simp[e1,Um,Ul,Va,e6,s0,s1,Vr,v0,v1,h,Tm,hx,hw,k1,cX,cY,cZ,Vh,VZ]
    all_goals omega
   .have hlim:D.length+1<=100000000:=by omega
    have TD:List.take D.length (D.map str)=D.map str:=aju (by simp)
    try simp[e1,Um,Ul,Va,e6,s0,s1,Vr,v0,v1,h,Tm,hx,hw,k1,cX,cY,cZ,Vh,e7,s2,v81,aB,aa.more,LIM,hlim,TD,az,ax]
    all_goals try(repeat'(first|((first|refine aj ?_|refine Up c1 rfl ?_|refine Up c2 rfl ?_|refine Up c3 rfl ?_|refine Up c4 rfl ?_|(refine UG (S:=[.loc 12 0]) (F:=[.head 1 1]) c5 ?_ ?_;(· simp[e1,Um,Ul,Va,e6,s0,s1,Vr,v0,v1,h,Tm,hx,hw,k1,cX,cY,cZ,Vh,e7,s2,v81,aB,aa.more,LIM,hlim,TD,az,ax])))<;>try simp[e1,Um,Ul,Va,e6,s0,s1,Vr,v0,v1,h,Tm,hx,hw,k1,cX,cY,cZ,Vh,e7,s2,v81,aB,aa.more,LIM,hlim,TD,az,ax])))
    all_goals refine hA _ [(.head 1 0,.head 1 0),(.head 1 1,.head 1 1),(.loc 81 0,.head 1 2)] rfl ⟨i+1,true,by omega,?_,?_,?_,?_,?_,?_,?_,.inr ⟨by rw[VZ];simp,?_,?_,rfl⟩⟩ ?_
    all_goals simp[e1,Um,Ul,Va,e6,s0,s1,Vr,v0,v1,h,Tm,hx,hw,k1,cX,cY,cZ,Vh,VZ]
    all_goals omega
 .have TE:i=TB.length:=by omega
  subst TE
  rw[akg]at hd
  clear hA hS A
  have UA:(TB.filter (fq l p)).length<=TB.length:=aks _ _
  generalize TB.filter (fq l p)=D at*
  have U2:List.take l.length (l.map aW)=l.map aW:=aju (by simp)
  have v0:E1.used (.head 1 0)=true:=by rcases hd with⟨_,_,rfl⟩|⟨_,_,_,rfl⟩<;>simp[hU]
  have v1:E1.used (.head 1 1)=true:=by rcases hd with⟨_,_,rfl⟩|⟨_,_,_,rfl⟩<;>simp[hU]
  rcases hd with⟨rfl,e7,rfl⟩|⟨d1,e7,s2,rfl⟩
  .have hz:jp (gR [])=[]:=by simp[gR,jp];rfl
   rw[hz]
   simp[e7]
   try simp[e1,Um,Ul,Va,e6,s0,s1,v0,v1,h,hU,e7,U2]
   all_goals try(repeat'(first|((first|refine Up Nl rfl ?_|refine Up Nn rfl ?_)<;>try simp[e1,Um,Ul,Va,e6,s0,s1,v0,v1,h,hU,e7,U2])))
   refine j9 (x:=bh ⟨ver,next,l⟩) (y:= .e0) (dp (rd:=[.head 1 1]) ?_) (bn _) .rfl .nil
   simp[s1,U2]
  .have v2:E1.used (.head 1 2)=true:=by simp[hU]
   have v87:E1.used (.loc 87 0)=false:=by simp[hU]
   have c1:=Nk D (by omega)
   have Tj:(gR D).length=D.length:=by simp[gR]
   have c2:=Np (gR D) (by omega)
   unfold ff at c1
   unfold dM at c2
   rw[ajJ]at c1 c2
   generalize gR D=S at*
   generalize jp S=K at*
   simp[e7]
   try simp[e1,Um,Ul,Va,e6,s0,s1,v0,v1,h,e7,s2,v2,v87,U2,Tj]
   all_goals try(repeat'(first|((first|(refine UR (S:=[.head 1 2]) c1 ?_ ?_;(· simp[e1,Um,Ul,Va,e6,s0,s1,v0,v1,h,e7,s2,v2,v87,U2,Tj]))|(refine UR (S:=[.head 1 2]) c2 ?_ ?_;(· simp[e1,Um,Ul,Va,e6,s0,s1,v0,v1,h,e7,s2,v2,v87,U2,Tj])))<;>try simp[e1,Um,Ul,Va,e6,s0,s1,v0,v1,h,e7,s2,v2,v87,U2,Tj])))
   have TD:List.take K.length (K.map str)=K.map str:=aju (by simp)
   refine j9 (x:=bh ⟨ver,next,l⟩) (y:= .sl 1 (K.map str)) (dp (rd:=[.head 1 1]) ?_) (oB (rd:=[.loc 87 0]) ?_) .rfl .rfl
   .simp[s1,U2]
   .simp[TD]
def EA(m:Mn)(p:ByteArray)(TB:List ByteArray)(hl:m.l.length<=1000000)(hp:p.size<=1000000)(hn:TB.length<=1000000)(hs:∀s∈TB,s.size<=1000000):
  aji 83 [bh m,str p,.sl 1 (TB.map str)] (.tup [.t (bh (ir m p TB).1),.t (.sl 1 ((ir m p TB).2.map str))]):=by
 have c1:=lQ m hl
 have c2:=Ej m hl
 have hll:(gp m.l).length<=m.l.length:=aks _ _
 have hme:bH m=0->0<=m.ver/\m.ver<=1099511627776:=fun h=>⟨(iU h).1,(iU h).2.1⟩
 have hj:=fun ts ver l hl E=>NY ts p TB ver m.next l hp hl hn hs E
 unfold ir
 generalize gp m.l=l at*
 generalize bH m=me at*
 by_cases h0:me=0
 .subst h0
  obtain⟨TZ,Uu⟩:=hme rfl
  have U5:IntKind.i64.wrap (m.ver+1)=m.ver+1:=bx (by omega) (by omega)
  simp only[ne_eq,akB,ajS]
  by_cases h1:l.length<m.l.length
  .rw[if_pos h1]
   refine pu vT rfl ?_
   simp[rR]
   repeat'(first|simp[*]|refine Up c1 rfl ?_|refine UN (F:=[]) c2 ?_ ?_)
   all_goals refine hj _ _ _ (by omega) _ ?_ ?_ ?_ ?_ ?_ ?_
   all_goals simp
  .rw[if_neg h1]
   refine pu vT rfl ?_
   simp[rR]
   repeat'(first|simp[*]|refine Up c1 rfl ?_|refine UN (F:=[]) c2 ?_ ?_)
   all_goals refine hj _ _ _ (by omega) _ ?_ ?_ ?_ ?_ ?_ ?_
   all_goals simp
 .rw[if_pos h0]
  refine pu vT rfl ?_
  simp[rR,rQ]
  repeat'(first|simp[*]|refine Up c1 rfl ?_)
  all_goals exact iV gS .nil
abbrev bX(n:ByteArray):Row:= .box 9 (.t (str n)) false
def m6(m:Mn)(l:Lg):Option (bL×Int):=(dY l.segs).find? fun p=>!decide (p.1.base<(lU m.l).2)
def cI(m:Mn)(w:Pc):Mn×Int×Int:=j8 m w.base w.fin w.size w.sum
def oD(m:Mn)(s:aw)(n:ByteArray)(p:bL×Int):Mn×aw×Int:=
 if(cI m (dy p.1 p.2)).2.2≠0 then(m,s,(cI m (dy p.1 p.2)).2.2)
 else if(iX s (dF n (cI m (dy p.1 p.2)).2.1) (eB p.1.bytes)).2≠0 then((cI m (dy p.1 p.2)).1,(iX s (dF n (cI m (dy p.1 p.2)).2.1) (eB p.1.bytes)).1,(iX s (dF n (cI m (dy p.1 p.2)).2.1) (eB p.1.bytes)).2)
 else((gq (cI m (dy p.1 p.2)).1 (cI m (dy p.1 p.2)).2.1).1,(iX s (dF n (cI m (dy p.1 p.2)).2.1) (eB p.1.bytes)).1,(gq (cI m (dy p.1 p.2)).1 (cI m (dy p.1 p.2)).2.1).2)
def cm(l:Lg)(m:Mn)(s:aw)(n:ByteArray):Mn×aw×Int:=match m6 m l with|none=>(m,s,141)|some p=>oD m s n p
abbrev is(s:aw)(m:Mn)(n:ByteArray):Row:=il [.sl 2 (s.objs.map a0),int s.calls,.sl 2 (s.faults.map bD),int 0,.e0,int m.ver,int m.next,.sl 6 (m.l.map aW),str n]
abbrev EB(l:List DV):Row:= .box 95 (.agg l) false
abbrev dZ(s:aw)(m:Mn)(n:ByteArray):Row:=EB [.t (.sl 2 (s.objs.map a0)),.t (int s.calls),.t (.sl 2 (s.faults.map bD)),.t (int 0),.t .e0,.t (int m.ver),.t (int m.next),.t (.sl 6 (m.l.map aW)),.t (str n)]
def kb(s:aw)(m:Mn)(n:ByteArray):gK (dZ s m n) (is s m n):= .inr ⟨_,_,_,_,rfl,rfl,rfl⟩
abbrev tb:List DV:=[.ptr (.arg 1) 0 0,.ptr (.arg 2) 0 0,.ptr (.arg 3) 0 0,.ptr (.arg 4) 0 0,.ptr (.arg 5) 0 0]
abbrev EC(L:Lg)(m:Mn)(s:aw)(n:ByteArray)(d:DV)(r:Row):Ct:=⟨[],tb,[dZ s m n,bp m,cd L,bq (.arg 0),bA s,bX n],d,[some r,some (bp m),some (cd L),some (bq (.arg 0)),some (bA s),some (bX n)],[]⟩
def m7:aji 52 [int 0] (.tup []):=by
 refine pu BQ rfl ?_
 simp[vM]
 refine eM ?_
 simp
def kM(e:Int)(he:e≠0):ajm 52 ⟨[],[int e].map .t,[],.junk,[],[]⟩ (j4 e):=by
 refine jS BQ rfl ?_
 simp[vM]
 repeat' simp[*,cB]
 refine Ih 37 (.int .i64 e) ?_
 refine py [] rfl ?_ ?_ ?_<;>simp
def xl{α:Type}{p:α->Bool}:∀{l:List α} {i:Nat} {x:α},l[i]?=some x->(∀y∈l.take i,p y=false)->p x=true->l.find? p=some x
 |[],i,x,h,_,_=>by simp at h
 |y::l,0,x,h,_,hp=>by simp at h;subst h;simp[hp]
 |y::l,i+1,x,h,ha,hp=>by
  have h0:=ha y (by simp)
  have ih:=xl (l:=l) (i:=i) (x:=x) (by simpa using h) (fun z hz=>ha z (by simp[hz])) hp
  simp[h0,ih]
def ED{α:Type}{p:α->Bool}{l:List α}(h:∀y∈l,p y=false):l.find? p=none:=by
 rw[List.find?_eq_none]
 intro x hx
 simp[h x hx]
def EE(l:Bs):(eB l).length=l.length+4:=by simp[eB,cg]
def EG{m:Mn}{w:Pc}(h:(cI m w).2.2=0):0<=(cI m w).2.1/\(cI m w).2.1<=1099511627776:=by
 unfold cI j8 at*
 split at h
 .rename_i h0
  rw[if_pos h0]
  unfold qc at h0
  split at h0
  .exact absurd h0 ‹_›
  .rename_i h1
   have:=iU (m:=m) (by simpa using h1)
   exact⟨this.2.2.1,this.2.2.2.1⟩
 .rename_i h0
  exact absurd h h0
def xn{m:Mn}{w:Pc}(h:(cI m w).2.2=0):(cI m w).1.l.length<=257:=by
 unfold cI j8 at*
 split at h
 .rename_i h0
  rw[if_pos h0]
  unfold qc at h0
  split at h0
  .exact absurd h0 ‹_›
  .rename_i h1
   have:=iU (m:=m) (by simpa using h1)
   simp
   omega
 .rename_i h0
  exact absurd h h0
def NZ(L:Lg)(m:Mn)(s:aw)(n:ByteArray)(hn:L.segs.length<=1000000)(hb:∀s∈L.segs,s.bytes.length<=900000)(hm:m.l.length<=1000000)(h1:s.objs.length<=1000000)(h2:s.faults.length<=1000000)(hp:n.size<=1000000)(hz:(cm L m s n).2.2=0):
  ajk 47 (EC L m s n (.tup []) (dZ (cm L m s n).2.1 (cm L m s n).1 n)):=by
 have c1:=qb m hm
 have c2:=wU L
 have hit:=wV L hn
 have Zv:∀p,m6 m L=some p->cm L m s n=oD m s n p:=fun p h=>by unfold cm;rw[h]
 have WE:m6 m L=none->cm L m s n=(m,s,141):=fun h=>by unfold cm;rw[h]
 unfold m6 at Zv WE
 generalize cm L m s n=r at*
 generalize lU m.l=sp at*
 refine aJ BL rfl ?_
 simp[vI]
 repeat'(first|simp[*]|refine Up c1 rfl ?_)
 refine jO (ts:=[aO L]) (F:=[]) c2 (fun _=>rfl) (by simp) (by simp) ?_
 simp
 generalize hE:aa.put _ 19 _=E0
 have t0:E0.tmps 0= .ptr (.arg 1) 0 0:=by rw[<-hE];simp
 have t2:E0.tmps 2= .ptr (.arg 3) 0 0:=by rw[<-hE];simp
 have t3:E0.tmps 3= .ptr (.arg 4) 0 0:=by rw[<-hE];simp
 have t4:E0.tmps 4= .ptr (.arg 5) 0 0:=by rw[<-hE];simp
 have t6:E0.tmps 6= .ptr (.loc 6 0) 0 0:=by rw[<-hE];simp
 have t19:E0.tmps 19= .fn 123 [.ptr (.loc 19 0) 0 0]:=by rw[<-hE];simp
 have z0:E0.slots (.arg 0)=some (dZ s m n):=by rw[<-hE];simp
 have z1:E0.slots (.arg 1)=some (bp m):=by rw[<-hE];simp
 have z2:E0.slots (.arg 2)=some (cd L):=by rw[<-hE];simp
 have z3:E0.slots (.arg 3)=some (bq (.arg 0)):=by rw[<-hE];simp
 have z4:E0.slots (.arg 4)=some (bA s):=by rw[<-hE];simp
 have z5:E0.slots (.arg 5)=some (bX n):=by rw[<-hE];simp
 have z6:E0.slots (.loc 6 0)=some (av sp.2):=by rw[<-hE];simp
 have z19:E0.slots (.loc 19 0)=some (cd L):=by rw[<-hE];simp
 have v0:E0.used (.arg 0)=true:=by rw[<-hE];simp
 have v1:E0.used (.arg 1)=true:=by rw[<-hE];simp
 have v3:E0.used (.arg 3)=true:=by rw[<-hE];simp
 have v4:E0.used (.arg 4)=true:=by rw[<-hE];simp
 have v5:E0.used (.arg 5)=true:=by rw[<-hE];simp
 have v6:E0.used (.loc 6 0)=true:=by rw[<-hE];simp
 clear hE
 have TA:=ov L.segs
 refine lr (xs:=eD L.segs) (f:=123) (caps:=[.ptr (.loc 19 0) 0 0]) (ts:=[.tp (aO L) 0]) (F:=[.loc 19 0]) [.arg 0,.arg 1,.arg 3,.arg 4,.arg 5,.loc 6 0] [dZ s m n,bp m,bq (.arg 0),bA s,bX n,av sp.2] 1000
  (fun i ns E=>ns=[.arg 0,.arg 1,.arg 2,.arg 3,.arg 4,.arg 5]/\(∀y∈(dY L.segs).take i,y.1.base<sp.2)/\E.slots (.arg 0)=some (dZ s m n)/\E.slots (.arg 1)=some (bp m)/\E.slots (.arg 2)=some (bq (.arg 0))/\E.slots (.arg 3)=some (bA s)/\E.slots (.arg 4)=some (bX n)/\E.slots (.arg 5)=some (av sp.2))
  hit ?_ ?_ ?_ (gF rfl (by decide) rfl ?_ ?_ trivial ?_) ?_ ?_ ?_
 .simp[t19]
 .simp[aa.viewps,aa.viewp,z19]
 .intro x hx
  simp only[eD,ajI]at hx
  obtain⟨p,_,rfl⟩:=hx
  rfl
 .simp[*]
 .simp[*]
 .simp[z19]
 .exact⟨rfl,by simp,rfl,rfl,rfl,rfl,rfl,rfl⟩
 .rintro i x ns E1 hx ⟨rfl,Tt,y0,y1,y2,y3,y4,y5⟩ hU hS A hA
  simp only[eD,ajw,ajt]at hx
  obtain⟨p,Xj,rfl⟩:=hx
  have TC:=(ajs.1 Xj).1
  have Vj:p.1∈L.segs:=by
   have:=ajx Xj
   exact(List.of_mem_zip this).1
  have TD:=fO Xj
  by_cases hlt:p.1.base<sp.2
  .simp[*]
   skip
   refine hA _ [(.arg 0,.arg 0),(.arg 1,.arg 1),(.arg 2,.arg 2),(.arg 3,.arg 3),(.arg 4,.arg 4),(.arg 5,.arg 5)] rfl rfl ⟨rfl,?_,?_,?_,?_,?_,?_,?_⟩
   .intro y hy
    rw[TD,ajG]at hy
    rcases hy with hy|hy
    .exact Tt y hy
    .rw[List.mem_singleton.1 hy]
     exact hlt
   all_goals simp[*]
  .have hr:=Zv p (xl Xj (fun y hy=>by simpa using Tt y hy) (by simpa using hlt))
   subst hr
   unfold oD at hz⊢
   have d1:=wT p.1 p.2 (by have:=hb _ Vj;omega)
   generalize dy p.1 p.2=w at*
   have d2:=En m w.base w.fin w.size w.sum hm
   have d2:aji 51 [bh m,int w.base,int w.fin,int w.size,eN w.sum] (.tup [.t (bh (cI m w).1),.t (int (cI m w).2.1),.t (int (cI m w).2.2)]):=d2
   have hid:=EG (m:=m) (w:=w)
   have XJ:=xn (m:=m) (w:=w)
   generalize cI m w=B at*
   by_cases e1:B.2.2=0
   .obtain⟨i1,i2⟩:=hid e1
    have d3:=lY n B.2.1 hp (by omega) (by omega)
    have d4:=wD p.1.bytes (by have:=hb _ Vj;omega)
    have d5:=Ev s (dF n B.2.1) (eB p.1.bytes) h1 h2 (by rw[EE];have:=hb _ Vj;omega)
    have d6:=Ep B.1 B.2.1 (by have:=XJ e1;omega)
    have Xp:=m7
    rw[if_neg (by simp[e1])]at hz⊢
    generalize dF n B.2.1=nm at*
    generalize eB p.1.bytes=sb at*
    generalize iX s nm sb=O at*
    generalize gq B.1 B.2.1=Dn at*
    by_cases e2:O.2=0
    .rw[if_neg (by simp[e2])]at hz⊢
     simp only at hz⊢
     rw[e1]at d2
     rw[e2]at d5
     rw[hz]at d6
     simp[*]
     repeat'(first|simp[*]|refine Up d1 rfl ?_|refine Up d2 rfl ?_|refine Up d3 rfl ?_|refine UN (F:=[]) d4 ?_ ?_|refine UV (F:=[.loc 57 0]) d5 rfl ?_ ?_|refine Up d6 rfl ?_|refine Up Xp rfl ?_)
     refine gG ⟨[],[],[],.junk,[some (dZ O.1 Dn.1 n),some (bp m),some (bq (.arg 0)),some (bA s),some (bX n),some (av sp.2)],[]⟩ [(.arg 0,.arg 0),(.arg 1,.arg 1),(.arg 2,.arg 2),(.arg 3,.arg 3),(.arg 4,.arg 4),(.arg 5,.arg 5)] rfl ?_ ?_ ?_ ?_ ?_
     .simp only[ajQ,aj4,akd]
      refine⟨?_,?_,?_,?_,?_,?_,?_⟩
      all_goals simp[*,-Row.box.injEq]
     .simp
      omega
     .simp
     .simp
     .simp
      exact ug [(.arg 0,.arg 0),(.arg 1,.arg 1),(.arg 2,.arg 2),(.arg 3,.arg 3),(.arg 4,.arg 4),(.arg 5,.arg 5)] rfl (by simp[*]) .rfl
    .rw[if_pos e2]at hz
     exact absurd hz e2
   .rw[if_pos e1]at hz
    exact absurd hz e1
 .rintro ns E1 ⟨rfl,Tt,y0,y1,y2,y3,y4,y5⟩ hU hS
  have Tk:(eD L.segs).length=(dY L.segs).length:=by simp[eD]
  rw[Tk,akg]at Tt
  have:=WE (ED fun y hy=>by simpa using Tt y hy)
  subst this
  simp at hz
def N0(L:Lg)(m:Mn)(s:aw)(n:ByteArray)(hn:L.segs.length<=1000000)(hb:∀s∈L.segs,s.bytes.length<=900000)(hm:m.l.length<=1000000)(h1:s.objs.length<=1000000)(h2:s.faults.length<=1000000)(hp:n.size<=1000000)(hz:(cm L m s n).2.2≠0):
  ajm 47 (EC L m s n (.tup []) (dZ (cm L m s n).2.1 (cm L m s n).1 n)) (j4 (cm L m s n).2.2):=by
 have c1:=qb m hm
 have c2:=wU L
 have hit:=wV L hn
 have Zv:∀p,m6 m L=some p->cm L m s n=oD m s n p:=fun p h=>by unfold cm;rw[h]
 have WE:m6 m L=none->cm L m s n=(m,s,141):=fun h=>by unfold cm;rw[h]
 unfold m6 at Zv WE
 generalize cm L m s n=r at*
 generalize lU m.l=sp at*
 refine jS BL rfl ?_
 simp[vI]
 repeat'(first|simp[*]|refine Up c1 rfl ?_)
 refine jO (ts:=[aO L]) (F:=[]) c2 (fun _=>rfl) (by simp) (by simp) ?_
 simp
 generalize hE:aa.put _ 19 _=E0
 have t0:E0.tmps 0= .ptr (.arg 1) 0 0:=by rw[<-hE];simp
 have t2:E0.tmps 2= .ptr (.arg 3) 0 0:=by rw[<-hE];simp
 have t3:E0.tmps 3= .ptr (.arg 4) 0 0:=by rw[<-hE];simp
 have t4:E0.tmps 4= .ptr (.arg 5) 0 0:=by rw[<-hE];simp
 have t6:E0.tmps 6= .ptr (.loc 6 0) 0 0:=by rw[<-hE];simp
 have t19:E0.tmps 19= .fn 123 [.ptr (.loc 19 0) 0 0]:=by rw[<-hE];simp
 have z0:E0.slots (.arg 0)=some (dZ s m n):=by rw[<-hE];simp
 have z1:E0.slots (.arg 1)=some (bp m):=by rw[<-hE];simp
 have z2:E0.slots (.arg 2)=some (cd L):=by rw[<-hE];simp
 have z3:E0.slots (.arg 3)=some (bq (.arg 0)):=by rw[<-hE];simp
 have z4:E0.slots (.arg 4)=some (bA s):=by rw[<-hE];simp
 have z5:E0.slots (.arg 5)=some (bX n):=by rw[<-hE];simp
 have z6:E0.slots (.loc 6 0)=some (av sp.2):=by rw[<-hE];simp
 have z19:E0.slots (.loc 19 0)=some (cd L):=by rw[<-hE];simp
 have v0:E0.used (.arg 0)=true:=by rw[<-hE];simp
 have v1:E0.used (.arg 1)=true:=by rw[<-hE];simp
 have v3:E0.used (.arg 3)=true:=by rw[<-hE];simp
 have v4:E0.used (.arg 4)=true:=by rw[<-hE];simp
 have v5:E0.used (.arg 5)=true:=by rw[<-hE];simp
 have v6:E0.used (.loc 6 0)=true:=by rw[<-hE];simp
 clear hE
 have TA:=ov L.segs
 refine lr (xs:=eD L.segs) (f:=123) (caps:=[.ptr (.loc 19 0) 0 0]) (ts:=[.tp (aO L) 0]) (F:=[.loc 19 0]) [.arg 0,.arg 1,.arg 3,.arg 4,.arg 5,.loc 6 0] [dZ s m n,bp m,bq (.arg 0),bA s,bX n,av sp.2] 1000
  (fun i ns E=>ns=[.arg 0,.arg 1,.arg 2,.arg 3,.arg 4,.arg 5]/\(∀y∈(dY L.segs).take i,y.1.base<sp.2)/\E.slots (.arg 0)=some (dZ s m n)/\E.slots (.arg 1)=some (bp m)/\E.slots (.arg 2)=some (bq (.arg 0))/\E.slots (.arg 3)=some (bA s)/\E.slots (.arg 4)=some (bX n)/\E.slots (.arg 5)=some (av sp.2))
  hit ?_ ?_ ?_ (gF rfl (by decide) rfl ?_ ?_ trivial ?_) ?_ ?_ ?_
 .simp[t19]
 .simp[aa.viewps,aa.viewp,z19]
 .intro x hx
  simp only[eD,ajI]at hx
  obtain⟨p,_,rfl⟩:=hx
  rfl
 .simp[*]
 .simp[*]
 .simp[z19]
 .exact⟨rfl,by simp,rfl,rfl,rfl,rfl,rfl,rfl⟩
 .rintro i x ns E1 hx ⟨rfl,Tt,y0,y1,y2,y3,y4,y5⟩ hU hS A hA
  simp only[eD,ajw,ajt]at hx
  obtain⟨p,Xj,rfl⟩:=hx
  have TC:=(ajs.1 Xj).1
  have Vj:p.1∈L.segs:=by
   have:=ajx Xj
   exact(List.of_mem_zip this).1
  have TD:=fO Xj
  by_cases hlt:p.1.base<sp.2
  .simp[*]
   skip
   refine hA _ [(.arg 0,.arg 0),(.arg 1,.arg 1),(.arg 2,.arg 2),(.arg 3,.arg 3),(.arg 4,.arg 4),(.arg 5,.arg 5)] rfl rfl ⟨rfl,?_,?_,?_,?_,?_,?_,?_⟩
   .intro y hy
    rw[TD,ajG]at hy
    rcases hy with hy|hy
    .exact Tt y hy
    .rw[List.mem_singleton.1 hy]
     exact hlt
   all_goals simp[*]
  .have hr:=Zv p (xl Xj (fun y hy=>by simpa using Tt y hy) (by simpa using hlt))
   subst hr
   unfold oD at hz⊢
   have d1:=wT p.1 p.2 (by have:=hb _ Vj;omega)
   generalize dy p.1 p.2=w at*
   have d2:=En m w.base w.fin w.size w.sum hm
   have d2:aji 51 [bh m,int w.base,int w.fin,int w.size,eN w.sum] (.tup [.t (bh (cI m w).1),.t (int (cI m w).2.1),.t (int (cI m w).2.2)]):=d2
   have hid:=EG (m:=m) (w:=w)
   have XJ:=xn (m:=m) (w:=w)
   generalize cI m w=B at*
   by_cases e1:B.2.2=0
   .obtain⟨i1,i2⟩:=hid e1
    have d3:=lY n B.2.1 hp (by omega) (by omega)
    have d4:=wD p.1.bytes (by have:=hb _ Vj;omega)
    have d5:=Ev s (dF n B.2.1) (eB p.1.bytes) h1 h2 (by rw[EE];have:=hb _ Vj;omega)
    have d6:=Ep B.1 B.2.1 (by have:=XJ e1;omega)
    have Xp:=m7
    rw[if_neg (by simp[e1])]at hz⊢
    generalize dF n B.2.1=nm at*
    generalize eB p.1.bytes=sb at*
    generalize iX s nm sb=O at*
    generalize gq B.1 B.2.1=Dn at*
    rw[e1]at d2
    by_cases e2:O.2=0
    .rw[if_neg (by simp[e2])]at hz⊢
     simp only at hz⊢
     rw[e2]at d5
     simp[*]
     repeat'(first|simp[*]|refine Up d1 rfl ?_|refine Up d2 rfl ?_|refine Up d3 rfl ?_|refine UN (F:=[]) d4 ?_ ?_|refine UV (F:=[.loc 57 0]) d5 rfl ?_ ?_|refine Up d6 rfl ?_|refine Up Xp rfl ?_|refine jT (kM _ hz) ?_)
     refine gG ⟨[],[],[],.junk,[some (dZ O.1 Dn.1 n),some (bp m),some (bq (.arg 0)),some (bA s),some (bX n),some (av sp.2)],[]⟩ [(.arg 0,.arg 0),(.arg 1,.arg 1),(.arg 2,.arg 2),(.arg 3,.arg 3),(.arg 4,.arg 4),(.arg 5,.arg 5)] rfl ?_ ?_ ?_ ?_ ?_
     .simp[*]
     .simp
      omega
     .simp
     .simp
     .simp
      exact kC [(.arg 0,.arg 0),(.arg 1,.arg 1),(.arg 2,.arg 2),(.arg 3,.arg 3),(.arg 4,.arg 4),(.arg 5,.arg 5)] rfl (by simp[*])
    .rw[if_pos e2]at hz⊢
     simp only at hz⊢
     simp[*]
     repeat'(first|simp[*]|refine Up d1 rfl ?_|refine Up d2 rfl ?_|refine Up d3 rfl ?_|refine UN (F:=[]) d4 ?_ ?_|refine UV (F:=[.loc 57 0]) d5 rfl ?_ ?_|refine Up Xp rfl ?_|refine jT (kM _ hz) ?_)
     refine gG ⟨[],[],[],.junk,[some (dZ O.1 B.1 n),some (bp m),some (bq (.arg 0)),some (bA s),some (bX n),some (av sp.2)],[]⟩ [(.arg 0,.arg 0),(.arg 1,.arg 1),(.arg 2,.arg 2),(.arg 3,.arg 3),(.arg 4,.arg 4),(.arg 5,.arg 5)] rfl ?_ ?_ ?_ ?_ ?_
     .simp[*]
     .simp
      omega
     .simp
     .simp
     .simp
      exact kC [(.arg 0,.arg 0),(.arg 1,.arg 1),(.arg 2,.arg 2),(.arg 3,.arg 3),(.arg 4,.arg 4),(.arg 5,.arg 5)] rfl (by simp[*])
   .rw[if_pos e1]at hz⊢
    simp only at hz⊢
    simp[*]
    repeat'(first|simp[*]|refine Up d1 rfl ?_|refine Up d2 rfl ?_|refine jT (kM _ hz) ?_)
    refine gG ⟨[],[],[],.junk,[some (dZ s m n),some (bp m),some (bq (.arg 0)),some (bA s),some (bX n),some (av sp.2)],[]⟩ [(.arg 0,.arg 0),(.arg 1,.arg 1),(.arg 2,.arg 2),(.arg 3,.arg 3),(.arg 4,.arg 4),(.arg 5,.arg 5)] rfl ?_ ?_ ?_ ?_ ?_
    .simp[*]
    .simp
     omega
    .simp
    .simp
    .simp
     exact kC [(.arg 0,.arg 0),(.arg 1,.arg 1),(.arg 2,.arg 2),(.arg 3,.arg 3),(.arg 4,.arg 4),(.arg 5,.arg 5)] rfl (by simp[*])
 .rintro ns E1 ⟨rfl,Tt,y0,y1,y2,y3,y4,y5⟩ hU hS
  have Tk:(eD L.segs).length=(dY L.segs).length:=by simp[eD]
  rw[Tk,akg]at Tt
  have:=WE (ED fun y hy=>by simpa using Tt y hy)
  subst this
  refine gG ⟨[],[],[],.junk,[some (dZ s m n),some (bp m),some (bq (.arg 0)),some (bA s),some (bX n),some (av sp.2)],[]⟩ [(.arg 0,.arg 0),(.arg 1,.arg 1),(.arg 2,.arg 2),(.arg 3,.arg 3),(.arg 4,.arg 4),(.arg 5,.arg 5)] rfl ?_ ?_ ?_ ?_ ?_
  .simp[*]
  .simp
   omega
  .simp
  .simp
  .simp
   repeat'(first|simp[*]|refine jT (kM 141 (by decide)) ?_)
   exact kC [(.arg 0,.arg 0),(.arg 1,.arg 1),(.arg 2,.arg 2),(.arg 3,.arg 3),(.arg 4,.arg 4),(.arg 5,.arg 5)] rfl (by simp[*])
def tc(s:aw):aji 45 [bi s] (.t (int (bP s))):=by
 by_cases k1:1024<s.objs.length
 .have hv:bP s=2:=by unfold bP;rw[if_pos k1]
  rw[hv]
  obtain⟨l,calls,fl⟩:=s
  simp only at k1
  have g1:(1024:Int)<l.length:=by omega
  refine pu lC rfl ?_
  simp[kA]
  repeat'(first|simp[*]|apply aj)
  all_goals exact au rfl
 by_cases k2:1024<s.faults.length
 .have hv:bP s=2:=by unfold bP;rw[if_neg k1,if_pos k2]
  rw[hv]
  obtain⟨l,calls,fl⟩:=s
  simp only at k1 k2
  have g1:¬(1024:Int)<l.length:=by omega
  have g2:(1024:Int)<fl.length:=by omega
  have Xh:l.length<=1024:=by omega
  refine pu lC rfl ?_
  simp[kA]
  repeat'(first|simp[*]|apply aj)
  all_goals exact au rfl
 exact Eb s (by omega) (by omega)
def xp:∀l:List (Option Row),mU l l
 |[]=>trivial
 |_::l=>⟨.inl rfl,xp l⟩
def ft(n:ByteArray):Int:=if sP n=true then 0 else 1
def xq{l:List Int}(h:dx l=0):∀x∈l,x=0:=by
 unfold dx at h
 rcases pM iR l with⟨h1,h2⟩|⟨i,h1,h2,h3,h4⟩
 .intro x hx
  have:=h2 x hx
  simpa[iR]using this
 .rw[h1,if_neg (by omega)]at h
  simp only[akl,ajq h2,Option.getD_some]at h
  have:=h3 _ (ajq h2)
  rw[h]at this
  simp[iR]at this
def fI(L:Lg)(m:Mn)(s:aw)(n:ByteArray):Mn×aw×Int:=
 if dx [ft n,cj L,bH m,bP s]≠0 then(ej,fG,dx [ft n,cj L,bH m,bP s])
 else if fT (cm L m s n).2.2=true then cm L m s n else(ej,fG,(cm L m s n).2.2)
def N1(L:Lg)(m:Mn)(s:aw)(n:ByteArray)(hn:L.segs.length<=1000000)(hb:∀s∈L.segs,s.bytes.length<=900000)(hm:m.l.length<=1000000)(h1:s.objs.length<=1000000)(h2:s.faults.length<=1000000)(hp:n.size<=1000000):
  ajk 46 ⟨[],[.ptr (.arg 0) 0 0,.fn 47 tb],[is s m n,bp m,cd L,bq (.arg 0),bA s,bX n],.t (int (cm L m s n).2.2),
   [some (if fT (cm L m s n).2.2=true then is (cm L m s n).2.1 (cm L m s n).1 n else oy),some (bp m),some (cd L),some (bq (.arg 0)),some (bA s),some (bX n)],[]⟩:=by
 by_cases hz:(cm L m s n).2.2=0
 .have c1:=(NZ L m s n hn hb hm h1 h2 hp hz).rows (rows2:=[is s m n,bp m,cd L,bq (.arg 0),bA s,bX n]) (rows2':=[some (is (cm L m s n).2.1 (cm L m s n).1 n),some (bp m),some (cd L),some (bq (.arg 0)),some (bA s),some (bX n)])
   ⟨kb _ _ _,.inl rfl,.inl rfl,.inl rfl,.inl rfl,.inl rfl,trivial⟩ ⟨.inr ⟨_,_,rfl,rfl,kb _ _ _⟩,.inl rfl,.inl rfl,.inl rfl,.inl rfl,.inl rfl,trivial⟩
  have c2:=sV (n:=6) c1 rfl rfl (by decide) ?_ ?_ ?_
  .rw[hz]
   exact c2
  .simp only[tb,akd]
   exact⟨rfl,rfl,rfl,rfl,rfl,by simp⟩
  .simp only[akd]
   exact⟨rfl,rfl,rfl,rfl,rfl,rfl,by simp⟩
  .intro i r hi
   match i with
   |0=>cases hi;rfl
   |1=>cases hi;rfl
   |2=>cases hi;rfl
   |3=>cases hi;rfl
   |4=>cases hi;rfl
   |5=>cases hi;rfl
   |i+6=>simp at hi
 .have c1:=(N0 L m s n hn hb hm h1 h2 hp hz).rows (rows2:=[is s m n,bp m,cd L,bq (.arg 0),bA s,bX n]) (rows2':=[some (is (cm L m s n).2.1 (cm L m s n).1 n),some (bp m),some (cd L),some (bq (.arg 0)),some (bA s),some (bX n)])
   ⟨kb _ _ _,.inl rfl,.inl rfl,.inl rfl,.inl rfl,.inl rfl,trivial⟩ ⟨.inr ⟨_,_,rfl,rfl,kb _ _ _⟩,.inl rfl,.inl rfl,.inl rfl,.inl rfl,.inl rfl,trivial⟩
  refine w9 (n:=6) c1 rfl rfl ?_ ?_ ?_
  .simp only[tb,akd]
   exact⟨rfl,rfl,rfl,rfl,rfl,by simp⟩
  .simp only[akd]
   exact⟨rfl,rfl,rfl,rfl,rfl,rfl,by simp⟩
  .intro i r hi
   match i with
   |0=>cases hi;rfl
   |1=>cases hi;rfl
   |2=>cases hi;rfl
   |3=>cases hi;rfl
   |4=>cases hi;rfl
   |i+5=>simp at hi
def bE(L:Lg)(m:Mn)(s:aw)(n:ByteArray)(hn:L.segs.length<=1000000)(hb:∀s∈L.segs,s.bytes.length<=900000)(hm:m.l.length<=1000000)(hp:n.size<=1000000):
  aji 11 [aO L,bh m,bi s,str n] (.tup [.t (bh (fI L m s n).1),.t (bi (fI L m s n).2.1),.t (int (fI L m s n).2.2)]):=by
 have c1:=sQ n
 have c1:aji 43 [str n] (.t (int (ft n))):=c1
 have c2:=p6 L hn (fun s hs=>by have:=hb s hs;omega)
 have c3:=lQ m hm
 have c4:=tc s
 have c5:=p7 [ft n,cj L,bH m,bP s] (by simp)
 have Uf:dx [ft n,cj L,bH m,bP s]=0->bP s=0:=fun h=>xq h _ (by simp)
 have hv:fI L m s n=fI L m s n:=rfl
 conv at hv=>rhs;unfold fI
 generalize fI L m s n=r at*
 generalize ft n=e1 at*
 generalize cj L=e2 at*
 generalize bH m=e3 at*
 have hsz:=fun h=>lW (s:=s) h
 generalize bP s=e4 at*
 generalize dx [e1,e2,e3,e4]=ce at*
 simp only[ajQ,aj4]at c5
 by_cases VG:ce=0
 .rw[if_neg (by simp[VG])]at hv
  have hs:=hsz (Uf VG)
  have c6:=(N1 L m s n hn hb hm (by omega) (by omega) hp).rows (rows2:=[dZ s m n,bp m,cd L,bq (.arg 0),bA s,bX n]) ⟨(kb _ _ _).symm,.inl rfl,.inl rfl,.inl rfl,.inl rfl,.inl rfl,trivial⟩ (xp _)
  generalize cm L m s n=W at*
  subst VG
  cases hk:fT W.2.2 with
  |true=>
   rw[if_pos hk]at hv
   rw[if_pos hk]at c6
   subst hv
   refine pu vz rfl ?_
   simp[rH]
   try simp[az,ax]
   all_goals try(repeat'(first|((first|refine Up c1 rfl ?_|refine Up c2 rfl ?_|refine Up c3 rfl ?_|refine Up c4 rfl ?_|refine Up c5 rfl ?_|(refine UG (S:=[.loc 33 0,.loc 5 0,.loc 4 0,.loc 12 0,.loc 6 0,.loc 7 0]) (F:=[]) c6 ?_ ?_;(· simp[az,ax])))<;>try simp[az,ax])))
   all_goals exact j7 .rfl .rfl .rfl
  |false=>
   rw[hk]at hv c6
   simp only[ajU,ajS]at hv c6
   subst hv
   refine pu vz rfl ?_
   simp[rH]
   try simp[az,ax]
   all_goals try(repeat'(first|((first|refine Up c1 rfl ?_|refine Up c2 rfl ?_|refine Up c3 rfl ?_|refine Up c4 rfl ?_|refine Up c5 rfl ?_|(refine UG (S:=[.loc 33 0,.loc 5 0,.loc 4 0,.loc 12 0,.loc 6 0,.loc 7 0]) (F:=[]) c6 ?_ ?_;(· simp[az,ax])))<;>try simp[az,ax])))
   all_goals exact j7 gS iq .rfl
 .rw[if_pos VG]at hv
  subst hv
  refine pu vz rfl ?_
  simp[rH]
  try simp[az,ax,VG]
  all_goals try(repeat'(first|((first|refine Up c1 rfl ?_|refine Up c2 rfl ?_|refine Up c3 rfl ?_|refine Up c4 rfl ?_|refine Up c5 rfl ?_)<;>try simp[az,ax,VG])))
  all_goals exact j7 gS iq .rfl
structure Hd where
 name:ByteArray
 no:Int
 bytes:Bs
abbrev br(h:Hd):ab:= .agg [str h.name,int h.no,aS h.bytes]
structure Ca where
 cap:Int
 l:List Hd
abbrev dr(c:Ca):ab:= .agg [int c.cap,.sl 3 (c.l.map br)]
structure Ky where
 name:ByteArray
 no:Int
abbrev dQ(k:Ky):ab:= .agg [str k.name,int k.no]
abbrev m8(k:Ky):Array Value:=#[.string k.name,.int .i64 k.no]
def fv(a b:Ky):Bool:=a.name==b.name&&(a.no==b.no&&true)
def gw(l:List Hd):Int:=l.foldl (fun n h=>n+h.bytes.length) 0
def EH(l:List Hd)(h:Hd):gw (l++[h])=gw l+h.bytes.length:=by simp[gw]
def EJ(l:List Hd)(hb:∀h∈l,h.bytes.length<=1000000):∀i,i<=l.length->0<=gw (l.take i)/\gw (l.take i)<=1000000*i
 |0,_=>by simp[gw]
 |i+1,hi=>by
  have hx:=ajq (show i<l.length by omega)
  have ih:=EJ l hb i (by omega)
  have:=hb _ (ajx hx)
  rw[fO hx,EH]
  omega
def N2(l:List Hd)(hl:l.length<=1000000)(hb:∀h∈l,h.bytes.length<=1000000):aji 101 [.sl 3 (l.map br)] (.t (int (gw l))):=by
 refine pu Ku rfl ?_
 simp[B5]
 refine ba (fun E=>∃i:Nat,i<=l.length/\E.tmps 6= .t (.sl 3 (l.map br))/\E.tmps 7= .t (int l.length)/\E.tmps 8= .t (int i)/\E.tmps 3= .t (int (gw (l.take i)))) (fun E=>match E.tmps 8 with| .t (.v (.int _ i))=>l.length-i.toNat|_=>0) [] rfl ?_ ?_
 .refine⟨0,by omega,?_,?_,?_,?_⟩<;>simp[gw]
 rintro E1 ⟨i,hi,e6,e7,e8,e3⟩ hU hS A hA
 have hsz:=EJ l hb i hi
 simp[B4,e7,e8]
 refine aN (fun h=>?_) (fun h=>?_)
 .have hx:=ajq h
  obtain⟨x,Tm⟩:∃x,l[i]=x:=⟨_,rfl⟩
  rw[Tm]at hx
  have VT:gw (l.take (i+1))=gw (l.take i)+x.bytes.length:=by rw[fO hx,EH]
  have hxb:=hb x (ajx hx)
  generalize gw (l.take i)=n at*
  repeat'(first|simp[*]|simp(disch:=omega) only[wr])
  refine hA _ (aH [] rfl rfl ⟨i+1,by omega,?_,?_,?_,?_⟩ ?_)<;>first|(simp[*];done)|(simp[e8];omega)
 .have:i=l.length:=by omega
  subst this
  rw[akg]at e3
  repeat' simp[*]
  exact au rfl
def EK(h:Hd):aji 149 [br h] (.t (dQ ⟨h.name,h.no⟩)):=by
 refine pu KV rfl ?_
 simp[CH]
 skip
 exact wR (x:=dQ ⟨h.name,h.no⟩) (rd:=[]) (by simp) .rfl
def oE(k:Ky):Bool:=decide (1<=k.name.size)&&(decide (0<=k.no)&&decide (k.no<=1099511627776))
def EL(k:Ky):aji 150 [dQ k] (tt (oE k)):=by
 have hE:=wS k.name
 unfold oE
 refine pu KW rfl ?_
 simp[CI]
 by_cases hs:k.name.size=0
 .simp only[hs,decide_true]at hE
  simp[hE]
  repeat'(first|simp[*]|apply aj)
  all_goals exact au (by simp[hs])
 .simp only[hs,decide_false]at hE
  have h1:1<=k.name.size:=by omega
  simp[hE]
  by_cases h2:0<=k.no
  .repeat'(first|simp[*]|apply aj)
   all_goals exact au (by simp[h1,h2])
  .repeat'(first|simp[*]|apply aj)
   all_goals exact au (by simp[h1,h2])
def eF(h:Hd):Ky:=⟨h.name,h.no⟩
def EM(a b:Ky):aQ Tryz.prog (Op.equal 192 (.agg (m8 a)) (.agg (m8 b)))=some (fv a b):=by
 have key:∀n,aQ Tryz.prog (Op.equalIn (n+1+1) 192 (.agg (m8 a)) (.agg (m8 b)))=some (fv a b):=by
  intro n
  refine D1 Tryz.underlying192 (by kernel_rfl) (fun f=>if f.offset=0 then .string a.name else .int .i64 a.no) (fun f=>if f.offset=0 then .string b.name else .int .i64 b.no) (fun f=>if f.offset=0 then a.name==b.name else a.no==b.no) ?_
  intro f hf
  simp only[akc,List.mem_nil_iff,or_false]at hf
  rcases hf with rfl|rfl
  .exact⟨by decide,by kernel_rfl,by kernel_rfl,Ma Tryz.underlying9 _ _ _⟩
  .exact⟨by decide,by kernel_rfl,by kernel_rfl,mY Tryz.underlying3 _ _ _⟩
 exact key (Op.maxDepth-2)
abbrev cf(a:Ky):Value:= .agg (m8 a)
def lZ(e:Bool)(a:Ky):mf Tryz.prog e 192 (cf a)=true:=by
 cases e
 .kernel_rfl
 .kernel_rfl
def gU(k:Ky):List Ky->Nat->Option Nat
 |[],_=>none
 |a::l,i=>if fv k a=true then some i else gU k l (i+1)
theorem EN(k:Ky):∀(ks:List Ky) (i:Nat),(aQ Tryz.prog (Instr.findAsking 192 (cf k) ((ks.map cf).map fun x=>{key:=x,val:=undef,born:=0}) i)).map (fun r=>r.map (·.1))=some (gU k ks i)
 |[],i=>rfl
 |a::ks,i=>by
  have ih:=EN k ks (i+1)
  simp only[ajQ,Instr.findAsking]
  rw[eY,EM]
  simp only[ake]
  cases hq:fv k a with
  |true=>simp[gU,hq,wQ]
  |false=>simp only[gU,hq,ajU,ajS];exact ih
theorem EO(k:Ky)(ks:List Ky):jy Tryz.prog 192 (cf k) (ks.map cf)=some (gU k ks 0):=by
 unfold jy Instr.findKey
 rw[eY,sM Tryz.underlying192]
 simp only[ake]
 rw[<-EN k ks 0]
 cases ks with
 |nil=>rfl
 |cons a ks=>rfl
theorem EP(k:Ky):∀(l:List Ky) (i:Nat),l.any (fv k)=false->gU k l i=none
 |[],_,_=>rfl
 |a::l,i,h=>by
  simp only[List.any_cons,Bool.or_eq_false_iff]at h
  simp[gU,h.1,EP k l (i+1) h.2]
end
end Go.Wt
