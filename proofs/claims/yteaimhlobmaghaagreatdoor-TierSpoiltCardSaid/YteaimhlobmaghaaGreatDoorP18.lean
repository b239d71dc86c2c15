/- A part of the proof of a tier statement (the last text closes it): lemmas without condition. -/
import Derived.Test.YteaimhlobmaghaaGreatDoorP17
import Derived.Tactics
import Derived.Tactics2
import Derived.TacticsInMore
set_option linter.all false
set_option maxRecDepth 10000000
set_option maxHeartbeats 0
namespace Go.Wt
section
open Go.RowKit Go.Proofs Go.Lib Go.Wm
structure Pc where
 id:Int
 base:Int
 fin:Int
 size:Int
 sum:Int
 state:Int
abbrev aW(p:Pc):ab:= .agg [int p.id,int p.base,int p.fin,int p.size,eN p.sum,int p.state]
structure Mn where
 ver:Int
 next:Int
 l:List Pc
abbrev bh(m:Mn):ab:= .agg [int m.ver,int m.next,.sl 6 (m.l.map aW)]
def dO(n:Int):Bool:=decide (n<0)||decide (1099511627776<n)
def kG(n:Int):aji 97 [int n] (tt (dO n)):=by
 unfold dO
 refine pu Ks rfl ?_
 simp[B3]
 repeat'(first|simp[*]|apply aj|(apply dL<;>intro h))
 all_goals exact au rfl
def gP(next:Int):Int->Int->Bool->List Pc->Bool
 |_,_,_,[]=>true
 |last,en,op,p::l=>
  if p.id<=last then false else if next<=p.id then false else if dO p.base=true then false else if dO p.fin=true then false else if dO p.size=true then false
  else if p.fin<=p.base then false
  else if p.state=1 then(if p.base<en then false else if op=false then false else gP next p.id p.fin false l)
  else if p.state=2 then(if p.base<en then false else if op=false then false else gP next p.id p.fin true l)
  else if p.state=3 then gP next p.id en op l
  else false
def bH(m:Mn):Int:=if dO m.ver=true then 1 else if dO m.next=true then 1 else if gP m.next (-1) 0 true m.l=false then 1 else if 256<m.l.length then 2 else 0
def lQ(m:Mn)(hl:m.l.length<=1000000):aji 32 [bh m] (.t (int (bH m))):=by
 have hv:bH m=bH m:=rfl
 conv at hv=>rhs;unfold bH
 generalize bH m=r at*
 obtain⟨ver,next,l⟩:=m
 simp only at hl hv
 have c1:=kG ver
 have c2:=kG next
 generalize dO ver=b1 at*
 generalize dO next=b2 at*
 cases b1 with
 |true=>
  rw[if_pos rfl]at hv
  subst hv
  refine pu vD rfl ?_
  simp[rK,ez]
  all_goals try(repeat'(first|((first|refine aj ?_|refine Up c1 rfl ?_)<;>try simp)))
  all_goals exact au rfl
 |false=>
 cases b2 with
 |true=>
  rw[if_neg (by simp),if_pos rfl]at hv
  subst hv
  refine pu vD rfl ?_
  simp[rK,ez]
  all_goals try(repeat'(first|((first|refine aj ?_|refine Up c1 rfl ?_|refine Up c2 rfl ?_)<;>try simp)))
  all_goals exact au rfl
 |false=>
 rw[if_neg (by simp),if_neg (by simp)]at hv
 refine pu vD rfl ?_
 simp[rK,ez]
 all_goals try(repeat'(first|((first|refine aj ?_|refine Up c1 rfl ?_|refine Up c2 rfl ?_)<;>try simp)))
 refine ba (fun E=>∃(i:Nat) (last en:Int) (op:Bool),i<=l.length/\gP next (-1) 0 true l=gP next last en op (l.drop i)/\E.tmps 1= .ptr (.head 1 0) 0 0/\E.tmps 17= .t (.sl 6 (l.map aW))/\E.tmps 18= .t (int l.length)/\E.tmps 19= .t (int i)/\E.tmps 3= .t (int last)/\E.tmps 4= .t (int en)/\E.tmps 5= .t (bo op)/\E.slots (.head 1 0)=some (.box 27 (.t (bh ⟨ver,next,l⟩)) false))
   (fun E=>match E.tmps 19 with| .t (.v (.int _ i))=>l.length-i.toNat|_=>0) [(.loc 1 0,.head 1 0)] rfl ?_ ?_
 .refine⟨0,-1,0,true,by omega,rfl,?_,?_,?_,?_,?_,?_,?_,?_⟩<;>simp
 rintro E1 ⟨i,last,en,op,hi,Uh,e1,Vq,Ue,Ud,e3,e4,e5,s1⟩ hU hS A hA
 clear c1 c2
 simp[By,Ue,Ud]
 refine aN (fun h=>?_) (fun h=>?_)
 .have hx:=ajq h
  obtain⟨x,Tm⟩:∃x,l[i]=x:=⟨_,rfl⟩
  rw[Tm]at hx
  have hd:l.drop i=x::l.drop (i+1):=by
   rw[aku h,Tm]
  rw[hd]at Uh
  rw[show gP next last en op (x::l.drop (i+1))=_ from gP.eq_2 ..]at Uh
  have WC:gP next (-1) 0 true l=false->r=1:=fun hf=>by rw[hv,if_pos hf]
  have d3:=kG x.base
  have d4:=kG x.fin
  have d5:=kG x.size
  generalize gP next (-1) 0 true l=ok at*
  generalize dO x.base=b3 at*
  generalize dO x.fin=b4 at*
  generalize dO x.size=b5 at*
  by_cases k1:x.id<=last
  .rw[if_pos k1]at Uh
   rw[WC Uh]
   try simp[e1,Vq,Ue,Ud,e3,e4,e5,s1,hU,h,Tm,k1]
   all_goals try(repeat'(first|(refine aj ?_<;>try simp[e1,Vq,Ue,Ud,e3,e4,e5,s1,hU,h,Tm,k1])))
   all_goals exact au rfl
  rw[if_neg k1]at Uh
  by_cases k2:next<=x.id
  .rw[if_pos k2]at Uh
   rw[WC Uh]
   try simp[e1,Vq,Ue,Ud,e3,e4,e5,s1,hU,h,Tm,k1,k2]
   all_goals try(repeat'(first|(refine aj ?_<;>try simp[e1,Vq,Ue,Ud,e3,e4,e5,s1,hU,h,Tm,k1,k2])))
   all_goals exact au rfl
  rw[if_neg k2]at Uh
  cases b3 with
  |true=>
   rw[if_pos rfl]at Uh
   rw[WC Uh]
   try simp[e1,Vq,Ue,Ud,e3,e4,e5,s1,hU,h,Tm,k1,k2]
   all_goals try(repeat'(first|((first|refine aj ?_|refine Up d3 rfl ?_)<;>try simp[e1,Vq,Ue,Ud,e3,e4,e5,s1,hU,h,Tm,k1,k2])))
   all_goals exact au rfl
  |false=>
  rw[if_neg (by simp)]at Uh
  cases b4 with
  |true=>
   rw[if_pos rfl]at Uh
   rw[WC Uh]
   try simp[e1,Vq,Ue,Ud,e3,e4,e5,s1,hU,h,Tm,k1,k2]
   all_goals try(repeat'(first|((first|refine aj ?_|refine Up d3 rfl ?_|refine Up d4 rfl ?_)<;>try simp[e1,Vq,Ue,Ud,e3,e4,e5,s1,hU,h,Tm,k1,k2])))
   all_goals exact au rfl
  |false=>
  rw[if_neg (by simp)]at Uh
  cases b5 with
  |true=>
   rw[if_pos rfl]at Uh
   rw[WC Uh]
   try simp[e1,Vq,Ue,Ud,e3,e4,e5,s1,hU,h,Tm,k1,k2]
   all_goals try(repeat'(first|((first|refine aj ?_|refine Up d3 rfl ?_|refine Up d4 rfl ?_|refine Up d5 rfl ?_)<;>try simp[e1,Vq,Ue,Ud,e3,e4,e5,s1,hU,h,Tm,k1,k2])))
   all_goals exact au rfl
  |false=>
  rw[if_neg (by simp)]at Uh
  by_cases k6:x.fin<=x.base
  .rw[if_pos k6]at Uh
   rw[WC Uh]
   try simp[e1,Vq,Ue,Ud,e3,e4,e5,s1,hU,h,Tm,k1,k2,k6]
   all_goals try(repeat'(first|((first|refine aj ?_|refine Up d3 rfl ?_|refine Up d4 rfl ?_|refine Up d5 rfl ?_)<;>try simp[e1,Vq,Ue,Ud,e3,e4,e5,s1,hU,h,Tm,k1,k2,k6])))
   all_goals exact au rfl
  rw[if_neg k6]at Uh
  by_cases dC:x.state=1
  .rw[if_pos dC]at Uh
   by_cases k7:x.base<en
   .rw[if_pos k7]at Uh
    rw[WC Uh]
    try simp[e1,Vq,Ue,Ud,e3,e4,e5,s1,hU,h,Tm,k1,k2,k6,dC,k7,ez]
    all_goals try(repeat'(first|((first|refine aj ?_|refine Up d3 rfl ?_|refine Up d4 rfl ?_|refine Up d5 rfl ?_)<;>try simp[e1,Vq,Ue,Ud,e3,e4,e5,s1,hU,h,Tm,k1,k2,k6,dC,k7,ez])))
    all_goals exact au rfl
   rw[if_neg k7]at Uh
   cases op with
   |false=>
    rw[if_pos rfl]at Uh
    rw[WC Uh]
    try simp[e1,Vq,Ue,Ud,e3,e4,e5,s1,hU,h,Tm,k1,k2,k6,dC,k7,ez]
    all_goals try(repeat'(first|((first|refine aj ?_|refine Up d3 rfl ?_|refine Up d4 rfl ?_|refine Up d5 rfl ?_)<;>try simp[e1,Vq,Ue,Ud,e3,e4,e5,s1,hU,h,Tm,k1,k2,k6,dC,k7,ez])))
    all_goals exact au rfl
   |true=>
   rw[if_neg (by simp)]at Uh
   try simp[e1,Vq,Ue,Ud,e3,e4,e5,s1,hU,h,Tm,k1,k2,k6,dC,k7,ez]
   all_goals try(repeat'(first|((first|refine aj ?_|refine Up d3 rfl ?_|refine Up d4 rfl ?_|refine Up d5 rfl ?_|simp(disch:=omega) only[wr])<;>try simp[e1,Vq,Ue,Ud,e3,e4,e5,s1,hU,h,Tm,k1,k2,k6,dC,k7,ez])))
   refine hA _ (aH [(.head 1 0,.head 1 0)] rfl rfl ⟨i+1,x.id,x.fin,false,by omega,Uh,?_,?_,?_,?_,?_,?_,?_,?_⟩ ?_)<;>first|(simp[e1,Vq,Ue,e4,e5,s1];done)|(simp[Ud];omega)
  rw[if_neg dC]at Uh
  by_cases cK:x.state=2
  .rw[if_pos cK]at Uh
   by_cases k7:x.base<en
   .rw[if_pos k7]at Uh
    rw[WC Uh]
    try simp[e1,Vq,Ue,Ud,e3,e4,e5,s1,hU,h,Tm,k1,k2,k6,dC,cK,k7,ez]
    all_goals try(repeat'(first|((first|refine aj ?_|refine Up d3 rfl ?_|refine Up d4 rfl ?_|refine Up d5 rfl ?_)<;>try simp[e1,Vq,Ue,Ud,e3,e4,e5,s1,hU,h,Tm,k1,k2,k6,dC,cK,k7,ez])))
    all_goals exact au rfl
   rw[if_neg k7]at Uh
   cases op with
   |false=>
    rw[if_pos rfl]at Uh
    rw[WC Uh]
    try simp[e1,Vq,Ue,Ud,e3,e4,e5,s1,hU,h,Tm,k1,k2,k6,dC,cK,k7,ez]
    all_goals try(repeat'(first|((first|refine aj ?_|refine Up d3 rfl ?_|refine Up d4 rfl ?_|refine Up d5 rfl ?_)<;>try simp[e1,Vq,Ue,Ud,e3,e4,e5,s1,hU,h,Tm,k1,k2,k6,dC,cK,k7,ez])))
    all_goals exact au rfl
   |true=>
   rw[if_neg (by simp)]at Uh
   try simp[e1,Vq,Ue,Ud,e3,e4,e5,s1,hU,h,Tm,k1,k2,k6,dC,cK,k7,ez]
   all_goals try(repeat'(first|((first|refine aj ?_|refine Up d3 rfl ?_|refine Up d4 rfl ?_|refine Up d5 rfl ?_|simp(disch:=omega) only[wr])<;>try simp[e1,Vq,Ue,Ud,e3,e4,e5,s1,hU,h,Tm,k1,k2,k6,dC,cK,k7,ez])))
   refine hA _ (aH [(.head 1 0,.head 1 0)] rfl rfl ⟨i+1,x.id,x.fin,true,by omega,Uh,?_,?_,?_,?_,?_,?_,?_,?_⟩ ?_)<;>first|(simp[e1,Vq,Ue,e4,e5,s1];done)|(simp[Ud];omega)
  rw[if_neg cK]at Uh
  by_cases gY:x.state=3
  .rw[if_pos gY]at Uh
   try simp[e1,Vq,Ue,Ud,e3,e4,e5,s1,hU,h,Tm,k1,k2,k6,dC,cK,gY,ez]
   all_goals try(repeat'(first|((first|refine aj ?_|refine Up d3 rfl ?_|refine Up d4 rfl ?_|refine Up d5 rfl ?_|simp(disch:=omega) only[wr])<;>try simp[e1,Vq,Ue,Ud,e3,e4,e5,s1,hU,h,Tm,k1,k2,k6,dC,cK,gY,ez])))
   refine hA _ (aH [(.head 1 0,.head 1 0)] rfl rfl ⟨i+1,x.id,en,op,by omega,Uh,?_,?_,?_,?_,?_,?_,?_,?_⟩ ?_)<;>first|(simp[e1,Vq,Ue,e4,e5,s1];done)|(simp[Ud];omega)
  rw[if_neg gY]at Uh
  rw[WC Uh]
  try simp[e1,Vq,Ue,Ud,e3,e4,e5,s1,hU,h,Tm,k1,k2,k6,dC,cK,gY,ez]
  all_goals try(repeat'(first|((first|refine aj ?_|refine Up d3 rfl ?_|refine Up d4 rfl ?_|refine Up d5 rfl ?_)<;>try simp[e1,Vq,Ue,Ud,e3,e4,e5,s1,hU,h,Tm,k1,k2,k6,dC,cK,gY,ez])))
  all_goals exact au rfl
 .have:i=l.length:=by omega
  subst this
  rw[List.drop_length]at Uh
  simp only[gP]at Uh
  rw[Uh,if_neg (by simp)]at hv
  subst hv
  try simp[e1,Vq,Ue,Ud,s1,hU]
  all_goals try(repeat'(first|(apply aN<;>intro h<;>try simp[e1,Vq,Ue,Ud,s1,hU,h])))
  all_goals first
   |(rw[if_pos (by omega)];exact au rfl)
   |(rw[if_neg (by omega)];exact au rfl)
abbrev av(n:Int):Row:= .box 3 (.t (int n)) false
def DX(n:Int):ajj 124 [int n] (.fn 208 [.ptr (.loc 0 0) 0 0]) (av n):=by
 refine pO KO rfl ?_
 simp[Cx]
 refine pt (.loc 1 0) rfl ?_ (fun _=>rfl) ?_
 .simp
 .simp
def fR(n:Int)(p:Pc):Bool:=decide (p.state=n)
def DY(n:Int)(p:Pc):ajk 208 ⟨[],[.t (aW p),.ptr (.arg 0) 0 0],[av n],.t (bo (fR n p)),[some (av n)],[]⟩:=by
 unfold fR
 refine aJ Ji rfl ?_
 simp[At]
 skip
 exact ug [(.arg 0,.arg 0)] rfl (by simp[*]) .rfl
def L6(n:Int)(l:List Pc)(hl:l.length<=1000000):ajk 98 ⟨[],[.t (.sl 6 (l.map aW)),.fn 208 [.ptr (.arg 0) 0 0]],[av n],.t (int (bf (fR n) l)),[some (av n)],[]⟩:=by
 refine aJ nX rfl ?_
 simp[mS]
 refine ba (fun E=>∃(i:Nat),i<=l.length/\E.tmps 8= .t (int i)/\E.tmps 7= .t (int l.length)/\E.tmps 0= .t (.sl 6 (l.map aW))/\E.tmps 1= .fn 208 [.ptr (.arg 0) 0 0]/\E.slots (.arg 0)=some (av n)/\(∀(j:Nat) (x:Pc),j<i->l[j]?=some x->(fR n) x=false)) (fun E=>match E.tmps 8 with| .t (.v (.int _ i))=>l.length-i.toNat|_=>0) [(.arg 0,.arg 0)] rfl ?_ ?_
 .refine⟨0,by omega,?_,?_,?_,?_,?_,fun j x hj=>by omega⟩<;>simp
 rintro E1 ⟨i,hi,e8,e7,e0,e1,s0,hb⟩ hU hS A hA
 simp[mR,e8,e7]
 refine aN (fun h=>?_) (fun h=>?_)
 .have hx:=ajq h
  obtain⟨x,Tm⟩:∃x,l[i]=x:=⟨_,rfl⟩
  rw[Tm]at hx
  have TN:=ajx hx
  have c1:=DY n x
  cases TJ:(fR n) x with
  |true=>
   rw[TJ]at c1
   repeat'(first|simp[*,s0,h]|refine UR (S:=[.arg 0]) c1 ?_ ?_)
   refine ug [(.arg 0,.arg 0)] rfl (by simp[*]) ?_
   .rw[fE hx hb TJ]
    exact .rfl
  |false=>
   rw[TJ]at c1
   repeat'(first|simp[*,s0,h]|refine UR (S:=[.arg 0]) c1 ?_ ?_|simp(disch:=omega) only[wr])
   refine hA _ (aH [(.arg 0,.arg 0)] rfl rfl ⟨i+1,by omega,?_,?_,?_,?_,?_,fun j y hj hy=>?_⟩ ?_)
   .simp
   .simp[e7]
   .simp[e0]
   .simp[e1]
   .simp[s0]
   .by_cases Uk:j=i
    .subst Uk
     rw[hx]at hy
     cases hy
     exact TJ
    .exact hb j y (by omega) hy
   .simp[e8]
    omega
 .repeat' simp[*,s0,h]
  refine ug [(.arg 0,.arg 0)] rfl (by simp[*]) ?_
  .rw[fP fun j x hx=>hb j x (by have:=(ajs.1 hx).1;omega) hx]
   exact .rfl
def L7(n:Int)(l:List Pc)(hl:l.length<=1000000):ajk 70 ⟨[],[.t (.sl 6 (l.map aW)),.fn 208 [.ptr (.arg 0) 0 0]],[av n],.t (bo (l.any (fR n))),[some (av n)],[]⟩:=by
 have c1:=L6 n l hl
 refine aJ vN rfl ?_
 rw[<-mI]
 generalize bf (fR n) l=r at*
 simp[rM]
 repeat'(first|simp[*]|refine UR (S:=[.arg 0]) c1 ?_ ?_)
 exact ug [(.arg 0,.arg 0)] rfl (by simp[*]) .rfl
def kH(off:Int)(p:Pc):Bool:=decide (p.state=2)&&(decide (p.base<=off)&&decide (off<p.fin))
def L8(n:Int)(p:Pc):ajk 99 ⟨[],[.t (aW p),.ptr (.arg 0) 0 0],[av n],.t (bo (kH n p)),[some (av n)],[]⟩:=by
 unfold kH
 refine aJ Kt rfl ?_
 by_cases h1:p.state=2
 .by_cases h2:p.base<=n
  .simp[rU]
   repeat'(first|simp[*]|apply aj)
   refine ug [(.arg 0,.arg 0)] rfl (by simp[*]) ?_
   .simp
    exact .rfl
  .simp[rU]
   repeat'(first|simp[*]|apply aj)
   refine ug [(.arg 0,.arg 0)] rfl (by simp[*]) ?_
   .simp
    exact .rfl
 .simp[rU]
  repeat'(first|simp[*]|apply aj)
  refine ug [(.arg 0,.arg 0)] rfl (by simp[*]) ?_
  .simp
   exact .rfl
def L9(n:Int)(l:List Pc)(hl:l.length<=1000000):ajk 98 ⟨[],[.t (.sl 6 (l.map aW)),.fn 99 [.ptr (.arg 0) 0 0]],[av n],.t (int (bf (kH n) l)),[some (av n)],[]⟩:=by
 refine aJ nX rfl ?_
 simp[mS]
 refine ba (fun E=>∃(i:Nat),i<=l.length/\E.tmps 8= .t (int i)/\E.tmps 7= .t (int l.length)/\E.tmps 0= .t (.sl 6 (l.map aW))/\E.tmps 1= .fn 99 [.ptr (.arg 0) 0 0]/\E.slots (.arg 0)=some (av n)/\(∀(j:Nat) (x:Pc),j<i->l[j]?=some x->(kH n) x=false)) (fun E=>match E.tmps 8 with| .t (.v (.int _ i))=>l.length-i.toNat|_=>0) [(.arg 0,.arg 0)] rfl ?_ ?_
 .refine⟨0,by omega,?_,?_,?_,?_,?_,fun j x hj=>by omega⟩<;>simp
 rintro E1 ⟨i,hi,e8,e7,e0,e1,s0,hb⟩ hU hS A hA
 simp[mR,e8,e7]
 refine aN (fun h=>?_) (fun h=>?_)
 .have hx:=ajq h
  obtain⟨x,Tm⟩:∃x,l[i]=x:=⟨_,rfl⟩
  rw[Tm]at hx
  have TN:=ajx hx
  have c1:=L8 n x
  cases TJ:(kH n) x with
  |true=>
   rw[TJ]at c1
   repeat'(first|simp[*,s0,h]|refine UR (S:=[.arg 0]) c1 ?_ ?_)
   refine ug [(.arg 0,.arg 0)] rfl (by simp[*]) ?_
   .rw[fE hx hb TJ]
    exact .rfl
  |false=>
   rw[TJ]at c1
   repeat'(first|simp[*,s0,h]|refine UR (S:=[.arg 0]) c1 ?_ ?_|simp(disch:=omega) only[wr])
   refine hA _ (aH [(.arg 0,.arg 0)] rfl rfl ⟨i+1,by omega,?_,?_,?_,?_,?_,fun j y hj hy=>?_⟩ ?_)
   .simp
   .simp[e7]
   .simp[e0]
   .simp[e1]
   .simp[s0]
   .by_cases Uk:j=i
    .subst Uk
     rw[hx]at hy
     cases hy
     exact TJ
    .exact hb j y (by omega) hy
   .simp[e8]
    omega
 .repeat' simp[*,s0,h]
  refine ug [(.arg 0,.arg 0)] rfl (by simp[*]) ?_
  .rw[fP fun j x hx=>hb j x (by have:=(ajs.1 hx).1;omega) hx]
   exact .rfl
def DZ:Pc:=⟨0,0,0,0,0,0⟩
def eQ(m:Mn)(off:Int):Pc×Bool:=if bf (kH off) m.l<0 then(DZ,false)else((m.l[(bf (kH off) m.l).toNat]?).getD DZ,true)
def D0(m:Mn)(off:Int)(hl:m.l.length<=1000000):aji 33 [bh m,int off] (.tup [.t (aW (eQ m off).1),.t (bo (eQ m off).2)]):=by
 have c1:=L9 off m.l hl
 have UA:=lw (kH off) m.l
 have hv:eQ m off=eQ m off:=rfl
 conv at hv=>rhs;unfold eQ
 generalize eQ m off=r at*
 generalize bf (kH off) m.l=ix at*
 by_cases hi:ix<0
 .rw[if_pos hi]at hv
  subst hv
  refine pu Bz rfl ?_
  simp[vE]
  repeat'(first|simp[*]|refine UR (S:=[.loc 3 0]) c1 ?_ ?_)
  all_goals exact kr rfl rfl
 .rw[if_neg hi]at hv
  obtain⟨i,rfl⟩:=akp (show 0<=ix by omega)
  have TC:i<m.l.length:=by omega
  have hx:=ajq TC
  obtain⟨x,Tm⟩:∃x,m.l[i]=x:=⟨_,rfl⟩
  rw[Tm]at hx
  simp only[akl,hx,Option.getD_some]at hv
  subst hv
  refine pu Bz rfl ?_
  simp[vE]
  repeat'(first|simp[*]|refine UR (S:=[.loc 3 0]) c1 ?_ ?_)
  all_goals exact kr rfl rfl
end
section
open Go.RowKit Go.Proofs Go.Lib
theorem sL{P:Program}:aQ P program=some P:=rfl
def sM{P:Program}{t:TypeId}{d:TypeDesc}(h:P.underlying t=some d):aQ P (underlying t)=some d:=by
 unfold underlying
 rw[eY,sL]
 simp only[ake,h]
 rfl
theorem wQ{P:Program}{α:Type}(a:α):aQ P (pure a:Sem α)=some a:=rfl
def Ma{P:Program}{t:TypeId}(h:P.underlying t=some .string)(d:Nat)(a b:ByteArray):aQ P (Op.equalIn (d+1) t (.string a) (.string b))=some (a==b):=by
 unfold Op.equalIn
 rw[eY,sM h]
 rfl
def mY{P:Program}{t:TypeId}{k:IntKind}(h:P.underlying t=some (.int k))(d:Nat)(a b:Int):aQ P (Op.equalIn (d+1) t (.int k a) (.int k b))=some (a==b):=by
 unfold Op.equalIn
 rw[eY,sM h]
 simp only[ake,if_true]
 rfl
theorem D1{P:Program}{t:TypeId}{fs:Array Field}(hu:P.underlying t=some (.struct fs))(hs:P.stoodInHeld t=false){d:Nat}{xs ys:Array Value}(x y:Field->Value)(e:Field->Bool)
  (h:∀f∈fs.toList,f.name≠ "_" /\aQ P (part f.type xs f.offset)=some (x f)/\aQ P (part f.type ys f.offset)=some (y f)/\aQ P (Op.equalIn d f.type (x f) (y f))=some (e f)):
  aQ P (Op.equalIn (d+1) t (.agg xs) (.agg ys))=some (fs.toList.all e):=by
 unfold Op.equalIn
 rw[eY,sM hu]
 simp only[ake]
 rw[eY,sL]
 simp only[ake,hs,ajU,ajS]
 rw[eY,<-Array.forIn_toList]
 have key:∀(l:List Field),(∀f∈l,f∈fs.toList)->aQ P (forIn l ((none:Option Bool),()) fun f __s=>(if f.name≠ "_" then do
          let V3<-part f.type xs f.offset
          let XU<-part f.type ys f.offset
          let V3<-Op.equalIn d f.type V3 XU
          if(!V3)=true then pure (ForInStep.done (some false,()))
           else pure (ForInStep.yield (none,()))
         else pure (ForInStep.yield (none,())):Sem (ForInStep (Option Bool×Unit))))=some (if l.all e=true then(none,())else(some false,())):=by
  intro l hl
  induction l with
  |nil=>rfl
  |cons f l ih=>
   obtain⟨h1,h2,h3,h4⟩:=h f (hl f ajK)
   rw[List.forIn_cons,eY,if_pos h1,eY,h2]
   simp only[ake]
   rw[eY,h3]
   simp only[ake]
   rw[eY,h4]
   simp only[ake]
   have ih:=ih fun g hg=>hl g (ajW _ hg)
   cases he:e f with
   |false=>simp[he,wQ]
   |true=>
    simp only[he,Bool.not_true,ajU,ajS,wQ,ake,List.all_cons,Bool.true_and]
    exact ih
 rw[key _ fun _ hf=>hf]
 simp only[ake]
 cases fs.toList.all e<;>rfl
def D2{P:Program}{t:TypeId}(hq:P.eqGuardType P.depth t=false){x y:Operand}{d1 d2:DV}{xs ys:Array Value}{e:Bool}
  (h:aX P .eql t x y d1 d2=bU (aQ P (do eqGuard .eql t x y (.agg xs) (.agg ys);binOp .eql t (.agg xs) (.agg ys)))) (he:aQ P (Op.equal t (.agg xs) (.agg ys))=some e):aX P .eql t x y d1 d2=val (tt e):=by
 rw[h,eY]
 have hg:aQ P (eqGuard .eql t x y (.agg xs) (.agg ys))=some ():=by
  simp only[eqGuard,Bool.not_true,Bool.false_eq_true,if_false]
  rw[eY,sL]
  simp only[ake]
  rw[eY,sL]
  simp only[ake,hq]
  rfl
 have hb:aQ P (binOp .eql t (.agg xs) (.agg ys))=some (.bool e):=by
  have e:binOp .eql t (.agg xs) (.agg ys)=(do pure (.bool (<-Op.equal t (.agg xs) (.agg ys)))):=rfl
  rw[e,eY,he]
  rfl
 rw[hg,ake,hb]
 rfl
section
variable{E:aa}{ts:List ab}
def dp{ds:List DV}{x:ab}{rd:List Nm}(hv:E.view (.agg ds)=some (x,rd)):E.out1 [] (.agg ds)= .t x:=by
 have Tt:rd.all (fun s=>(([]:List (Nm×Nm)).lookup s).isNone)=true:=by simp[ajR]
 show(match E.view (.agg ds)with|some (x,rd)=>if rd.all (fun s=>(([]:List (Nm×Nm)).lookup s).isNone)=true then DV.t x else(DV.agg ds).ren []|none=>(DV.agg ds).ren [])=_
 rw[hv]
 simp only[Tt,if_true]
def bn(x:ab):E.out1 [] (.t x)= .t x:=by simp
def sN{ds:List DV}{x x' y y':ab}{rd:List Nm}(hv:E.view (.agg ds)=some (x,rd))(hx:aE x x')(hy:aE y y'):Ends (de ts (.tup [.t x',.t y'])) (.tup [.agg ds,.t y]) E:=by
 refine jP ?_
 show bZ (.tup [E.out1 [] (.agg ds),E.out1 [] (.t y)]) _
 rw[dp hv,bn]
 exact .tup2 (.t hx) (.t hy)
def wR{ds:List DV}{x x':ab}{rd:List Nm}(hv:E.view (.agg ds)=some (x,rd))(hx:aE x x'):Ends (de ts (.t x')) (.agg ds) E:=by
 refine jP ?_
 show bZ (E.out1 [] (.agg ds)) _
 rw[dp hv]
 exact .t hx
def lR{x x' y y':ab}(hx:aE x x')(hy:aE y y'):Ends (de ts (.tup [.t x',.t y'])) (.tup [.t x,.t y]) E:=by
 refine jP ?_
 show bZ (.tup [E.out1 [] (.t x),E.out1 [] (.t y)]) _
 rw[bn,bn]
 exact .tup2 (.t hx) (.t hy)
end
def aE.refl'{x y:ab}(h:x=y):aE x y:=h▸.rfl
def D3{E:aa}{S F:List Nm}{d:Nat}{K K':aa->Prop}{E3:aa}(h:∀E,K E->K' E)(hd:eb E S F d K E3):eb E S F d K' E3:=by
 obtain⟨k',ρ,h1,h2,h3,h4⟩:=hd
 exact⟨k',ρ,h1,h2,h3,h _ h4⟩
theorem wS(s:ByteArray):s.toList.isEmpty=decide (s.size=0):=by
 rw[Go.ByteArray.toList_eq]
 have hs:s.size=s.data.toList.length:=rfl
 rw[hs]
 cases s.data.toList with
 |nil=>rfl
 |cons a l=>exact(decide_eq_false (Nat.succ_ne_zero _)).symm
end
section
open Go.RowKit Go.Proofs Go.Lib Go.Wm
def D4(x y:Operand)(a b:Bool):aX Tryz.prog .eql 4 x y (tt a) (tt b)=val (tt (a==b)):=by
 have h:∀x y,aX Tryz.prog .eql 4 x y (tt a) (tt b)=bU (aQ Tryz.prog (binOp .eql 4 (.bool a) (.bool b))):=fun x y=>rfl
 have h1:bU (aQ Tryz.prog (binOp .eql 4 (.bool true) (.bool true)))=val (tt true):=by kernel_rfl
 have h2:bU (aQ Tryz.prog (binOp .eql 4 (.bool true) (.bool false)))=val (tt false):=by kernel_rfl
 have h3:bU (aQ Tryz.prog (binOp .eql 4 (.bool false) (.bool true)))=val (tt false):=by kernel_rfl
 have h4:bU (aQ Tryz.prog (binOp .eql 4 (.bool false) (.bool false)))=val (tt true):=by kernel_rfl
 revert h
 cases a<;>cases b<;>intro h
 .exact(h x y).trans h4
 .exact(h x y).trans h3
 .exact(h x y).trans h2
 .exact(h x y).trans h1
def Mb(r:Int):aji 182 [.v (.int .i32 r)] (tt (bif decide (r<33)then true else decide (126<r))):=by
 refine pu IX rfl ?_
 simp[zX]
 repeat'(first|simp[*]|apply aj|(apply dL<;>intro h))
 all_goals exact au rfl
def Mc(r:Int):aji 114 [.v (.int .i32 r)] (tt (bif decide (r<33)then true else decide (126<r))):=by
 refine pu KE rfl ?_
 simp[Cm]
 repeat'(first|simp[*]|apply aj|(apply dL<;>intro h))
 all_goals exact au rfl
def Md(s:ByteArray):ajn 254 [.t (str s),.fn 182 [],tt true] (.t (int (ii s.data.toList))):=by
 refine lH AU rfl ?_
 simp[vt,bR,oT]
 refine ba (fun E=>∃(i:Nat),i<=s.size/\E.tmps 10= .ptr (.head 1 0) 0 0/\E.slots (.head 1 0)=some (.obj (.it s i) false)/\E.tmps 1= .fn 182 []/\E.tmps 2=tt true/\(∀j,j<i->dE (s.data.toList.getD j 0)=true)) (fun E=>match E.slots (.head 1 0)with|some (.obj (.it _ i) _)=>s.size-i|_=>0) [(.loc 10 0,.head 1 0)] rfl ?_ ?_
 .simp[bR]
  exact⟨0,by omega,rfl,by simp⟩
 rintro E1 ⟨i,hi,Vb,es,e1,e2,hb⟩ hU hS A hA
 by_cases h:i<s.size
 .simp[*,pC,es,kj,h]
  refine uX (Mb _) rfl ?_
  simp[e1,e2,D4]
  have hg:=zP s i h
  refine kq (fun h2=>?_) (fun h2=>?_)
  .refine kx ?_
   have abf:dE (s.data.toList.getD i 0)=false:=by
    rw[hg]
    by_cases Vm:(s.get! i).toNat<128
    .rw[rz Vm]at h2
     simp only[Bool.or_eq_true,akk]at h2
     simp only[dE,Bool.and_eq_false_iff,decide_eq_false_iff_not]
     omega
    .simp only[dE,Bool.and_eq_false_iff,decide_eq_false_iff_not]
     omega
   have hl:i<s.data.toList.length:=by simpa using h
   have:=u6 s.data.toList i hl hb (by simpa[aj5,ajq hl]using abf)
   simp[this]
  .have Vm:(s.get! i).toNat<128:=by
    refine Classical.byContradiction fun hh=>?_
    have:=decode_high hh
    simp only[Bool.or_eq_false_iff,decide_eq_false_iff_not]at h2
    omega
   have hd:=rz Vm
   rw[hd]at h2
   simp only[Bool.or_eq_false_iff,decide_eq_false_iff_not]at h2
   refine hA _ (aH [(.head 1 0,.head 1 0)] rfl rfl ⟨i+1,by omega,?_,?_,?_,?_,fun j hj=>?_⟩ ?_)
   .simp[Vb]
   .simp[hd,OR.ren]
   .simp[e1]
   .simp[e2]
   .by_cases Uk:j=i
    .subst Uk
     rw[hg]
     simp only[dE,ajT,akk]
     omega
    .exact hb j (by omega)
   .simp[hd,es,OR.ren]
    omega
 .simp[pC,Vb,es,kj,h]
  refine kx ?_
  have Tt:s.data.toList.all dE=true:=by
   rw[ajR]
   intro x hx
   obtain⟨j,hj,rfl⟩:=ajL hx
   have:=hb j (by have:j<s.size:=(by simpa using hj);omega)
   simpa[aj5,ajq hj]using this
  simp[u5 _ Tt]
def Me(s:ByteArray):ajn 202 [.t (str s),.fn 182 []] (.t (int (ii s.data.toList))):=by
 refine lH Ao rfl ?_
 simp[vl,bR]
 refine lu (Md s) rfl rfl ?_
 simp
 refine kx ?_
 simp
def Mf(s:ByteArray):ajn 113 [.t (str s),.fn 182 []] (tt (!s.data.toList.all dE)):=by
 refine lH Cl rfl ?_
 simp[wc,bR]
 refine lu (Me s) rfl rfl ?_
 simp
 refine kx ?_
 simp[u7]
def Mg(s:ByteArray):ajn 254 [.t (str s),.fn 114 [],tt true] (.t (int (ii s.data.toList))):=by
 refine lH AU rfl ?_
 simp[vt,bR,oT]
 refine ba (fun E=>∃(i:Nat),i<=s.size/\E.tmps 10= .ptr (.head 1 0) 0 0/\E.slots (.head 1 0)=some (.obj (.it s i) false)/\E.tmps 1= .fn 114 []/\E.tmps 2=tt true/\(∀j,j<i->dE (s.data.toList.getD j 0)=true)) (fun E=>match E.slots (.head 1 0)with|some (.obj (.it _ i) _)=>s.size-i|_=>0) [(.loc 10 0,.head 1 0)] rfl ?_ ?_
 .simp[bR]
  exact⟨0,by omega,rfl,by simp⟩
 rintro E1 ⟨i,hi,Vb,es,e1,e2,hb⟩ hU hS A hA
 by_cases h:i<s.size
 .simp[*,pC,es,kj,h]
  refine uX (Mc _) rfl ?_
  simp[e1,e2,D4]
  have hg:=zP s i h
  refine kq (fun h2=>?_) (fun h2=>?_)
  .refine kx ?_
   have abf:dE (s.data.toList.getD i 0)=false:=by
    rw[hg]
    by_cases Vm:(s.get! i).toNat<128
    .rw[rz Vm]at h2
     simp only[Bool.or_eq_true,akk]at h2
     simp only[dE,Bool.and_eq_false_iff,decide_eq_false_iff_not]
     omega
    .simp only[dE,Bool.and_eq_false_iff,decide_eq_false_iff_not]
     omega
   have hl:i<s.data.toList.length:=by simpa using h
   have:=u6 s.data.toList i hl hb (by simpa[aj5,ajq hl]using abf)
   simp[this]
  .have Vm:(s.get! i).toNat<128:=by
    refine Classical.byContradiction fun hh=>?_
    have:=decode_high hh
    simp only[Bool.or_eq_false_iff,decide_eq_false_iff_not]at h2
    omega
   have hd:=rz Vm
   rw[hd]at h2
   simp only[Bool.or_eq_false_iff,decide_eq_false_iff_not]at h2
   refine hA _ (aH [(.head 1 0,.head 1 0)] rfl rfl ⟨i+1,by omega,?_,?_,?_,?_,fun j hj=>?_⟩ ?_)
   .simp[Vb]
   .simp[hd,OR.ren]
   .simp[e1]
   .simp[e2]
   .by_cases Uk:j=i
    .subst Uk
     rw[hg]
     simp only[dE,ajT,akk]
     omega
    .exact hb j (by omega)
   .simp[hd,es,OR.ren]
    omega
 .simp[pC,Vb,es,kj,h]
  refine kx ?_
  have Tt:s.data.toList.all dE=true:=by
   rw[ajR]
   intro x hx
   obtain⟨j,hj,rfl⟩:=ajL hx
   have:=hb j (by have:j<s.size:=(by simpa using hj);omega)
   simpa[aj5,ajq hj]using this
  simp[u5 _ Tt]
def Mh(s:ByteArray):ajn 202 [.t (str s),.fn 114 []] (.t (int (ii s.data.toList))):=by
 refine lH Ao rfl ?_
 simp[vl,bR]
 refine lu (Mg s) rfl rfl ?_
 simp
 refine kx ?_
 simp
def Mi(s:ByteArray):ajn 113 [.t (str s),.fn 114 []] (tt (!s.data.toList.all dE)):=by
 refine lH Cl rfl ?_
 simp[wc,bR]
 refine lu (Mh s) rfl rfl ?_
 simp
 refine kx ?_
 simp[u7]
def dX(s:ByteArray):Bool:=decide (1<=s.size)&&decide (s.size<=64)&&s.data.toList.all dE
def sO(s:ByteArray):aji 92 [str s] (tt (dX s)):=by
 have c1:=Mf s
 have hE:=wS s
 unfold dX
 generalize s.data.toList.all dE=b at*
 refine pu Ko rfl ?_
 simp[B0]
 by_cases hs:s.size=0
 .simp only[hs,decide_true]at hE
  simp[hE]
  repeat'(first|simp[*]|apply aj)
  all_goals exact au (by simp[hs])
 .simp only[hs,decide_false]at hE
  have h1:1<=s.size:=by omega
  by_cases h2:s.size<=64
  .have h3:(s.size:Int)<=64:=by omega
   have h4:¬(64:Int)<s.size:=by omega
   simp[hE]
   cases b with
   |true=>
    repeat'(first|simp[*,h3]|apply aj|refine lu c1 rfl rfl ?_)
    all_goals exact au (by simp[h1,h2])
   |false=>
    repeat'(first|simp[*,h3]|apply aj|refine lu c1 rfl rfl ?_)
    all_goals exact au (by simp[h1,h2])
  .have h3:¬(s.size:Int)<=64:=by omega
   have h4:(64:Int)<s.size:=by omega
   simp[hE]
   repeat'(first|simp[*,h3]|apply aj)
   all_goals exact au (by simp[h2])
def sP(s:ByteArray):Bool:=decide (1<=s.size)&&decide (s.size<=50)&&s.data.toList.all dE
def sQ(s:ByteArray):aji 43 [str s] (.t (int (if sP s=true then 0 else 1))):=by
 have c1:=Mi s
 have hE:=wS s
 unfold sP
 generalize s.data.toList.all dE=b at*
 refine pu Ka rfl ?_
 simp[BI]
 by_cases hs:s.size=0
 .simp only[hs,decide_true]at hE
  simp[hE]
  repeat'(first|simp[*]|apply aj)
  all_goals exact au (by simp[hs])
 .simp only[hs,decide_false]at hE
  have h1:1<=s.size:=by omega
  by_cases h2:s.size<=50
  .have h3:(s.size:Int)<=50:=by omega
   have h4:¬(50:Int)<s.size:=by omega
   simp[hE]
   cases b with
   |true=>
    repeat'(first|simp[*,h3]|apply aj|refine lu c1 rfl rfl ?_)
    all_goals exact au (by simp[h1,h2])
   |false=>
    repeat'(first|simp[*,h3]|apply aj|refine lu c1 rfl rfl ?_)
    all_goals exact au (by simp[h1,h2])
  .have h3:¬(s.size:Int)<=50:=by omega
   have h4:(50:Int)<s.size:=by omega
   simp[hE]
   repeat'(first|simp[*,h3]|apply aj)
   all_goals exact au (by simp[h2])
def iR(n:Int):Bool:=!decide (n=0)
def Mj(n:Int):aji 112 [int n] (tt (iR n)):=by
 unfold iR
 refine pu KD rfl ?_
 simp[Ck]
 skip
 all_goals exact au rfl
def Mk(l:List Int)(hl:l.length<=1000000):ajk 111 ⟨[],[.t (.sl 1 (l.map (fun n=>int n))),.fn 112 []],[],.t (int (bf iR l)),[],[]⟩:=by
 refine aJ KC rfl ?_
 simp[Cj]
 refine ba (fun E=>∃(i:Nat),i<=l.length/\E.tmps 8= .t (int i)/\E.tmps 7= .t (int l.length)/\E.tmps 0= .t (.sl 1 (l.map (fun n=>int n)))/\E.tmps 1= .fn 112 []/\(∀(j:Nat) (x:Int),j<i->l[j]?=some x->iR x=false)) (fun E=>match E.tmps 8 with| .t (.v (.int _ i))=>l.length-i.toNat|_=>0) [] rfl ?_ ?_
 .refine⟨0,by omega,?_,?_,?_,?_,fun j x hj=>by omega⟩<;>simp
 rintro E1 ⟨i,hi,e8,e7,e0,e1,hb⟩ hU hS A hA
 simp[Ci,e8,e7]
 refine aN (fun h=>?_) (fun h=>?_)
 .have hx:=ajq h
  obtain⟨x,Tm⟩:∃x,l[i]=x:=⟨_,rfl⟩
  rw[Tm]at hx
  have TN:=ajx hx
  have c1:=Mj x
  cases TJ:iR x with
  |true=>
   rw[TJ]at c1
   repeat'(first|simp[*]|refine Up c1 rfl ?_)
   refine ug [] rfl (by simp[*]) ?_
   .rw[fE hx hb TJ]
    exact .rfl
  |false=>
   rw[TJ]at c1
   repeat'(first|simp[*]|refine Up c1 rfl ?_|simp(disch:=omega) only[wr])
   refine hA _ (aH [] rfl rfl ⟨i+1,by omega,?_,?_,?_,?_,fun j y hj hy=>?_⟩ ?_)
   .simp
   .simp[e7]
   .simp[e0]
   .simp[e1]
   .by_cases Uk:j=i
    .subst Uk
     rw[hx]at hy
     cases hy
     exact TJ
    .exact hb j y (by omega) hy
   .simp[e8]
    omega
 .repeat' simp[*]
  refine ug [] rfl (by simp[*]) ?_
  .rw[fP fun j x hx=>hb j x (by have:=(ajs.1 hx).1;omega) hx]
   exact .rfl
def dx(l:List Int):Int:=if bf iR l<0 then 0 else(l[(bf iR l).toNat]?).getD 0
def p7(l:List Int)(hl:l.length<=1000000):aji 42 [.sl 1 (l.map fun n=>int n)] (.t (int (dx l))):=by
 have c1:=Mk l hl
 have UA:=lw iR l
 have hv:dx l=dx l:=rfl
 conv at hv=>rhs;unfold dx
 generalize dx l=r at*
 generalize bf iR l=ix at*
 by_cases hi:ix<0
 .rw[if_pos hi]at hv
  subst hv
  refine pu BH rfl ?_
  simp[vG]
  repeat'(first|simp[*]|refine UR (S:=[]) c1 ?_ ?_)
  all_goals exact au rfl
 .rw[if_neg hi]at hv
  obtain⟨i,rfl⟩:=akp (show 0<=ix by omega)
  have TC:i<l.length:=by omega
  have hx:=ajq TC
  obtain⟨x,Tm⟩:∃x,l[i]=x:=⟨_,rfl⟩
  rw[Tm]at hx
  simp only[akl,hx,Option.getD_some]at hv
  subst hv
  refine pu BH rfl ?_
  simp[vG]
  repeat'(first|simp[*]|refine UR (S:=[]) c1 ?_ ?_)
  all_goals exact au rfl
def dy(s:bL)(en:Int):Pc:=⟨0,s.base,en,s.bytes.length+4,(crcOf s.bytes:Nat),2⟩
def wT(s:bL)(en:Int)(hl:s.bytes.length<=1000000):aji 50 [bF s,int en] (.t (aW (dy s en))):=by
 have c1:=lL s.bytes (by omega)
 unfold dy
 generalize crcOf s.bytes=n at*
 refine pu Kd rfl ?_
 simp[BO]
 repeat'(first|simp[*]|refine Up c1 rfl ?_|simp(disch:=omega) only[wr])
 all_goals(refine eM ?_;simp[*];done)
abbrev cd(l:Lg):Row:= .box 24 (.t (aO l)) false
def wU(l:Lg):ajj 49 [aO l] (.fn 123 [.ptr (.loc 0 0) 0 0]) (cd l):=by
 refine pO Kc rfl ?_
 simp[BN]
 refine pt (.loc 1 0) rfl ?_ (fun _=>rfl) ?_
 .simp
 .simp
abbrev bp(m:Mn):Row:= .box 27 (.t (bh m)) false
def D5(m:Mn):ajj 74 [bh m] (.fn 148 [.ptr (.loc 0 0) 0 0]) (bp m):=by
 refine pO Kl rfl ?_
 simp[BV]
 refine pt (.loc 1 0) rfl ?_ (fun _=>rfl) ?_
 .simp
 .simp
def dY(l:List bL):List (bL×Int):=l.zip ((l.drop 1).map (·.base))
def eD(l:List bL):List (List ab):=(dY l).map fun p=>[bF p.1,int p.2]
def D6{l:List bL}{i:Nat}{x y:bL}(hx:l[i]?=some x)(hy:l[i+1]?=some y):(dY l)[i]?=some (x,y.base):=by
 unfold dY
 rw[List.getElem?_zip_eq_some]
 exact⟨hx,by simp[Nat.add_comm 1 i,hy]⟩
def ov(l:List bL):(dY l).length=l.length-1:=by
 simp[dY]
def wV(L:Lg)(hl:L.segs.length<=1000000):ajp 123 [.tp (aO L) 0] (eD L.segs):=by
 refine sf KN rfl ?_
 have VR:(eD L.segs).length=L.segs.length-1:=by simp[eD,ov]
 simp[Cw,i9,GH]
 refine ba (fun E=>∃i:Nat,(i+1<=L.segs.length\/i=0)/\E.tmps 0= .yl/\E.tmps 1= .tp (aO L) 0/\E.tmps 3= .t (int (i+1:Nat))/\E.tmps 1000000000=cD (some i))
  (fun E=>match E.tmps 3 with| .t (.v (.int _ i))=>L.segs.length-i.toNat|_=>0) [(.yl,.yl)] rfl ?_ ?_
 .refine⟨0,.inr rfl,?_,?_,?_,?_⟩<;>simp[jL]
 rintro E1 ⟨i,hi,e0,e1,e3,eG⟩ hU hS A hA
 simp[Cv]
 by_cases h:i+1<L.segs.length
 .have h':i<L.segs.length:=by omega
  have hx:=ajq h'
  have hy:=ajq h
  obtain⟨x,Tm⟩:∃x,L.segs[i]=x:=⟨_,rfl⟩
  obtain⟨y,hgy⟩:∃y,L.segs[i+1]=y:=⟨_,rfl⟩
  rw[Tm]at hx
  rw[hgy]at hy
  have q4:(eD L.segs)[i]?=some [bF x,int y.base]:=by simp[eD,D6 hx hy]
  have k1:(i:Int)+1<L.segs.length:=by omega
  have k2:(i:Int)<L.segs.length:=by omega
  have k3:((i:Int)+1).toNat=i+1:=by omega
  have k4:(0:Int)<=(i:Int)+1:=by omega
  have k5:(i:Int)+1-1=i:=by omega
  try simp[e0,e1,e3,hU,h,h',Tm,hgy,k1,k2,k3,k4,k5]
  all_goals try(repeat'(first|(simp(disch:=omega) only[wr]<;>try simp[e0,e1,e3,hU,h,h',Tm,hgy,k1,k2,k3,k4,k5])))
  refine rx (i:=i) (x:=[bF x,int y.base]) [] ?_ q4 ?_ ?_ ?_
  .simp[GH,eG]
  .simp
  .try simp[e0,e1,e3,hU,GH]
   all_goals try(repeat'(first|(simp(disch:=omega) only[wr]<;>try simp[e0,e1,e3,hU,GH])))
   refine hA _ (aH [(.yl,.yl)] rfl rfl ⟨i+1,.inl (by omega),?_,?_,?_,?_⟩ ?_)
   .simp[e0]
   .simp[e1]
   .simp
   .simp[jL]
   .simp[e3]
    omega
  .try simp[e0,e1,e3,hU,GH]
   skip
   refine⟨.inr rfl,.inr ?_⟩
   simp[GH]
 .have:i=L.segs.length-1:=by omega
  have k1:¬(i:Int)+1<L.segs.length:=by omega
  try simp[e0,e1,e3,hU,h,k1]
  skip
  refine⟨.inl rfl,.inl ?_⟩
  simp[GH,eG,VR,this]
abbrev lS(l:List Pc):List Pc:=l.filter (fR 2)
def iS(l:List Pc):List (List ab):=(lS l).map fun p=>[aW p]
def Ml{α:Type}{p:α->Bool}{l:List α}{i:Nat}{x:α}(hx:l[i]?=some x)(hp:p x=true):(l.filter p)[((l.take i).filter p).length]?=some x:=by
 have h:l=l.take i++x::l.drop (i+1):=by
  obtain⟨hi,rfl⟩:=ajs.1 hx
  rw[<-aku hi,List.take_append_drop]
 conv=>lhs;arg 1;rw[h]
 rw[List.filter_append,akw (ajz _),Nat.sub_self,List.filter_cons_of_pos hp]
 rfl
def Mm{α:Type}{p:α->Bool}{l:List α}{i:Nat}{x:α}(hx:l[i]?=some x):((l.take (i+1)).filter p).length=((l.take i).filter p).length+(if p x=true then 1 else 0):=by
 rw[fO hx,List.filter_append,ajB]
 congr 1
 cases hp:p x<;>simp[hp]
def D7(M:Mn)(hl:M.l.length<=1000000):ajp 148 [.tp (bh M) 0] (iS M.l):=by
 refine sf KU rfl ?_
 simp[CG,i9,GH]
 refine ba (fun E=>∃i:Nat,i<=M.l.length/\E.tmps 0= .yl/\E.tmps 1= .tp (bh M) 0/\E.tmps 6= .t (.sl 6 (M.l.map aW))/\E.tmps 7= .t (int M.l.length)/\E.tmps 8= .t (int i)/\E.tmps 1000000000=cD (some (lS (M.l.take i)).length))
  (fun E=>match E.tmps 8 with| .t (.v (.int _ i))=>M.l.length-i.toNat|_=>0) [(.yl,.yl)] rfl ?_ ?_
 .refine⟨0,by omega,?_,?_,?_,?_,?_,?_⟩<;>simp[jL]
 rintro E1 ⟨i,hi,e0,e1,e6,e7,e8,eG⟩ hU hS A hA
 simp[CF,e7,e8]
 refine aN (fun h=>?_) (fun h=>?_)
 .have hx:=ajq h
  obtain⟨x,Tm⟩:∃x,M.l[i]=x:=⟨_,rfl⟩
  rw[Tm]at hx
  have VT:=Mm (p:=fR 2) hx
  by_cases TT:x.state=2
  .have hp:fR 2 x=true:=by simp[fR,TT]
   rw[if_pos hp]at VT
   have q4:(iS M.l)[(lS (M.l.take i)).length]?=some [aW x]:=by
    rw[iS,ajw,Ml hx hp]
    rfl
   repeat'(first|simp[*]|apply aj)
   refine rx (i:=(lS (M.l.take i)).length) (x:=[aW x]) [] ?_ q4 ?_ ?_ ?_
   .simp[GH,eG]
   .simp
   .repeat'(first|simp[*,GH]|apply aj|simp(disch:=omega) only[wr])
    refine hA _ (aH [(.yl,.yl)] rfl rfl ⟨i+1,by omega,?_,?_,?_,?_,?_,?_⟩ ?_)
    .simp[e0]
    .simp[e1]
    .simp[e6]
    .simp[e7]
    .simp
    .rw[VT]
     simp[jL]
    .simp[e8]
     omega
   .repeat'(first|simp[*,GH]|apply aj)
    refine⟨.inr rfl,.inr ?_⟩
    simp[GH]
  .have hp:fR 2 x=false:=by simp[fR,TT]
   rw[hp]at VT
   repeat'(first|simp[*]|apply aj|simp(disch:=omega) only[wr])
   refine hA _ (aH [(.yl,.yl)] rfl rfl ⟨i+1,by omega,?_,?_,?_,?_,?_,?_⟩ ?_)
   .simp[e0]
   .simp[e1]
   .simp[e6]
   .simp[e7]
   .simp
   .rw[VT]
    simp[eG,jL]
   .simp[e8]
    omega
 .have:i=M.l.length:=by omega
  subst this
  repeat' simp[*]
  refine⟨.inl rfl,.inl ?_⟩
  simp[GH,eG,iS]
abbrev eS(p:Pc):Row:= .box 58 (.t (aW p)) false
def ow(a b:Pc):Bool:=a.id==b.id&&(a.base==b.base&&(a.fin==b.fin&&(a.size==b.size&&(a.sum==b.sum&&(a.state==b.state&&true)))))
abbrev ox(p:Pc):Array Value:=#[.int .i64 p.id,.int .i64 p.base,.int .i64 p.fin,.int .i64 p.size,.int .u32 p.sum,.int .i64 p.state]
def Mo(a b:Pc):aQ Tryz.prog (Op.equal 58 (.agg (ox a)) (.agg (ox b)))=some (ow a b):=by
 have key:∀n,aQ Tryz.prog (Op.equalIn (n+1+1) 58 (.agg (ox a)) (.agg (ox b)))=some (ow a b):=by
  intro n
  refine D1 Tryz.underlying58 (by kernel_rfl) (fun f=>if f.offset=0 then .int .i64 a.id else if f.offset=1 then .int .i64 a.base else if f.offset=2 then .int .i64 a.fin else if f.offset=3 then .int .i64 a.size else if f.offset=4 then .int .u32 a.sum else .int .i64 a.state)
   (fun f=>if f.offset=0 then .int .i64 b.id else if f.offset=1 then .int .i64 b.base else if f.offset=2 then .int .i64 b.fin else if f.offset=3 then .int .i64 b.size else if f.offset=4 then .int .u32 b.sum else .int .i64 b.state)
   (fun f=>if f.offset=0 then a.id==b.id else if f.offset=1 then a.base==b.base else if f.offset=2 then a.fin==b.fin else if f.offset=3 then a.size==b.size else if f.offset=4 then a.sum==b.sum else a.state==b.state) ?_
  intro f hf
  simp only[akc,List.mem_nil_iff,or_false]at hf
  rcases hf with rfl|rfl|rfl|rfl|rfl|rfl
  .exact⟨by decide,by kernel_rfl,by kernel_rfl,mY Tryz.underlying3 _ _ _⟩
  .exact⟨by decide,by kernel_rfl,by kernel_rfl,mY Tryz.underlying3 _ _ _⟩
  .exact⟨by decide,by kernel_rfl,by kernel_rfl,mY Tryz.underlying3 _ _ _⟩
  .exact⟨by decide,by kernel_rfl,by kernel_rfl,mY Tryz.underlying3 _ _ _⟩
  .exact⟨by decide,by kernel_rfl,by kernel_rfl,mY (k:= .u32) (by kernel_rfl:Tryz.prog.underlying 56=some (.int .u32)) _ _ _⟩
  .exact⟨by decide,by kernel_rfl,by kernel_rfl,mY Tryz.underlying3 _ _ _⟩
 exact key (Op.maxDepth-2)
def Mp(x y:Operand)(a b:Pc):aX Tryz.prog .eql 58 x y (.agg [.t (int a.id),.t (int a.base),.t (int a.fin),.t (int a.size),.t (eN a.sum),.t (int a.state)]) (.t (aW b))=val (tt (ow a b)):=
 D2 (xs:=ox a) (ys:=ox b) (by kernel_rfl) rfl (Mo a b)
def iT(w p:Pc):Bool:=ow {p with id:=0} w
def Mq(w p:Pc):ajk 69 ⟨[],[.t (aW p),.ptr (.arg 0) 0 0],[eS w],.t (bo (iT w p)),[some (eS w)],[]⟩:=by
 have he:=fun x y=>Mp x y {p with id:=0} w
 unfold iT
 generalize ow {p with id:=0} w=b at*
 simp only at he
 refine aJ Kh rfl ?_
 simp[BT]
 try simp[he]
 skip
 exact ug [(.arg 0,.arg 0)] rfl (by simp[*]) .rfl
def Mr(w:Pc)(l:List Pc)(hl:l.length<=1000000):ajk 98 ⟨[],[.t (.sl 6 (l.map aW)),.fn 69 [.ptr (.arg 0) 0 0]],[eS w],.t (int (bf (iT w) l)),[some (eS w)],[]⟩:=by
 refine aJ nX rfl ?_
 simp[mS]
 refine ba (fun E=>∃(i:Nat),i<=l.length/\E.tmps 8= .t (int i)/\E.tmps 7= .t (int l.length)/\E.tmps 0= .t (.sl 6 (l.map aW))/\E.tmps 1= .fn 69 [.ptr (.arg 0) 0 0]/\E.slots (.arg 0)=some (eS w)/\(∀(j:Nat) (x:Pc),j<i->l[j]?=some x->(iT w) x=false)) (fun E=>match E.tmps 8 with| .t (.v (.int _ i))=>l.length-i.toNat|_=>0) [(.arg 0,.arg 0)] rfl ?_ ?_
 .refine⟨0,by omega,?_,?_,?_,?_,?_,fun j x hj=>by omega⟩<;>simp
 rintro E1 ⟨i,hi,e8,e7,e0,e1,s0,hb⟩ hU hS A hA
 simp[mR,e8,e7]
 refine aN (fun h=>?_) (fun h=>?_)
 .have hx:=ajq h
  obtain⟨x,Tm⟩:∃x,l[i]=x:=⟨_,rfl⟩
  rw[Tm]at hx
  have TN:=ajx hx
  have c1:=Mq w x
  cases TJ:(iT w) x with
  |true=>
   rw[TJ]at c1
   repeat'(first|simp[*,s0,h]|refine UR (S:=[.arg 0]) c1 ?_ ?_)
   refine ug [(.arg 0,.arg 0)] rfl (by simp[*]) ?_
   .rw[fE hx hb TJ]
    exact .rfl
  |false=>
   rw[TJ]at c1
   repeat'(first|simp[*,s0,h]|refine UR (S:=[.arg 0]) c1 ?_ ?_|simp(disch:=omega) only[wr])
   refine hA _ (aH [(.arg 0,.arg 0)] rfl rfl ⟨i+1,by omega,?_,?_,?_,?_,?_,fun j y hj hy=>?_⟩ ?_)
   .simp
   .simp[e7]
   .simp[e0]
   .simp[e1]
   .simp[s0]
   .by_cases Uk:j=i
    .subst Uk
     rw[hx]at hy
     cases hy
     exact TJ
    .exact hb j y (by omega) hy
   .simp[e8]
    omega
 .repeat' simp[*,s0,h]
  refine ug [(.arg 0,.arg 0)] rfl (by simp[*]) ?_
  .rw[fP fun j x hx=>hb j x (by have:=(ajs.1 hx).1;omega) hx]
   exact .rfl
def Ms(w:Pc)(l:List Pc)(hl:l.length<=1000000):ajk 70 ⟨[],[.t (.sl 6 (l.map aW)),.fn 69 [.ptr (.arg 0) 0 0]],[eS w],.t (bo (l.any (iT w))),[some (eS w)],[]⟩:=by
 have c1:=Mr w l hl
 refine aJ vN rfl ?_
 rw[<-mI]
 generalize bf (iT w) l=r at*
 simp[rM]
 repeat'(first|simp[*]|refine UR (S:=[.arg 0]) c1 ?_ ?_)
 exact ug [(.arg 0,.arg 0)] rfl (by simp[*]) .rfl
def mZ(m:Mn)(p:bL×Int):Bool:=m.l.any (iT (dy p.1 p.2))
def p8(a b:Int):Int:=if a<b then b else a
def jZ(s:Int)(l:List (bL×Int)):Int:=l.foldl (fun s p=>p8 s p.2) s
def fS(l:Lg)(m:Mn):Nat:=((dY l.segs).takeWhile (mZ m)).length
def j1(l:Lg)(m:Mn):Int:=jZ l.start ((dY l.segs).take (fS l m))
def j2(l:Lg)(m:Mn):Lg×Int:=if dx [cj l,bH m]=0 then(⟨l.limit,j1 l m,l.segs.drop (fS l m)⟩,0)else(⟨0,0,[]⟩,dx [cj l,bH m])
theorem Mt{α:Type}{p:α->Bool}{l:List α}(h:∀x∈l,p x=true):(l.takeWhile p).length=l.length:=by
 induction l with
 |nil=>rfl
 |cons x l ih=>simp[List.takeWhile,h x ajK,ih fun y hy=>h y (ajW _ hy)]
def D8{α:Type}{p:α->Bool}:∀{l:List α} {i:Nat} {x:α},l[i]?=some x->(∀y∈l.take i,p y=true)->p x=false->(l.takeWhile p).length=i
 |[],i,x,h,_,_=>by simp at h
 |y::l,0,x,h,_,hp=>by simp at h;subst h;simp[List.takeWhile,hp]
 |y::l,i+1,x,h,ha,hp=>by
  have h0:=ha y (by simp)
  have ih:=D8 (l:=l) (i:=i) (x:=x) (by simpa using h) (fun z hz=>ha z (by simp[hz])) hp
  simp[List.takeWhile,h0,ih]
def Mu{a b:ab}:aE (.agg [a,b,.e0]) (.agg [a,b,.sl 2 []]):=aE.aggL ⟨.rfl,.rfl,.nil,trivial⟩
def wW(l:List bL)(hl:l.length<=LIM):ajl 71 [.sl 2 (l.map bF)] (.osl (.loc 0 0) l.length) 61 2 (l.map bF):=by
 have:=nQ (P:=Tryz.prog) (f:=71) bC Kj (t:=22) (e:=61) (m:=2) (m':=2) rfl rfl (aj6 rfl) (by kernel_rfl) (by decide) (l:=l.map bF) (by simpa using hl)
 simpa using this
def j3(L:Lg)(M:Mn)(hn:L.segs.length<=1000000)(hb:∀s∈L.segs,s.bytes.length<=1000000)(hm:M.l.length<=1000000):aji 13 [aO L,bh M] (.tup [.t (aO (j2 L M).1),.t (int (j2 L M).2)]):=by
 have c1:=p6 L hn hb
 have c2:=lQ M hm
 have c3:=p7 [cj L,bH M] (by simp)
 have c4:=wU L
 have hv:j2 L M=j2 L M:=rfl
 conv at hv=>rhs;unfold j2
 generalize j2 L M=r at*
 generalize cj L=le at*
 generalize bH M=me at*
 generalize dx [le,me]=ce at*
 simp only[ajQ,aj4]at c3
 by_cases VG:ce=0
 .rw[if_pos VG]at hv
  subst VG hv
  have Vv:∀(E:aa),E.tmps 2= .ptr (.loc 2 0) 0 0->E.tmps 4= .ptr (.loc 4 0) 0 0->E.tmps 7= .ptr (.loc 7 0) 0 0->E.tmps 8= .ptr (.loc 8 0) 0 0->E.slots (.loc 2 0)=some (cd L)->E.slots (.loc 4 0)=some (.box 24 (.t (.agg [int 0,int 0,.e0])) false)->
    E.slots (.loc 7 0)=some (av (fS L M))->E.slots (.loc 8 0)=some (av (j1 L M))->E.used (.loc 50 0)=false->
    aY Tryz.prog bu (Fin [.cell 4 3 true,.tmp 5] (Ends (de [aO L,bh M] (.tup [.t (aO ⟨L.limit,j1 L M,L.segs.drop (fS L M)⟩),.t (int 0)])))) [.code nT] E:=by
   intro E t2 t4 t7 t8 z2 z4 z7 z8 v50
   have hk:fS L M<=L.segs.length:=by
    have h1:=(List.takeWhile_sublist (l:=dY L.segs) (mZ M)).length_le
    have h2:=ov L.segs
    unfold fS
    omega
   have c5:=wW (L.segs.drop (fS L M)) (by rw[aj9];simp only[LIM];omega)
   generalize fS L M=k at*
   generalize j1 L M=st at*
   have k1:(k:Int)<=L.segs.length:=by omega
   have hd:List.drop k (L.segs.map bF)=(L.segs.drop k).map bF:=by rw[List.map_drop]
   have Tk:(L.segs.drop k).length=L.segs.length-k:=by simp
   have TD:List.take (L.segs.length-k) ((L.segs.drop k).map bF)=(L.segs.drop k).map bF:=aju (by simp)
   rw[Tk]at c5
   simp[nT]
   try simp[t2,t4,t7,t8,z2,z4,z7,z8,v50,bt,k1,hd,TD,<-List.map_drop]
   all_goals try(repeat'(first|((refine UN (F:=[]) c5 ?_ ?_;(· simp[t2,t4,t7,t8,z2,z4,z7,z8,v50,bt,k1,hd,TD,<-List.map_drop]))<;>try simp[t2,t4,t7,t8,z2,z4,z7,z8,v50,bt,k1,hd,TD,<-List.map_drop])))
   exact sN (x:=aO ⟨L.limit,st,L.segs.drop k⟩) (rd:=[.loc 50 0]) (by simp[Tk];exact aju (by simp)) .rfl .rfl
  have hit:=wV L hn
  refine pu Bn rfl ?_
  simp[vA,nT]
  try simp[az,ax]
  all_goals try(repeat'(first|((first|refine Up c1 rfl ?_|refine Up c2 rfl ?_|refine Up c3 rfl ?_)<;>try simp[az,ax])))
  refine jO (ts:=[aO L]) (F:=[]) c4 (fun _=>rfl) (by simp) (by simp) ?_
  simp
  generalize hE:aa.put _ 26 _=E0
  have t2:E0.tmps 2= .ptr (.loc 2 0) 0 0:=by rw[<-hE];simp
  have t3:E0.tmps 3= .ptr (.loc 3 0) 0 0:=by rw[<-hE];simp
  have t4:E0.tmps 4= .ptr (.loc 4 0) 0 0:=by rw[<-hE];simp
  have t7:E0.tmps 7= .ptr (.loc 7 0) 0 0:=by rw[<-hE];simp
  have t8:E0.tmps 8= .ptr (.loc 8 0) 0 0:=by rw[<-hE];simp
  have X0:E0.tmps 26= .fn 123 [.ptr (.loc 26 0) 0 0]:=by rw[<-hE];simp
  have z2:E0.slots (.loc 2 0)=some (cd L):=by rw[<-hE];simp
  have z3:E0.slots (.loc 3 0)=some (bp M):=by rw[<-hE];simp
  have z4:E0.slots (.loc 4 0)=some (.box 24 (.t (.agg [int 0,int 0,.e0])) false):=by rw[<-hE];simp
  have z7:E0.slots (.loc 7 0)=some (av 0):=by rw[<-hE];simp
  have z8:E0.slots (.loc 8 0)=some (av L.start):=by rw[<-hE];simp
  have z26:E0.slots (.loc 26 0)=some (cd L):=by rw[<-hE];simp
  have v3:E0.used (.loc 3 0)=true:=by rw[<-hE];simp
  have v7:E0.used (.loc 7 0)=true:=by rw[<-hE];simp
  have v8:E0.used (.loc 8 0)=true:=by rw[<-hE];simp
  have v50:E0.used (.loc 50 0)=false:=by rw[<-hE];simp
  clear hE
  have TA:=ov L.segs
  have V6:∀(n:Nat) (E1:aa),n=fS L M->E1.slots (.arg 0)=some (bp M)->E1.slots (.arg 1)=some (av n)->E1.slots (.arg 2)=some (av (jZ L.start ((dY L.segs).take n)))->
    eb E0 [.loc 3 0,.loc 7 0,.loc 8 0] [.loc 26 0] 1000 (aY Tryz.prog bu (Fin [.cell 4 3 true,.tmp 5] (Ends (de [aO L,bh M] (.tup [.t (aO ⟨L.limit,j1 L M,L.segs.drop (fS L M)⟩),.t (int 0)])))) [.code nT]) E1:=by
   rintro n E1 rfl y0 y1 y2
   refine gG ⟨[],[],[],.junk,[some (bp M),some (av (fS L M)),some (av (j1 L M))],[]⟩ [(.arg 0,.arg 0),(.arg 1,.arg 1),(.arg 2,.arg 2)] rfl ?_ ?_ ?_ ?_ ?_
   .simp[y0,y1,y2,j1]
   .simp
    omega
   .simp
   .simp
   .refine Vv _ ?_ ?_ ?_ ?_ ?_ ?_ ?_ ?_ ?_<;>simp[t2,t4,t7,t8,z2,z4,v50]
  refine lr (xs:=eD L.segs) (f:=123) (caps:=[.ptr (.loc 26 0) 0 0]) (ts:=[.tp (aO L) 0]) (F:=[.loc 26 0]) [.loc 3 0,.loc 7 0,.loc 8 0] [bp M,av 0,av L.start] 1000
   (fun i ns E=>ns=[.arg 0,.arg 1,.arg 2]/\(∀y∈(dY L.segs).take i,mZ M y=true)/\E.slots (.arg 0)=some (bp M)/\E.slots (.arg 1)=some (av i)/\E.slots (.arg 2)=some (av (jZ L.start ((dY L.segs).take i))))
   hit ?_ ?_ ?_ (gF rfl (by decide) rfl ?_ ?_ trivial ?_) ?_ ?_ ?_
  .simp[X0]
  .simp[aa.viewps,aa.viewp,z26]
  .intro x hx
   simp only[eD,ajI]at hx
   obtain⟨p,_,rfl⟩:=hx
   rfl
  .simp[z3,z7,z8]
  .simp[v3,v7,v8]
  .simp[z26]
  .exact⟨rfl,by simp,rfl,rfl,rfl⟩
  .rintro i x ns E1 hx ⟨rfl,Tt,y0,y1,y2⟩ hU hS A hA
   simp only[eD,ajw,ajt]at hx
   obtain⟨p,hp,rfl⟩:=hx
   have TC:=(ajs.1 hp).1
   have Vj:p.1∈L.segs:=by
    have:=ajx hp
    exact(List.of_mem_zip this).1
   have TD:=fO hp
   have TT:jZ L.start ((dY L.segs).take (i+1))=if jZ L.start ((dY L.segs).take i)<p.2 then p.2 else jZ L.start ((dY L.segs).take i):=by
    rw[TD,jZ,List.foldl_append]
    rfl
   have d1:=wT p.1 p.2 (hb _ Vj)
   have d2:=Ms (dy p.1 p.2) M.l hm
   have hfp:mZ M p=M.l.any (iT (dy p.1 p.2)):=rfl
   rw[<-hfp]at d2
   generalize dy p.1 p.2=w at*
   cases hf:mZ M p with
   |true=>
    rw[hf]at d2
    simp[t3,t7,t8]
    try simp[y0,y1,y2,hU,t3,t7,t8]
    all_goals try(repeat'(first|((first|refine Up d1 rfl ?_|(refine UR (S:=[.loc 11 0]) d2 ?_ ?_;(· simp[y0,y1,y2,hU,t3,t7,t8]))|simp(disch:=omega) only[wr])<;>try simp[y0,y1,y2,hU,t3,t7,t8])))
    refine hA _ [(.arg 0,.arg 0),(.arg 1,.arg 1),(.arg 2,.arg 2)] rfl rfl ⟨rfl,?_,?_,?_,?_⟩
    .intro y hy
     rw[TD,ajG]at hy
     rcases hy with hy|hy
     .exact Tt y hy
     .rw[List.mem_singleton.1 hy]
      exact hf
    .simp[y0]
    .simp
    .simp[TT]
   |false=>
    rw[hf]at d2
    simp[t3,t7,t8]
    try simp[y0,y1,y2,hU,t3,t7,t8]
    all_goals try(repeat'(first|((first|refine Up d1 rfl ?_|(refine UR (S:=[.loc 11 0]) d2 ?_ ?_;(· simp[y0,y1,y2,hU,t3,t7,t8])))<;>try simp[y0,y1,y2,hU,t3,t7,t8])))
    refine D3 (fun E h=>?_) (V6 i _ ?_ ?_ ?_ ?_)
    .simp only[Gg,if_true]
     exact h
    .exact(D8 hp Tt hf).symm
    .simp[y0]
    .simp[y1]
    .simp[y2]
  .rintro ns E1 ⟨rfl,Tt,y0,y1,y2⟩ hU hS
   have VR:(eD L.segs).length=(dY L.segs).length:=by simp[eD]
   rw[VR]at Tt y1 y2
   refine D3 (fun E h=>?_) (V6 (dY L.segs).length E1 ?_ y0 y1 y2)
   .simp only[Gf]
    exact h
   rw[akg]at Tt
   exact(Mt Tt).symm
 .rw[if_neg VG]at hv
  subst hv
  refine pu Bn rfl ?_
  simp[vA,nT]
  try simp[az,ax,VG]
  all_goals try(repeat'(first|((first|refine Up c1 rfl ?_|refine Up c2 rfl ?_|refine Up c3 rfl ?_)<;>try simp[az,ax,VG])))
  all_goals exact lR Mu .rfl
def wX(a b:Int):Int:=if b<a then b else a
def jm(L:Lg)(M:Mn):Int:=match(lS M.l)[0]? with|some p=>wX L.start p.base|none=>L.start
def m3(L:Lg)(M:Mn)(hm:M.l.length<=1000000):aji 18 [aO L,bh M] (.t (int (jm L M))):=by
 have c4:=D5 M
 have hit:=D7 M hm
 refine pu J0 rfl ?_
 simp[Bq]
 refine jO (ts:=[bh M]) (F:=[]) c4 (fun _=>rfl) (by simp) (by simp) ?_
 simp
 generalize hE:aa.put _ 7 _=E0
 have t2:E0.tmps 2= .ptr (.loc 2 0) 0 0:=by rw[<-hE];simp
 have t4:E0.tmps 4= .ptr (.loc 4 0) 0 0:=by rw[<-hE];simp
 have t7:E0.tmps 7= .fn 148 [.ptr (.loc 7 0) 0 0]:=by rw[<-hE];simp
 have z2:E0.slots (.loc 2 0)=some (cd L):=by rw[<-hE];simp
 have z4:E0.slots (.loc 4 0)=some (av 0):=by rw[<-hE];simp
 have z7:E0.slots (.loc 7 0)=some (bp M):=by rw[<-hE];simp
 have v2:E0.used (.loc 2 0)=true:=by rw[<-hE];simp
 have v4:E0.used (.loc 4 0)=true:=by rw[<-hE];simp
 clear hE
 refine lr (xs:=iS M.l) (f:=148) (caps:=[.ptr (.loc 7 0) 0 0]) (ts:=[.tp (bh M) 0]) (F:=[.loc 7 0]) [.loc 2 0,.loc 4 0] [cd L,av 0] 1000
  (fun i ns E=>i=0/\ns=[.arg 0,.arg 1]/\E.slots (.arg 0)=some (cd L)/\E.slots (.arg 1)=some (av 0))
  hit ?_ ?_ ?_ (gF rfl (by decide) rfl ?_ ?_ trivial ?_) ?_ ?_ ?_
 .simp[t7]
 .simp[aa.viewps,aa.viewp,z7]
 .intro x hx
  simp only[iS,ajI]at hx
  obtain⟨p,_,rfl⟩:=hx
  rfl
 .simp[z2,z4]
 .simp[v2,v4]
 .simp[z7]
 .exact⟨rfl,rfl,rfl,rfl⟩
 .rintro i x ns E1 hx ⟨rfl,rfl,y0,y1⟩ hU hS A hA
  simp only[iS,ajw,ajt]at hx
  obtain⟨p,hp,rfl⟩:=hx
  have hv:jm L M=wX L.start p.base:=by simp only[jm,hp]
  simp[t2,t4]
  try simp[y0,y1,hU,t2,t4]
  skip
  refine gG ⟨[],[],[],.junk,[some (cd L),some (av (jm L M))],[]⟩ [(.arg 0,.arg 0),(.arg 1,.arg 1)] rfl ?_ ?_ ?_ ?_ ?_
  .simp[y0,hv,wX]
  .simp
   omega
  .simp
  .simp
  .simp[t2,t4,z2,z4,z7]
   exact au rfl
 .rintro ns E1 ⟨h0,rfl,y0,y1⟩ hU hS
  have hv:jm L M=L.start:=by
   have:(lS M.l).length=0:=by simpa[iS]using h0
   rw[jm,aj3.1 this]
   rfl
  refine gG ⟨[],[],[],.junk,[some (cd L),some (av 0)],[]⟩ [(.arg 0,.arg 0),(.arg 1,.arg 1)] rfl ?_ ?_ ?_ ?_ ?_
  .simp[y0,y1]
  .simp
   omega
  .simp
  .simp
  .simp[t2,t4,z2,z4,z7]
   try simp[t2,t4,z2,z4,z7]
   skip
   exact au (by rw[hv])
def fT(e:Int):Bool:=decide (e=0)||(decide (e=140)||(decide (e=141)||decide (e=20)))
def Mv(e:Int):aji 121 [int e] (tt (fT e)):=by
 unfold fT
 refine pu KL rfl ?_
 simp[Cs]
 repeat'(first|simp[*]|apply aj|(apply dL<;>intro h))
 all_goals exact au rfl
abbrev j4(e:Int):Value:= .iface 37 (.int .i64 e)
abbrev oy:Row:= .box 95 (.t (.agg [.e0,int 0,.e0,int 0,.e0,int 0,int 0,.e0,str es])) false
abbrev bq(s:Nm):Row:= .box 93 (.ptr s 0 0) false
abbrev eR(e:Int):Row:= .box 37 (.t (int e)) false
def p9:ac:=(.seq (.region [⟨some 9,.mv (.tmp 3),none⟩]) (.cond (.tmp 9) (.seq (.region [⟨some 10,.mv (.tmp 2),none⟩,⟨none,.store 1 (.tmp 0) (.tmp 10),none⟩]) (.seq (.region [⟨some 11,.load 1 false (.tmp 0),none⟩,⟨some 12,.call 121 [(.tmp 11)],none⟩,⟨some 13,.un .not (.tmp 12),none⟩]) (.cond (.tmp 13) (.region [⟨some 14,.load 1 false (.tmp 1),none⟩,⟨some 15,.build [.e0,(.v (.int .i64 0)),.e0,(.v (.int .i64 0)),.e0,(.v (.int .i64 0)),(.v (.int .i64 0)),.e0,(.v (.string ⟨#[]⟩))] [],none⟩,⟨some 16,.nilc (.tmp 14),none⟩,⟨none,.store 9 (.tmp 16) (.tmp 15),none⟩]) .skip))) .skip))
def Mw(w:World):Sem.run Tryz.prog (Instr.typeAssert .nilIface 20 37 true) w= .ok (.tuple #[.int .i64 0,.bool false]) w:=by kernel_rfl
def Mx(e:Int)(w:World):Sem.run Tryz.prog (Instr.typeAssert (j4 e) 20 37 true) w= .ok (.tuple #[.int .i64 e,.bool true]) w:=by kernel_rfl
def My(p q:Value)(w:World):
  CallsDIn (FW none) 0 Tryz.prog 120 #[p,q] .returning w fun e u' w'=>e= .returned (.tuple #[])/\u'= .returning/\w'=w:=by
 refine callsDIn_of_wpSIn Tryz.func120 rfl (by trivial) fun c₀ cs hu=>?_
 apply wpSIn_seq
 apply wpSIn_region
 simp[wpOpsSIn,go_sem,recoverD,hu,Tryz.ntmps120,Exit.thenS,Mw]
 apply wpSIn_seq
 apply wpSIn_region
 simp[wpOpsSIn,go_sem,Exit.thenS]
 refine wpSIn_cond (t:=false) (by simp[Act.eval,Array.replicate]) ?_
 simp only[ajU,ajS]
 refine wpSIn_of_wpIn rfl (wpIn_skip ?_)
 cases c₀
 simp_all[bodyPostS,results,Tryz.results120]
abbrev il(l:List ab):Row:= .box 95 (.t (.agg l)) false
def Mz:aZ Tryz.prog Tryz.f120.ntmps false (c2 (Tryz.f120.body.getD .skip))=some p9:=by kernel_rfl
def MA{P:Program}(hm:P.follows .mixedOrders=true){code:Code}{s:ac}{c:aA}(hc:aZ P c.n false code=some s)(Uv:c.dl=none){E:aa}{K:Exit->aa->Prop}(hw:W P bu s E K){Z:Nm->Place}{a:Act}{w:World}(h:ai c Z E a w):
  bV (FW none) 0 P code (fun e a' w'=>∃Z' E',K e E'/\ai c Z' E' a' w') a w:=by
 refine iJ (rf:=false) gD iI (fun _ _ _ h=>h) hm (nN c (fun l hl=>by rw[Uv]at hl;cases hl)) (fun _ _ _ _ _ _ _ _ _ _ h=>h.elim) (my rfl) (fun h=>by cases h) (fun h=>by cases h) (fun _ _ h=>by cases h) code s hc c E K _ Z a w rfl (fun _ _ _ _ _ _ _ hf=>hf.elim) (fun Z9 e E Z1 a1 w1 hc hk Uq=>?_) h hw
 subst hc
 exact⟨Z1,E,hk,Uq⟩
def MB(e:Int)(x0 x1 x2 x3 x4 x5 x6 x7 x8:ab)(E:aa)(t0:E.tmps 0= .ptr (.arg 0) 0 0)(t1:E.tmps 1= .ptr (.arg 1) 0 0)(t2:E.tmps 2= .t (int e))(t3:E.tmps 3=tt true)
  (z0:E.slots (.arg 0)=some (eR 0)) (z1:E.slots (.arg 1)=some (bq (.arg 2))) (z2:E.slots (.arg 2)=some (il [x0,x1,x2,x3,x4,x5,x6,x7,x8])) (v0:E.used (.arg 0)=true) (v1:E.used (.arg 1)=true) (v2:E.used (.arg 2)=true):
  W Tryz.prog bu p9 E (fun ex E'=>ex= .normal/\E'.slots (.arg 0)=some (eR e)/\E'.slots (.arg 1)=some (bq (.arg 2))/\E'.slots (.arg 2)=some (if fT e=true then il [x0,x1,x2,x3,x4,x5,x6,x7,x8]else oy)):=by
 have c1:=Mv e
 show aY Tryz.prog bu _ [.code p9] E
 generalize fT e=b at*
 cases b
 .simp[p9]
  try simp[t0,t1,t2,t3,z0,z1,z2,v0,v1,v2]
  all_goals try(repeat'(first|(refine Up c1 rfl ?_<;>try simp[t0,t1,t2,t3,z0,z1,z2,v0,v1,v2])))
 .simp[p9]
  try simp[t0,t1,t2,t3,z0,z1,z2,v0,v1,v2]
  all_goals try(repeat'(first|(refine Up c1 rfl ?_<;>try simp[t0,t1,t2,t3,z0,z1,z2,v0,v1,v2])))
abbrev sR(e:Int)(x0 x1 x2 x3 x4 x5 x6 x7 x8:ab):Ct:=⟨[],[.ptr (.arg 0) 0 0,.ptr (.arg 1) 0 0],[eR 0,bq (.arg 2),il [x0,x1,x2,x3,x4,x5,x6,x7,x8]],.tup [],[some (eR e),some (bq (.arg 2)),some (if fT e=true then il [x0,x1,x2,x3,x4,x5,x6,x7,x8]else oy)],[]⟩
def wY:Tryz.f120.body=some (.seq (c1 (Tryz.f120.body.getD .skip)) (c2 (Tryz.f120.body.getD .skip))):=by kernel_rfl
def MC(e:Int)(x0 x1 x2 x3 x4 x5 x6 x7 x8:ab):C6 Tryz.prog 120 (sR e x0 x1 x2 x3 x4 x5 x6 x7 x8) (.panicking (gf (j4 e))) (.panicking [{v:=j4 e,recovered:=true}]):=by
 intro c Z w vs Wf hs hl hv
 obtain⟨p,q,rfl⟩:∃p q,vs=[p,q]:=by
  match vs,hl with
  |[p,q],_=>exact⟨p,q,rfl⟩
 have hp:=hv 0 p (.ptr (.arg 0) 0 0) rfl rfl
 have hq:=hv 1 q (.ptr (.arg 1) 0 0) rfl rfl
 refine Li Tryz.func120 wY fun c₀ cs hu=>?_
 apply wpSIn_region
 simp[wpOpsSIn,go_sem,recoverD,hu,Tryz.ntmps120,Exit.thenS,Mx]
 generalize hA:(#[p,q]++_:Array Value)=A
 have g0:A.getD 0 undef=p:=by rw[<-hA];simp
 have g1:A.getD 1 undef=q:=by rw[<-hA];simp
 have g2:A.getD 2 undef= .int .i64 e:=by rw[<-hA];simp
 have g3:A.getD 3 undef= .bool true:=by rw[<-hA];simp
 have gs:A.size=17:=by rw[<-hA];simp
 clear hA
 let E0:aa:=⟨fun t=>match t with|0=> .ptr (.arg 0) 0 0|1=> .ptr (.arg 1) 0 0|2=> .t (int e)|3=>tt true|_=> .junk,(sR e x0 x1 x2 x3 x4 x5 x6 x7 x8).env.slots,(sR e x0 x1 x2 x3 x4 x5 x6 x7 x8).env.used⟩
 let c':aA:={c with n:=Tryz.f120.ntmps,dl:=none}
 have Uq:SimW c' Z E0 w:=⟨hs.size,hs.os,hs.tape,hs.output,hs.old,hs.m0,hs.row,hs.inj,hs.fix,hs.gl⟩
 have hp1:ah Z E0.used w (ae c' Z E0.slots) p (.ptr (.arg 0) 0 0):=hp
 have Yr:ah Z E0.used w (ae c' Z E0.slots) q (.ptr (.arg 1) 0 0):=hq
 refine mz (MA (c:=c') (Z:=Z) (E:=E0) bC Mz rfl (MB e x0 x1 x2 x3 x4 x5 x6 x7 x8 E0 rfl rfl rfl rfl rfl rfl rfl rfl rfl rfl) ⟨Uq,fun t=>?_,gs,[],rfl,by simp,by simp⟩) fun ex a' w' ⟨Z',E',hk,T8⟩=>?_
 .match t with
  |0=>show ah _ _ _ _ (A.getD 0 undef) _;rw[g0];exact hp1
  |1=>show ah _ _ _ _ (A.getD 1 undef) _;rw[g1];exact Yr
  |2=>show ah _ _ _ _ (A.getD 2 undef) _;rw[g2];exact .t (.v rfl)
  |3=>show ah _ _ _ _ (A.getD 3 undef) _;rw[g3];exact .t (.v rfl)
  |_+4=>exact .junk
 .obtain⟨rfl,k0,k1,k2⟩:=hk
  have hd:a'.defers=[]:=by
   obtain⟨bs,TZ,_,Uu⟩:=T8.df
   cases bs with
   |nil=>exact TZ
   |cons b bs=>
    obtain⟨⟨l,hl,_⟩,_⟩:=Uu b ajK
    cases hl
  refine⟨hd,_,rfl,.tuple #[],by simp[results,Tryz.results120],⟨_,rfl⟩,rfl,?_⟩
  obtain⟨Z2,h3,_⟩:=kY T8 (ww 3)
  refine⟨Z2,E'.canon (bO 3),wx rfl ?_ ?_,⟨h3.size,h3.os,h3.tape,h3.output,h3.old,h3.m0,h3.row,h3.inj,h3.fix,h3.gl⟩⟩
  .intro i r hi
   match i with
   |0=>cases hi;rfl
   |1=>cases hi;rfl
   |2=>simp at hi;subst hi;split<;>rfl
   |i+3=>simp at hi
  .intro i hi
   match i with
   |0=>exact k0
   |1=>exact k1
   |2=>exact k2
   |i+3=>omega
end
end Go.Wt
