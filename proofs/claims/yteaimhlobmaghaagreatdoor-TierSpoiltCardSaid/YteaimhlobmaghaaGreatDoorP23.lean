/- A part of the proof of a tier statement (the last text closes it): lemmas without condition. -/
import Derived.Test.YteaimhlobmaghaaGreatDoorP22
set_option linter.all false
set_option maxRecDepth 10000000
set_option maxHeartbeats 0
namespace Go.Wt
section
open Go.RowKit Go.Proofs Go.Lib Go.Wm
def Fh(c:Ca)(name:ByteArray)(no:Int)(b:Bs)(hl:c.l.length<=900000)(hb:∀h∈c.l,h.bytes.length<=1000000)(XJ:b.length<=1000000):aji 158 [dr c,str name,int no,aS b] (.tup [.t (dr (gx c name no b).1),.t (int (gx c name no b).2)]):=by
 have c1:=oF c (by omega) hb
 have c2:=EL ⟨name,no⟩
 have c3:=Fe c ⟨name,no⟩ (by omega)
 have Uf:=fun h=>Ou (c:=c) h
 have htn:=Ow c.l ⟨name,no⟩
 have Ze:∀h∈cP c.l ⟨name,no⟩,h.bytes.length<=1000000:=fun h hm=>hb h (Ov hm)
 have hv:gx c name no b=gx c name no b:=rfl
 conv at hv=>rhs;unfold gx
 generalize gx c name no b=r at*
 generalize cP c.l ⟨name,no⟩=L at*
 generalize dG c=e at*
 generalize oE ⟨name,no⟩=mk at*
 by_cases h0:e=0
 .subst h0
  simp only[ne_eq,akB,ajS]at hv
  obtain⟨g0,g1,_,_⟩:=Uf rfl
  cases mk with
  |false=>
   rw[if_pos rfl]at hv
   subst hv
   refine pu pJ rfl ?_
   simp[n8,nZ]
   repeat'(first|simp[*]|apply aj|refine Up c1 rfl ?_|refine UV (F:=[]) c2 rfl ?_ ?_)
   all_goals exact iV l5 .rfl
  |true=>
  rw[if_neg (by simp)]at hv
  by_cases hc:c.cap<b.length
  .rw[if_pos hc]at hv
   subst hv
   refine pu pJ rfl ?_
   simp[n8,nZ]
   repeat'(first|simp[*]|apply aj|refine Up c1 rfl ?_|refine UV (F:=[]) c2 rfl ?_ ?_|refine UG (S:=[]) (F:=[]) c3 ?_ ?_)
   refine j9 (x:=dr ⟨c.cap,L⟩) (dp (rd:=[.loc 30 0]) ?_) (bn _) .rfl .rfl
   simp
  rw[if_neg hc]at hv
  have c4:=lI b (by simp only[LIM];omega)
  have c5:=Fc (L.map br) (br ⟨name,no,b⟩) 0 (Nat.zero_le _) (by simp;omega)
  unfold dM at c5
  rw[show List.take 0 (L.map br)++[br ⟨name,no,b⟩]++List.drop 0 (L.map br)=((⟨name,no,b⟩:Hd)::L).map br by simp,ajJ,ajJ]at c5
  have c6:=Ot c.cap (⟨name,no,b⟩::L) (by simp;omega) g0 g1 (fun h hm=>by
   rcases akc.1 hm with rfl|hm
   .exact XJ
   .exact Ze h hm)
  have Z0:=Fg (⟨name,no,b⟩::L) c.cap 0
  have hML:((⟨name,no,b⟩:Hd)::L).length=L.length+1:=rfl
  generalize gV c.cap 0 (⟨name,no,b⟩::L)=ri at*
  obtain⟨ix,lv⟩:=ri
  simp only at Z0 hv c6
  have htM:List.take (L.length+1) (((⟨name,no,b⟩:Hd)::L).map br)=((⟨name,no,b⟩:Hd)::L).map br:=aju (by simp)
  have Zf:List.take b.length (b.map aC)=b.map aC:=aju (by simp)
  by_cases hi:ix<0
  .rw[if_pos hi]at hv
   have TU:¬0<=ix:=by omega
   subst hv
   refine pu pJ rfl ?_
   simp[n8,nZ]
   repeat'(first|simp[*,az,ax,DV.noview,aa.viewPs]|apply aj|refine Up c1 rfl ?_|refine UV (F:=[]) c2 rfl ?_ ?_|refine UG (S:=[]) (F:=[]) c3 ?_ ?_|refine UN (F:=[]) c4 ?_ ?_|refine UR (S:=[.loc 30 0]) c5 ?_ ?_|refine UG (S:=[.loc 13 0]) (F:=[.loc 49 0]) c6 ?_ ?_)
   refine j9 (x:=dr ⟨c.cap,⟨name,no,b⟩::L⟩) (dp (rd:=[.loc 49 0]) ?_) (bn _) .rfl .rfl
   simp
  .rw[if_neg hi]at hv
   obtain⟨i,rfl⟩:=akp (show 0<=ix by omega)
   rw[akl]at hv
   have TC:i<=L.length+1:=by omega
   have ahW:(i:Int)<=(L.length:Int)+1:=by omega
   subst hv
   refine pu pJ rfl ?_
   simp[n8,nZ]
   repeat'(first|simp[*,az,ax,DV.noview,aa.viewPs,bt]|apply aj|refine Up c1 rfl ?_|refine UV (F:=[]) c2 rfl ?_ ?_|refine UG (S:=[]) (F:=[]) c3 ?_ ?_|refine UN (F:=[]) c4 ?_ ?_|refine UR (S:=[.loc 30 0]) c5 ?_ ?_|refine UG (S:=[.loc 13 0]) (F:=[.loc 49 0]) c6 ?_ ?_)
   refine j9 (x:=dr ⟨c.cap,(⟨name,no,b⟩::L).take i⟩) (dp (rd:=[.loc 49 0]) ?_) (bn _) .rfl .rfl
   simp[TC]
 .rw[if_pos h0]at hv
  subst hv
  refine pu pJ rfl ?_
  simp[n8,nZ]
  repeat'(first|simp[*]|apply aj|refine Up c1 rfl ?_)
  all_goals exact iV l5 .rfl
def d7(n:ByteArray)(h:Hd):Bool:=h.name.toList==n.toList
def Fi(n:ByteArray)(h:Hd):ajk 223 ⟨[],[.t (br h),.ptr (.arg 0) 0 0],[bW n],.t (bo (d7 n h)),[some (bW n)],[]⟩:=by
 unfold d7
 refine aJ Jq rfl ?_
 simp[AA]
 skip
 exact ug [(.arg 0,.arg 0)] rfl (by simp[*]) .rfl
def Ox(n:ByteArray)(l:List Hd)(hl:l.length<=1000000):ajk 227 ⟨[],[.osl (.arg 0) l.length,.fn 223 [.ptr (.arg 1) 0 0]],[.rows 136 3 (l.map br) false,bW n],.t (int (bf (d7 n) l)),[some (.rows 136 3 (l.map br) false),some (bW n)],[]⟩:=by
 refine aJ vp rfl ?_
 simp[rE]
 refine ba (fun E=>∃(i:Nat),i<=l.length/\E.tmps 8= .t (int i)/\E.tmps 7= .t (int l.length)/\E.tmps 0= .osl (.arg 0) l.length/\E.tmps 1= .fn 223 [.ptr (.arg 1) 0 0]/\E.slots (.arg 0)=some (.rows 136 3 (l.map br) false)/\E.slots (.arg 1)=some (bW n)/\(∀(j:Nat) (x:Hd),j<i->l[j]?=some x->(d7 n) x=false)) (fun E=>match E.tmps 8 with| .t (.v (.int _ i))=>l.length-i.toNat|_=>0) [(.arg 0,.arg 0),(.arg 1,.arg 1)] rfl ?_ ?_
 .refine⟨0,by omega,?_,?_,?_,?_,?_,?_,fun j x hj=>by omega⟩<;>simp
 rintro E1 ⟨i,hi,e8,e7,e0,e1,s0,s1,hb⟩ hU hS A hA
 simp[rD,e8,e7]
 refine aN (fun h=>?_) (fun h=>?_)
 .have hx:=ajq h
  obtain⟨x,Tm⟩:∃x,l[i]=x:=⟨_,rfl⟩
  rw[Tm]at hx
  have TN:=ajx hx
  have c1:=Fi n x
  cases TJ:(d7 n) x with
  |true=>
   rw[TJ]at c1
   repeat'(first|simp[*,s0,s1,h]|refine UR (S:=[.arg 1]) c1 ?_ ?_)
   refine ug [(.arg 0,.arg 0),(.arg 1,.arg 1)] rfl (by simp[*]) ?_
   .rw[fE hx hb TJ]
    exact .rfl
  |false=>
   rw[TJ]at c1
   repeat'(first|simp[*,s0,s1,h]|refine UR (S:=[.arg 1]) c1 ?_ ?_|simp(disch:=omega) only[wr])
   refine hA _ (aH [(.arg 0,.arg 0),(.arg 1,.arg 1)] rfl rfl ⟨i+1,by omega,?_,?_,?_,?_,?_,?_,fun j y hj hy=>?_⟩ ?_)
   .simp
   .simp[e7]
   .simp[e0]
   .simp[e1]
   .simp[s0]
   .simp[s1]
   .by_cases Uk:j=i
    .subst Uk
     rw[hx]at hy
     cases hy
     exact TJ
    .exact hb j y (by omega) hy
   .simp[e8]
    omega
 .repeat' simp[*,s0,s1,h]
  refine ug [(.arg 0,.arg 0),(.arg 1,.arg 1)] rfl (by simp[*]) ?_
  .rw[fP fun j x hx=>hb j x (by have:=(ajs.1 hx).1;omega) hx]
   exact .rfl
noncomputable def ek:Code:=Tryz.f221.body.getD .skip
def Fj:ek= .seq (c1 ek) (.seq (c1 (c2 ek)) (.seq (c1 (c2 (c2 ek))) (.seq (c1 (c2 (c2 (c2 ek)))) (.seq (c1 (c2 (c2 (c2 (c2 ek))))) (.seq (c1 (c2 (c2 (c2 (c2 (c2 ek)))))) .ret))))):=by kernel_rfl
noncomputable def Oy:Array Oper:=match c1 (c2 (c2 (c2 (c2 ek))))with| .region _ ops _=>ops|_=>#[]
noncomputable def Oz:Nat:=match c1 (c2 (c2 (c2 (c2 ek))))with| .region i _ _=>i|_=>0
noncomputable def OA:Array Oper:=match c1 (c2 (c2 (c2 (c2 (c2 ek)))))with| .region _ ops _=>ops|_=>#[]
noncomputable def OB:Nat:=match c1 (c2 (c2 (c2 (c2 (c2 ek)))))with| .region i _ _=>i|_=>0
def OC:c1 (c2 (c2 (c2 (c2 ek))))= .region Oz Oy false:=by kernel_rfl
def OD:c1 (c2 (c2 (c2 (c2 (c2 ek)))))= .region OB OA false:=by kernel_rfl
def Fk:aZ Tryz.prog Tryz.f221.ntmps true (c1 ek)=some (d1 jf):=by kernel_rfl
def Fl:aZ Tryz.prog Tryz.f221.ntmps true (c1 (c2 ek))=some (d1 (d2 jf)):=by kernel_rfl
def Fm:aZ Tryz.prog Tryz.f221.ntmps true (c1 (c2 (c2 ek)))=some (d1 (d2 (d2 jf))):=by kernel_rfl
def OE:aZ Tryz.prog Tryz.f221.ntmps true (c1 (c2 (c2 (c2 ek))))=some (d1 (d2 (d2 (d2 jf)))):=by kernel_rfl
def OF(n:ByteArray)(l:List Hd)(hl:l.length<=1000000):ajk 221 ⟨[],[.osl (.arg 0) l.length,.fn 223 [.ptr (.arg 1) 0 0]],[.rows 136 3 (l.map br) false,bW n],.osl (.arg 0) (l.filter (fun x=>!(d7 n) x)).length,[some (.rows 136 3 ((l.filter (fun x=>!(d7 n) x)).map br) false),some (bW n)],[]⟩:=by
 have YD:=Ox n l hl
 rcases pM ((d7 n)) l with⟨YR,Tt⟩|⟨i0,YR,UL,hat,ZM⟩
 .have XG:l.filter (fun x=>!(d7 n) x)=l:=List.filter_eq_self.2 fun x hx=>by simp[Tt x hx]
  rw[YR]at YD
  rw[XG]
  refine oe (fn:=Tryz.f221) (code:=ek) (rs:=[.tmp 4]) Tryz.func221 (by kernel_rfl) (by kernel_rfl) (by kernel_rfl) rfl (aj6 rfl) ?_
  rw[Fj]
  refine bN (b9 bC Fk ?_)
  simp[d1,d2,jf]
  refine bN (b9 bC Fl ?_)
  simp[d1,d2,jf]
  try simp
  all_goals try(repeat'(first|((refine UR (S:=[.arg 0,.arg 1]) YD ?_ ?_;(· simp))<;>try simp)))
  refine bN (b9 bC Fm ?_)
  simp[d1,d2,jf]
  try simp
  skip
  refine ug [(.arg 0,.arg 0),(.arg 1,.arg 1)] rfl (by simp[*]) ?_
  .simp
   exact .rfl
 rw[YR]at YD
 refine oe (fn:=Tryz.f221) (code:=ek) (rs:=[.tmp 4]) Tryz.func221 (by kernel_rfl) (by kernel_rfl) (by kernel_rfl) rfl (aj6 rfl) ?_
 rw[Fj]
 refine bN (b9 bC Fk ?_)
 simp[d1,d2,jf]
 refine bN (b9 bC Fl ?_)
 simp[d1,d2,jf]
 try simp
 all_goals try(repeat'(first|((refine UR (S:=[.arg 0,.arg 1]) YD ?_ ?_;(· simp))<;>try simp)))
 refine bN (b9 bC Fm ?_)
 simp[d1,d2,jf]
 try simp
 skip
 refine bN (b9 bC OE ?_)
 simp[d1,d2,jf]
 try simp
 all_goals try(repeat'(first|(simp(disch:=omega) only[wr]<;>try simp)))
 have Tx:∀(E:aa),E.tmps 0= .osl (.arg 0) l.length->E.tmps 5= .t (int (l.filter (fun x=>!(d7 n) x)).length)->(∃T6:List Hd,T6.length=l.length/\T6.take (l.filter (fun x=>!(d7 n) x)).length=l.filter (fun x=>!(d7 n) x)/\E.slots (.arg 0)=some (.rows 136 3 (T6.map br) false))->E.slots (.arg 1)=some (bW n)->
   cM Tryz.prog Tryz.f221.ntmps (.seq (c1 (c2 (c2 (c2 (c2 ek))))) (.seq (c1 (c2 (c2 (c2 (c2 (c2 ek)))))) .ret)) E (Fin [.tmp 4] (Ends ⟨[],[.osl (.arg 0) l.length,.fn 223 [.ptr (.arg 1) 0 0]],[.rows 136 3 (l.map br) false,bW n],.osl (.arg 0) (l.filter (fun x=>!(d7 n) x)).length,[some (.rows 136 3 ((l.filter (fun x=>!(d7 n) x)).map br) false),some (bW n)],[]⟩)):=by
  rintro E e0 e5 ⟨T6,TA,Uj,s0⟩ s1
  have UA:(l.filter (fun x=>!(d7 n) x)).length<=l.length:=aks _ _
  generalize XG:l.filter (fun x=>!(d7 n) x)=fl at*
  rw[OC,OD]
  refine bN (wt (x:=0) (y:=5) (d1:=36) (d2:=37) (d3:=38) (t:=34) (e:=136) (m:=3) (zt:=(.agg [str es,int 0,.e0])) (s:= .arg 0) (l:=T6.map br) (i:=fl.length) (by kernel_rfl) (by kernel_rfl) (by kernel_rfl) (by kernel_rfl) rfl (by decide) (by decide) (by decide) (by decide) (by decide) (by rw[e0,ajJ,TA]) e5 s0 (by rw[ajJ,TA];exact UA) ?_)
  simp only[n9]
  refine bN (wu (x:=0) (y:=5) (d1:=39) (d2:=40) (d3:=41) (d4:=4) (t:=34) (e:=136) (m:=3) (s:= .arg 0) (k:=l.length) (i:=fl.length) (.inr (by kernel_rfl)) (by kernel_rfl) (by kernel_rfl) (by decide) (by decide) (by decide) (by decide) (by decide) (by decide) (by simp[e0]) (by simp[e5]) UA ?_)
  simp only[n9]
  refine wo ?_
  have TD:List.take fl.length (T6.map br)=fl.map br:=by rw[<-List.map_take,Uj]
  simp only[tY]
  simp[fZ,cy.val]
  refine ug [(.arg 0,.arg 0),(.arg 1,.arg 1)] rfl (by simp[*]) ?_
  .simp[TD]
   exact .rfl
 have U5:IntKind.i64.wrap ((i0:Int)+1)=((i0+1:Nat):Int):=by rw[bx (by omega) (by omega)];omega
 try simp[U5]
 refine ba (fun E=>∃(j i:Nat) (T6:List Hd),i<j/\j<=l.length/\i=((l.take j).filter (fun x=>!(d7 n) x)).length/\T6.length=l.length/\T6.take i=(l.take j).filter (fun x=>!(d7 n) x)/\(∀k,j<=k->T6[k]?=l[k]?)/\E.tmps 0= .osl (.arg 0) l.length/\E.tmps 1= .fn 223 [.ptr (.arg 1) 0 0]/\E.tmps 5= .t (int i)/\E.tmps 6= .t (int j)/\E.slots (.arg 0)=some (.rows 136 3 (T6.map br) false)/\E.slots (.arg 1)=some (bW n)) (fun E=>match E.tmps 6 with| .t (.v (.int _ i))=>l.length-i.toNat|_=>0) [(.arg 0,.arg 0),(.arg 1,.arg 1)] rfl ?_ ?_
 .have hx:=ajq UL
  have TD:(l.take i0).filter (fun x=>!(d7 n) x)=l.take i0:=List.filter_eq_self.2 fun x hx=>by simp[ZM x hx]
  have W9:(l.take (i0+1)).filter (fun x=>!(d7 n) x)=l.take i0:=by rw[og hx,TD,hat _ hx];simp
  refine⟨i0+1,i0,l,by omega,by omega,by rw[W9,ajA];omega,rfl,by rw[W9],fun _ _=>rfl,?_,?_,?_,?_,?_,?_⟩<;>simp
 rintro E1 ⟨j,i,T6,XE,hj,hi,TA,Uj,YB,e0,e1,e5,e6,s0,s1⟩ hU hS A hA
 simp[Az]
 have UT:IntKind.i64.wrap ((i:Int)+1)=((i+1:Nat):Int):=by rw[bx (by omega) (by omega)];omega
 have Vs:IntKind.i64.wrap ((j:Int)+1)=((j+1:Nat):Int):=by rw[bx (by omega) (by omega)];omega
 have TC:i<T6.length:=by omega
 by_cases h:j<l.length
 .have hx:=ajq h
  obtain⟨x,Tm⟩:∃x,l[j]=x:=⟨_,rfl⟩
  rw[Tm]at hx
  have TN:=ajx hx
  have VP:=YB j (ajz _)
  rw[hx]at VP
  have hjc:j<T6.length:=by omega
  have UP:i<l.length:=by omega
  have WV:T6[j]=x:=(ajs.1 VP).2
  have c1:=Fi n x
  have WU:=og (q:=fun x=>!(d7 n) x) hx
  cases TJ:(d7 n) x with
  |true=>
   rw[TJ]at c1
   simp only[TJ,Bool.not_true,ajU,ajS,akr]at WU
   try simp[e0,e1,e5,e6,s0,hU,h,TA,VP,WV,UP,TC,UT,Vs,s1]
   all_goals try(repeat'(first|((refine UR (S:=[.arg 1]) c1 ?_ ?_;(· simp[e0,e1,e5,e6,s0,hU,h,TA,VP,WV,UP,TC,UT,Vs,s1]))<;>try simp[e0,e1,e5,e6,s0,hU,h,TA,VP,WV,UP,TC,UT,Vs,s1])))
   refine hA _ (aH [(.arg 0,.arg 0),(.arg 1,.arg 1)] rfl rfl ⟨j+1,i,T6,by omega,by omega,by rw[WU];exact hi,TA,by rw[WU];exact Uj,fun k hk=>YB k (by omega),?_,?_,?_,?_,?_,?_⟩ ?_)
   all_goals first|(simp[e0,e1,e5,e6,s0,Vs,s1];done)|(simp[e6,Vs];omega)
  |false=>
   rw[TJ]at c1
   simp only[TJ,Bool.not_false,if_true]at WU
   try simp[e0,e1,e5,e6,s0,hU,h,TA,VP,WV,UP,TC,UT,Vs,s1]
   all_goals try(repeat'(first|((refine UR (S:=[.arg 1]) c1 ?_ ?_;(· simp[e0,e1,e5,e6,s0,hU,h,TA,VP,WV,UP,TC,UT,Vs,s1]))<;>try simp[e0,e1,e5,e6,s0,hU,h,TA,VP,WV,UP,TC,UT,Vs,s1])))
   refine hA _ (aH [(.arg 0,.arg 0),(.arg 1,.arg 1)] rfl rfl ⟨j+1,i+1,T6.set i x,by omega,by omega,by rw[WU,ajB];simp;omega,by simp[TA],?_,fun k hk=>by rw[List.getElem?_set_ne (by omega)];exact YB k (by omega),?_,?_,?_,?_,?_,?_⟩ ?_)
   .rw[WU,<-Uj,List.take_add_one,List.take_set_of_le (ajz _),List.getElem?_set_self TC]
    rfl
   all_goals first|(simp[e0,e1,e5,e6,s0,UT,Vs,List.map_set,s1];done)|(simp[e6,Vs];omega)
 .have:j=l.length:=by omega
  subst this
  rw[akg]at hi Uj
  try simp[e0,e1,e5,e6,s0,hU,h,s1]
  skip
  refine Tx _ ?_ ?_ ⟨T6,TA,by rw[<-hi];exact Uj,?_⟩ ?_
  all_goals simp[e0,e1,e5,e6,s0,hi,s1]
def Fo{E:aa}{ds:List DV}{x x':ab}(hx:aE x x'):Ends ⟨[],ds,[],.t x',[],[]⟩ (.t x) E:=by
 refine qd ?_
 show bZ (E.out1 [] (.t x)) _
 rw[bn]
 exact .t hx
def tf(c:Ca)(n:ByteArray):Ca:=if dG c≠0 then fV else⟨c.cap,c.l.filter fun h=>!d7 n h⟩
def OG(c:Ca)(n:ByteArray)(hl:c.l.length<=1000000)(hb:∀h∈c.l,h.bytes.length<=1000000):aji 156 [dr c,str n] (.t (dr (tf c n))):=by
 have c1:=oF c hl hb
 have c2:=Fd c.l (by simp only[LIM];omega)
 have c3:=OF n c.l hl
 unfold tf
 generalize dG c=e at*
 generalize c.l.filter (fun h=>!d7 n h)=K at*
 by_cases h0:e=0
 .subst h0
  simp only[ne_eq,akB,ajS]
  refine pu CN rfl ?_
  simp[wm]
  repeat'(first|simp[*]|refine Up c1 rfl ?_|refine UN (F:=[]) c2 ?_ ?_|refine UR (S:=[.loc 12 0,.loc 3 0]) c3 ?_ ?_)
  refine wR (x:=dr ⟨c.cap,K⟩) (rd:=[.loc 12 0]) ?_ .rfl
  have U2:List.take K.length (K.map br)=K.map br:=aju (by simp)
  simp
 .rw[if_pos h0]
  refine pu CN rfl ?_
  simp[wm]
  repeat'(first|simp[*]|refine Up c1 rfl ?_)
  all_goals exact Fo l5
def tg(n:Int):Ca×Int:=if dG ⟨n,[]⟩≠0 then(fV,1)else(⟨n,[]⟩,0)
def OH(n:Int):aji 28 [int n] (.tup [.t (dr (tg n).1),.t (int (tg n).2)]):=by
 have c1:=oF ⟨n,[]⟩ (by simp) (by simp)
 unfold tg
 generalize dG ⟨n,[]⟩=e at*
 have TK:aE (.agg [int n,.e0]) (dr ⟨n,[]⟩):=l5
 have c1:=nS (ts':=[.agg [int n,.e0]]) c1 (by exact⟨TK,trivial⟩)
 by_cases h0:e=0
 .subst h0
  simp only[ne_eq,akB,ajS]
  refine pu Bw rfl ?_
  simp[vC]
  repeat'(first|simp[*]|refine UV (F:=[]) c1 rfl ?_ ?_)
  all_goals exact Eo (x:= .agg [int n,.e0]) (rd:=[]) (by simp) TK .rfl
 .rw[if_pos h0]
  refine pu Bw rfl ?_
  simp[vC]
  repeat'(first|simp[*]|refine UV (F:=[]) c1 rfl ?_ ?_)
  all_goals exact iV l5 .rfl
def gW(k:Nat):Nat->Bs->List Bs
 |0,_=>[]
 |f+1,l=>if l=[]then[]else l.take k::gW k f (l.drop k)
abbrev fw(k:Nat)(l:Bs):List Bs:=gW k (l.length+1) l
def ke(k:Nat)(l:Bs):List (List ab):=(fw k l).map fun x=>[aS x]
def OI(k:Nat)(l:Bs)(hl:l.length<=1000000)(hk:0<k)(ZC:k<=1000000):ajp 261 [.tp (aS l) 0,.tp (int k) 0] (ke k l):=by
 refine sf JH rfl ?_
 simp[A1,i9,GH]
 refine ba (fun E=>∃(i f a:Nat),a<=l.length+k/\l.length<a+f/\i<=(fw k l).length/\(fw k l).drop i=gW k f (l.drop a)/\E.tmps 0= .yl/\E.tmps 1= .tp (aS l) 0/\E.tmps 2= .tp (int k) 0/\E.tmps 4= .t (int a)/\E.tmps 1000000000=cD (some i))
  (fun E=>match E.tmps 4 with| .t (.v (.int _ i))=>l.length-i.toNat|_=>0) [(.yl,.yl)] rfl ?_ ?_
 .refine⟨0,l.length+1,0,by omega,by omega,by omega,rfl,?_,?_,?_,?_,?_⟩<;>simp[jL]
 rintro E1 ⟨i,f,a,ha,hf,hi,hd,e0,e1,e2,e4,eG⟩ hU hS A hA
 have VR:(ke k l).length=(fw k l).length:=by simp[ke]
 simp[A0,VR]
 by_cases h:a<l.length
 .obtain⟨f,rfl⟩:∃j,f=j+1:=⟨f-1,by omega⟩
  have TW:¬l.drop a=[]:=fun hh=>by have:=congrArg List.length hh;simp at this;omega
  rw[gW,if_neg TW,List.drop_drop]at hd
  obtain⟨q1,q2,q3⟩:=DO hd
  have q4:(ke k l)[i]?=some [aS ((l.drop a).take k)]:=by simp[ke,q1]
  have k1:(a:Int)<l.length:=by omega
  have k2:(a:Int)<=l.length:=by omega
  obtain⟨e,he⟩:∃e:Nat,e=if l.length-a<k then l.length-a else k:=⟨_,rfl⟩
  have Vu:(if(l.length:Int)-a<k then(l.length:Int)-a else k)=(e:Int):=by
   rw[he];split<;>split<;>omega
  have ae6:(if l.length-a<k then((l.length-a:Nat):Int)else(k:Int))=(e:Int):=by
   rw[he];split<;>rfl
  have hae:(a:Int)<=(a:Int)+e:=by omega
  have htn:((a:Int)+e).toNat=a+e:=by omega
  have hea:a+e<=l.length:=by rw[he];split<;>omega
  have hek:e<=k:=by rw[he];split<;>omega
  have afq:(a:Int)+e<=l.length:=by omega
  have Tj:List.drop a (List.take (a+e) (l.map aC))=((l.drop a).take k).map aC:=by
   rw[<-List.map_take,<-List.map_drop]
   congr 1
   rw[List.drop_take,Nat.add_sub_cancel_left,he]
   split
   .rw[aju (by simp),aju (by simp;omega)]
   .rfl
  have hw:IntKind.i64.wrap ((a:Int)+k)=((a+k:Nat):Int):=by rw[bx (by omega) (by omega)];omega
  have Ui:IntKind.i64.wrap ((a:Int)+e)=((a+e:Nat):Int):=by rw[bx (by omega) (by omega)];omega
  try simp[e0,e1,e2,e4,hU,h,k1,k2,Vu,ae6,hae,htn,hea,afq,Tj,hw,Ui,bt,np,jx]
  skip
  refine rx (i:=i) (x:=[aS ((l.drop a).take k)]) [] ?_ q4 ?_ ?_ ?_
  .simp[GH,eG]
  .simp
  .try simp[e0,e1,e2,e4,hU,GH,hw]
   skip
   refine hA _ (aH [(.yl,.yl)] rfl rfl ⟨i+1,f,a+k,by omega,by omega,by omega,q2,?_,?_,?_,?_,?_⟩ ?_)
   .simp[e0]
   .simp[e1]
   .simp[e2]
   .simp
   .simp[jL]
   .simp[e4]
    omega
  .try simp[e0,e1,e2,e4,hU,GH]
   skip
   refine⟨.inr rfl,.inr ?_⟩
   simp[GH]
 .have hz:l.drop a=[]:=List.drop_eq_nil_of_le (by omega)
  have hn:(fw k l).drop i=[]:=by
   rw[hd,hz]
   cases f<;>simp[gW]
  have:=wM hn hi
  have k1:¬(a:Int)<l.length:=by omega
  try simp[e0,e1,e2,e4,hU,h,k1]
  skip
  refine⟨.inl rfl,.inl ?_⟩
  simp[GH,eG,this]
def OJ(l:Bs)(k:Nat)(hk:0<k):ajk 224 ⟨[],[.t (aS l),.t (int k)],[],.fn 261 [.ptr (.loc 0 0) 0 0,.ptr (.loc 0 1) 0 0],[],[eU l,av k]⟩:=by
 have h1:¬(k:Int)<1:=by omega
 refine aJ Jr rfl ?_
 simp[AB]
 try simp[h1,hk]
 skip
 refine ug [(.loc 2 0,.loc 0 0),(.loc 3 0,.loc 0 1)] rfl (by simp[*]) ?_
 .simp
  exact .rfl
def Fp(k:Nat)(hk:0<k):∀(f:Nat) (l:Bs),(gW k f l).length<=l.length
 |0,l=>by simp[gW]
 |f+1,l=>by
  unfold gW
  split
  .simp
  .rename_i h
   have:=Fp k hk f (l.drop k)
   have:0<l.length:=List.length_pos_iff.2 h
   simp only[akx,aj9]at*
   omega
def Fq(l:Bs)(k:Nat)(hl:l.length<=1000000)(hk:0<k)(ZC:k<=1000000):aji 157 [aS l,int k] (.t (.sl 1 ((fw k l).map aS))):=by
 have c1:=lI l (by simp only[LIM];omega)
 have c2:=OJ l k hk
 have hit:=OI k l hl hk ZC
 have YA:(fw k l).length<=l.length:=Fp k hk (l.length+1) l
 have h1:¬(k:Int)<1:=by omega
 have Zf:List.take l.length (l.map aC)=l.map aC:=aju (by simp)
 have aab:List.range 2=[0,1]:=rfl
 refine pu KY rfl ?_
 simp[CO]
 try simp[h1,Zf,aab]
 all_goals try(repeat'(first|((first|(refine UN (F:=[]) c1 ?_ ?_;(· simp[h1,Zf,aab]))|(refine UG (S:=[]) (F:=[.loc 10 0]) c2 ?_ ?_;(· simp[h1,Zf,aab])))<;>try simp[h1,Zf,aab])))
 generalize hE:aa.put _ 12 _=E0
 have t5:E0.tmps 5= .ptr (.loc 5 0) 0 0:=by rw[<-hE];simp
 have t12:E0.tmps 12= .fn 261 [.ptr (.loc 12 0) 0 0,.ptr (.loc 12 1) 0 0]:=by rw[<-hE];simp
 have z5:E0.slots (.loc 5 0)=some (.box 201 (.t .e0) false):=by rw[<-hE];simp
 have z12:E0.slots (.loc 12 0)=some (eU l):=by rw[<-hE];simp
 have z13:E0.slots (.loc 12 1)=some (av k):=by rw[<-hE];simp
 have v5:E0.used (.loc 5 0)=true:=by rw[<-hE];simp
 have v7:E0.used (.loc 1000 0)=false:=by rw[<-hE];simp
 clear hE
 refine lr (xs:=ke k l) (f:=261) (caps:=[.ptr (.loc 12 0) 0 0,.ptr (.loc 12 1) 0 0]) (ts:=[.tp (aS l) 0,.tp (int k) 0]) (F:=[.loc 12 0,.loc 12 1]) [.loc 5 0] [.box 201 (.t .e0) false] 1000
  (fun i ns E=>∃(x:DV),E.slots (.arg 0)=some (.box 201 x false)/\
   ((i=0/\x= .t .e0/\ns=[.arg 0])\/(0<i/\x= .osl (.head 1 0) i/\ns=[.arg 0,.head 1 0]/\E.slots (.head 1 0)=some (.rows 59 1 (((fw k l).take i).map aS) false))))
  hit ?_ ?_ ?_ (gF rfl (by decide) rfl ?_ ?_ trivial ?_) ?_ ?_ ?_
 .simp[t12]
 .simp[aa.viewps,aa.viewp,z12,z13]
 .intro x hx
  simp only[ke,ajI]at hx
  obtain⟨p,_,rfl⟩:=hx
  rfl
 .simp[z5]
 .simp[v5]
 .simp[z12,z13]
 .exact⟨_,rfl,.inl ⟨rfl,rfl,rfl⟩⟩
 .rintro i x ns E1 hx ⟨y,e0,hc⟩ hU hS A hA
  simp only[ke,ajw,ajt]at hx
  obtain⟨p,hp,rfl⟩:=hx
  have TD:=fO hp
  have TC:=(ajs.1 hp).1
  generalize hC:fw k l=C at*
  rcases hc with⟨rfl,rfl,rfl⟩|⟨UL,rfl,rfl,e2⟩
  .simp[t5]
   try simp[e0,hU,t5,az,ax,aB,aa.more,LIM]
   skip
   refine hA _ [(.arg 0,.arg 0),(.loc 17 0,.head 1 0)] rfl rfl ⟨.osl (.head 1 0) 1,?_,.inr ⟨by omega,rfl,rfl,?_⟩⟩
   .simp
   .simp[TD]
  .have Zy:min i C.length=i:=by omega
   have YS:i<=99999999:=by omega
   simp[t5]
   try simp[e0,e2,hU,t5,az,ax,aB,aa.more,LIM,Zy,YS]
   skip
   refine hA _ [(.arg 0,.arg 0),(.loc 17 0,.head 1 0)] rfl rfl ⟨.osl (.head 1 0) (i+1),?_,.inr ⟨by omega,rfl,rfl,?_⟩⟩
   .simp
   .simp[TD,List.take_take]
 .rintro ns E1 ⟨y,e0,hc⟩ hU hS
  have VR:(ke k l).length=(fw k l).length:=by simp[ke]
  rw[VR]at hc
  rw[akg]at hc
  generalize hC:fw k l=C at*
  rcases hc with⟨h,rfl,rfl⟩|⟨UL,rfl,rfl,e2⟩
  .have Vd:=aj3.1 h
   subst Vd
   refine gG ⟨[],[],[],.junk,[some (.box 201 (.t .e0) false)],[]⟩ [(.arg 0,.arg 0)] rfl ?_ ?_ ?_ ?_ ?_
   .simp[e0]
   .simp
   .simp
   .simp
   .simp[t5,z5,z12,z13]
    try simp[t5,z5,z12,z13]
    skip
    exact Fo .nil
  .refine gG ⟨[],[],[],.junk,[some (.box 201 (.osl (.loc 0 0) C.length) false)],[.rows 59 1 (C.map aS) false]⟩ [(.arg 0,.arg 0),(.head 1 0,.loc 0 0)] rfl ?_ ?_ ?_ ?_ ?_
   .simp[e0,e2]
   .simp
   .simp
   .simp[v7]
   .simp[t5,z5,z12,z13]
    try simp[t5,z5,z12,z13]
    skip
    refine eM ?_
    have:List.take C.length (C.map aS)=C.map aS:=aju (by simp)
    simp[this]
abbrev oG(s:aw)(c:Ca)(n:ByteArray):Row:=il [.sl 2 (s.objs.map a0),int s.calls,.sl 2 (s.faults.map bD),int c.cap,.sl 3 (c.l.map br),int 0,int 0,.e0,str n]
abbrev da(s:aw)(c:Ca)(n:ByteArray):Row:=EB [.t (.sl 2 (s.objs.map a0)),.t (int s.calls),.t (.sl 2 (s.faults.map bD)),.t (int c.cap),.t (.sl 3 (c.l.map br)),.t (int 0),.t (int 0),.t .e0,.t (str n)]
def xw(s:aw)(c:Ca)(n:ByteArray):gK (da s c n) (oG s c n):= .inr ⟨_,_,_,_,rfl,rfl,rfl⟩
structure Ask where
 s:aw
 c:Ca
 b:Bs
 asked:Bool
 e:Int
def l6(nm:ByteArray)(s:aw):Nat->Nat->Ca->Bs->Ask
 |0,_,c,b=>⟨s,c,b,false,0⟩
 |k+1,i,c,b=>if(dB c nm i).2.2=true then l6 nm s k (i+1) (dB c nm i).1 (b++(dB c nm i).2.1)
  else⟨(kL s nm).1,c,(kL s nm).2.1,true,(kL s nm).2.2⟩
def iw(size:Int):Nat:=((size+511)/512).toNat
def d8(s:aw)(c:Ca)(nm:ByteArray)(size:Int):Ask:=l6 nm s (iw size) 0 c []
def Fs(c:Ca)(n:ByteArray)(i:Int):(dB c n i).1.l.length<=c.l.length:=by
 unfold dB
 split
 .simp[fV]
 .split
  .split
   .exact ajz _
   .rename_i h hx hi
    have:=(ajs.1 hx).1
    unfold cP
    rw[if_neg (by simpa using hi)]
    simp
    omega
  .exact ajz _
def Ft(c:Ca)(n:ByteArray)(i:Int){B:Nat}(hb:∀h∈c.l,h.bytes.length<=B):(∀h∈(dB c n i).1.l,h.bytes.length<=B)/\(dB c n i).2.1.length<=B:=by
 unfold dB
 split
 .simp[fV]
 .split
  .rename_i h hx
   have hm:=ajx hx
   split
   .exact⟨hb,by simp⟩
   .refine⟨fun x hx'=>?_,hb h hm⟩
    simp only[akc]at hx'
    rcases hx' with rfl|hx'
    .exact hb _ hm
    .unfold cP at hx'
     split at hx'
     .exact hb x hx'
     .rcases ajG.1 hx' with h1|h1
      .exact hb x (akm h1)
      .exact hb x (akn h1)
  .exact⟨hb,by simp⟩
def Fu(c:Ca)(n:ByteArray)(i:Int)(hf:(dB c n i).2.2=true):(∀h∈c.l,h∈(dB c n i).1.l)/\∃h∈(dB c n i).1.l,h.no=i:=by
 unfold dB at hf⊢
 split at hf
 .cases hf
 .rename_i h0
  rw[if_neg h0]
  split at hf
  .rename_i h hx
   split at hf
   .cases hf
   .rename_i hi
    rw[if_neg hi]
    rcases pM (eW ⟨n,i⟩) c.l with⟨h1,_⟩|⟨k,h1,h2,h3,_⟩
    .exact absurd (by rw[h1];decide) hi
    .rw[h1]at hx
     simp only[akl]at hx
     have hk:=h3 h hx
     refine⟨fun y hy=>?_,h,by simp,?_⟩
     .obtain⟨j,hj,hjy⟩:=ajL hy
      by_cases hjk:j=k
      .subst hjk
       have:h=y:=by rw[ajq hj,hjy]at hx;exact(Option.some.inj hx).symm
       simp[this]
      .simp only[akc]
       right
       unfold cP
       rw[h1,if_neg (by omega)]
       simp only[akl,ajG]
       by_cases hlt:j<k
       .left
        have:(c.l.take k)[j]?=some y:=by rw[List.getElem?_take_of_lt hlt,ajq hj,hjy]
        exact ajx this
       .right
        have:(c.l.drop (k+1))[j-(k+1)]?=some y:=by
         rw[aka,show k+1+(j-(k+1))=j by omega,ajq hj,hjy]
        exact ajx this
     .simp[eW,fv]at hk
      first|exact hk.2|omega|simp_all
  .cases hf
def xy{α:Type}(f:α->Int):∀(i:Nat) (l:List α),(∀j:Nat,j<i->∃h∈l,f h=j)->i<=l.length
 |0,_,_=>Nat.zero_le _
 |i+1,l,h=>by
  obtain⟨x,hx,hfx⟩:=h i (by omega)
  have ih:=xy f i (l.filter fun y=>!decide (f y=i)) (fun j hj=>by
   obtain⟨y,hy,hfy⟩:=h j (by omega)
   exact⟨y,List.mem_filter.2 ⟨hy,by simp;omega⟩,hfy⟩)
  have:(l.filter fun y=>!decide (f y=i)).length<l.length:=by
   rw[List.length_filter_lt_length_iff_exists]
   exact⟨x,hx,by simp[hfx]⟩
  omega
def OK{E:aa}:bZ (E.outD [(.arg 0,.arg 0)] (.tup [.t .e0,.t (bo false)])) (.tup [.t (aS []),.t (bo false)]):=by
 have h:E.outD [(.arg 0,.arg 0)] (.tup [.t .e0,.t (bo false)])= .tup [.t .e0,.t (bo false)]:=by simp
 rw[h]
 exact .tup2 (.t .nil) (.t .rfl)
abbrev Fv(s:aw)(c:Ca)(n nm:ByteArray)(size:Int)(d:DV)(r:Row):Ct:=⟨[],[.ptr (.arg 0) 0 0,.t (str nm),.t (int size)],[da s c n],d,[some r],[]⟩
def Fw{size:Int}{i:Nat}(h0:0<=size):((i:Int)*512<size↔i<iw size):=by
 unfold iw
 omega
def xz(s:aw)(c:Ca)(n nm:ByteArray)(size:Int)(B:Nat)(h1:s.objs.length<=1000000)(h2:s.faults.length<=1000000)(hl:c.l.length<=1000000)(hb:∀h∈c.l,h.bytes.length<=B)(hB:B<=1000000)(hlB:(c.l.length+1)*B<=100000000)(q0:0<=size)(q1:size<=1099511627776)(hz:(d8 s c nm size).e=0):
  ajk 151 (Fv s c n nm size (.tup [.t (aS (d8 s c nm size).b),.t (bo (d8 s c nm size).asked)]) (da (d8 s c nm size).s (d8 s c nm size).c n)):=by
 have d2:=Er s nm h1 h2
 have Xp:=m7
 have hK:iw size<=2147483648:=by unfold iw;omega
 have TA:∀i:Nat,((i:Int)*512<size↔i<iw size):=fun i=>Fw q0
 have hv:d8 s c nm size=l6 nm s (iw size) 0 c []:=rfl
 generalize d8 s c nm size=R at*
 generalize iw size=K at*
 refine aJ CJ rfl ?_
 simp[wi]
 try simp
 skip
 refine nP (fun ns E=>∃(i:Nat) (ci:Ca) (b:Bs),i<=K/\b.length<=i*B/\ci.l.length<=c.l.length/\(∀h∈ci.l,h.bytes.length<=B)/\(∀j:Nat,j<i->∃h∈ci.l,h.no=j)/\R=l6 nm s (K-i) i ci b/\E.tmps 0= .ptr (.arg 0) 0 0/\E.tmps 1= .t (str nm)/\E.tmps 2= .t (int size)/\E.tmps 8= .t (int i)/\E.tmps 7= .t (bo false)/\E.slots (.arg 0)=some (da s ci n)/\
   ((i=0/\b=[]/\E.tmps 6= .t .e0/\ns=[.arg 0])\/(0<i/\E.tmps 6= .osl (.head 1 0) b.length/\E.slots (.head 1 0)=some (.rows 5 1 (b.map aC) false)/\ns=[.arg 0,.head 1 0])))
  (fun E=>match E.tmps 8 with| .t (.v (.int _ i))=>K-i.toNat|_=>0) [(.arg 0,.arg 0)] rfl ?_ ?_
 .refine⟨0,c,[],by omega,by simp,by omega,hb,by omega,hv,?_,?_,?_,?_,?_,?_,.inl ⟨rfl,rfl,?_,rfl⟩⟩<;>simp
 rintro ns E1 ⟨i,ci,b,hi,XJ,afy,Wr,TN,hR,e0,e1,e2,e8,e7,s0,hd⟩ hU hS A hA
 have Xj:=xy (fun h:Hd=>h.no) i ci.l TN
 have hw:IntKind.i64.wrap ((i:Int)+1)=((i+1:Nat):Int):=by rw[bx (by omega) (by omega)];omega
 have Ui:IntKind.i64.wrap ((i:Int)*512)=(i:Int)*512:=by rw[bx (by omega) (by omega)]
 have hiB:i*B+B<=100000000:=by
  have h3:(i+1)*B<=(c.l.length+1)*B:=ajZ B (by omega)
  rw[Nat.add_mul,Nat.one_mul]at h3
  omega
 have W8:E1.used (.arg 0)=true:=by rcases hd with⟨_,_,_,rfl⟩|⟨_,_,_,rfl⟩<;>simp[hU]
 have WD:E1.used (.loc 9 0)=false:=by rcases hd with⟨_,_,_,rfl⟩|⟨_,_,_,rfl⟩<;>simp[hU]
 have W7:E1.used (.loc 12 0)=false:=by rcases hd with⟨_,_,_,rfl⟩|⟨_,_,_,rfl⟩<;>simp[hU]
 have VW:E1.used (.loc 57 0)=false:=by rcases hd with⟨_,_,_,rfl⟩|⟨_,_,_,rfl⟩<;>simp[hU]
 by_cases h:(i:Int)*512<size
 .have hiK:=(TA i).1 h
  have hKi:K-i=(K-(i+1))+1:=by omega
  rw[hKi]at hR
  have d1:=Ff ci nm i (by omega) (fun x hx=>by have:=Wr x hx;omega)
  have g1:=Fs ci nm i
  have g2:=Ft ci nm i Wr
  have g3:=Fu ci nm i
  unfold l6 at hR
  cases hg:(dB ci nm i).2.2 with
  |true=>
   rw[if_pos hg]at hR
   have g3:=g3 hg
   rw[hg]at d1
   generalize dB ci nm i=G at*
   have Wy:G.2.1.length<=B:=g2.2
   have hm2:∀j:Nat,j<i+1->∃x∈G.1.l,x.no=j:=by
    intro j hj
    by_cases Uk:j<i
    .obtain⟨x,hx,hxj⟩:=TN j Uk
     exact⟨x,g3.1 x hx,hxj⟩
    .obtain rfl:j=i:=by omega
     exact g3.2
   have ZL:(b++G.2.1).length<=(i+1)*B:=by
    rw[ajB,Nat.add_mul,Nat.one_mul]
    omega
   have hlim:b.length+G.2.1.length<=100000000:=by omega
   have TX:G.2.1.length<=100000000:=by omega
   have TD:List.take b.length (b.map aC)=b.map aC:=aju (by simp)
   rcases hd with⟨rfl,rfl,e6,rfl⟩|⟨UL,e6,s1,rfl⟩
   .have h0:(0:Int)<size:=by simpa using h
    simp[lE,e0,e1,e2,e8,Ui,h]
    try simp[e0,e1,e2,e8,e7,s0,hU,h,hw,hg,h0,e6,aB,aa.more,LIM,TX,WD,VW]
    all_goals try(repeat'(first|((refine UV (F:=[]) d1 rfl ?_ ?_;(· simp[e0,e1,e2,e8,e7,s0,hU,h,hw,hg,h0,e6,aB,aa.more,LIM,TX,WD,VW]))<;>try simp[e0,e1,e2,e8,e7,s0,hU,h,hw,hg,h0,e6,aB,aa.more,LIM,TX,WD,VW])))
    refine hA _ [(.arg 0,.arg 0),(.loc 57 0,.head 1 0)] rfl ⟨0+1,G.1,_++G.2.1,by omega,ZL,by omega,g2.1,hm2,hR,?_,?_,?_,?_,?_,?_,.inr ⟨by omega,?_,?_,rfl⟩⟩ ?_
    all_goals simp[e0,e1,e2,e8,e7,s0,hw]
    all_goals omega
   .simp[lE,e0,e1,e2,e8,Ui,h]
    try simp[e0,e1,e2,e8,e7,s0,hU,h,hw,hg,e6,s1,aB,aa.more,LIM,hlim,TD,WD,VW]
    all_goals try(repeat'(first|((refine UV (F:=[]) d1 rfl ?_ ?_;(· simp[e0,e1,e2,e8,e7,s0,hU,h,hw,hg,e6,s1,aB,aa.more,LIM,hlim,TD,WD,VW]))<;>try simp[e0,e1,e2,e8,e7,s0,hU,h,hw,hg,e6,s1,aB,aa.more,LIM,hlim,TD,WD,VW])))
    refine hA _ [(.arg 0,.arg 0),(.loc 57 0,.head 1 0)] rfl ⟨i+1,G.1,_++G.2.1,by omega,ZL,by omega,g2.1,hm2,hR,?_,?_,?_,?_,?_,?_,.inr ⟨by omega,?_,?_,rfl⟩⟩ ?_
    all_goals simp[e0,e1,e2,e8,e7,s0,hw]
    all_goals omega
  |false=>
   rw[hg]at hR
   simp only[ajU,ajS]at hR
   rw[hg]at d1
   generalize dB ci nm i=G at*
   generalize kL s nm=O at*
   subst hR
   simp only at hz⊢
   rw[hz]at d2
   simp[lE,e0,e1,e2,e8,Ui,h]
   try simp[e0,e1,e2,e8,e7,s0,hU,h,hw,hg,WD,W7]
   all_goals try(repeat'(first|((first|(refine UV (F:=[]) d1 rfl ?_ ?_;(· simp[e0,e1,e2,e8,e7,s0,hU,h,hw,hg,WD,W7]))|(refine UV (F:=[]) d2 rfl ?_ ?_;(· simp[e0,e1,e2,e8,e7,s0,hU,h,hw,hg,WD,W7]))|refine Up Xp rfl ?_)<;>try simp[e0,e1,e2,e8,e7,s0,hU,h,hw,hg,WD,W7])))
   refine ug [(.arg 0,.arg 0)] rfl (by simp[*]) ?_
   .simp
    exact .rfl
 .have hKi:K-i=0:=by have:=TA i;omega
  rw[hKi]at hR
  have hR:R=⟨s,ci,b,false,0⟩:=hR
  subst hR
  simp[lE,e0,e1,e2,e8,Ui,h]
  rcases hd with⟨rfl,rfl,e6,rfl⟩|⟨UL,e6,s1,rfl⟩
  .have h0:¬(0:Int)<size:=by simpa using h
   try simp[h0,e0,e1,e2,e8,e7,s0,hU,e6]
   skip
   refine ug [(.arg 0,.arg 0)] rfl (by simp[*]) ?_
   .exact OK
  .try simp[e0,e1,e2,e8,e7,s0,hU,e6,s1]
   skip
   refine ug [(.arg 0,.arg 0)] rfl (by simp[*]) ?_
   .simp[s1]
    exact .rfl
def OL(s:aw)(c:Ca)(n nm:ByteArray)(size:Int)(B:Nat)(h1:s.objs.length<=1000000)(h2:s.faults.length<=1000000)(hl:c.l.length<=1000000)(hb:∀h∈c.l,h.bytes.length<=B)(hB:B<=1000000)(hlB:(c.l.length+1)*B<=100000000)(q0:0<=size)(q1:size<=1099511627776)(hz:(d8 s c nm size).e≠0):
  ajm 151 (Fv s c n nm size (.tup [.t (aS (d8 s c nm size).b),.t (bo (d8 s c nm size).asked)]) (da (d8 s c nm size).s (d8 s c nm size).c n)) (j4 (d8 s c nm size).e):=by
 have d2:=Er s nm h1 h2
 have Xp:=m7
 have hK:iw size<=2147483648:=by unfold iw;omega
 have TA:∀i:Nat,((i:Int)*512<size↔i<iw size):=fun i=>Fw q0
 have hv:d8 s c nm size=l6 nm s (iw size) 0 c []:=rfl
 generalize d8 s c nm size=R at*
 generalize iw size=K at*
 refine jS CJ rfl ?_
 simp[wi]
 try simp
 skip
 refine nP (fun ns E=>∃(i:Nat) (ci:Ca) (b:Bs),i<=K/\b.length<=i*B/\ci.l.length<=c.l.length/\(∀h∈ci.l,h.bytes.length<=B)/\(∀j:Nat,j<i->∃h∈ci.l,h.no=j)/\R=l6 nm s (K-i) i ci b/\E.tmps 0= .ptr (.arg 0) 0 0/\E.tmps 1= .t (str nm)/\E.tmps 2= .t (int size)/\E.tmps 8= .t (int i)/\E.tmps 7= .t (bo false)/\E.slots (.arg 0)=some (da s ci n)/\
   ((i=0/\b=[]/\E.tmps 6= .t .e0/\ns=[.arg 0])\/(0<i/\E.tmps 6= .osl (.head 1 0) b.length/\E.slots (.head 1 0)=some (.rows 5 1 (b.map aC) false)/\ns=[.arg 0,.head 1 0])))
  (fun E=>match E.tmps 8 with| .t (.v (.int _ i))=>K-i.toNat|_=>0) [(.arg 0,.arg 0)] rfl ?_ ?_
 .refine⟨0,c,[],by omega,by simp,by omega,hb,by omega,hv,?_,?_,?_,?_,?_,?_,.inl ⟨rfl,rfl,?_,rfl⟩⟩<;>simp
 rintro ns E1 ⟨i,ci,b,hi,XJ,afy,Wr,TN,hR,e0,e1,e2,e8,e7,s0,hd⟩ hU hS A hA
 have Xj:=xy (fun h:Hd=>h.no) i ci.l TN
 have hw:IntKind.i64.wrap ((i:Int)+1)=((i+1:Nat):Int):=by rw[bx (by omega) (by omega)];omega
 have Ui:IntKind.i64.wrap ((i:Int)*512)=(i:Int)*512:=by rw[bx (by omega) (by omega)]
 have hiB:i*B+B<=100000000:=by
  have h3:(i+1)*B<=(c.l.length+1)*B:=ajZ B (by omega)
  rw[Nat.add_mul,Nat.one_mul]at h3
  omega
 have W8:E1.used (.arg 0)=true:=by rcases hd with⟨_,_,_,rfl⟩|⟨_,_,_,rfl⟩<;>simp[hU]
 have WD:E1.used (.loc 9 0)=false:=by rcases hd with⟨_,_,_,rfl⟩|⟨_,_,_,rfl⟩<;>simp[hU]
 have W7:E1.used (.loc 12 0)=false:=by rcases hd with⟨_,_,_,rfl⟩|⟨_,_,_,rfl⟩<;>simp[hU]
 have VW:E1.used (.loc 57 0)=false:=by rcases hd with⟨_,_,_,rfl⟩|⟨_,_,_,rfl⟩<;>simp[hU]
 by_cases h:(i:Int)*512<size
 .have hiK:=(TA i).1 h
  have hKi:K-i=(K-(i+1))+1:=by omega
  rw[hKi]at hR
  have d1:=Ff ci nm i (by omega) (fun x hx=>by have:=Wr x hx;omega)
  have g1:=Fs ci nm i
  have g2:=Ft ci nm i Wr
  have g3:=Fu ci nm i
  unfold l6 at hR
  cases hg:(dB ci nm i).2.2 with
  |true=>
   rw[if_pos hg]at hR
   have g3:=g3 hg
   rw[hg]at d1
   generalize dB ci nm i=G at*
   have Wy:G.2.1.length<=B:=g2.2
   have hm2:∀j:Nat,j<i+1->∃x∈G.1.l,x.no=j:=by
    intro j hj
    by_cases Uk:j<i
    .obtain⟨x,hx,hxj⟩:=TN j Uk
     exact⟨x,g3.1 x hx,hxj⟩
    .obtain rfl:j=i:=by omega
     exact g3.2
   have ZL:(b++G.2.1).length<=(i+1)*B:=by
    rw[ajB,Nat.add_mul,Nat.one_mul]
    omega
   have hlim:b.length+G.2.1.length<=100000000:=by omega
   have TX:G.2.1.length<=100000000:=by omega
   have TD:List.take b.length (b.map aC)=b.map aC:=aju (by simp)
   rcases hd with⟨rfl,rfl,e6,rfl⟩|⟨UL,e6,s1,rfl⟩
   .have h0:(0:Int)<size:=by simpa using h
    simp[lE,e0,e1,e2,e8,Ui,h]
    try simp[e0,e1,e2,e8,e7,s0,hU,h,hw,hg,h0,e6,aB,aa.more,LIM,TX,WD,VW]
    all_goals try(repeat'(first|((refine UV (F:=[]) d1 rfl ?_ ?_;(· simp[e0,e1,e2,e8,e7,s0,hU,h,hw,hg,h0,e6,aB,aa.more,LIM,TX,WD,VW]))<;>try simp[e0,e1,e2,e8,e7,s0,hU,h,hw,hg,h0,e6,aB,aa.more,LIM,TX,WD,VW])))
    refine hA _ [(.arg 0,.arg 0),(.loc 57 0,.head 1 0)] rfl ⟨0+1,G.1,_++G.2.1,by omega,ZL,by omega,g2.1,hm2,hR,?_,?_,?_,?_,?_,?_,.inr ⟨by omega,?_,?_,rfl⟩⟩ ?_
    all_goals simp[e0,e1,e2,e8,e7,s0,hw]
    all_goals omega
   .simp[lE,e0,e1,e2,e8,Ui,h]
    try simp[e0,e1,e2,e8,e7,s0,hU,h,hw,hg,e6,s1,aB,aa.more,LIM,hlim,TD,WD,VW]
    all_goals try(repeat'(first|((refine UV (F:=[]) d1 rfl ?_ ?_;(· simp[e0,e1,e2,e8,e7,s0,hU,h,hw,hg,e6,s1,aB,aa.more,LIM,hlim,TD,WD,VW]))<;>try simp[e0,e1,e2,e8,e7,s0,hU,h,hw,hg,e6,s1,aB,aa.more,LIM,hlim,TD,WD,VW])))
    refine hA _ [(.arg 0,.arg 0),(.loc 57 0,.head 1 0)] rfl ⟨i+1,G.1,_++G.2.1,by omega,ZL,by omega,g2.1,hm2,hR,?_,?_,?_,?_,?_,?_,.inr ⟨by omega,?_,?_,rfl⟩⟩ ?_
    all_goals simp[e0,e1,e2,e8,e7,s0,hw]
    all_goals omega
  |false=>
   rw[hg]at hR
   simp only[ajU,ajS]at hR
   rw[hg]at d1
   generalize dB ci nm i=G at*
   generalize kL s nm=O at*
   subst hR
   simp only at hz⊢
   simp[lE,e0,e1,e2,e8,Ui,h]
   try simp[e0,e1,e2,e8,e7,s0,hU,h,hw,hg,WD,W7]
   all_goals try(repeat'(first|((first|(refine UV (F:=[]) d1 rfl ?_ ?_;(· simp[e0,e1,e2,e8,e7,s0,hU,h,hw,hg,WD,W7]))|(refine UV (F:=[]) d2 rfl ?_ ?_;(· simp[e0,e1,e2,e8,e7,s0,hU,h,hw,hg,WD,W7]))|refine jT (kM _ hz) ?_)<;>try simp[e0,e1,e2,e8,e7,s0,hU,h,hw,hg,WD,W7])))
   exact kC [(.arg 0,.arg 0)] rfl (by simp[*])
 .have hKi:K-i=0:=by have:=TA i;omega
  rw[hKi]at hR
  have hR:R=⟨s,ci,b,false,0⟩:=hR
  subst hR
  exact absurd rfl hz
def gy(p:Pc)(b:aF):Bool:=decide (p.fin<=b.last)
def Fx(p:Pc)(b:aF):ajk 155 ⟨[],[.t (aG b),.ptr (.arg 0) 0 0],[eS p],.t (bo (gy p b)),[some (eS p)],[]⟩:=by
 unfold gy
 refine aJ KX rfl ?_
 simp[CM]
 skip
 exact ug [(.arg 0,.arg 0)] rfl (by simp[*]) .rfl
def OM(p:Pc)(l:List aF)(hl:l.length<=1000000):ajk 198 ⟨[],[.t (.sl 10 (l.map aG)),.fn 155 [.ptr (.arg 0) 0 0]],[eS p],.t (int (bf (gy p) l)),[some (eS p)],[]⟩:=by
 refine aJ rB rfl ?_
 simp[pB]
 refine ba (fun E=>∃(i:Nat),i<=l.length/\E.tmps 8= .t (int i)/\E.tmps 7= .t (int l.length)/\E.tmps 0= .t (.sl 10 (l.map aG))/\E.tmps 1= .fn 155 [.ptr (.arg 0) 0 0]/\E.slots (.arg 0)=some (eS p)/\(∀(j:Nat) (x:aF),j<i->l[j]?=some x->(gy p) x=false)) (fun E=>match E.tmps 8 with| .t (.v (.int _ i))=>l.length-i.toNat|_=>0) [(.arg 0,.arg 0)] rfl ?_ ?_
 .refine⟨0,by omega,?_,?_,?_,?_,?_,fun j x hj=>by omega⟩<;>simp
 rintro E1 ⟨i,hi,e8,e7,e0,e1,s0,hb⟩ hU hS A hA
 simp[pA,e8,e7]
 refine aN (fun h=>?_) (fun h=>?_)
 .have hx:=ajq h
  obtain⟨x,Tm⟩:∃x,l[i]=x:=⟨_,rfl⟩
  rw[Tm]at hx
  have TN:=ajx hx
  have c1:=Fx p x
  cases TJ:(gy p) x with
  |true=>
   rw[TJ]at c1
   repeat'(first|simp[*,s0,h]|refine UR (S:=[.arg 0]) c1 ?_ ?_)
   refine ug [(.arg 0,.arg 0)] rfl (by simp[*]) ?_
   .rw[fE hx hb TJ]
    exact .rfl
  |false=>
   rw[TJ]at c1
   repeat'(first|simp[*,s0,h]|refine UR (S:=[.arg 0]) c1 ?_ ?_|simp(disch:=omega) only[wr])
   refine hA _ (aH [(.arg 0,.arg 0)] rfl rfl ⟨i+1,by omega,?_,?_,?_,?_,?_,fun j y hj hy=>?_⟩ ?_)
   .simp
   .simp[e7]
   .simp[e0]
   .simp[e1]
   .simp[s0]
   .by_cases Uk:j=i
    .subst Uk
     rw[hx]at hy
     cases hy
     exact TJ
    .exact hb j y (by omega) hy
   .simp[e8]
    omega
 .repeat' simp[*,s0,h]
  refine ug [(.arg 0,.arg 0)] rfl (by simp[*]) ?_
  .rw[fP fun j x hx=>hb j x (by have:=(ajs.1 hx).1;omega) hx]
   exact .rfl
def xA(p:Pc)(l:List aF)(hl:l.length<=1000000):ajk 154 ⟨[],[.t (.sl 10 (l.map aG)),.fn 155 [.ptr (.arg 0) 0 0]],[eS p],.t (bo (l.any (gy p))),[some (eS p)],[]⟩:=by
 have c1:=OM p l hl
 refine aJ CL rfl ?_
 rw[<-mI]
 generalize bf (gy p) l=r at*
 simp[wl]
 repeat'(first|simp[*]|refine UR (S:=[.arg 0]) c1 ?_ ?_)
 exact ug [(.arg 0,.arg 0)] rfl (by simp[*]) .rfl
def iY(nm:ByteArray):Nat->List Bs->Ca->Ca
 |_,[],c=>c
 |i,x::l,c=>iY nm (i+1) l (gx c nm i x).1
structure th where
 s:aw
 c:Ca
 l:List aF
 e:Int
def na(p:Pc)(b:Bs):Bool:=decide (gk b=0)&&(decide ((b.length:Int)=p.size)&&(decide (((crcOf (bk b):Nat):Int)=p.sum)&&(decide (iQ p.base (bk b)=(bk b).length)&&!(dw p.base (bk b)).any (gy p))))
def ql(nm:ByteArray)(p:Pc)(a:Ask):th:=
 if a.e≠0 then⟨a.s,a.c,[],a.e⟩else if na p a.b=false then⟨a.s,tf a.c nm,[],20⟩
 else⟨a.s,if a.asked=true then iY nm 0 (fw 512 a.b) a.c else a.c,dw p.base (bk a.b),0⟩
def bQ(s:aw)(c:Ca)(n:ByteArray)(p:Pc):th:=ql (dF n p.id) p (d8 s c (dF n p.id) p.size)
abbrev Fy(s:aw)(c:Ca)(n:ByteArray)(p:Pc)(d:DV)(r:Row):Ct:=⟨[],[.ptr (.arg 0) 0 0,.t (aW p)],[da s c n],d,[some r],[]⟩
structure ON(p:Pc):Prop where
 id:0<=p.id/\p.id<=1099511627776
 size:0<=p.size/\p.size<=1099511627776
structure kO(s:aw)(c:Ca)(n:ByteArray)(p:Pc)(B:Nat):Prop where
 h1:s.objs.length<=1000000
 h2:s.faults.length<=1000000
 hl:c.l.length<=800000
 hb:∀h∈c.l,h.bytes.length<=B
 hB:B<=1000000
 hlB:(c.l.length+1)*B<=100000000
 hn:n.size<=1000000
 hp:ON p
 hab:(d8 s c (dF n p.id) p.size).b.length<=1000000
 hac:(d8 s c (dF n p.id) p.size).c.l.length<=800000
 hcb:∀h∈(d8 s c (dF n p.id) p.size).c.l,h.bytes.length<=1000000
def OO(s:aw)(c:Ca)(n:ByteArray)(p:Pc)(B:Nat)(hi:kO s c n p B)(hz:(bQ s c n p).e≠0):
  ajm 77 (Fy s c n p .junk (da (bQ s c n p).s (bQ s c n p).c n)) (j4 (bQ s c n p).e):=by
 have c1:=lY n p.id hi.hn (by have:=hi.hp.id;omega) (by have:=hi.hp.id;omega)
 have aP:=OL s c n (dF n p.id) p.size B hi.h1 hi.h2 (by have:=hi.hl;omega) hi.hb hi.hB hi.hlB hi.hp.size.1 hi.hp.size.2
 have aR:=xz s c n (dF n p.id) p.size B hi.h1 hi.h2 (by have:=hi.hl;omega) hi.hb hi.hB hi.hlB hi.hp.size.1 hi.hp.size.2
 have hab:=hi.hab
 have hac:=hi.hac
 have hcb:=hi.hcb
 unfold bQ at hz⊢
 generalize dF n p.id=nm at*
 generalize d8 s c nm p.size=a at*
 unfold ql at hz⊢
 by_cases e1:a.e=0
 .rw[if_neg (by simp[e1])]at hz⊢
  have aR:=aR e1
  by_cases Uf:na p a.b=false
  .rw[if_pos Uf]at hz⊢
   have c6:=OG a.c nm (by omega) hcb
   simp only at hz⊢
   generalize tf a.c nm=dc at*
   have Xp:=kM 20 (by decide)
   by_cases q1:gk a.b=0
   .have c2:=sE a.b hab q1
    have hol:(bk a.b).length<=a.b.length:=by simp[bk]
    have c3:=ou p.base (bk a.b) (by omega)
    have c4:=xA p (dw p.base (bk a.b)) (by have:=pX p.base (bk a.b);simp[dw];omega)
    have c5:=lL (bk a.b) (by omega)
    refine jS mQ rfl ?_
    simp[lD]
    unfold na at Uf
    generalize(dw p.base (bk a.b)).any (gy p)=bl at*
    repeat'(first|simp[*]|apply aj|refine Up c1 rfl ?_|refine UR (S:=[.arg 0]) aR ?_ ?_|refine UN (F:=[]) c2 ?_ ?_|refine UV (F:=[.loc 32 0]) c3 rfl ?_ ?_|refine UR (S:=[.loc 3 0]) c4 ?_ ?_|refine UV (F:=[.loc 32 0]) c5 rfl ?_ ?_|refine UV (F:=[]) c6 rfl ?_ ?_|refine jT Xp ?_|((first|apply aN|apply kq)<;>intro h))
    all_goals first
     |(refine py [(.arg 0,.arg 0)] rfl ?_ ?_ ?_
       ·(simp;done)
       ·(simp;done)
       ·(simp;done))
     |(exfalso;simp_all;done)
     |(exfalso;simp_all;omega)
   .have c2:=DB a.b hab q1
    have c3:=nS (ts':=[.agg [int p.base,.e0]]) (ou p.base [] (by simp)) ⟨aE.aggL ⟨.rfl,.nil,trivial⟩,trivial⟩
    have hn0:(dw p.base []).length<=1000000:=by
     have h2:(dw p.base []).length=(cO p.base []).length:=by simp[dw]
     rw[h2]
     exact akf (pX p.base []) (by simp)
    have c4:=xA p (dw p.base []) hn0
    refine jS mQ rfl ?_
    simp[lD]
    repeat'(first|simp[*,q1]|apply aj|refine Up c1 rfl ?_|refine UR (S:=[.arg 0]) aR ?_ ?_|refine Up c2 rfl ?_|refine UV (F:=[]) c3 rfl ?_ ?_|refine UR (S:=[.loc 3 0]) c4 ?_ ?_|refine UV (F:=[]) c6 rfl ?_ ?_|refine jT Xp ?_)
    all_goals first
     |(refine py [(.arg 0,.arg 0)] rfl ?_ ?_ ?_
       ·(simp;done)
       ·(simp;done)
       ·(simp;done))
     |(exfalso;simp_all;done)
     |(exfalso;simp_all;omega)
  .rw[if_neg Uf]at hz
   exact absurd rfl hz
 .rw[if_pos e1]at hz⊢
  simp only at hz⊢
  have aP:=aP e1
  refine jS mQ rfl ?_
  simp[lD]
  repeat'(first|simp[*]|refine Up c1 rfl ?_|refine UX (S:=[.arg 0]) aP ?_ ?_)
  all_goals first
   |(refine py [(.arg 0,.arg 0)] rfl ?_ ?_ ?_
     ·(simp;done)
     ·(simp;done)
     ·(simp;done))
   |(exfalso;simp_all;done)
   |(exfalso;simp_all;omega)
def Fz(c:Ca)(n:ByteArray)(i:Int)(b:Bs):(gx c n i b).1.l.length<=c.l.length+1:=by
 have ht:(cP c.l ⟨n,i⟩).length<=c.l.length:=by
  unfold cP
  split
  .exact ajz _
  .simp;omega
 unfold gx
 split
 .simp[fV]
 split
 .simp[fV]
 split
 .simp only;omega
 split
 .simp only[akx];omega
 .simp only[ajA,akx];omega
def FA(c:Ca)(n:ByteArray)(i:Int)(b:Bs){B:Nat}(hb:∀h∈c.l,h.bytes.length<=B)(Y5:b.length<=B):∀h∈(gx c n i b).1.l,h.bytes.length<=B:=by
 have ht:∀h∈cP c.l ⟨n,i⟩,h.bytes.length<=B:=by
  unfold cP
  split
  .exact hb
  .intro h hh
   rcases ajG.1 hh with h1|h1
   .exact hb h (akm h1)
   .exact hb h (akn h1)
 have hc:∀h∈(⟨n,i,b⟩::cP c.l ⟨n,i⟩:List Hd),h.bytes.length<=B:=by
  intro h hh
  rcases akc.1 hh with rfl|hh
  .exact Y5
  .exact ht h hh
 unfold gx
 split
 .simp[fV]
 split
 .simp[fV]
 split
 .exact ht
 split
 .exact hc
 .exact fun h hh=>hc h (akm hh)
def xB:∀(f:Nat) (l:Bs),512*(gW 512 f l).length<=l.length+511
 |0,l=>by simp[gW]
 |f+1,l=>by
  unfold gW
  split
  .simp
  .rename_i h
   have:=xB f (l.drop 512)
   have hl:0<l.length:=List.length_pos_iff.2 h
   simp only[akx,aj9]at*
   omega
def xC(k:Nat):∀(f:Nat) (l:Bs),∀x∈gW k f l,x.length<=l.length
 |0,l=>by simp[gW]
 |f+1,l=>by
  unfold gW
  split
  .simp
  .intro x hx
   rcases akc.1 hx with rfl|hx
   .simp;omega
   .have:=xC k f (l.drop k) x hx
    simp at this
    omega
def FB{p:Pc}{b:Bs}(h:¬na p b=false):gk b=0/\(b.length:Int)=p.size/\((crcOf (bk b):Nat):Int)=p.sum/\iQ p.base (bk b)=(bk b).length/\(dw p.base (bk b)).any (gy p)=false:=by
 unfold na at h
 simp only[Bool.not_eq_false,ajT,akk,Bool.not_eq_true']at h
 exact h
def OP(s:aw)(c:Ca)(n:ByteArray)(p:Pc)(B:Nat)(hi:kO s c n p B)(hz:(bQ s c n p).e=0):
  ajk 77 (Fy s c n p (.t (kE (bQ s c n p).l)) (da (bQ s c n p).s (bQ s c n p).c n)):=by
 have c1:=lY n p.id hi.hn (by have:=hi.hp.id;omega) (by have:=hi.hp.id;omega)
 have aR:=xz s c n (dF n p.id) p.size B hi.h1 hi.h2 (by have:=hi.hl;omega) hi.hb hi.hB hi.hlB hi.hp.size.1 hi.hp.size.2
 have hab:=hi.hab
 have hac:=hi.hac
 have hcb:=hi.hcb
 unfold bQ at hz⊢
 generalize dF n p.id=nm at*
 generalize d8 s c nm p.size=a at*
 unfold ql at hz⊢
 by_cases e1:a.e=0
 .rw[if_neg (by simp[e1])]at hz⊢
  have aR:=aR e1
  by_cases Uf:na p a.b=false
  .rw[if_pos Uf]at hz
   exact absurd hz (show¬(20:Int)=0 by decide)
  .rw[if_neg Uf]
   obtain⟨q1,q2,q3,q4,q5⟩:=FB Uf
   have c2:=sE a.b hab q1
   have hol:(bk a.b).length<=a.b.length:=by simp[bk]
   have c3:=ou p.base (bk a.b) (by omega)
   have c4:=xA p (dw p.base (bk a.b)) (by have:=pX p.base (bk a.b);simp[dw];omega)
   have c5:=lL (bk a.b) (by omega)
   rw[q5]at c4
   rw[q4]at c3
   rw[q3]at c5
   have c7:=Fq a.b 512 hab (by decide) (by decide)
   have hcn:512*(fw 512 a.b).length<=a.b.length+511:=xB (a.b.length+1) a.b
   have VG:∀x∈fw 512 a.b,x.length<=a.b.length:=xC 512 (a.b.length+1) a.b
   simp only
   cases ZN:a.asked with
   |false=>
    rw[ZN]at aR
    simp only[ajU,ajS]
    refine aJ mQ rfl ?_
    simp[lD,pH]
    repeat'(first|simp[*,q2]|apply aj|refine Up c1 rfl ?_|refine UR (S:=[.arg 0]) aR ?_ ?_|refine UN (F:=[]) c2 ?_ ?_|refine UV (F:=[.loc 32 0]) c3 rfl ?_ ?_|refine UR (S:=[.loc 3 0]) c4 ?_ ?_|refine UV (F:=[.loc 32 0]) c5 rfl ?_ ?_)
    exact ug [(.arg 0,.arg 0)] rfl (by simp[*]) .rfl
   |true=>
    rw[ZN]at aR
    simp only[if_true]
    generalize Yd:fw 512 a.b=ch at*
    refine aJ mQ rfl ?_
    simp[lD,pH]
    repeat'(first|simp[*,q2]|apply aj|refine Up c1 rfl ?_|refine UR (S:=[.arg 0]) aR ?_ ?_|refine UN (F:=[]) c2 ?_ ?_|refine UV (F:=[.loc 32 0]) c3 rfl ?_ ?_|refine UR (S:=[.loc 3 0]) c4 ?_ ?_|refine UV (F:=[.loc 32 0]) c5 rfl ?_ ?_|refine Up c7 rfl ?_)
    refine ba (fun E=>∃(i:Nat) (ci:Ca),i<=ch.length/\ci.l.length<=800000+i/\(∀h∈ci.l,h.bytes.length<=1000000)/\iY nm 0 ch a.c=iY nm i (ch.drop i) ci/\E.tmps 0= .ptr (.arg 0) 0 0/\E.tmps 5= .t (str nm)/\E.tmps 83= .t (.sl 1 (ch.map aS))/\E.tmps 84= .t (int ch.length)/\E.tmps 85= .t (int i)/\E.tmps 10= .t (kE (dw p.base (bk a.b)))/\E.slots (.arg 0)=some (da a.s ci n))
     (fun E=>match E.tmps 85 with| .t (.v (.int _ i))=>ch.length-i.toNat|_=>0) [(.arg 0,.arg 0)] rfl ?_ ?_
    .refine⟨0,a.c,by omega,by omega,hcb,rfl,?_,?_,?_,?_,?_,?_,?_⟩<;>simp
    rintro E1 ⟨i,ci,TC,TA,Wr,UD,e0,e5,e83,e84,e85,Vb,s0⟩ hU hS A hA
    simp[vQ,e84,e85]
    by_cases h:i<ch.length
    .have hx:=ajq h
     obtain⟨x,Tm⟩:∃x,ch[i]=x:=⟨_,rfl⟩
     have ZG:=aku h
     rw[Tm]at hx ZG
     have hxm:x∈ch:=Tm▸akA h
     have VR:=VG x hxm
     have hw:IntKind.i64.wrap ((i:Int)+1)=((i+1:Nat):Int):=by rw[bx (by omega) (by omega)];omega
     have d1:=Fh ci nm i x (by omega) Wr (by omega)
     have g1:=Fz ci nm i x
     have g2:=FA ci nm i x Wr (by omega)
     rw[ZG]at UD
     have UD:iY nm 0 ch a.c=iY nm (i+1) (ch.drop (i+1)) (gx ci nm i x).1:=UD
     generalize gx ci nm i x=Pc at*
     repeat'(first|simp[*,s0,h]|refine UV (F:=[]) d1 rfl ?_ ?_)
     refine hA _ (aH [(.arg 0,.arg 0)] rfl rfl ⟨i+1,Pc.1,by omega,by omega,g2,UD,?_,?_,?_,?_,?_,?_,?_⟩ ?_)
     all_goals simp[*,s0]
     all_goals omega
    .have TE:i=ch.length:=by omega
     subst TE
     rw[List.drop_length]at UD
     have UD:iY nm 0 ch a.c=ci:=UD
     rw[UD]
     repeat' simp[*,s0]
     exact ug [(.arg 0,.arg 0)] rfl (by simp[*]) .rfl
 .rw[if_pos e1]at hz
  exact absurd hz e1
def cJ(m:Mn)(s:aw)(c:Ca)(n:ByteArray)(off:Int):th:=if(eQ m off).2=false then⟨s,c,[],90⟩else bQ s c n (eQ m off).1
def OQ{s:aw}{c:Ca}{n:ByteArray}{p:Pc}(h:(bQ s c n p).e≠0):(bQ s c n p).l=[]:=by
 unfold bQ ql at*
 split
 .rfl
 .split
  .rfl
  .rename_i h1 h2
   rw[if_neg h1,if_neg h2]at h
   exact absurd rfl h
abbrev qm(l:List aF):Row:= .box 47 (.t (kE l)) false
abbrev iy:Row:= .box 47 (.t .e0) false
abbrev ti:List DV:=[.ptr (.arg 1) 0 0,.ptr (.arg 2) 0 0,.ptr (.arg 3) 0 0,.ptr (.arg 4) 0 0]
abbrev FC(m:Mn)(s:aw)(c:Ca)(n:ByteArray)(off:Int)(r b:Row):Ct:=⟨[],ti,[da s c n,bp m,av off,bq (.arg 0),iy],.tup [],[some r,some (bp m),some (av off),some (bq (.arg 0)),some b],[]⟩
def OS(m:Mn)(s:aw)(c:Ca)(n:ByteArray)(off:Int)(B:Nat)(hm:m.l.length<=1000000)(hi:(eQ m off).2=true->kO s c n (eQ m off).1 B)(hz:(cJ m s c n off).e=0):
  ajk 76 (FC m s c n off (da (cJ m s c n off).s (cJ m s c n off).c n) (qm (cJ m s c n off).l)):=by
 have c1:=D0 m off hm
 unfold cJ at hz⊢
 generalize eQ m off=A at*
 cases hA:A.2 with
 |false=>
  rw[if_pos hA]at hz
  exact absurd hz (show¬(90:Int)=0 by decide)
 |true=>
  rw[if_neg (by simp[hA])]at hz⊢
  have c2:=OP s c n A.1 B (hi hA) hz
  rw[hA]at c1
  generalize bQ s c n A.1=R at*
  refine aJ vP rfl ?_
  simp[rO,rN]
  repeat'(first|simp[*]|refine Up c1 rfl ?_|refine UR (S:=[.arg 0]) c2 ?_ ?_)
  exact ug [(.arg 0,.arg 0),(.arg 1,.arg 1),(.arg 2,.arg 2),(.arg 3,.arg 3),(.arg 4,.arg 4)] rfl (by simp[*]) .rfl
def OT(m:Mn)(s:aw)(c:Ca)(n:ByteArray)(off:Int)(B:Nat)(hm:m.l.length<=1000000)(hi:(eQ m off).2=true->kO s c n (eQ m off).1 B)(hz:(cJ m s c n off).e≠0):
  ajm 76 (FC m s c n off (da (cJ m s c n off).s (cJ m s c n off).c n) iy) (j4 (cJ m s c n off).e):=by
 have c1:=D0 m off hm
 unfold cJ at hz⊢
 generalize eQ m off=A at*
 cases hA:A.2 with
 |false=>
  rw[if_pos rfl]
  rw[hA]at c1
  simp only
  refine jS vP rfl ?_
  simp[rO,rN]
  repeat'(first|simp[*]|refine Up c1 rfl ?_|refine jT (kM 90 (by decide)) ?_)
  exact kC [(.arg 0,.arg 0),(.arg 1,.arg 1),(.arg 2,.arg 2),(.arg 3,.arg 3),(.arg 4,.arg 4)] rfl (by simp[*])
 |true=>
  rw[if_neg (by simp[hA])]at hz
  rw[if_neg (by simp)]
  have c2:=OO s c n A.1 B (hi hA) hz
  rw[hA]at c1
  generalize bQ s c n A.1=R at*
  refine jS vP rfl ?_
  simp[rO,rN]
  repeat'(first|simp[*]|refine Up c1 rfl ?_|refine UX (S:=[.arg 0]) c2 ?_ ?_)
  exact kC [(.arg 0,.arg 0),(.arg 1,.arg 1),(.arg 2,.arg 2),(.arg 3,.arg 3),(.arg 4,.arg 4)] rfl (by simp[*])
def OU{m:Mn}{s:aw}{c:Ca}{n:ByteArray}{off:Int}(h:(cJ m s c n off).e≠0):(cJ m s c n off).l=[]:=by
 unfold cJ at*
 split
 .rfl
 .rename_i h1
  rw[if_neg h1]at h
  exact OQ h
def kP(m:Mn)(s:aw)(c:Ca)(n:ByteArray)(off:Int):th:=
 if dx [ft n,bH m,bP s,dG c]≠0 then⟨fG,fV,[],dx [ft n,bH m,bP s,dG c]⟩
 else if fT (cJ m s c n off).e=true then cJ m s c n off else⟨fG,fV,[],(cJ m s c n off).e⟩
def OV(m:Mn)(s:aw)(c:Ca)(n:ByteArray)(off:Int)(B:Nat)(hm:m.l.length<=1000000)(hi:(eQ m off).2=true->kO s c n (eQ m off).1 B):
  ajk 46 ⟨[],[.ptr (.arg 0) 0 0,.fn 76 ti],[da s c n,bp m,av off,bq (.arg 0),iy],.t (int (cJ m s c n off).e),
   [some (if fT (cJ m s c n off).e=true then oG (cJ m s c n off).s (cJ m s c n off).c n else oy),some (bp m),some (av off),some (bq (.arg 0)),some (if(cJ m s c n off).e=0 then qm (cJ m s c n off).l else iy)],[]⟩:=by
 by_cases hz:(cJ m s c n off).e=0
 .have c1:=(OS m s c n off B hm hi hz).rows (rows2:=[da s c n,bp m,av off,bq (.arg 0),iy]) (rows2':=[some (oG (cJ m s c n off).s (cJ m s c n off).c n),some (bp m),some (av off),some (bq (.arg 0)),some (qm (cJ m s c n off).l)])
   ⟨.inl rfl,.inl rfl,.inl rfl,.inl rfl,.inl rfl,trivial⟩ ⟨.inr ⟨_,_,rfl,rfl,xw _ _ _⟩,.inl rfl,.inl rfl,.inl rfl,.inl rfl,trivial⟩
  have c2:=sV (n:=5) c1 rfl rfl (by decide) ?_ ?_ ?_
  .rw[if_pos hz,hz]
   exact c2
  .simp only[ti,akd]
   exact⟨rfl,rfl,rfl,rfl,by simp⟩
  .simp only[akd]
   exact⟨rfl,rfl,rfl,rfl,rfl,by simp⟩
  .intro i r hi
   match i with
   |0=>cases hi;rfl
   |1=>cases hi;rfl
   |2=>cases hi;rfl
   |3=>cases hi;rfl
   |4=>cases hi;rfl
   |i+5=>simp at hi
 .have c1:=(OT m s c n off B hm hi hz).rows (rows2:=[da s c n,bp m,av off,bq (.arg 0),iy]) (rows2':=[some (oG (cJ m s c n off).s (cJ m s c n off).c n),some (bp m),some (av off),some (bq (.arg 0)),some iy])
   ⟨.inl rfl,.inl rfl,.inl rfl,.inl rfl,.inl rfl,trivial⟩ ⟨.inr ⟨_,_,rfl,rfl,xw _ _ _⟩,.inl rfl,.inl rfl,.inl rfl,.inl rfl,trivial⟩
  rw[if_neg hz]
  refine w9 (n:=5) c1 rfl rfl ?_ ?_ ?_
  .simp only[ti,akd]
   exact⟨rfl,rfl,rfl,rfl,by simp⟩
  .simp only[akd]
   exact⟨rfl,rfl,rfl,rfl,rfl,by simp⟩
  .intro i r hi
   match i with
   |0=>cases hi;rfl
   |1=>cases hi;rfl
   |2=>cases hi;rfl
   |3=>cases hi;rfl
   |i+4=>simp at hi
def qn{E:aa}{ts:List ab}{x x' y y' z z' u u':ab}(hx:aE x x')(hy:aE y y')(hz:aE z z')(hu:aE u u'):Ends (de ts (.tup [.t x',.t y',.t z',.t u'])) (.tup [.t x,.t y,.t z,.t u]) E:=by
 refine jP ?_
 show bZ (.tup [E.out1 [] (.t x),E.out1 [] (.t y),E.out1 [] (.t z),E.out1 [] (.t u)]) _
 rw[bn,bn,bn,bn]
 refine .tup (Eq.refl _) fun i a b ha hb=>?_
 match i with
 |0=>cases ha;cases hb;exact .t hx
 |1=>cases ha;cases hb;exact .t hy
 |2=>cases ha;cases hb;exact .t hz
 |3=>cases ha;cases hb;exact .t hu
 |i+4=>simp at ha
def OW(m:Mn)(s:aw)(c:Ca)(n:ByteArray)(off:Int)(B:Nat)(hm:m.l.length<=1000000)(hl:c.l.length<=1000000)(hb:∀h∈c.l,h.bytes.length<=1000000)(hi:dx [ft n,bH m,bP s,dG c]=0->(eQ m off).2=true->kO s c n (eQ m off).1 B):
  aji 20 [bh m,bi s,dr c,str n,int off] (.tup [.t (kE (kP m s c n off).l),.t (bi (kP m s c n off).s),.t (dr (kP m s c n off).c),.t (int (kP m s c n off).e)]):=by
 have c1:=sQ n
 have c1:aji 43 [str n] (.t (int (ft n))):=c1
 have c2:=oF c hl hb
 have c3:=lQ m hm
 have c4:=tc s
 have c5:=p7 [ft n,bH m,bP s,dG c] (by simp)
 have hv:kP m s c n off=kP m s c n off:=rfl
 conv at hv=>rhs;unfold kP
 generalize kP m s c n off=r at*
 generalize ft n=e1 at*
 generalize dG c=e2 at*
 generalize bH m=e3 at*
 generalize bP s=e4 at*
 generalize dx [e1,e3,e4,e2]=ce at*
 simp only[ajQ,aj4]at c5
 by_cases VG:ce=0
 .rw[if_neg (by simp[VG])]at hv
  have c6:=OV m s c n off B hm (hi VG)
  have hfe:=OU (m:=m) (s:=s) (c:=c) (n:=n) (off:=off)
  generalize cJ m s c n off=W at*
  subst VG
  by_cases hk:fT W.e=true
  .rw[if_pos hk]at hv
   rw[if_pos hk]at c6
   subst hv
   by_cases h0:r.e=0
   .rw[if_pos h0]at c6
    refine pu rI rfl ?_
    simp[pF]
    repeat'(first|simp[*,az,ax]|refine Up c1 rfl ?_|refine Up c2 rfl ?_|refine Up c3 rfl ?_|refine Up c4 rfl ?_|refine Up c5 rfl ?_|refine UG (S:=[.loc 34 0,.loc 5 0,.loc 9 0,.loc 14 0,.loc 10 0]) (F:=[]) c6 ?_ ?_)
    all_goals exact qn .rfl .rfl .rfl .rfl
   .rw[if_neg h0]at c6
    rw[hfe h0]
    refine pu rI rfl ?_
    simp[pF]
    repeat'(first|simp[*,az,ax]|refine Up c1 rfl ?_|refine Up c2 rfl ?_|refine Up c3 rfl ?_|refine Up c4 rfl ?_|refine Up c5 rfl ?_|refine UG (S:=[.loc 34 0,.loc 5 0,.loc 9 0,.loc 14 0,.loc 10 0]) (F:=[]) c6 ?_ ?_)
    all_goals exact qn .nil .rfl .rfl .rfl
  .have h0:W.e≠0:=fun h=>hk (by rw[h];rfl)
   rw[if_neg hk]at hv c6
   rw[if_neg h0]at c6
   subst hv
   refine pu rI rfl ?_
   simp[pF]
   repeat'(first|simp[*,az,ax]|refine Up c1 rfl ?_|refine Up c2 rfl ?_|refine Up c3 rfl ?_|refine Up c4 rfl ?_|refine Up c5 rfl ?_|refine UG (S:=[.loc 34 0,.loc 5 0,.loc 9 0,.loc 14 0,.loc 10 0]) (F:=[]) c6 ?_ ?_)
   all_goals exact qn .nil iq l5 .rfl
 .rw[if_pos VG]at hv
  subst hv
  refine pu rI rfl ?_
  simp[pF]
  repeat'(first|simp[*,az,ax]|refine Up c1 rfl ?_|refine Up c2 rfl ?_|refine Up c3 rfl ?_|refine Up c4 rfl ?_|refine Up c5 rfl ?_)
  all_goals exact qn .nil iq l5 .rfl
end
end Go.Wt
