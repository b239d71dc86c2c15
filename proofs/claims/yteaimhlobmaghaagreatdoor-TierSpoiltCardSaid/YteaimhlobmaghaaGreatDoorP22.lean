/- A part of the proof of a tier statement (the last text closes it): lemmas without condition. -/
import Derived.Test.YteaimhlobmaghaaGreatDoorP21
set_option linter.all false
set_option maxRecDepth 10000000
set_option maxHeartbeats 0
namespace Go.Wt
section
open Go.RowKit Go.Proofs Go.Lib Go.Wm
noncomputable def iu:Code:=Tryz.f75.body.getD .skip
noncomputable def kN:Code:=c1 (c1 (c2 (c1 (c2 (c2 (c2 iu))))))
noncomputable def m9:Code:=c1 (c1 (c2 (c2 kN)))
noncomputable def eV:Array Oper:=match c1 (c2 (c2 m9))with| .region _ ops _=>ops|_=>#[]
def EQ:List aT:=[⟨some 33,.mv (.tmp 3),none⟩,⟨some 34,.load 2 true (.tmp 6),none⟩,⟨some 35,.mget 192 (.v (.int .i64 0)) (.tmp 33) (.tmp 34) false,none⟩,⟨some 36,.bin .add 3 (.tmp 35) (.const (.int .i64 1)),none⟩,
 ⟨some 37,.ment 192 (.v (.int .i64 0)) (.tmp 33) (.tmp 34),none⟩,⟨some 38,.ext (.tmp 37) 1,none⟩,⟨none,.mst (.tmp 33) (.tmp 38) (.tmp 36),none⟩]
def N3:eV.toList.mapM (fM Tryz.prog Tryz.f75.ntmps eV)=some EQ:=by kernel_rfl
def N4:eV.size=7:=by kernel_rfl
def ER:Region.ready .any eV #[false,false,false,false,false,false,false]=[0,1]:=by kernel_rfl
def ES:Region.ready .any eV #[true,false,false,false,false,false,false]=[1]:=by kernel_rfl
def ET:Region.ready .any eV #[false,true,false,false,false,false,false]=[0]:=by kernel_rfl
def EU:Region.ready .any eV #[true,true,false,false,false,false,false]=[2,4]:=by kernel_rfl
def EV:Region.ready .any eV #[true,true,true,false,false,false,false]=[3,4]:=by kernel_rfl
def EW:Region.ready .any eV #[true,true,true,true,false,false,false]=[4]:=by kernel_rfl
def EX:Region.ready .any eV #[true,true,false,false,true,false,false]=[2,5]:=by kernel_rfl
def EY:Region.ready .any eV #[true,true,false,false,true,true,false]=[2]:=by kernel_rfl
def EZ:Region.ready .any eV #[true,true,true,false,true,false,false]=[3,5]:=by kernel_rfl
def E5:Region.ready .any eV #[true,true,true,true,true,false,false]=[5]:=by kernel_rfl
def E6:Region.ready .any eV #[true,true,true,false,true,true,false]=[3]:=by kernel_rfl
def E7:Region.ready .any eV #[true,true,true,true,true,true,false]=[6]:=by kernel_rfl
def N5:Region.ready .any eV #[true,true,true,true,true,true,true]=[]:=by kernel_rfl
def kc(h:Nm)(k:Ky)(v0:Int)(b:Nat)(es1 es2:List (Value×DV×Nat))(cc:Nat):Nat->Rc
 |0=> .run ⟨.mp h,[],[]⟩
 |1=> .run ⟨.t (dQ k),[.loc 6 0],[]⟩
 |2=> .run ⟨.t (int v0),[h],[]⟩
 |3=> .run ⟨.t (int (v0+1)),[],[]⟩
 |4=> .run ⟨.tup [.t (int v0),.t (int b)],[h],[(h,some (.obj (.mp es1 cc) false))]⟩
 |5=> .run ⟨.t (int b),[],[]⟩
 |_=> .run ⟨.junk,[h],[(h,some (.obj (.mp es2 cc) false))]⟩
def N6{E:aa}{h:Nm}{k:Ky}{v0:Int}{b:Nat}{es es1 es2:List (Value×DV×Nat)}{c cc:Nat}{K:aa->Prop}(e3:E.tmps 3= .mp h)(e6:E.tmps 6= .ptr (.loc 6 0) 0 0)(s6:E.slots (.loc 6 0)=some (.box 192 (.t (dQ k)) false))(TW: .loc 6 0≠h)(sh:E.slots h=some (.obj (.mp es c) false))(hu:E.used h=true)
  (hw:IntKind.i64.wrap (v0+1)=v0+1)
  (g1:∀E':aa,E'.slots h=some (.obj (.mp es c) false)->fy Tryz.prog E' 192 (int 0) false (.mp h) (.t (dQ k))=some ⟨.t (int v0),[h],[]⟩)
  (g2:∀E':aa,E'.slots h=some (.obj (.mp es1 cc) false)->fy Tryz.prog E' 192 (int 0) false (.mp h) (.t (dQ k))=some ⟨.t (int v0),[h],[]⟩)
  (g3:∀E':aa,E'.slots h=some (.obj (.mp es c) false)->kh Tryz.prog E' 192 (int 0) (.mp h) (.t (dQ k))=some ⟨.tup [.t (int v0),.t (int b)],[h],[(h,some (.obj (.mp es1 cc) false))]⟩)
  (g4:∀E':aa,E'.slots h=some (.obj (.mp es1 cc) false)->ki E' (.mp h) (.t (int b)) (.t (int (v0+1)))=some ⟨.junk,[h],[(h,some (.obj (.mp es2 cc) false))]⟩)
  (hK:∀E':aa,(∀t,t<33->E'.tmps t=E.tmps t)->(∀s,s≠h->E'.slots s=E.slots s)->E'.slots h=some (.obj (.mp es2 cc) false)->(∀s,E'.used s=E.used s)->K E'):
  jI Tryz.prog bu eV EQ (kc h k v0 b es1 es2 cc) K 7 #[false,false,false,false,false,false,false] E:=by
 iterate 7
  all_goals
   refine⟨fun h0=>by simp[ER,ES,ET,EU,EV,EW,EX,EY,EZ,E5,E6,E7]at h0,fun i hi=>?_⟩
   simp only[ER,ES,ET,EU,EV,EW,EX,EY,EZ,E5,E6,E7,akc,List.mem_nil_iff,or_false]at hi
   (first|(rcases hi with rfl|rfl)|subst hi)<;>(refine⟨_,rfl,⟨.inl rfl,by simp[*,al.den,iF,kc,Rc.d,Rc.ups,ap,s6,TW.symm,val]⟩,?_⟩;change jI _ _ _ _ _ _ _ #[_,_,_,_,_,_,_] _)
 all_goals
  refine⟨N5,hK _ (fun t ht=>?_) (fun s hs=>?_) ?_ (fun s=>?_)⟩
  .simp[ap,Rc.d,Rc.ups,kc]
   (repeat' split)<;>first|omega|rfl
  .simp[ap,Rc.d,Rc.ups,kc,hs]
  .simp[ap,Rc.d,Rc.ups,kc]
  .by_cases hs:s=h<;>simp[ap,Rc.d,Rc.ups,kc,hs,hu]
def kd(l:List Hd)(i:Nat):Bool:=match l[i]? with
 |none=>true
 |some h=>oE (eF h)&&!((l.take i).map eF).any (fv (eF h))
def dG(c:Ca):Int:=if c.cap<0 then 1 else if 1099511627776<c.cap then 1 else if c.cap<gw c.l then 1 else if((List.range c.l.length).all (kd c.l))=false then 1 else 0
def N7(a:Ky):oP Tryz.prog (cf a) (cf a)=some (cf a):=by
 have h:Instr.sameBits 10000 (cf a) (cf a)=true:=by
  simp[Instr.sameBits]
  show(a.name.data==a.name.data)=true
  simp
 unfold oP Instr.keyThatStays
 rw[if_pos h]
 rfl
def ents(ks:List Ky):List (Value×DV×Nat):=ks.zipIdx.map fun p=>(cf p.1,.t (int 1),p.2)
def E8(ks:List Ky):(ents ks).map (·.1)=ks.map cf:=by
 simp only[ents,aj8]
 conv=>rhs;rw[show ks=ks.zipIdx.map (·.1) by simp]
 rw[aj8]
 rfl
def E9(a b:Ky):fv a b=true↔a=b:=by
 obtain⟨a1,a2⟩:=a
 obtain⟨b1,b2⟩:=b
 have h:(a1==b1)=true↔a1=b1:=by
  show(a1.data==b1.data)=true↔_
  rw[beq_iff_eq]
  cases a1;cases b1;simp
 simp only[fv,ajT,h,beq_iff_eq,and_true,Ky.mk.injEq]
def Fa(k:Ky):∀(l:List Ky) (i:Nat),l.any (fv k)=true->∃j,l[j]?=some k/\gU k l i=some (i+j)
 |[],_,h=>by simp at h
 |a::l,i,h=>by
  by_cases hq:fv k a=true
  .exact⟨0,by simp[(E9 k a).1 hq],by simp[gU,hq]⟩
  .have hq:fv k a=false:=by simpa using hq
   simp only[List.any_cons,hq,Bool.false_or]at h
   obtain⟨j,h1,h2⟩:=Fa k l (i+1) h
   exact⟨j+1,by simp[h1],by simp[gU,hq,h2];omega⟩
def N8(k:Ky)(l:List Ky)(h:l.any (fv k)=false):∀i,gU k (l++[k]) i=some (i+l.length):=by
 induction l with
 |nil=>intro i;simp[gU,(E9 k k).2 rfl]
 |cons a l ih=>
  intro i
  simp only[List.any_cons,Bool.or_eq_false_iff]at h
  simp[gU,h.1,ih h.2]
  omega
def N9{f:FuncId}{fn:Func}{code:Code}{rs:List cy}(hf:Tryz.prog.funcs[f]?=some fn)(Vk:(fn.name== "runtime.NumGoroutine")=false)
  (hb:fn.body=some code) (hr:i8 Tryz.prog fn=some rs) (ts:List ab) (d:DV) (hn:ts.length<=fn.ntmps) (hw:cM Tryz.prog fn.ntmps code (ew ts) (Fin rs (Ends (de ts d)))):aji f ts d:=by
 have he:(Ct.mk [] (ts.map .t) [] d [] []).env=ew ts:=by
  refine aa.ext' rfl (funext fun s=>?_) (funext fun s=>?_)
  .cases s<;>simp[Ct.env]
  .cases s<;>simp[Ct.env,Ct.used0]
 refine CW hf Vk hb hr _ (by simpa using hn) ?_
 rw[he]
 exact hw
def Oa:iu= .seq (c1 iu) (.seq (c1 (c2 iu)) (.seq (c1 (c2 (c2 iu))) (.seq (.seq (c1 (c1 (c2 (c2 (c2 iu))))) (.block 0 (.loop kN))) (c2 (c2 (c2 (c2 iu))))))):=by kernel_rfl
def Ob:kN= .seq (c1 kN) (.seq (c1 (c2 kN)) (.seq (.block 1 (.seq (c1 m9) (.seq (c1 (c2 m9)) (.seq (.region 8 eV true) (c2 (c2 (c2 m9))))))) (c2 (c2 (c2 kN))))):=by kernel_rfl
def q1:aZ Tryz.prog Tryz.f75.ntmps true (c1 iu)=some (d1 gI):=by kernel_rfl
def q2:aZ Tryz.prog Tryz.f75.ntmps true (c1 (c2 iu))=some (d1 (d2 gI)):=by kernel_rfl
def q3:aZ Tryz.prog Tryz.f75.ntmps true (c1 (c2 (c2 iu)))=some (d1 (d2 (d2 gI))):=by kernel_rfl
def q4:aZ Tryz.prog Tryz.f75.ntmps true (c1 (c1 (c2 (c2 (c2 iu)))))=some (d1 (d1 (d2 (d2 (d2 gI))))):=by kernel_rfl
def q5:aZ Tryz.prog Tryz.f75.ntmps true (c2 (c2 (c2 (c2 iu))))=some (d2 (d2 (d2 (d2 gI)))):=by kernel_rfl
def q6:aZ Tryz.prog Tryz.f75.ntmps true (c1 kN)=some (d1 gH):=by kernel_rfl
def q7:aZ Tryz.prog Tryz.f75.ntmps true (c1 (c2 kN))=some (d1 (d2 gH)):=by kernel_rfl
def q8:aZ Tryz.prog Tryz.f75.ntmps true (c1 m9)=some (d1 (d1 (d1 (d2 (d2 gH))))):=by kernel_rfl
def q9:aZ Tryz.prog Tryz.f75.ntmps true (c1 (c2 m9))=some (d1 (d2 (d1 (d1 (d2 (d2 gH)))))):=by kernel_rfl
def td:aZ Tryz.prog Tryz.f75.ntmps true (c2 (c2 (c2 m9)))=some (d2 (d2 (d2 (d1 (d1 (d2 (d2 gH))))))):=by kernel_rfl
def xt:aZ Tryz.prog Tryz.f75.ntmps true (c2 (c2 (c2 kN)))=some (d2 (d2 (d2 gH))):=by kernel_rfl
def Fb{E:aa}{h:Nm}{k:Ky}{v0:Int}{b:Nat}{es es1 es2:List (Value×DV×Nat)}{c cc:Nat}{K:Exit->aa->Prop}(hg:h.isGlob=false)(e3:E.tmps 3= .mp h)(e6:E.tmps 6= .ptr (.loc 6 0) 0 0)(s6:E.slots (.loc 6 0)=some (.box 192 (.t (dQ k)) false))(TW: .loc 6 0≠h)(sh:E.slots h=some (.obj (.mp es c) false))(hu:E.used h=true)
  (hw:IntKind.i64.wrap (v0+1)=v0+1)
  (g1:∀E':aa,E'.slots h=some (.obj (.mp es c) false)->fy Tryz.prog E' 192 (int 0) false (.mp h) (.t (dQ k))=some ⟨.t (int v0),[h],[]⟩)
  (g2:∀E':aa,E'.slots h=some (.obj (.mp es1 cc) false)->fy Tryz.prog E' 192 (int 0) false (.mp h) (.t (dQ k))=some ⟨.t (int v0),[h],[]⟩)
  (g3:∀E':aa,E'.slots h=some (.obj (.mp es c) false)->kh Tryz.prog E' 192 (int 0) (.mp h) (.t (dQ k))=some ⟨.tup [.t (int v0),.t (int b)],[h],[(h,some (.obj (.mp es1 cc) false))]⟩)
  (g4:∀E':aa,E'.slots h=some (.obj (.mp es1 cc) false)->ki E' (.mp h) (.t (int b)) (.t (int (v0+1)))=some ⟨.junk,[h],[(h,some (.obj (.mp es2 cc) false))]⟩)
  (hK:∀E':aa,(∀t,t<33->E'.tmps t=E.tmps t)->(∀s,s≠h->E'.slots s=E.slots s)->E'.slots h=some (.obj (.mp es2 cc) false)->(∀s,E'.used s=E.used s)->K .normal E'):cM Tryz.prog Tryz.f75.ntmps (.region 8 eV true) E K:=by
 refine K4 bC N3 (G:=kc h k v0 b es1 es2 cc) (fun i=>?_) ?_
 .intro p hp
  match i with
  |0|1|2|3|5=>simp[kc,Rc.ups]at hp
  |4=>simp[kc,Rc.ups]at hp;rw[hp];exact hg
  |i+6=>simp[kc,Rc.ups]at hp;rw[hp];exact hg
 .rw[N4]
  exact N6 e3 e6 s6 TW sh hu hw g1 g2 g3 g4 hK
def Oc{ks:List Ky}{j:Nat}{k:Ky}(h:ks[j]?=some k):(ents ks)[j]?=some (cf k,.t (int 1),j):=by
 simp[ents,h]
def qj(ks:List Ky):(ents ks).length=ks.length:=by simp[ents]
def Od{ks:List Ky}{j:Nat}{k:Ky}(h:ks[j]?=some k):(ents ks).findIdx? (fun e=>((e.2.2:Nat):Int)==(j:Int))=some j:=by
 have hj:=(ajs.1 h).1
 have Tt:∀(i:Nat) (hi:i<(ents ks).length),((ents ks)[i]).2.2=i:=by
  intro i hi
  simp[ents]
 rw[List.findIdx?_eq_some_iff_getElem]
 refine⟨by rw[qj];exact hj,by simp[Tt],fun i hi=>?_⟩
 have:=Tt i (by rw[qj];omega)
 simp[this]
 omega
def Oe(ks:List Ky):(ents ks).findIdx? (fun e=>((e.2.2:Nat):Int)==((ks.length:Nat):Int))=none:=by
 rw[List.findIdx?_eq_none_iff]
 intro e he
 obtain⟨i,hi,rfl⟩:=ajL he
 have:((ents ks)[i]).2.2=i:=by simp[ents]
 rw[qj]at hi
 simp[this]
 omega
def Of(ρ:List (Nm×Nm))(ks:List Ky):(ents ks).map (fun e=>(e.1,e.2.1.ren ρ,e.2.2))=ents ks:=by
 refine(List.map_congr_left fun e he=>?_).trans (List.map_id _)
 simp only[ents,ajI]at he
 obtain⟨p,_,rfl⟩:=he
 rfl
def oF(c:Ca)(hl:c.l.length<=1000000)(hb:∀h∈c.l,h.bytes.length<=1000000):aji 75 [dr c] (.t (int (dG c))):=by
 have hv:dG c=dG c:=rfl
 conv at hv=>rhs;unfold dG
 generalize dG c=r at*
 obtain⟨cap,l⟩:=c
 simp only at hl hb hv
 have c1:=N2 l hl hb
 generalize gw l=sz at*
 by_cases k1:cap<0
 .rw[if_pos k1]at hv
  subst hv
  refine pu vO rfl ?_
  simp[gI]
  try simp[k1]
  all_goals try(repeat'(first|(refine aj ?_<;>try simp[k1])))
  all_goals exact au rfl
 rw[if_neg k1]at hv
 by_cases k2:1099511627776<cap
 .rw[if_pos k2]at hv
  subst hv
  refine pu vO rfl ?_
  simp[gI]
  try simp[k1,k2]
  all_goals try(repeat'(first|(refine aj ?_<;>try simp[k1,k2])))
  all_goals exact au rfl
 rw[if_neg k2]at hv
 by_cases k3:cap<sz
 .rw[if_pos k3]at hv
  subst hv
  refine pu vO rfl ?_
  simp[gI]
  try simp[k1,k2,k3]
  all_goals try(repeat'(first|((first|refine aj ?_|refine Up c1 rfl ?_)<;>try simp[k1,k2,k3])))
  all_goals exact au rfl
 rw[if_neg k3]at hv
 refine N9 (fn:=Tryz.f75) (code:=iu) (rs:=[.tmp 2]) Tryz.func75 (by kernel_rfl) (by kernel_rfl) (by kernel_rfl) [dr ⟨cap,l⟩] _ (aj6 rfl) ?_
 rw[Oa]
 refine bN (b9 bC q1 ?_)
 simp[d1,d2,gI]
 refine bN (b9 bC q2 ?_)
 simp[d1,d2,gI]
 try simp[k1,k2,k3]
 all_goals try(repeat'(first|((first|refine aj ?_|refine Up c1 rfl ?_)<;>try simp[k1,k2,k3])))
 refine bN (b9 bC q3 ?_)
 simp[d1,d2,gI]
 try simp[qE,tQ]
 skip
 refine bN (bN (b9 bC q4 ?_))
 simp[d1,d2,gI]
 skip
 refine CV (K5 (fun E=>∃i:Nat,i<=l.length/\(∀j,j<i->kd l j=true)/\E.tmps 25= .t (.sl 3 (l.map br))/\E.tmps 26= .t (int l.length)/\E.tmps 27= .t (int i)/\E.tmps 3= .mp (.head 1 0)/\E.slots (.head 1 0)=some (.obj (.mp (ents ((l.take i).map eF)) i) false))
  (fun E=>match E.tmps 27 with| .t (.v (.int _ i))=>l.length-i.toNat|_=>0) [(.loc 23 0,.head 1 0)] rfl ?_ ?_)
 .refine⟨0,by omega,by omega,?_,?_,?_,?_,?_⟩<;>simp[OR.ren,ents]
 rintro E1 ⟨i,hi,Uf,e25,e26,Z8,e3,s0⟩ hU hS A hA
 rw[Ob]
 refine bN (b9 bC q6 ?_)
 simp[d1,d2,gH,e26,Z8]
 refine bN (b9 bC q7 ?_)
 simp[d1,d2,gH,e26,Z8]
 refine aN (fun h=>?_) (fun h=>?_)
 .have hx:=ajq h
  obtain⟨x,Tm⟩:∃x,l[i]=x:=⟨_,rfl⟩
  rw[Tm]at hx
  have d1':=EK x
  have d2':=EL (eF x)
  have XD:kd l i=kd l i:=rfl
  conv at XD=>rhs;unfold kd
  simp only[hx]at XD
  have WC:kd l i=false->r=1:=fun hf=>by rw[hv,wO h hf];rfl
  have step:kd l i=true->∀j,j<i+1->kd l j=true:=fun ht j hj=>by
   by_cases Uk:j<i
   .exact Uf j Uk
   .rw[show j=i by omega];exact ht
  generalize kd l i=ok at*
  have U6:((l.take i).map eF).length=i:=by simp;omega
  have TD:(l.take (i+1)).map eF=(l.take i).map eF++[eF x]:=by rw[fO hx];simp
  obtain⟨ks,hks⟩:∃ks,ks=(l.take i).map eF:=⟨_,rfl⟩
  rw[<-hks]at s0 XD U6 TD
  have UA:(DV.t (dQ (eF x))).flat?=some (cf (eF x)):=rfl
  have VF:jy Tryz.prog 192 (cf (eF x)) ((ents ks).map (·.1))=some (gU (eF x) ks 0):=by rw[E8,EO]
  have hky:dQ ⟨x.name,x.no⟩=dQ (eF x):=rfl
  rw[hky]at d1'
  generalize eF x=k at*
  simp[h]
  refine bN (CV (bN (b9 bC q8 ?_)))
  simp[d1,d2,gH]
  try simp[e25,e26,Z8,e3,s0,hU,h,Tm]
  skip
  refine bN (b9 bC q9 ?_)
  simp[d1,d2,gH]
  try simp[e25,e26,Z8,e3,s0,hU,h,Tm]
  all_goals try(repeat'(first|(refine Up d1' rfl ?_<;>try simp[e25,e26,Z8,e3,s0,hU,h,Tm])))
  cases ZF:ks.any (fv k)with
  |true=>
   obtain⟨j,hj,YR⟩:=Fa k ks 0 ZF
   rw[YR,ajX]at VF
   have hjl:=(ajs.1 hj).1
   have hea:=Oc hj
   have heo:=Od hj
   have VX:(ents ks).set j (cf k,.t (int 1),j)=ents ks:=by
    obtain⟨hj2,hj3⟩:=ajs.1 hea
    rw[<-hj3,List.set_getElem_self]
   simp only[ZF,Bool.not_true,Bool.and_false]at XD
   have V5:((ents ks).set j (cf k,.t (int 2),j)).map (·.1)=(ents ks).map (·.1):=by
    rw[List.map_set]
    conv=>rhs;rw[<-VX,List.map_set]
   have hg5:∀E':aa,E'.slots (.head 1 0)=some (.obj (.mp ((ents ks).set j (cf k,.t (int 2),j)) i) false)->fy Tryz.prog E' 192 (int 0) false (.mp (.head 1 0)) (.t (dQ k))=some ⟨.t (int 2),[.head 1 0],[]⟩:=by
    intro E' hE
    have hf5:=VF
    rw[<-V5]at hf5
    have hj5:j<(ents ks).length:=by rw[qj];exact hjl
    generalize hes:(ents ks).set j (cf k,.t (int 2),j)=es at*
    have hej:es[j]?=some (cf k,.t (int 2),j):=by rw[<-hes];simp[hj5]
    simp[fy,hE,UA,lZ,hf5,hej,i4]
   refine bN (Fb (h:= .head 1 0) (k:=k) (v0:=1) (b:=j) (es:=ents ks) (es1:=ents ks) (es2:=(ents ks).set j (cf k,.t (int 2),j)) (c:=i) (cc:=i) rfl ?_ ?_ ?_ (by decide) ?_ ?_ (by decide) ?_ ?_ ?_ ?_ ?_)
   .simp[e3]
   .simp
   .simp
   .simp[s0]
   .simp[hU]
   .intro E' hE
    simp[fy,hE,UA,lZ,VF,hea,i4]
   .intro E' hE
    simp[fy,hE,UA,lZ,VF,hea,i4]
   .intro E' hE
    simp[kh,hE,UA,lZ,VF,hea,N7,VX]
   .intro E' hE
    simp[ki,hE,heo,hea]
   .intro E' ht TO YJ hu'
    have t3:=ht 3 (by omega)
    have t6:=ht 6 (by omega)
    have YF:=ht 25 (by omega)
    have X0:=ht 26 (by omega)
    have YZ:=ht 27 (by omega)
    have z6:=TO (.loc 6 0) (by decide)
    simp[e3]at t3
    simp at t6 z6
    simp[e25]at YF
    simp[e26]at X0
    simp[Z8]at YZ
    have g5:=hg5
    clear ht TO
    refine b9 bC td ?_
    simp[d1,d2,gH]
    try simp[t3,t6,z6,YJ,YF,X0,YZ,g5]
    all_goals try(repeat'(first|((first|refine aj ?_|refine Up d2' rfl ?_)<;>try simp[t3,t6,z6,YJ,YF,X0,YZ,g5])|(apply kq<;>intro h<;>try simp[t3,t6,z6,YJ,YF,X0,YZ,g5,h])))
    all_goals(rw[WC XD];exact au rfl)
  |false=>
   rw[EP _ _ _ ZF]at VF
   have YA:(ents ks).length=i:=by rw[qj,U6]
   have WE:=Oe ks
   rw[U6]at WE
   have hf2:∀v:DV,jy Tryz.prog 192 (cf k) ((ents ks++[(cf k,v,i)]).map (·.1))=some (some i):=by
    intro v
    have:=EO k (ks++[k])
    rw[aki,N8 _ _ ZF,U6]at this
    rw[aki,E8]
    simpa using this
   have eX:∀v:DV,(ents ks++[(cf k,v,i)])[i]?=some (cf k,v,i):=by
    intro v
    rw[akw (by omega),YA]
    simp
   have Uu:∀v:DV,(ents ks++[(cf k,v,i)]).findIdx? (fun e=>((e.2.2:Nat):Int)==(i:Int))=some i:=by
    intro v
    rw[List.findIdx?_append,WE]
    simp[List.findIdx?_cons,YA]
   have T8:(ents ks++[(cf k,DV.t (int 0),i)]).set i (cf k,.t (int 1),i)=ents ks++[(cf k,.t (int 1),i)]:=by
    rw[List.set_append_right _ _ (by omega),YA]
    simp
   have Z3:ents ks++[(cf k,.t (int 1),i)]=ents (ks++[k]):=by
    simp[ents,List.zipIdx_append,U6]
   have hap:∀v:DV,ents ks++[(cf k,v,i)]=ents ks++[(cf k,v,i)]:=fun _=>rfl
   simp only[ZF,Bool.not_false,Bool.and_true]at XD
   have adp:=hf2 (.t (int 0))
   have abu:=eX (.t (int 0))
   have ady:=Uu (.t (int 0))
   have ado:=hf2 (.t (int 1))
   have adr:=eX (.t (int 1))
   obtain⟨es1,adq⟩:∃es1,es1=ents ks++[(cf k,DV.t (int 0),i)]:=⟨_,rfl⟩
   obtain⟨es2,afp⟩:∃es2,es2=ents ks++[(cf k,DV.t (int 1),i)]:=⟨_,rfl⟩
   rw[<-adq]at adp abu ady T8
   rw[<-afp]at ado adr T8 Z3
   have hg5:∀E':aa,E'.slots (.head 1 0)=some (.obj (.mp es2 (i+1)) false)->fy Tryz.prog E' 192 (int 0) false (.mp (.head 1 0)) (.t (dQ k))=some ⟨.t (int 1),[.head 1 0],[]⟩:=by
    intro E' hE
    simp[fy,hE,UA,lZ,ado,adr,i4]
   refine bN (Fb (h:= .head 1 0) (k:=k) (v0:=0) (b:=i) (es:=ents ks) (es1:=es1) (es2:=es2) (c:=i) (cc:=i+1) rfl ?_ ?_ ?_ (by decide) ?_ ?_ (by decide) ?_ ?_ ?_ ?_ ?_)
   .simp[e3]
   .simp
   .simp
   .simp[s0]
   .simp[hU]
   .intro E' hE
    simp[fy,hE,UA,lZ,VF,i4]
   .intro E' hE
    simp[fy,hE,UA,lZ,adp,abu,i4]
   .intro E' hE
    simp[kh,hE,UA,lZ,VF,adq]
   .intro E' hE
    simp[ki,hE,ady,abu,T8]
   .intro E' ht TO YJ hu'
    have t3:=ht 3 (by omega)
    have t6:=ht 6 (by omega)
    have YF:=ht 25 (by omega)
    have X0:=ht 26 (by omega)
    have YZ:=ht 27 (by omega)
    have z6:=TO (.loc 6 0) (by decide)
    simp[e3]at t3
    simp at t6 z6
    simp[e25]at YF
    simp[e26]at X0
    simp[Z8]at YZ
    have g5:=hg5
    clear ht TO
    generalize oE k=mk at*
    refine b9 bC td ?_
    simp[d1,d2,gH]
    cases mk with
    |false=>
     try simp[t3,t6,z6,YJ,YF,X0,YZ,g5]
     all_goals try(repeat'(first|((first|refine aj ?_|refine Up d2' rfl ?_)<;>try simp[t3,t6,z6,YJ,YF,X0,YZ,g5])))
     all_goals(rw[WC XD];exact au rfl)
    |true=>
     try simp[t3,t6,z6,YJ,YF,X0,YZ,g5]
     all_goals try(repeat'(first|((first|refine aj ?_|refine Up d2' rfl ?_)<;>try simp[t3,t6,z6,YJ,YF,X0,YZ,g5])))
     refine b9 bC xt ?_
     simp[d1,d2,gH]
     try simp[t3,t6,z6,YJ,YF,X0,YZ]
     all_goals try(repeat'(first|(simp(disch:=omega) only[wr]<;>try simp[t3,t6,z6,YJ,YF,X0,YZ])))
     refine hA _ (aH [(.head 1 0,.head 1 0)] rfl rfl ⟨i+1,by omega,step XD,?_,?_,?_,?_,?_⟩ ?_)
     .simp[YF]
     .simp[X0]
     .simp
     .simp[t3]
     .simp[YJ,OR.ren]
      rw[Z3,<-List.map_take,TD]
      exact Of _ _
     .simp[Z8]
      omega
 .have:i=l.length:=by omega
  subst this
  rw[wP Uf,if_neg (by simp)]at hv
  subst hv
  simp[h]
  refine b9 bC q5 ?_
  simp[d1,d2,gI]
  exact au rfl
end
section
open Go.RowKit Go.Proofs Go.Lib
def Og(w:World)(b cap n i j:Nat)(A:Addr)(W1 W2:World)(hA:(if cap=j then some (⟨b,0,none⟩:Addr)else some ⟨b,j*3,none⟩)=some A)(hlt:i<j)(hj:j<=n)(hn:n<=cap)(hm:cap<=9223372036854775807)
  (Zm:∀ty,(Builtin.append_ #[34,34] ty #[.slice (some ⟨b,0,none⟩) i cap,.slice (some A) (n-j) (cap-j)]).run Tryz.prog w.drew= .ok (.slice (some ⟨b,0,none⟩) (i+(n-j)) cap) W1)
  (TA:∀ty,(Builtin.clear_ #[34] ty #[.slice (some ⟨b,(i+(n-j))*3,none⟩) (n-(i+(n-j))) (cap-(i+(n-j)))]).run Tryz.prog W1= .ok (.tuple #[]) W2):
  Calls Tryz.prog 263 #[.slice (some ⟨b,0,none⟩) n cap,.int .i64 i,.int .i64 j] w fun e' w'=>e'= .returned (.slice (some ⟨b,0,none⟩) (i+(n-j)) cap)/\w'=W2:=by
 have XE:i<=j:=by omega
 have hic:i<=cap:=by omega
 have hjc:j<=cap:=by omega
 have heq:¬i=j:=by omega
 have hsc:¬cap=i+(n-j):=by omega
 have Uq:i+(n-j)<=n:=by omega
 go_enter Tryz.func263,Tryz.ntmps263
 go_wp2_with fail
 go_region_law (refine C2 (v:= .slice (some ⟨b,0,none⟩) i cap) (u:= .slice (some A) (n-j) (cap-j)) rfl (.tmp 22) (.tmp 25) rfl (by simp[Act.eval,Act.put]) (by simp[Act.eval,Act.put]) (Zm _) ?_)
 go_wp2
 go_ret
 exact⟨rfl,rfl⟩
def Oh(w:World)(b cap n i:Nat)(hi:i<=n)(hn:n<=cap):Calls Tryz.prog 263 #[.slice (some ⟨b,0,none⟩) n cap,.int .i64 i,.int .i64 i] w fun e' w'=>e'= .returned (.slice (some ⟨b,0,none⟩) n cap)/\w'=w:=by
 have hic:i<=cap:=by omega
 go_enter Tryz.func263,Tryz.ntmps263
 go_wp2
 all_goals(go_ret;exact⟨rfl,rfl⟩)
def Oi(l:List ab)(i j:Nat)(XE:i<=j)(hj:j<=l.length):ajk 263 (dM [.t (int i),.t (int j)] 136 3 l (l.take i++l.drop j)):=by
 have hsz:bm Tryz.prog 136=some 3:=by kernel_rfl
 refine pL ⟨_,_,Tryz.func263,by kernel_rfl,rfl⟩ (by decide) fun Z U w M Vc W6 hv=>?_
 obtain⟨VH,zv,z1,z0,z2,z3,z4⟩:=r9 (P:=Tryz.prog) w (e:=136) (m:=3) (zt:=(.agg [.v (.string ⟨#[]⟩),.v (.int .i64 0),.e0])) (by kernel_rfl) rfl
 have Vl:VH.size=3:=by
  unfold bm at hsz
  rw[z1]at hsz
  simpa using hsz
 obtain⟨v1,v2,rfl⟩:∃v1 v2,Vc=[v1,v2]:=by
  match Vc,W6 with
  |[v1,v2],_=>exact⟨v1,v2,rfl⟩
 obtain⟨rfl,_⟩:=(hv 0 v1 _ rfl rfl).v_inv
 obtain⟨rfl,_⟩:=(hv 1 v2 _ rfl rfl).v_inv
 refine⟨fun ad Uy=>?_,fun b cap cs h=>?_⟩
 .subst Uy
  have hj0:j=0:=by simpa using hj
  have UL:i=0:=by omega
  subst hj0 UL
  have h1:Calls Tryz.prog 263 #[.slice ad 0 0,.int .i64 (0:Nat),.int .i64 (0:Nat)] w fun e' w'=>e'= .returned (.slice ad 0 0)/\w'=w:=by
   clear hv W6
   go_enter Tryz.func263,Tryz.ntmps263
   go_wp2
   all_goals(go_ret;exact⟨rfl,rfl⟩)
  refine h1.mono ?_
  rintro e' w' ⟨rfl,rfl⟩
  exact⟨_,rfl,ajz _,rfl,rfl,rfl,fun _ _ _=>rfl,.inl ⟨ad,rfl,rfl⟩⟩
 have Vf:cap<=9223372036854775807:=by have:=h.hcap;simp only[maxLen]at this;omega
 obtain⟨n,hn⟩:∃n,n=l.length:=⟨_,rfl⟩
 have Xk:n<=cap:=by rw[hn];exact h.hl
 rw[<-hn]at hj⊢
 by_cases heq:i=j
 .subst heq
  refine(Oh w b cap n i hj Xk).mono ?_
  rintro e' w' ⟨rfl,rfl⟩
  refine⟨_,rfl,?_⟩
  have:=C3 h (l':=l.take i++l.drop i) (List.take_append_drop i l)
  rw[<-hn]at this
  exact this
 have hlt:i<j:=by omega
 obtain⟨Th,Ux⟩:∃Th,Th=(cs.take (n*3)).drop (j*3):=⟨_,rfl⟩
 have hcs:=h.hcs
 have hnl:Th.length=(n-j)*3:=by rw[Ux,aj9,ajA,hcs];omega
 have Vk:∀k v,Th[k]?=some v->cs[j*3+k]?=some v:=fun k v hk=>by
  rw[Ux,aka,ajN]at hk
  split at hk
  .exact hk
  .cases hk
 obtain⟨A,hA,X7⟩:∃A:Addr,(if cap=j then some (⟨b,0,none⟩:Addr)else some ⟨b,j*3,none⟩)=some A/\∀k v,Th[k]?=some v->w.drew.cell? (A.add k)=some v:=by
  by_cases hc:cap=j
  .refine⟨⟨b,0,none⟩,by simp[hc],fun k v hk=>?_⟩
   have:Th.length=0:=by rw[hnl];omega
   rw[aj3.1 this]at hk
   cases hk
  .exact⟨⟨b,j*3,none⟩,by simp[hc],h.cells Vk (w1:=w.drew) rfl⟩
 have h1n:∀v∈Th,v.oneCell'=true:=fun v hv=>h.one (by decide) v (by rw[<-hn];rw[Ux]at hv;exact akn hv)
 have hu:Tryz.prog.underlying 34=some (.slice 136):=by kernel_rfl
 have Zm:∀ty,(Builtin.append_ #[34,34] ty #[.slice (some ⟨b,0,none⟩) i cap,.slice (some A) (n-j) (cap-j)]).run Tryz.prog w.drew= .ok (.slice (some ⟨b,0,none⟩) (i+(n-j)) cap) (w.drew.setRow b (lay cs (0+i*3) Th).toArray):=
  fun ty=>rZ w.drew hu z1 Vl (by omega) hnl X7 (show w.drew.heap[b]?=_ from h.hg) (by rw[hnl,hcs];omega) h1n
 rw[ajX]at Zm
 have Wv:(lay cs (i*3) Th).length=cs.length:=iM (by rw[hnl,hcs];omega)
 obtain⟨X,hX⟩:∃X,X=lay cs (i*3) Th:=⟨_,rfl⟩
 rw[<-hX]at Zm Wv
 have VN:(w.drew.setRow b X.toArray).heap[b]?=some (.cells X.toArray 136 (0,0)):=setRow_heap w.drew b _ _ _ _ h.hg
 have TA:∀ty,(Builtin.clear_ #[34] ty #[.slice (some ⟨b,(i+(n-j))*3,none⟩) (n-(i+(n-j))) (cap-(i+(n-j)))]).run Tryz.prog (w.drew.setRow b X.toArray)= .ok (.tuple #[]) _:=
  fun ty=>ws hu (z2 _) z4 (by omega) VN (by rw[z3,Wv,hcs];omega)
 refine(Og w b cap n i j A _ _ hA hlt hj Xk Vf Zm TA).mono ?_
 rintro e' w' ⟨rfl,rfl⟩
 refine⟨_,rfl,?_⟩
 rw[rY]
 have Tk:(l.take i++l.drop j).length=i+(n-j):=by
  rw[ajB,ajA,aj9,<-hn];omega
 have VV:(Builtin.zeroCells zv.cells (n-(i+(n-j)))).toList.length=(n-(i+(n-j)))*3:=by simp[Builtin.zeroCells,z3]
 have hR:=(h.hR.takeC i).append (rest:=(Builtin.zeroCells zv.cells (n-(i+(n-j)))).toList++X.drop ((i+(n-j))*3+(n-(i+(n-j)))*zv.cells.size)) (show aV w M 3 Th (l.drop j)from by
  have:=(h.hR.takeC n).drop j
  rw[<-Ux,aju (show l.length<=n by omega)]at this
  exact this) (by rw[ajA,ajA,<-hn,hcs];rw[Nat.min_eq_left (by omega),Nat.min_eq_left (by omega)])
 have TD:X.take ((i+(n-j))*3)=cs.take (i*3)++Th:=by
  rw[hX,lay]
  exact List.take_left' (by rw[ajB,ajA,hnl,hcs];omega)
 have:=oc h (w1:=w.drew) (cs':=X.take ((i+(n-j))*3)++(Builtin.zeroCells zv.cells (n-(i+(n-j)))).toList++X.drop ((i+(n-j))*3+(n-(i+(n-j)))*zv.cells.size)) rfl rfl rfl rfl (by
  simp only[ajB,ajA,aj9,VV,Wv,hcs,z3];omega) (by rw[Tk];omega) (by rw[TD,aj1];exact hR)
 rw[Tk]at this
 exact this
def xu(w:World)(base:Option Addr)(n cap vb:Nat)(r:Value)(W1:World)(hn:n<=cap)(hm:cap<=9223372036854775807)
  (hr:∀ty,(Builtin.append_ #[34,34] ty #[.slice base n cap,.slice (some ⟨vb,0,none⟩) 1 1]).run Tryz.prog w= .ok r W1):
  Calls Tryz.prog 226 #[.slice base n cap,.int .i64 n,.slice (some ⟨vb,0,none⟩) 1 1] w fun e' w'=>e'= .returned r/\w'=W1:=by
 go_enter Tryz.func226,Tryz.ntmps226
 go_wp2_with (at_builtin;refine r7 (v:= .slice base n cap) (u:= .slice (some ⟨vb,0,none⟩) 1 1) rfl _ _ rfl rfl rfl (hr _) ?_)
 all_goals(go_ret;exact⟨rfl,rfl⟩)
def Oj(w:World)(b n cap i vb:Nat)(W1 W2:World)(hi:i<n)(Tv:n+1<=cap)(hm:cap<=9223372036854775807)
  (hov:∀lb cb,(callFunc 264 #[.slice (some ⟨vb,0,none⟩) 1 1,.slice (some ⟨b,(i+1)*3,none⟩) lb cb]).run Tryz.prog w= .ok (.value (.bool false)) w)
  (Vg:∀ty dc sc,(Builtin.copy_ #[34,34] ty #[.slice (some ⟨b,(i+1)*3,none⟩) (n+1-(i+1)) dc,.slice (some ⟨b,i*3,none⟩) (n+1-i) sc]).run Tryz.prog w.drew= .ok (goInt ((n-i:Nat):Int)) W1)
  (Vo:∀ty dc,(Builtin.copy_ #[34,34] ty #[.slice (some ⟨b,i*3,none⟩) (n+1-i) dc,.slice (some ⟨vb,0,none⟩) 1 1]).run Tryz.prog W1= .ok (goInt 1) W2):
  Calls Tryz.prog 226 #[.slice (some ⟨b,0,none⟩) n cap,.int .i64 i,.slice (some ⟨vb,0,none⟩) 1 1] w fun e' w'=>e'= .returned (.slice (some ⟨b,0,none⟩) (n+1) cap)/\w'=W2:=by
 have hz2:¬((i:Int)=(n:Int)):=by omega
 have U5:IntKind.i64.wrap ((i:Int)+1)=(i:Int)+1:=by rw[IntKind.wrap_i64];omega
 have Ui:IntKind.i64.wrap ((n:Int)+1)=(n:Int)+1:=by rw[IntKind.wrap_i64];omega
 have TZ:(0:Int)<=(i:Int)+1:=by omega
 have V1:(0:Int)<=(n:Int)+1:=by omega
 have TE:i<=n:=by omega
 have htn:((i:Int)+1).toNat=i+1:=by omega
 have aeH:((n:Int)+1).toNat=n+1:=by omega
 have Uu:¬(cap=i+1):=by omega
 have Wu:(i:Int)<=(n:Int)+1:=by omega
 have Vh:¬(cap=i):=by omega
 have hb5:¬((cap:Int)<(n:Int)+1):=by omega
 have hb6:(n:Int)+1<=(cap:Int):=by omega
 go_enter Tryz.func226,Tryz.ntmps226
 go_wp2_with (simp only[hov])
 go_region_law (refine r5 rfl _ _ rfl (by simp[Act.eval,Act.put];rfl) (by simp[Act.eval,Act.put];rfl) (Vg _ _ _) ?_)
 go_wp2_with (at_builtin;refine r6 rfl _ _ rfl rfl rfl (Vo _ _) ?_)
 go_ret
 exact⟨rfl,rfl⟩
def Ok(w:World)(b n cap i vb N G:Nat)(W1 W2 W3:World)(hi:i<n)(Xk:n<=cap)(Tv:cap<n+1)(hm:cap<=1000000000)(hG:n+1<=G)(afQ:G<=9223372036854775807)
  (hrz:∀ty,(Builtin.append_ #[34,3] ty #[.slice (some ⟨b,0,none⟩) i cap,.int .i64 ((n:Int)+1-(i:Int))]).run Tryz.prog w= .ok (.slice (some ⟨N,0,none⟩) (n+1) G) W1)
  (Vg:∀ty dc,(Builtin.copy_ #[34,34] ty #[.slice (some ⟨N,i*3,none⟩) (n+1-i) dc,.slice (some ⟨vb,0,none⟩) 1 1]).run Tryz.prog W1= .ok (goInt 1) W2)
  (Vo:∀ty dc sc,(Builtin.copy_ #[34,34] ty #[.slice (some ⟨N,(i+1)*3,none⟩) (n+1-(i+1)) dc,.slice (some ⟨b,i*3,none⟩) (n-i) sc]).run Tryz.prog W2.drew= .ok (goInt ((n-i:Nat):Int)) W3):
  Calls Tryz.prog 226 #[.slice (some ⟨b,0,none⟩) n cap,.int .i64 i,.slice (some ⟨vb,0,none⟩) 1 1] w fun e' w'=>e'= .returned (.slice (some ⟨N,0,none⟩) (n+1) G)/\w'=W3:=by
 have hz2:¬((i:Int)=(n:Int)):=by omega
 have hz3:(cap:Int)<(n:Int)+1:=by omega
 have U5:IntKind.i64.wrap ((i:Int)+1)=(i:Int)+1:=by rw[IntKind.wrap_i64];omega
 have Ui:IntKind.i64.wrap ((n:Int)+1)=(n:Int)+1:=by rw[IntKind.wrap_i64];omega
 have hw3:IntKind.i64.wrap ((n:Int)+1-(i:Int))=(n:Int)+1-(i:Int):=by rw[IntKind.wrap_i64];omega
 have TZ:(0:Int)<=(i:Int)+1:=by omega
 have TE:i<=n:=by omega
 have htn:((i:Int)+1).toNat=i+1:=by omega
 have Wu:(i:Int)<=(n:Int):=by omega
 have Vh:(i:Int)<=(n:Int)+1:=by omega
 have hic:i<=cap:=by omega
 have hGi:¬(G=i):=by omega
 have afP:¬(G=i+1):=by omega
 have hci:¬(cap=i):=by omega
 go_enter Tryz.func226,Tryz.ntmps226
 go_wp2_with (first
  |(at_builtin;refine r7 rfl _ _ rfl rfl rfl (hrz _) ?_)
  |(at_builtin;refine r6 rfl _ _ rfl rfl rfl (Vg _ _) ?_))
 go_region_law (refine r5 rfl _ _ rfl (by simp[Act.eval,Act.put];rfl) (by simp[Act.eval,Act.put];rfl) (Vo _ _ _) ?_)
 go_wp2
 go_ret
 exact⟨rfl,rfl⟩
def Fc(l:List ab)(x:ab)(i:Nat)(hi:i<=l.length)(hl:l.length<=1000000):ajk 226 (dM [.t (int i),.ls 3 [x]] 136 3 l (l.take i++[x]++l.drop i)):=by
 have hsz:bm Tryz.prog 136=some 3:=by kernel_rfl
 have hu:Tryz.prog.underlying 34=some (.slice 136):=by kernel_rfl
 have h3:Tryz.prog.underlying 3=some (.int .i64):=by kernel_rfl
 have ZK:(Tryz.prog.info? 136).map (fun i=>decide (i.bytes<=1000))=some true:=by kernel_rfl
 refine pL ⟨_,_,Tryz.func226,by kernel_rfl,rfl⟩ (by decide) fun Z U w M Vc W6 hv=>?_
 obtain⟨VH,zv,z1,z0,z2,z3,z4⟩:=r9 (P:=Tryz.prog) w (e:=136) (m:=3) (zt:=(.agg [.v (.string ⟨#[]⟩),.v (.int .i64 0),.e0])) (by kernel_rfl) rfl
 have Vl:VH.size=3:=by
  unfold bm at hsz
  rw[z1]at hsz
  simpa using hsz
 have Xd:VH.bytes<=1000:=by
  rw[z1]at ZK
  simpa using ZK
 obtain⟨v1,v2,rfl⟩:∃v1 v2,Vc=[v1,v2]:=by
  match Vc,W6 with
  |[v1,v2],_=>exact⟨v1,v2,rfl⟩
 obtain⟨rfl,_⟩:=(hv 0 v1 _ rfl rfl).v_inv
 obtain⟨vb,vcs,ve,Th,rfl,hMv,hvb,Yx,UO,Y3,Zw,Y2⟩:=C4 (by decide) (hv 1 v2 _ rfl rfl)
 clear hv W6
 have ZO:∀(ad:Option Addr) (n cap:Nat) (Tw:List Value),Tw.length=n*VH.size->n<=1000000->cap<n+1->(∀w2:World,w2.heap=w.heap->(Builtin.firstCells VH.size n (.slice ad n cap)).run Tryz.prog w2= .ok Tw.toArray w2)->
   n+1<=grownCap w (n+1) cap 136/\grownCap w (n+1) cap 136<=maxLen/\∀ty,(Builtin.append_ #[34,34] ty #[.slice ad n cap,.slice (some ⟨vb,0,none⟩) 1 1]).run Tryz.prog w= .ok (.slice (some ⟨w.heap.size,0,none⟩) (n+1) (grownCap w (n+1) cap 136))
    (w.drew.alloc (.cells (Tw++Th++(Builtin.zeroCells zv.cells (grownCap w (n+1) cap 136-(n+1))).toList).toArray 136)):=by
  intro ad n cap Tw ho Yu hlt TP
  have key:=fun ty=>uj (P:=Tryz.prog) w 34 34 ty 136 VH zv (.slice 136) hu hu (by intro k hk;cases hk) z1 z0 ad n cap (.slice (some ⟨vb,0,none⟩) 1 1) 1 Tw Th ho (by rw[Vl];exact UO) (fun w2=>by simp[Builtin.lenOf]) (fun w2 Ui=>by
   rw[Vl]
   exact run_firstCells_some (P:=Tryz.prog) w2 3 1 ⟨vb,0,none⟩ 1 1 Th UO (fun j v hj=>by rw[Addr.add_lit,ajX,nD Ui];exact Zw j v hj)) TP (fun TK=>absurd TK (by omega)) (by simp only[maxLen];omega) (by
   have:(n+1)*VH.bytes<=1000001*1000:=Nat.mul_le_mul (by omega) Xd
   omega)
  have X4:=fun ty=>(key ty).resolve_left (fun hh=>absurd hh.1 (by omega))
  exact⟨(X4 0).2.1,(X4 0).2.2.1,fun ty=>(X4 ty).2.2.2⟩
 refine⟨fun ad Uy=>?_,fun b cap cs h=>?_⟩
 .subst Uy
  have UL:i=0:=by simpa using hi
  subst UL
  obtain⟨g1,g2,g3⟩:=ZO ad 0 0 [] (by simp) (by omega) (by omega) (fun w2 _=>jF _ _ _ _ _)
  refine(xu w ad 0 0 vb _ _ (ajz _) (by omega) g3).mono ?_
  rintro e' w' ⟨rfl,rfl⟩
  refine⟨_,rfl,?_⟩
  have hR:=(aV.nil (w:=w) (M:=M) (m:=3)).append (rest:=(Builtin.zeroCells zv.cells (grownCap w (0+1) 0 136-(0+1))).toList) Y2 (by simp)
  refine od (by simp[World.alloc]) rfl rfl rfl (fun b hb=>ako w.drew _ hb) (heap_alloc_new w.drew _) (by simp) (by omega) ?_ (by simpa using g1) g2 hR
  simp only[ajB,List.length_nil,UO,Array.length_toList,size_zeroCells,z3]
  omega
 have ZI:=h.hcap
 have Vf:cap<=9223372036854775807:=by simp only[maxLen]at ZI;omega
 obtain⟨n,hn⟩:∃n,n=l.length:=⟨_,rfl⟩
 have Xk:n<=cap:=by rw[hn];exact h.hl
 have hcs:=h.hcs
 have Tk:(l.take i++[x]++l.drop i).length=n+1:=by
  simp only[ajB,ajA,aj9,List.length_singleton]
  omega
 have Xn:b<w.heap.size:=(ajy.1 h.hg).1
 have hRn:aV w M 3 (cs.take (n*3)) l:=by
  have:=h.hR.takeC n
  rwa[aju (show l.length<=n by omega)]at this
 have TP:∀k,k<=n->∀w2:World,w2.heap=w.heap->∀c,(Builtin.firstCells VH.size k (.slice (some ⟨b,0,none⟩) k c)).run Tryz.prog w2= .ok (cs.take (k*3)).toArray w2:=by
  intro k hk w2 Ui c
  rw[Vl]
  exact run_firstCells_some (P:=Tryz.prog) w2 3 k ⟨b,0,none⟩ k c _ (by rw[ajA,hcs];omega) (h.cells (o:=0) (fun j v hj=>by
   rw[ajN]at hj
   split at hj
   .rw[ajX];exact hj
   .cases hj) Ui)
 rw[<-hn]at hi hl⊢
 by_cases TE:i=n
 .subst TE
  have Xl:l.take i++[x]++l.drop i=l++[x]:=by rw[aju (by omega),List.drop_of_length_le (by omega),akr]
  rw[Xl]at Tk⊢
  by_cases Tv:i+1<=cap
  .have hr:∀ty,(Builtin.append_ #[34,34] ty #[.slice (some ⟨b,0,none⟩) i cap,.slice (some ⟨vb,0,none⟩) 1 1]).run Tryz.prog w= .ok (.slice (some ⟨b,0,none⟩) (i+1) cap) (w.setRow b (lay cs (0+i*3) Th).toArray):=
    fun ty=>rZ w hu z1 Vl Tv UO (fun j v hj=>by rw[Addr.add_lit,ajX];exact Zw j v hj) h.hg (by rw[UO,hcs];omega) Y3
   refine(xu w (some ⟨b,0,none⟩) i cap vb _ _ Xk Vf hr).mono ?_
   rintro e' w' ⟨rfl,rfl⟩
   refine⟨_,rfl,?_⟩
   have:=oc h (w1:=w) (cs':=lay cs (0+i*3) Th) (l':=l++[x]) rfl rfl rfl rfl (iM (by rw[UO,hcs];omega)) (by rw[Tk];exact Tv) (by
    rw[ajX]
    exact hRn.append Y2 (by rw[ajA,hcs,<-hn];omega))
   rw[Tk]at this
   exact this
  .obtain⟨g1,g2,g3⟩:=ZO (some ⟨b,0,none⟩) i cap (cs.take (i*3)) (by rw[ajA,hcs,Vl];omega) hl (by omega) (fun w2 Ui=>TP i (ajz _) w2 Ui cap)
   refine(xu w (some ⟨b,0,none⟩) i cap vb _ _ Xk Vf g3).mono ?_
   rintro e' w' ⟨rfl,rfl⟩
   refine⟨_,rfl,?_⟩
   refine od (by simp[World.alloc]) rfl rfl rfl (fun b hb=>ako w.drew _ hb) (heap_alloc_new w.drew _) Tk.symm (by omega) ?_ (by rw[Tk];exact g1) g2 (hRn.append Y2 (by rw[ajA,hcs,<-hn];omega))
   simp only[ajB,ajA,UO,hcs,Array.length_toList,size_zeroCells,z3]
   omega
 have hlt:i<n:=by omega
 obtain⟨tail,U3⟩:∃tail,tail=(cs.take (n*3)).drop (i*3):=⟨_,rfl⟩
 have U2:tail.length=(n-i)*3:=by rw[U3,aj9,ajA,hcs];omega
 have Yn:∀k v,tail[k]?=some v->cs[i*3+k]?=some v:=fun k v hk=>by
  rw[U3,aka,ajN]at hk
  split at hk
  .exact hk
  .cases hk
 have ht1:∀v∈tail,v.oneCell'=true:=fun v hv=>h.one (by decide) v (by rw[<-hn];rw[U3]at hv;exact akn hv)
 have hRt:aV w M 3 tail (l.drop i):=by rw[U3];exact hRn.drop i
 by_cases Tv:n+1<=cap
 .have hov:∀lb cb,(callFunc 264 #[.slice (some ⟨vb,0,none⟩) 1 1,.slice (some ⟨b,(i+1)*3,none⟩) lb cb]).run Tryz.prog w= .ok (.value (.bool false)) w:=fun lb cb=>by
   rw[run_callFunc_extern Tryz.func264 (by kernel_rfl) (by kernel_rfl) (by kernel_rfl) (e:=Extern.SlicesOverlaps.overlaps #[34,34] #[4]) (by kernel_rfl),
    Lib.run_overlaps_apart w 34 4 136 hu 3 (fun w=>by simp[*,Sem.run]) ⟨vb,0,none⟩ ⟨b,(i+1)*3,none⟩ 1 1 lb cb (fun he=>hMv (by have he:vb=b:=he;rw[he];exact h.hM)) ve 136 vcs.size cs.length (by simp[World.shape?,Yx]) (by simp[World.shape?,h.hg]) (by have:=h.h0;rw[hcs];omega) (by simp[World.frozen?,Yx]) (by simp[World.frozen?,Yx])]
   rfl
  have Vg:∀ty dc sc,(Builtin.copy_ #[34,34] ty #[.slice (some ⟨b,(i+1)*3,none⟩) (n+1-(i+1)) dc,.slice (some ⟨b,i*3,none⟩) (n+1-i) sc]).run Tryz.prog w.drew= .ok (goInt ((n-i:Nat):Int)) (w.drew.setRow b (lay cs ((i+1)*3) tail).toArray):=
   fun ty dc sc=>run_copy_row w.drew (k:=n-i) (o:=(i+1)*3) (sLen:=n+1-i) (dLen:=n+1-(i+1)) hu z1 Vl (by simp only[Nat.min_def];split<;>omega) U2 (h.cells Yn rfl) (show w.drew.heap[b]?=_ from h.hg) (by rw[U2,hcs];omega) ht1
  obtain⟨X,hX⟩:∃X,X=lay cs ((i+1)*3) tail:=⟨_,rfl⟩
  have Wv:X.length=cs.length:=by rw[hX];exact iM (by rw[U2,hcs];omega)
  rw[<-hX]at Vg
  have VN:(w.drew.setRow b X.toArray).heap[b]?=some (.cells X.toArray 136 (0,0)):=setRow_heap w.drew b _ _ _ _ h.hg
  have Vo:∀ty dc,(Builtin.copy_ #[34,34] ty #[.slice (some ⟨b,i*3,none⟩) (n+1-i) dc,.slice (some ⟨vb,0,none⟩) 1 1]).run Tryz.prog (w.drew.setRow b X.toArray)= .ok (goInt 1) ((w.drew.setRow b X.toArray).setRow b (lay X (i*3) Th).toArray):=
   fun ty dc=>run_copy_row _ (k:=1) (o:=i*3) (sLen:=1) (dLen:=n+1-i) hu z1 Vl (by simp only[Nat.min_def];split<;>omega) UO (fun j v hj=>by
    rw[Addr.add_lit,ajX,cell_setRow_other _ _ _ _ (fun he=>hMv (by have he:vb=b:=he;rw[he];exact h.hM))]
    exact Zw j v hj) VN (by rw[UO,Wv,hcs];omega) Y3
  refine(Oj w b n cap i vb _ _ hlt Tv Vf hov Vg Vo).mono ?_
  rintro e' w' ⟨rfl,rfl⟩
  refine⟨_,rfl,?_⟩
  rw[rY]
  have hY:lay X (i*3) Th=cs.take (i*3)++Th++(tail++cs.drop ((i+1)*3+tail.length)):=by
   have e1:X.take (i*3)=cs.take (i*3):=by
    rw[hX,lay,aj1,List.take_append_of_le_length (by rw[ajA,hcs];omega),List.take_take]
    congr 1
    omega
   have e2:X.drop (i*3+Th.length)=tail++cs.drop ((i+1)*3+tail.length):=by
    rw[hX,lay,aj1]
    exact List.drop_left' (by rw[ajA,hcs,UO];omega)
   rw[lay,e1,e2]
  have:=oc h (w1:=w.drew) (cs':=lay X (i*3) Th) (l':=l.take i++[x]++l.drop i) rfl rfl rfl rfl (by rw[iM (by rw[UO,Wv,hcs];omega),Wv]) (by rw[Tk];exact Tv) (by
   rw[hY]
   exact r8 (h.hR.takeC i) (by rw[ajA,ajA,hcs,<-hn];omega) Y2 UO hRt)
  rw[Tk]at this
  exact this
 .have abm:cap<n+1:=by omega
  have XK:=fun ty=>uv (P:=Tryz.prog) w 34 3 ty 136 VH zv .i64 hu h3 z1 z0 (some ⟨b,0,none⟩) i cap .i64 (n+1-i) (by simp only[LIM];omega) (cs.take (i*3)) (Builtin.zeroCells zv.cells (n+1-i)).toList (by rw[ajA,hcs,Vl];omega) (by rw[z3,Vl]) Xd rfl (fun w2 Ui=>by
   have:=TP i (by omega) w2 Ui cap
   exact this) (fun TK=>absurd TK (by omega)) (by simp only[maxLen];omega) (by
   have:(i+(n+1-i))*VH.bytes<=1000001*1000:=Nat.mul_le_mul (by omega) Xd
   omega)
  have Uc:=fun ty=>(XK ty).resolve_left (fun hh=>absurd hh.1 (by omega))
  have abp:i+(n+1-i)=n+1:=by omega
  have XD:((n+1-i:Nat):Int)=(n:Int)+1-(i:Int):=by omega
  simp only[abp,XD]at Uc
  obtain⟨G,hG⟩:∃G,G=grownCap w (n+1) cap 136:=⟨_,rfl⟩
  rw[<-hG]at Uc
  have hGn:n+1<=G:=(Uc 0).2.1
  have hGm:G<=maxLen:=(Uc 0).2.2.1
  have hrz:=fun ty=>(Uc ty).2.2.2
  clear XK Uc
  obtain⟨U8,Yi⟩:∃U8:List Value,U8=cs.take (i*3)++(Builtin.zeroCells zv.cells (n+1-i)).toList++(Builtin.zeroCells zv.cells (G-(n+1))).toList:=⟨_,rfl⟩
  rw[<-Yi]at hrz
  have TG:U8.length=G*3:=by
   rw[Yi]
   simp only[ajB,ajA,hcs,Array.length_toList,size_zeroCells,z3]
   omega
  have hgN:(w.drew.alloc (.cells U8.toArray 136)).heap[w.heap.size]?=some (.cells U8.toArray 136 (0,0)):=heap_alloc_new w.drew _
  have hcO:∀b0 o,b0<w.heap.size->(w.drew.alloc (.cells U8.toArray 136)).cell? ⟨b0,o,none⟩=w.cell? ⟨b0,o,none⟩:=fun b0 o V1=>by
   unfold World.cell?
   rw[ako w.drew _ V1]
   rfl
  have Vg:∀ty dc,(Builtin.copy_ #[34,34] ty #[.slice (some ⟨w.heap.size,i*3,none⟩) (n+1-i) dc,.slice (some ⟨vb,0,none⟩) 1 1]).run Tryz.prog (w.drew.alloc (.cells U8.toArray 136))= .ok (goInt 1) ((w.drew.alloc (.cells U8.toArray 136)).setRow w.heap.size (lay U8 (i*3) Th).toArray):=
   fun ty dc=>run_copy_row _ (k:=1) (o:=i*3) (sLen:=1) (dLen:=n+1-i) hu z1 Vl (by simp only[Nat.min_def];split<;>omega) UO (fun j v hj=>by
    rw[Addr.add_lit,ajX,hcO _ _ hvb]
    exact Zw j v hj) hgN (by rw[UO,TG];omega) Y3
  obtain⟨X,hX⟩:∃X,X=lay U8 (i*3) Th:=⟨_,rfl⟩
  have Wv:X.length=U8.length:=by rw[hX];exact iM (by rw[UO,TG];omega)
  rw[<-hX]at Vg
  have VN:((w.drew.alloc (.cells U8.toArray 136)).setRow w.heap.size X.toArray).heap[w.heap.size]?=some (.cells X.toArray 136 (0,0)):=setRow_heap _ _ _ _ _ _ hgN
  have Vo:∀ty dc sc,(Builtin.copy_ #[34,34] ty #[.slice (some ⟨w.heap.size,(i+1)*3,none⟩) (n+1-(i+1)) dc,.slice (some ⟨b,i*3,none⟩) (n-i) sc]).run Tryz.prog ((w.drew.alloc (.cells U8.toArray 136)).setRow w.heap.size X.toArray).drew= .ok (goInt ((n-i:Nat):Int)) ((((w.drew.alloc (.cells U8.toArray 136)).setRow w.heap.size X.toArray).drew).setRow w.heap.size (lay X ((i+1)*3) tail).toArray):=
   fun ty dc sc=>run_copy_row _ (k:=n-i) (o:=(i+1)*3) (sLen:=n-i) (dLen:=n+1-(i+1)) hu z1 Vl (by simp only[Nat.min_def];split<;>omega) U2 (fun j v hj=>by
    rw[Addr.add_lit]
    show(((w.drew.alloc (.cells U8.toArray 136)).setRow w.heap.size X.toArray)).cell? _=_
    rw[cell_setRow_other _ _ _ _ (show b≠w.heap.size by omega),hcO _ _ Xn,gb h.hg]
    exact Yn j v hj) (show((w.drew.alloc (.cells U8.toArray 136)).setRow w.heap.size X.toArray).heap[w.heap.size]?=_ from VN) (by rw[U2,Wv,TG];omega) ht1
  refine(Ok w b n cap i vb w.heap.size G _ _ _ hlt Xk abm (by omega) hGn (by simp only[maxLen]at hGm;omega) hrz Vg Vo).mono ?_
  rintro e' w' ⟨rfl,rfl⟩
  refine⟨_,rfl,?_⟩
  refine od (cs':=lay X ((i+1)*3) tail) ((setRow_size _ _ _).trans ((setRow_size _ _ _).trans (by simp[World.alloc]))) rfl rfl rfl (fun b0 V1=>?_) (setRow_heap _ _ _ _ _ _ (show((w.drew.alloc (.cells U8.toArray 136)).setRow w.heap.size X.toArray).heap[w.heap.size]?=_ from VN)) Tk.symm (by omega) (by rw[iM (by rw[U2,Wv,TG];omega),Wv,TG]) (by rw[Tk];exact hGn) hGm ?_
  .rw[setRow_other _ _ _ _ (show b0≠w.heap.size by omega)]
   show((w.drew.alloc (.cells U8.toArray 136)).setRow w.heap.size X.toArray).heap[b0]?=_
   rw[setRow_other _ _ _ _ (show b0≠w.heap.size by omega)]
   exact ako w.drew _ V1
  .have e1:X.take ((i+1)*3)=cs.take (i*3)++Th:=by
    rw[hX,lay,show(i+1)*3=i*3+Th.length by omega,Yi]
    have:(List.take (i*3) (cs.take (i*3)++(Builtin.zeroCells zv.cells (n+1-i)).toList++(Builtin.zeroCells zv.cells (G-(n+1))).toList))=cs.take (i*3):=by
     rw[aj1]
     exact List.take_left' (by rw[ajA,hcs];omega)
    rw[this]
    exact List.take_left' (by rw[ajB,ajA,hcs];omega)
   rw[lay,e1,aj1]
   exact r8 (h.hR.takeC i) (by rw[ajA,ajA,hcs,<-hn];omega) Y2 UO hRt
end
section
open Go.RowKit Go.Proofs Go.Lib Go.Wm
def Ol(x y:Operand)(a b:Ky):aX Tryz.prog .eql 192 x y (.t (dQ a)) (.t (dQ b))=val (tt (fv a b)):=
 D2 (xs:=m8 a) (ys:=m8 b) (by kernel_rfl) rfl (EM a b)
def eW(k:Ky)(h:Hd):Bool:=fv (eF h) k
abbrev qk(k:Ky):Row:= .box 192 (.t (dQ k)) false
def Om(k:Ky)(h:Hd):ajk 262 ⟨[],[.t (br h),.ptr (.arg 0) 0 0],[qk k],.t (bo (eW k h)),[some (qk k)],[]⟩:=by
 have c1:=EK h
 have he:∀x y,aX Tryz.prog .eql 192 x y (.t (dQ ⟨h.name,h.no⟩)) (.t (dQ k))=val (tt (fv (eF h) k)):=fun x y=>Ol x y (eF h) k
 unfold eW
 generalize fv (eF h) k=b at*
 refine aJ JI rfl ?_
 simp[A3]
 repeat'(first|simp[*]|refine Up c1 rfl ?_)
 exact ug [(.arg 0,.arg 0)] rfl (by simp[*]) .rfl
def On(k:Ky)(l:List Hd)(hl:l.length<=1000000):ajk 227 ⟨[],[.t (.sl 3 (l.map br)),.fn 262 [.ptr (.arg 0) 0 0]],[qk k],.t (int (bf (eW k) l)),[some (qk k)],[]⟩:=by
 refine aJ vp rfl ?_
 simp[rE]
 refine ba (fun E=>∃(i:Nat),i<=l.length/\E.tmps 8= .t (int i)/\E.tmps 7= .t (int l.length)/\E.tmps 0= .t (.sl 3 (l.map br))/\E.tmps 1= .fn 262 [.ptr (.arg 0) 0 0]/\E.slots (.arg 0)=some (qk k)/\(∀(j:Nat) (x:Hd),j<i->l[j]?=some x->(eW k) x=false)) (fun E=>match E.tmps 8 with| .t (.v (.int _ i))=>l.length-i.toNat|_=>0) [(.arg 0,.arg 0)] rfl ?_ ?_
 .refine⟨0,by omega,?_,?_,?_,?_,?_,fun j x hj=>by omega⟩<;>simp
 rintro E1 ⟨i,hi,e8,e7,e0,e1,s0,hb⟩ hU hS A hA
 simp[rD,e8,e7]
 refine aN (fun h=>?_) (fun h=>?_)
 .have hx:=ajq h
  obtain⟨x,Tm⟩:∃x,l[i]=x:=⟨_,rfl⟩
  rw[Tm]at hx
  have TN:=ajx hx
  have c1:=Om k x
  cases TJ:(eW k) x with
  |true=>
   rw[TJ]at c1
   repeat'(first|simp[*,s0,h]|refine UR (S:=[.arg 0]) c1 ?_ ?_)
   refine ug [(.arg 0,.arg 0)] rfl (by simp[*]) ?_
   .rw[fE hx hb TJ]
    exact .rfl
  |false=>
   rw[TJ]at c1
   repeat'(first|simp[*,s0,h]|refine UR (S:=[.arg 0]) c1 ?_ ?_|simp(disch:=omega) only[wr])
   refine hA _ (aH [(.arg 0,.arg 0)] rfl rfl ⟨i+1,by omega,?_,?_,?_,?_,?_,fun j y hj hy=>?_⟩ ?_)
   .simp
   .simp[e7]
   .simp[e0]
   .simp[e1]
   .simp[s0]
   .by_cases Uk:j=i
    .subst Uk
     rw[hx]at hy
     cases hy
     exact TJ
    .exact hb j y (by omega) hy
   .simp[e8]
    omega
 .repeat' simp[*,s0,h]
  refine ug [(.arg 0,.arg 0)] rfl (by simp[*]) ?_
  .rw[fP fun j x hx=>hb j x (by have:=(ajs.1 hx).1;omega) hx]
   exact .rfl
def Fd(l:List Hd)(hl:l.length<=LIM):ajl 222 [.sl 3 (l.map br)] (.osl (.loc 0 0) l.length) 136 3 (l.map br):=by
 have:=nQ (P:=Tryz.prog) (f:=222) bC Jo (t:=34) (e:=136) (m:=3) (m':=3) rfl rfl (aj6 rfl) (by kernel_rfl) (by decide) (l:=l.map br) (by simpa using hl)
 simpa using this
def cP(l:List Hd)(k:Ky):List Hd:=if bf (eW k) l<0 then l else l.take (bf (eW k) l).toNat++l.drop ((bf (eW k) l).toNat+1)
abbrev Oo(l:List Hd):Row:= .rows 136 3 (l.map br) false
def Fe(c:Ca)(k:Ky)(hl:c.l.length<=1000000):ajk 225 ⟨[],[.t (dr c),.t (dQ k)],[],.tup [.osl (.loc 0 0) (cP c.l k).length,.t (int (bf (eW k) c.l))],[],[Oo (cP c.l k)]⟩:=by
 have c1:=On k c.l hl
 have c2:=Fd c.l (by simp only[LIM];omega)
 have UA:=lw (eW k) c.l
 unfold cP
 generalize bf (eW k) c.l=ix at*
 by_cases hi:ix<0
 .have TU:¬0<=ix:=by omega
  rw[if_pos hi]
  refine aJ AC rfl ?_
  simp[vo,vn]
  repeat'(first|simp[*]|refine UR (S:=[.loc 3 0]) c1 ?_ ?_|refine UN (F:=[]) c2 ?_ ?_)
  refine ug [(.loc 14 0,.loc 0 0)] rfl (by simp[*]) ?_
  .simp
   exact .rfl
 .rw[if_neg hi]
  obtain⟨i,rfl⟩:=akp (show 0<=ix by omega)
  have TC:i<c.l.length:=by omega
  rw[akl]
  have hw:IntKind.i64.wrap ((i:Int)+1)=((i+1:Nat):Int):=by rw[bx (by omega) (by omega)];omega
  have c3:=Oi (c.l.map br) i (i+1) (by omega) (by simp;omega)
  have hE:List.take i (c.l.map br)++List.drop (i+1) (c.l.map br)=(c.l.take i++c.l.drop (i+1)).map br:=by rw[aki,List.map_take,List.map_drop]
  unfold dM at c3
  rw[hE,ajJ,ajJ]at c3
  have U2:List.take (c.l.take i++c.l.drop (i+1)).length ((c.l.take i++c.l.drop (i+1)).map br)=(c.l.take i++c.l.drop (i+1)).map br:=aju (by simp)
  generalize c.l.take i++c.l.drop (i+1)=L at*
  refine aJ AC rfl ?_
  simp[vo,vn]
  repeat'(first|simp[*]|refine UR (S:=[.loc 3 0]) c1 ?_ ?_|refine UN (F:=[]) c2 ?_ ?_|refine UR (S:=[.loc 14 0]) c3 ?_ ?_)
  refine ug [(.loc 21 0,.loc 0 0)] rfl (by simp[*]) ?_
  .simp[U2]
   exact .rfl
def fV:Ca:=⟨0,[]⟩
def l5{a:ab}:aE (.agg [a,.e0]) (.agg [a,.sl 3 []]):=aE.aggL ⟨.rfl,.nil,trivial⟩
def dB(c:Ca)(name:ByteArray)(no:Int):Ca×Bs×Bool:=
 if dG c≠0 then(fV,[],false)else match c.l[(bf (eW ⟨name,no⟩) c.l).toNat]? with
 |some h=>if bf (eW ⟨name,no⟩) c.l<0 then(⟨c.cap,c.l⟩,[],false)else(⟨c.cap,h::cP c.l ⟨name,no⟩⟩,h.bytes,true)
 |none=>(⟨c.cap,c.l⟩,[],false)
def Ff(c:Ca)(name:ByteArray)(no:Int)(hl:c.l.length<=1000000)(hb:∀h∈c.l,h.bytes.length<=1000000):aji 218 [dr c,str name,int no] (.tup [.t (dr (dB c name no).1),.t (aS (dB c name no).2.1),.t (bo (dB c name no).2.2)]):=by
 have c1:=oF c hl hb
 have c2:=Fe c ⟨name,no⟩ hl
 have UA:=lw (eW ⟨name,no⟩) c.l
 have U2:bf (eW ⟨name,no⟩) c.l<0->cP c.l ⟨name,no⟩=c.l:=fun h=>by unfold cP;rw[if_pos h]
 have htn:(cP c.l ⟨name,no⟩).length<=c.l.length:=by
  unfold cP
  split
  .exact ajz _
  .simp;omega
 have hv:dB c name no=dB c name no:=rfl
 conv at hv=>rhs;unfold dB
 generalize dB c name no=r at*
 generalize bf (eW ⟨name,no⟩) c.l=ix at*
 generalize cP c.l ⟨name,no⟩=L at*
 generalize dG c=e at*
 by_cases h0:e=0
 .subst h0
  simp only[ne_eq,akB,ajS]at hv
  by_cases hi:ix<0
  .have hr:r=(⟨c.cap,c.l⟩,[],false):=by
    rw[hv]
    split
    .rw[if_pos hi]
    .rfl
   have hL:=U2 hi
   subst hr hL
   refine pu vm rfl ?_
   simp[rC]
   repeat'(first|simp[*]|refine Up c1 rfl ?_|refine UG (S:=[]) (F:=[]) c2 ?_ ?_)
   refine gr (x:=dr ⟨c.cap,c.l⟩) (y:= .e0) (dp (rd:=[.loc 20 0]) ?_) (bn _) (bn _) .rfl .nil .rfl
   simp
  .obtain⟨i,rfl⟩:=akp (show 0<=ix by omega)
   have TC:i<c.l.length:=by omega
   have hx:=ajq TC
   obtain⟨x,Tm⟩:∃x,c.l[i]=x:=⟨_,rfl⟩
   rw[Tm]at hx
   have hxb:=hb x (Tm▸akA TC)
   rw[akl,hx]at hv
   simp only[if_neg hi]at hv
   have c3:=Fc (L.map br) (br x) 0 (Nat.zero_le _) (by simp;omega)
   unfold dM at c3
   rw[show List.take 0 (L.map br)++[br x]++List.drop 0 (L.map br)=(x::L).map br by simp,ajJ,ajJ]at c3
   have c4:=lI x.bytes (by simp only[LIM];omega)
   subst hv
   refine pu vm rfl ?_
   simp[rC]
   repeat'(first|simp[*,az,ax]|refine Up c1 rfl ?_|refine UG (S:=[]) (F:=[]) c2 ?_ ?_|refine UR (S:=[.loc 20 0]) c3 ?_ ?_|refine UN (F:=[]) c4 ?_ ?_)
   refine gr (x:=dr ⟨c.cap,x::L⟩) (y:=aS x.bytes) (dp (rd:=[.loc 38 0]) ?_) (oB (rd:=[.loc 46 0]) ?_) (bn _) .rfl .rfl .rfl
   .simp
   .simp
 .rw[if_pos h0]at hv
  subst hv
  refine pu vm rfl ?_
  simp[rC]
  repeat'(first|simp[*]|refine Up c1 rfl ?_)
  all_goals exact gr (bn _) (bn _) (bn _) l5 .nil .rfl
def gV:Int->Nat->List Hd->Int×Int
 |v,_,[]=>(-1,v)
 |v,i,h::l=>if v-h.bytes.length<0 then(i,v-h.bytes.length)else gV (v-h.bytes.length) (i+1) l
def Fg:∀(l:List Hd) (v:Int) (i:Nat),(gV v i l).1= -1\/((i:Int)<=(gV v i l).1/\(gV v i l).1<i+l.length)
 |[],v,i=> .inl rfl
 |h::l,v,i=>by
  unfold gV
  split
  .exact .inr ⟨Int.le_refl _,by simp;omega⟩
  .rcases Fg l (v-h.bytes.length) (i+1)with h1|⟨h1,h2⟩
   .exact .inl h1
   .refine .inr ⟨by omega,?_⟩
    simp only[akx]
    omega
def Oq(v:Int)(h:Hd)(h0:0<=v)(h1:v<=1099511627776)(hb:h.bytes.length<=1000000):ajk 228 ⟨[],[.t (br h),.ptr (.arg 0) 0 0],[av v],.t (bo (decide (v-h.bytes.length<0))),[some (av (v-h.bytes.length))],[]⟩:=by
 have hw:IntKind.i64.wrap (v-h.bytes.length)=v-h.bytes.length:=bx (by omega) (by omega)
 refine aJ Js rfl ?_
 simp[AD]
 repeat' simp[*]
 exact ug [(.arg 0,.arg 0)] rfl (by simp[*]) .rfl
def Ot(cap:Int)(l:List Hd)(hl:l.length<=1000000)(h0:0<=cap)(h1:cap<=1099511627776)(hb:∀h∈l,h.bytes.length<=1000000):ajk 227 ⟨[],[.t (.sl 3 (l.map br)),.fn 228 [.ptr (.arg 0) 0 0]],[av cap],.t (int (gV cap 0 l).1),[some (av (gV cap 0 l).2)],[]⟩:=by
 refine aJ vp rfl ?_
 simp[rE]
 refine ba (fun E=>∃(i:Nat) (v:Int),i<=l.length/\0<=v/\v<=1099511627776/\gV cap 0 l=gV v i (l.drop i)/\E.tmps 8= .t (int i)/\E.tmps 7= .t (int l.length)/\E.tmps 0= .t (.sl 3 (l.map br))/\E.tmps 1= .fn 228 [.ptr (.arg 0) 0 0]/\E.slots (.arg 0)=some (av v)) (fun E=>match E.tmps 8 with| .t (.v (.int _ i))=>l.length-i.toNat|_=>0) [(.arg 0,.arg 0)] rfl ?_ ?_
 .refine⟨0,cap,by omega,h0,h1,rfl,?_,?_,?_,?_,?_⟩<;>simp
 rintro E1 ⟨i,v,hi,W8,hv1,hrg,e8,e7,e0,e1,s0⟩ hU hS A hA
 simp[rD,e8,e7]
 refine aN (fun h=>?_) (fun h=>?_)
 .have hx:=ajq h
  obtain⟨x,Tm⟩:∃x,l[i]=x:=⟨_,rfl⟩
  rw[Tm]at hx
  have hxb:=hb x (ajx hx)
  have c1:=Oq v x W8 hv1 hxb
  have hd:l.drop i=x::l.drop (i+1):=by rw[aku h,Tm]
  rw[hd,gV]at hrg
  by_cases TJ:v-x.bytes.length<0
  .rw[if_pos TJ]at hrg
   rw[decide_eq_true TJ]at c1
   rw[hrg]
   repeat'(first|simp[*,s0,h]|refine UR (S:=[.arg 0]) c1 ?_ ?_)
   exact ug [(.arg 0,.arg 0)] rfl (by simp[*]) .rfl
  .rw[if_neg TJ]at hrg
   rw[decide_eq_false TJ]at c1
   repeat'(first|simp[*,s0,h]|refine UR (S:=[.arg 0]) c1 ?_ ?_|simp(disch:=omega) only[wr])
   refine hA _ (aH [(.arg 0,.arg 0)] rfl rfl ⟨i+1,v-x.bytes.length,by omega,by omega,by omega,hrg,?_,?_,?_,?_,?_⟩ ?_)
   .simp
   .simp[e7]
   .simp[e0]
   .simp[e1]
   .simp[s0]
   .simp[e8]
    omega
 .have hd:l.drop i=[]:=List.drop_eq_nil_of_le (by omega)
  rw[hd,gV]at hrg
  rw[hrg]
  repeat' simp[*,s0,h]
  exact ug [(.arg 0,.arg 0)] rfl (by simp[*]) .rfl
def gx(c:Ca)(name:ByteArray)(no:Int)(b:Bs):Ca×Int:=
 if dG c≠0 then(fV,1)else if oE ⟨name,no⟩=false then(fV,1)
 else if c.cap<b.length then(⟨c.cap,cP c.l ⟨name,no⟩⟩,0)
 else if(gV c.cap 0 (⟨name,no,b⟩::cP c.l ⟨name,no⟩)).1<0 then(⟨c.cap,⟨name,no,b⟩::cP c.l ⟨name,no⟩⟩,0)
 else(⟨c.cap,(⟨name,no,b⟩::cP c.l ⟨name,no⟩).take (gV c.cap 0 (⟨name,no,b⟩::cP c.l ⟨name,no⟩)).1.toNat⟩,0)
def Ou{c:Ca}(h:dG c=0):0<=c.cap/\c.cap<=1099511627776/\gw c.l<=c.cap/\((List.range c.l.length).all (kd c.l))=true:=by
 unfold dG at h
 split at h
 .cases h
 split at h
 .cases h
 split at h
 .cases h
 split at h
 .cases h
 rename_i g1 g2 g3 g4
 exact⟨by omega,by omega,by omega,by simpa using g4⟩
def Ov{l:List Hd}{k:Ky}{h:Hd}(hm:h∈cP l k):h∈l:=by
 unfold cP at hm
 split at hm
 .exact hm
 .rcases ajG.1 hm with hm|hm
  .exact akm hm
  .exact akn hm
def Ow(l:List Hd)(k:Ky):(cP l k).length<=l.length:=by
 have UA:=lw (eW k) l
 unfold cP
 split
 .exact ajz _
 .simp;omega
end
end Go.Wt
