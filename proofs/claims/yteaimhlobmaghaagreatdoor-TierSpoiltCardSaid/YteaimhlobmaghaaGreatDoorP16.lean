/- A part of the proof of a tier statement (the last text closes it): lemmas without condition. -/
import Derived.Test.YteaimhlobmaghaaGreatDoorP15
import Derived.Lib.Zigzag
set_option linter.all false
set_option maxRecDepth 10000000
set_option maxHeartbeats 0
namespace Go.Wt
section
open Go.RowKit Go.Proofs Go.Lib Go.Wm
def ay.unbox{P:Program}{f:FuncId}{gs:List (Nat×TypeId×ab)}{ds:List DV}{d:DV}{rows:List Row}{rows':List (Option Row)}{e t:TypeId}{m n i:Nat}{l:List ab}
  (h:ay P f ⟨gs,ds,rows,d,rows',[.rows e m l false]⟩) (hi:rows'[i]?=some (some (.box t (.osl (.loc 0 0) n) false))) (hn:n<=l.length):
  ay P f ⟨gs,ds,rows,d,rows'.set i (some (.box t (.t (.sl m (l.take n))) false)),[]⟩:=by
 refine⟨h.1,fun c Z w vs Wf hs hl hv=>?_⟩
 refine(h.2 c Z w vs Wf hs hl hv).mono fun ed w' ⟨v,he,Z',E',Tj,Tr,Tn⟩=>?_
 have aa8:∀s,E'.slots s=aU [] rows' [.rows e m l false] s:=fun s=>congrFun Tj s
 have TC:=(ajs.1 hi).1
 let S2:Nm->Option Row:=aU [] (rows'.set i (some (.box t (.t (.sl m (l.take n))) false))) []
 have UM:∀s r,S2 s=some r->(s= .arg i/\r= .box t (.t (.sl m (l.take n))) false)\/(s≠.arg i/\(∀a b,s≠.loc a b)/\E'.slots s=some r):=by
  intro s r hr
  cases s with
  |arg j=>
   have hr:((rows'.set i (some (.box t (.t (.sl m (l.take n))) false)))[j]?).join=some r:=hr
   by_cases hj:j=i
   .subst hj
    rw[List.getElem?_set_self TC]at hr
    simp at hr
    exact .inl ⟨rfl,hr.symm⟩
   .rw[List.getElem?_set_ne (fun h=>hj h.symm)]at hr
    exact .inr ⟨by simpa using hj,by simp,by rw[aa8];exact hr⟩
  |loc a b=>
   exfalso
   have hr:(if a=0 then([]:List Row)[b]? else none)=some r:=hr
   split at hr<;>simp at hr
  |glob g=>exact absurd hr (by simp[S2,aU])
  |head _ _=>exact absurd hr (by simp[S2,aU])
  |yl=>exact absurd hr (by simp[S2,aU])
 have TU:E'.slots (.arg i)=some (.box t (.osl (.loc 0 0) n) false):=by
  rw[aa8]
  show(rows'[i]?).join=_
  rw[hi]
  rfl
 have WJ:E'.slots (.loc 0 0)=some (.rows e m l false):=by rw[aa8];rfl
 have Xv:∀b,ae c Z' S2 b->ae c Z' E'.slots b:=by
  rintro b (hb|⟨s,r,h1,h2,h3,h4⟩)
  .exact .inl hb
  .rcases UM s r h1 with⟨rfl,rfl⟩|⟨_,_,h5⟩
   .exact .inr ⟨_,_,TU,rfl,rfl,h4⟩
   .exact .inr ⟨s,r,h5,h2,h3,h4⟩
 have Xx:0<(Z' (.loc 0 0)).cap->¬ae c Z' S2 (Z' (.loc 0 0)).blk:=by
  intro hcap
  have Tz:(Row.rows e m l false).real (Z' (.loc 0 0))=true:=by simpa[Row.real]using hcap
  rintro(⟨TZ,Uu⟩|⟨s,r,h1,h2,h3,h4⟩)
  .exact((Tr.row _ _ WJ).2.2 Tz).2.elim Uu (fun hh=>hh TZ)
  .rcases UM s r h1 with⟨rfl,rfl⟩|⟨_,h6,h5⟩
   .have:=Tr.inj (.arg i) (.loc 0 0) _ _ TU WJ rfl rfl Tz h4
    cases this
   .have:=Tr.inj s (.loc 0 0) _ _ h5 WJ h2 h3 Tz h4
    exact h6 _ _ this
 have VL:∀{v:Value} {x:DV},ah Z' E'.used w' (ae c Z' E'.slots) v x->ah Z' E'.used w' (ae c Z' S2) v x:=fun hr=>
  hr.mono (ajz _) (fun b _ hb=>⟨rfl,fun h2=>hb (Xv b h2)⟩) (fun s hu=>⟨hu,rfl⟩)
 refine⟨v,he,Z',⟨E'.tmps,S2,E'.used⟩,rfl,⟨Tr.size,Tr.os,Tr.tape,Tr.output,Tr.old,Tr.m0,?_,?_,Tr.fix,Tr.gl⟩,VL Tn⟩
 .intro s r hr
  rcases UM s r hr with⟨rfl,rfl⟩|⟨_,_,h5⟩
  .obtain⟨g1,⟨cs,k1,k2,k3,k4⟩,g3⟩:=Tr.row _ _ TU
   refine⟨g1,⟨cs,k1,k2,k3,?_⟩,fun Tz=>g3 rfl⟩
   intro j v x hj hx
   match j with
   |0=>
    cases hx
    have W8:=k4 0 v (.osl (.loc 0 0) n) hj rfl
    refine .t (Tr.view Xv (x:= .sl m (l.take n)) (rd:=[.loc 0 0]) W8 ?_ ?_)
    .simp[aa.view,aa.view1,WJ,hn]
    .intro s hs hcap
     rw[List.mem_singleton]at hs
     subst hs
     exact Xx hcap
   |j+1=>simp[DV.cells,ab.cells]at hx
  .obtain⟨g1,g2,g3⟩:=Tr.row s r h5
   exact⟨g1,g2.mono (ajz _) (fun b _ hb=>⟨rfl,fun h2=>hb (Xv b h2)⟩) (fun s hu=>⟨hu,rfl⟩) (fun _=>rfl),g3⟩
 .intro s s' r r' h1 h2 h3 h4 h5 h6
  rcases UM s r h1 with⟨rfl,rfl⟩|⟨_,_,k1⟩<;>rcases UM s' r' h2 with⟨rfl,rfl⟩|⟨_,_,k2⟩
  .rfl
  .exact Tr.inj _ _ _ _ TU k2 rfl rfl h5 h6
  .exact Tr.inj _ _ _ _ k1 TU h3 h4 rfl h6
  .exact Tr.inj _ _ _ _ k1 k2 h3 h4 h5 h6
end
section
open Go.RowKit Go.Proofs Go.Lib
attribute [simp] ew List.lookup aa.view aa.view1 aa.views aL mH mJ bB dt am Row.frozen Ct.gn aa.outD aa.out1 aU Ct.out
def mV:Tryz.prog.follows .mixedOrders=true:=by kernel_rfl
def aJ{f:FuncId}{fn:dK}(hx:ak Tryz.prog f fn){k:Ct}(hb:(k.gs.isEmpty&&Nat.ble k.ds.length fn.nt)=true)(hw:aY Tryz.prog bu (Fin fn.res (Ends k)) [.code fn.code] (gi k.ds k.rows)):ay Tryz.prog f k:=by
 simp only[ajT,List.isEmpty_iff]at hb
 exact IN mV hx hb.1 (lb hb.2) hw
def jS{f:FuncId}{fn:dK}(hx:ak Tryz.prog f fn){k:Ct}{u:Value}(hb:(k.gs.isEmpty&&Nat.ble k.ds.length fn.nt)=true)(hw:aY Tryz.prog (bj (nO k u)) uR [.code fn.code] (gi k.ds k.rows)):eZ Tryz.prog f k u:=by
 simp only[ajT,List.isEmpty_iff]at hb
 exact IP mV hx hb.1 (lb hb.2) hw
def iN{f:FuncId}{fn:dK}(hx:ak Tryz.prog f fn){ts:List ab}{d:DV}{e m:Nat}{l:List ab}(hn:Nat.ble ts.length fn.nt=true)(hw:aY Tryz.prog bu (Fin fn.res (Ends (ll ts d e m l))) [.code fn.code] (ew ts)):cq Tryz.prog f ts d e m l:=IC mV hx (lb hn) hw
def se{f:FuncId}{fn:dK}(hx:ak Tryz.prog f fn){ds:List DV}{row T7:Row}{d:DV}(hn:Nat.ble ds.length fn.nt=true)(hw:aY Tryz.prog bu (Fin fn.res (Ends (fc ds row d T7))) [.code fn.code] (ef ds row)):lp Tryz.prog f ds row d T7:=IF mV hx (lb hn) hw
def pO{f:FuncId}{fn:dK}(hx:ak Tryz.prog f fn){ts:List ab}{d:DV}{row:Row}(hn:Nat.ble ts.length fn.nt=true)(hw:aY Tryz.prog bu (Fin fn.res (Ends (jb ts d row))) [.code fn.code] (ew ts)):lq Tryz.prog f ts d row:=IG mV hx (lb hn) hw
def lH{f:FuncId}{fn:dK}(hx:ak Tryz.prog f fn){ds:List DV}{d:DV}(hn:Nat.ble ds.length fn.nt=true)(hw:aY Tryz.prog bu (Fin fn.res (Ends ⟨[],ds,[],d,[],[]⟩)) [.code fn.code] (bR ds)):jc Tryz.prog f ds d:=IS mV hx (lb hn) hw
def sf{f:FuncId}{fn:dK}(hx:mE Tryz.prog f fn){ts:List DV}{xs:List (List ab)}(hn:(fn.res.isEmpty&&(Nat.ble (ts.length+1) fn.nt&&Nat.ble fn.nt GH))=true)(hw:aY Tryz.prog (kp (YL xs)) (uS xs.length) [.code fn.code] (i9 ts)):fD Tryz.prog f ts xs:=by
 simp only[ajT,List.isEmpty_iff]at hn
 exact IQ mV hx hn.1 (lb hn.2.1) (lb hn.2.2) hw
section
variable{P:Program}{q:Value->aa->Prop}{Q:Exit->aa->Prop}{kk:List Fr}{E:aa}{pr:List (Nat×Nat)}{ix:Nat}{Tq:List bG}{rest:List aT}{t:Option Nat}{f:FuncId}{ds:List DV}{k:Ct}{S F keep:List Nm}{u:Value}
@[simp] def sg(E:aa)(S F:List Nm)(k:Ct)(t:Nat):Prop:=k.gs=[]/\S.Nodup/\S.all (fun s=>!s.isGlob&&!F.contains s&&s != .yl)=true/\mG E (aL S []) S k.rows/\(∀s∈S,E.used s=true)/\(∀s∈F,(E.slots s).isSome=true)/\∀j,j<k.new.length->E.used (.loc t j)=false
def Up{g:Option (Bool×Bool)}{ts:List ab}{d:DV}(h:ao P f ts d)(hd:d.ren []=d)(hk:cx P (bj q) Q kk pr ix Tq t rest E g (some ⟨d,[],[]⟩)):cR P (bj q) Q kk pr ix Tq t rest E g f (ts.map .t):=uX h hd hk
def UV{g:Option (Bool×Bool)}{ts:List ab}{d:DV}(h:ao P f ts d)(hd:d.ren []=d)(hv:(E.und g).views ds=some (ts,F))(hk:cx P (bj q) Q kk pr ix Tq t rest E g (some ⟨d,F++[],am (E.und g) F⟩)):cR P (bj q) Q kk pr ix Tq t rest E g f ds:=Iu h hv hd hk
def UN{t:Nat}{ts:List ab}{d:DV}{e m:Nat}{l:List ab}(h:cq P f ts d e m l)(hv:E.views ds=some (ts,F)/\E.used (.loc t 0)=false)(hk:cx P (bj q) Q kk pr ix Tq (some t) rest E none (some ⟨d.ren [(.loc 0 0,.loc t 0)],F,(.loc t 0,some (.rows e m l false))::am E F⟩)):cR P (bj q) Q kk pr ix Tq (some t) rest E none f ds:=ru h hv.1 hv.2 hk
def UW{W0:List DV}{row T7:Row}{d:DV}{s:Nm}(h:lp P f W0 row d T7)(hg:∀ρ,row.ren ρ=row/\T7.ren ρ=T7/\d.ren ρ=d)(hs:E.slots s=some row/\E.used s=true/\s.isGlob=false/\s≠.yl/\W0=ds.map (DV.ren [(s,.arg 0)]))(hk:cx P (bj q) Q kk pr ix Tq t rest E none (some ⟨d,[s],[(s,some T7)]⟩)):cR P (bj q) Q kk pr ix Tq t rest E none f ds:=zF h hs.1 hs.2.1 hs.2.2.1 hs.2.2.2.1 (fun ρ=>(hg ρ).1) (fun ρ=>(hg ρ).2.1) (fun ρ=>(hg ρ).2.2) hs.2.2.2.2 hk
def UF{g:Option (Bool×Bool)}(h:ay P f k)(hb:(k.rows.isEmpty&&(k.gs.isEmpty&&(k.new.isEmpty&&k.d.flat)))=true)(ha:mJ (E.und g) F [] ds k.ds/\∀s∈F,((E.und g).slots s).isSome=true)(hk:cx P (bj q) Q kk pr ix Tq t rest E g (some ⟨k.d,F++[],[]⟩)):cR P (bj q) Q kk pr ix Tq t rest E g f ds:=by
 simp only[ajT,List.isEmpty_iff]at hb
 exact IT h hb.1 hb.2.1 hb.2.2.1 hb.2.2.2 ha.1 ha.2 hk
def UG(h:ay P f k)(hb:sg E S F k (t.getD 0)/\mJ E F (aL S []) ds k.ds)(hk:cx P (bj q) Q kk pr ix Tq t rest E none (some ⟨k.d.ren (dt S (t.getD 0) k.new.length),F++(S++k.gn),bB S (t.getD 0) k++am E F⟩)):cR P (bj q) Q kk pr ix Tq t rest E none f ds:=by
 obtain⟨⟨a,b,c,d,e,i,j⟩,l⟩:=hb
 exact zL h (gF a b c d e (rA l) i) j hk
def UR(h:ay P f k)(hb:sg E S [] k (t.getD 0)/\mH E [] (aL S []) ds k.ds)(hk:cx P (bj q) Q kk pr ix Tq t rest E none (some ⟨k.d.ren (dt S (t.getD 0) k.new.length),[]++(S++k.gn),bB S (t.getD 0) k++am E []⟩)):cR P (bj q) Q kk pr ix Tq t rest E none f ds:=by
 obtain⟨⟨a,b,c,d,e,i,j⟩,l⟩:=hb
 exact zL h (gF a b c d e l i) j hk
def UK(h:ay P f k)(hb:sg E S F k (t.getD 0)/\mJ E F (aL S []) ds k.ds)(hkp:∀s∈keep,s∈F++S/\(bB S (t.getD 0) k++am E F).lookup s=some (E.slots s)/\E.used s=true)(hk:cx P (bj q) Q kk pr ix Tq t rest E none (some ⟨k.d.ren (dt S (t.getD 0) k.new.length),F++(S++k.gn),(bB S (t.getD 0) k++am E F).filter fun p=>!keep.contains p.1⟩)):cR P (bj q) Q kk pr ix Tq t rest E none f ds:=by
 obtain⟨⟨a,b,c,d,e,i,j⟩,l⟩:=hb
 exact IJ h (gF a b c d e (rA l) i) j hkp hk
def UX(h:eZ P f k u)(hb:(sg E S [] k 0/\mH E [] (aL S []) ds k.ds)/\k.new=[])(hq:q u (E.upd (bB S 0 k++am E []))):cR P (bj q) Q kk [] ix Tq t rest E none f ds:=by
 obtain⟨⟨⟨a,b,c,d,e,i,j⟩,l⟩,n⟩:=hb
 exact zx (IK h (gF a b c d e l i) n hq)
def jT{ts:List ab}(h:eZ P f ⟨[],ts.map .t,[],.junk,[],[]⟩ u)(hq:q u E):cR P (bj q) Q kk [] ix Tq t rest E none f (ts.map .t):=zx (IL h hq)
def sm(ρ:List (Nm×Nm))(k:Ct):Bool:=bw ρ&&((List.range k.rows'.length).all (fun i=>(ρ.map (·.2)).contains (.arg i))&&(List.range k.new.length).all fun j=>(ρ.map (·.2)).contains (.loc 0 j))
def oh{ρ:List (Nm×Nm)}(h:sm ρ k=true):bw ρ=true/\(∀i,i<k.rows'.length->Nm.arg i∈ρ.map (·.2))/\∀j,j<k.new.length->Nm.loc 0 j∈ρ.map (·.2):=by
 simp only[sm,ajT,ajR,List.mem_range,List.contains_iff_mem]at h
 exact⟨h.1,h.2.1,h.2.2⟩
def ug{d:DV}(ρ:List (Nm×Nm))(hb:sm ρ k=true)(h1:∀s∈ρ.map (·.2),(E.canon ρ).slots s=k.out s)(h4:bZ (E.outD ρ d) k.d):Ends k d E:=px ρ (oh hb).1 h1 (oh hb).2.1 (oh hb).2.2 h4
def kC(ρ:List (Nm×Nm))(hb:sm ρ k=true)(h1:∀s∈ρ.map (·.2),(E.canon ρ).slots s=k.out s):nO k u u E:=py ρ (oh hb).1 h1 (oh hb).2.1 (oh hb).2.2
end
abbrev aji:=ao Tryz.prog
abbrev ajj:=lq Tryz.prog
abbrev ajk:=ay Tryz.prog
abbrev ajl:=cq Tryz.prog
abbrev ajm:=eZ Tryz.prog
abbrev ajn:=jc Tryz.prog
abbrev ajo:=lp Tryz.prog
abbrev ajp:=fD Tryz.prog
def bC:Tryz.prog.follows .mixedOrders=true:=by kernel_rfl
def pu{f:FuncId}{fn:dK}{ts:List ab}{d:DV}(hx:ak Tryz.prog f fn)(hn:Nat.ble ts.length fn.nt=true)(hw:aY Tryz.prog bu (Fin fn.res (Ends (de ts d))) [.code fn.code] (ew ts)):aji f ts d:=Iv bC hx (lb hn) hw
def sn(l:Bs)(a:Int)(ha:0<=a):aji 258 [aS l,int a] (.t (aS (l.drop a.toNat))):=by
 obtain⟨a,rfl⟩:=akp ha
 refine pu JF rfl ?_
 simp[AX]
 by_cases h:l.length<a
 .simp[bt,h]
  refine eM ?_
  simp[List.drop_eq_nil_of_le (Nat.le_of_lt h)]
 .have h2:a<=l.length:=by omega
  simp[bt,h,h2]
  refine eM ?_
  have:List.take l.length (l.map aC)=l.map aC:=aju (by simp)
  simp[this]
def dW(l:Bs):Int:=l.foldl (fun n x=>bits .or .u64 (IntKind.u64.wrap (n*256)) x.toNat) 0
def Lr(l:Bs)(x:UInt8):dW (l++[x])=bits .or .u64 (IntKind.u64.wrap (dW l*256)) x.toNat:=by simp[dW]
def jj(l:Bs)(a k:Int):Int×Int:=
 if k<1\/8<k\/a<0 then(0,1)else if((l.drop a.toNat).length:Int)<k then(0,10)else(dW ((l.drop a.toNat).take k.toNat),0)
def Ls(x:UInt8):IntKind.u64.wrap (x.toNat:Int)=x.toNat:=by
 have:=x.toNat_lt
 rw[IntKind.wrap_u64];omega
def wz(l:Bs)(a k:Int):aji 219 [aS l,int a,int k] (.tup [.t (lj (jj l a k).1),.t (int (jj l a k).2)]):=by
 refine pu Jl rfl ?_
 simp[Ax]
 by_cases hk:k<1\/8<k\/a<0
 .have hgf:jj l a k=(0,1):=if_pos hk
  rw[hgf]
  all_goals try(repeat'(first|((first|refine aj ?_|refine Up (sn _ _ (by omega)) rfl ?_)<;>try simp)|((first|apply aN|apply dL)<;>intro h<;>try simp[h])))
  all_goals first|omega|(refine eM ?_;simp)
 by_cases hl:((l.drop a.toNat).length:Int)<k
 .have hgf:jj l a k=(0,10):=by simp only[jj,hk,ajS,hl,if_true]
  rw[hgf]
  simp at hl
  try simp[hl]
  all_goals try(repeat'(first|((first|refine aj ?_|refine Up (sn _ _ (by omega)) rfl ?_)<;>try simp[hl])|((first|apply aN|apply dL)<;>intro h<;>try simp[hl,h])))
  all_goals first|omega|(refine eM ?_;simp)
 have hgf:jj l a k=(dW ((l.drop a.toNat).take k.toNat),0):=by simp only[jj,hk,ajS,hl]
 rw[hgf]
 obtain⟨m,hm⟩:∃m,m=(l.drop a.toNat).take k.toNat:=⟨_,rfl⟩
 have Z1:m.length=k.toNat:=by rw[hm,ajA];omega
 have Tj:List.take k.toNat (List.map aC (List.drop a.toNat l))=m.map aC:=by rw[hm,List.map_take]
 have hc:0<=k/\k<=((l.length-a.toNat:Nat):Int):=by simp at hl;omega
 have hks:(k.toNat:Int)=k:=by omega
 rw[<-hm]
 simp only[List.map_drop]at Tj
 simp at hl
 try simp[hl,bt,hc.1,hc.2,Tj,Z1]
 all_goals try(repeat'(first|((first|refine aj ?_|refine Up (sn _ _ (by omega)) rfl ?_)<;>try simp[hl,bt,hc.1,hc.2,Tj,Z1])|((first|apply aN|apply dL)<;>intro h<;>try simp[hl,bt,hc.1,hc.2,Tj,Z1,h])))
 all_goals try omega
 refine ba (fun E=>∃(i:Nat),i<=m.length/\E.tmps 33= .t (int i)/\E.tmps 32= .t (int m.length)/\E.tmps 31= .t (aS m)/\E.tmps 9= .t (lj (dW (m.take i)))) (fun E=>match E.tmps 33 with| .t (.v (.int _ i))=>m.length-i.toNat|_=>0) [] rfl ?_ ?_
 .refine⟨0,by omega,?_,?_,?_,?_⟩<;>simp[Tj,Z1,hks]
  .omega
  .rfl
 rintro E1 ⟨i,hi,Xo,XT,e31,e9⟩ hU hS A hA
 simp[Aw,Xo,XT,e31,e9]
 refine aN (fun h=>?_) (fun h=>?_)
 .have hx:=ajq h
  have hs:i+1<9223372036854775808:=by omega
  simp[Xo,XT,e31,e9,h]
  try simp[Xo,XT,e31,e9,h]
  all_goals try(repeat'(first|(simp(disch:=omega) only[wr]<;>try simp[Xo,XT,e31,e9,h])))
  refine hA _ (aH [] rfl rfl ⟨i+1,by omega,?_,?_,?_,?_⟩ ?_)
  .simp
  .simp[XT]
  .simp[e31]
  .rw[fO hx,Lr]
   simp[Ls,IntKind.bits]
  .simp[Xo]
   omega
 .simp[Xo,XT,e31,e9,h]
  refine eM ?_
  have:m.take i=m:=aju (by omega)
  simp[this]
def fg(a:Int):Nat->Int->Bs->Int×Int×Int
 |_,_,[]=>(0,0,10)
 |i,z,x::l=>
  if i=9/\1<(x.toNat:Int)then(0,0,11)
  else if 0<i/\(x.toNat:Int)=0 then(0,0,11)
  else
   let z':=bits .or .u64 z (IntKind.u64.wrap (bits .and .u8 x.toNat 127*2^(min (7*i) 64)))
   if(x.toNat:Int)<128 then(bits .xor .i64 (IntKind.i64.wrap (z'.fdiv 2)) (IntKind.i64.wrap (-(IntKind.i64.wrap (bits .and .u64 z' 1)))),a+i+1,0)
   else fg a (i+1) z' l
def cz(l:Bs)(a:Int):Int×Int×Int:=if a<0 then(0,0,1)else fg a 0 0 (l.drop a.toNat)
def wA(l:Bs)(a:Int)(hl:l.length<=1000000000)(ha:a<=1000000000):aji 317 [aS l,int a] (.tup [.t (int (cz l a).1),.t (int (cz l a).2.1),.t (int (cz l a).2.2)]):=by
 refine pu JQ rfl ?_
 simp[Bd]
 repeat'(first|simp[*]|refine Up (sn _ _ (by simp at h;omega)) rfl ?_|(apply aN<;>intro h))
 .refine eM ?_
  simp[cz,h]
 have hg:cz l a=fg a 0 0 (l.drop a.toNat):=if_neg h
 rw[hg]
 obtain⟨m,hm⟩:∃m,m=l.drop a.toNat:=⟨_,rfl⟩
 have Z1:m.length=l.length-a.toNat:=by rw[hm,aj9]
 have Tj:List.drop a.toNat (List.map aC l)=m.map aC:=by rw[hm,List.map_drop]
 rw[<-hm]
 refine ba (fun E=>∃(i:Nat) (z:Int),i<=m.length/\i<=9/\E.tmps 16= .t (int i)/\E.tmps 15= .t (int m.length)/\E.tmps 14= .t (aS m)/\E.tmps 7= .t (lj z)/\E.tmps 1= .t (int a)/\fg a 0 0 m=fg a i z (m.drop i)) (fun E=>match E.tmps 16 with| .t (.v (.int _ i))=>m.length-i.toNat|_=>0) [] rfl ?_ ?_
 .refine⟨0,0,by omega,by omega,?_,?_,?_,?_,?_,?_⟩<;>simp[Tj,Z1]
 rintro E1 ⟨i,z,hi,YS,Wg,YX,YY,e7,e1,Yx⟩ hU hS A hA
 rw[Yx]
 simp[Bc,Wg,YX,YY,e7,e1]
 refine aN (fun h=>?_) (fun h=>?_)
 .have hx:=ajq h
  have hd:m.drop i=m[i]::m.drop (i+1):=aku h
  obtain⟨x,Tm⟩:∃x,m[i]=x:=⟨_,rfl⟩
  rw[Tm]at hx hd
  have hb:=x.toNat_lt
  have hwx:IntKind.u64.wrap (bits .and .u8 (x.toNat:Int) 127)=bits .and .u8 (x.toNat:Int) 127:=by
   rw[u8_and127 (x.toNat:Int) (by omega) (by omega),IntKind.wrap_u64];omega
  rw[hd]
  have hlt:=h
  have hge:0<=7*(i:Int):=by omega
  have ht7:(7*(i:Int)).toNat=7*i:=by omega
  simp[Wg,YX,YY,e7,e1,hlt,Tm]
  repeat'(first|simp[*]|apply aj|simp(disch:=omega) only[wr]|((first|apply aN|apply dL)<;>intro h))
  all_goals first
   |(exfalso;omega)
   |(refine eM ?_;rw[fg];(repeat' split)<;>first|(exfalso;omega)|(simp;done))
   |(obtain rfl:i=9:=by omega
     refine eM ?_;rw[fg];(repeat' split)<;>first|(exfalso;omega)|(simp;done))
   |(refine hA _ (aH [] rfl rfl ⟨i+1,bits .or .u64 z (IntKind.u64.wrap (bits .and .u8 x.toNat 127*2^(min (7*i) 64))),by omega,by omega,?_,?_,?_,?_,?_,?_⟩ ?_)
     .simp
     .simp[YX]
     .simp[YY]
     .simp
     .simp[e1]
     .rw[Yx,hd,fg];(repeat' split)<;>first|rfl|(exfalso;omega)
     .simp[Wg];omega)
   |skip
 .simp[Wg,YX,YY,e7,e1,h]
  refine eM ?_
  have:m.drop i=[]:=List.drop_eq_nil_of_le (by omega)
  simp[this,fg]
def lI(l:Bs)(hl:l.length<=LIM):ajl 95 [aS l] (.osl (.loc 0 0) l.length) 5 1 (l.map aC):=by
 have:=nQ (P:=Tryz.prog) (f:=95) bC B2 (t:=59) (e:=5) (m:=1) (m':=1) rfl rfl (aj6 rfl) (by kernel_rfl) (by decide) (l:=l.map aC) (by simpa using hl)
 simpa using this
def Dj:ajl 95 [.e0] (.osl (.loc 0 0) 0) 5 1 []:=
 ID (P:=Tryz.prog) (f:=95) bC B2 (t:=59) (e:=5) (m:=1) (m':=1) rfl rfl (aj6 rfl) (by kernel_rfl) (by decide)
def iO:Nat->Nat->Bs
 |0,z=>[UInt8.ofNat z]
 |n+1,z=>if z<128 then[UInt8.ofNat z]else UInt8.ofNat (128+z%128)::iO n (z/128)
def zig(n:Int):Nat:=(bits .xor .u64 (IntKind.u64.wrap (IntKind.u64.wrap n*2)) (IntKind.u64.wrap (n.fdiv 9223372036854775808))).toNat
def bK(n:Int):Bs:=iO 10 (zig n)
def u8_or128(z:Nat):bits .or .u8 (IntKind.u8.wrap (z:Int)) 128=((UInt8.ofNat (128+z%128)).toNat:Int):=by
 rw[IntKind.wrap_u8,u8_or128_any _ (by omega) (by omega),UInt8.toNat_ofNat']
 omega
def Lt(n:Int):zig n<18446744073709551616:=by
 have:=zD .xor (IntKind.u64.wrap (IntKind.u64.wrap n*2)) (IntKind.u64.wrap (n.fdiv 9223372036854775808))
 unfold zig
 omega
def Lu(n:Int):bits .xor .u64 (IntKind.u64.wrap (IntKind.u64.wrap n*2)) (IntKind.u64.wrap (n.fdiv 9223372036854775808))=(zig n:Int):=by
 have:=zD .xor (IntKind.u64.wrap (IntKind.u64.wrap n*2)) (IntKind.u64.wrap (n.fdiv 9223372036854775808))
 unfold zig
 omega
def Lv(z:Nat)(h:z<128):IntKind.u8.wrap (z:Int)=((UInt8.ofNat z).toNat:Int):=by
 rw[IntKind.wrap_u8,UInt8.toNat_ofNat']
 omega
def Dk:∀n z,(iO n z).length<=n+1
 |0,z=>by simp[iO]
 |n+1,z=>by
  have:=Dk n (z/128)
  unfold iO
  split<;>simp<;>omega
def gj(n:Int):(bK n).length<=11:=Dk _ _
theorem Dl(t0:ab)(l:Bs)(n:Int)(hl:l.length<=1000000)(hc:ajl 95 [t0] (.osl (.loc 0 0) l.length) 5 1 (l.map aC)):ajl 247 [t0,int n] (.osl (.loc 0 0) (l++bK n).length) 5 1 ((l++bK n).map aC):=by
 refine iN Jz rfl ?_
 have hz:=Lt n
 have Wy:=gj n
 obtain⟨R,hR⟩:∃R,R=l++bK n:=⟨_,rfl⟩
 rw[<-hR]
 have TG:R.length=l.length+(bK n).length:=by rw[hR];simp
 simp[AL]
 refine ru (ts:=[t0]) (F:=[]) hc (by simp) (by simp) ?_
 simp[Lu]
 refine ba (fun E=>∃(fu z:Nat) (q:Bs),z<128^(fu+1)/\q++iO fu z=R/\q.length<=l.length+10/\E.tmps 5= .t (lj z)/\E.tmps 6= .osl (.head 1 0) q.length/\E.slots (.head 1 0)=some (.rows 5 1 (q.map aC) false)) (fun E=>match E.tmps 5 with| .t (.v (.int _ i))=>i.toNat|_=>0) [(.loc 15 0,.head 1 0)] rfl ?_ ?_
 .refine⟨10,zig n,l,ajY hz (by decide),hR.symm,by omega,?_,?_,?_⟩<;>simp
 rintro E1 ⟨fu,z,q,hz,hq,hql,e5,e6,es⟩ hU hS A hA
 have hqq:q.length+(iO fu z).length=l.length+(bK n).length:=by
  have:=congrArg List.length hq
  rw[TG]at this
  simpa using this
 have TD:List.take q.length (q.map aC)=q.map aC:=aju (by simp)
 have hlim:q.length<=99999999:=by omega
 simp[AK,e5,e6]
 refine aN (fun h=>?_) (fun h=>?_)
 .have hge:128<=z:=by omega
  obtain⟨fu,rfl⟩:∃f',fu=f'+1:=⟨fu-1,by
   cases fu with
   |zero=>simp at hz;omega
   |succ f=>rfl⟩
  rw[iO,if_neg (by omega)]at hq hqq
  simp[e5,e6,es,hU,az,ax,aB,aa.more,LIM,u8_or128,hlim,TD]
  refine hA _ (aH [(.loc 25 0,.head 1 0)] rfl rfl ⟨fu,z/128,q++[UInt8.ofNat (128+z%128)],?_,?_,?_,?_,?_,?_⟩ ?_)
  .rw[Nat.pow_succ]at hz
   omega
  .rw[<-hq];simp
  .simp at hqq⊢
   have:1<=(iO fu (z/128)).length:=by cases fu<;>simp[iO]<;>split<;>simp
   omega
  .simp[jM]
  .simp
  .simp
  .simp[e5,jM]
   omega
 .have hlt:z<128:=by omega
  have Zp:iO fu z=[UInt8.ofNat z]:=by cases fu<;>simp[iO,hlt]
  rw[Zp]at hq
  simp[e5,e6,es,hU,az,ax,aB,aa.more,LIM,Lv z hlt,hlim,TD]
  subst hq
  refine gE (.loc 30 0) rfl ?_ ?_
  .simp
  .simp
def pP(l:Bs)(n:Int)(hl:l.length<=1000000):ajl 247 [aS l,int n] (.osl (.loc 0 0) (l++bK n).length) 5 1 ((l++bK n).map aC):=
 Dl _ l n hl (lI l (by simp only[LIM];omega))
def Dm(n:Int):ajl 247 [.e0,int n] (.osl (.loc 0 0) (bK n).length) 5 1 ((bK n).map aC):=
 Dl _ [] n (by simp) Dj
def cg(n:Nat):Bs:=[UInt8.ofNat (n/16777216),UInt8.ofNat (n/65536),UInt8.ofNat (n/256),UInt8.ofNat n]
def Do(t0:ab)(l:Bs)(n:Nat)(hl:l.length<=1000000)(hc:ajl 95 [t0] (.osl (.loc 0 0) l.length) 5 1 (l.map aC)):ajl 130 [t0,lj n,int 4] (.osl (.loc 0 0) (l++cg n).length) 5 1 ((l++cg n).map aC):=by
 refine iN KR rfl ?_
 obtain⟨R,hR⟩:∃R,R=l++cg n:=⟨_,rfl⟩
 rw[<-hR]
 simp[CC]
 refine ru (ts:=[t0]) (F:=[]) hc (by simp) (by simp) ?_
 simp
 all_goals try(repeat'(first|(refine aj ?_<;>try simp)))
 refine ba (fun E=>∃(i:Nat) (q:Bs),i<=4/\q=l++(cg n).take i/\E.tmps 8= .t (int (24-8*i))/\E.tmps 7= .osl (.head 1 0) q.length/\E.slots (.head 1 0)=some (.rows 5 1 (q.map aC) false)/\E.tmps 1= .t (lj n)) (fun E=>match E.tmps 8 with| .t (.v (.int _ i))=>(i+8).toNat|_=>0) [(.loc 10 0,.head 1 0)] rfl ?_ ?_
 .refine⟨0,l,by omega,by simp,?_,?_,?_,?_⟩<;>simp
 rintro E1 ⟨i,q,hi,hq,e8,e7,es,e1⟩ hU hS A hA
 have hql:q.length<=l.length+4:=by rw[hq];simp[cg];omega
 have TD:List.take q.length (q.map aC)=q.map aC:=aju (by simp)
 have hlim:q.length<=99999999:=by omega
 simp[CB,e8,e7]
 have UQ:i=0\/i=1\/i=2\/i=3\/i=4:=by omega
 rcases UQ with rfl|rfl|rfl|rfl|rfl
 all_goals simp[e8,e7,es,e1,hU,az,ax,aB,aa.more,LIM,hlim,TD,jM]
 .skip
  try simp[e8,e7,es,e1,hU,az,ax,aB,aa.more,LIM,hlim,TD,jM]
  skip
  refine hA _ (aH [(.loc 31 0,.head 1 0)] rfl rfl ⟨1,l++(cg n).take 1,by omega,rfl,?_,?_,?_,?_⟩ ?_)
  .simp
  .rw[hq];simp[cg]
  .rw[hq];simp[cg,IntKind.wrap_u8]
  .simp[e1]
  .simp[e8]
 .skip
  try simp[e8,e7,es,e1,hU,az,ax,aB,aa.more,LIM,hlim,TD,jM]
  skip
  refine hA _ (aH [(.loc 31 0,.head 1 0)] rfl rfl ⟨2,l++(cg n).take 2,by omega,rfl,?_,?_,?_,?_⟩ ?_)
  .simp
  .rw[hq];simp[cg]
  .rw[hq];simp[cg,IntKind.wrap_u8]
  .simp[e1]
  .simp[e8]
 .skip
  try simp[e8,e7,es,e1,hU,az,ax,aB,aa.more,LIM,hlim,TD,jM]
  skip
  refine hA _ (aH [(.loc 31 0,.head 1 0)] rfl rfl ⟨3,l++(cg n).take 3,by omega,rfl,?_,?_,?_,?_⟩ ?_)
  .simp
  .rw[hq];simp[cg]
  .rw[hq];simp[cg,IntKind.wrap_u8]
  .simp[e1]
  .simp[e8]
 .skip
  try simp[e8,e7,es,e1,hU,az,ax,aB,aa.more,LIM,hlim,TD,jM]
  skip
  refine hA _ (aH [(.loc 31 0,.head 1 0)] rfl rfl ⟨4,l++(cg n).take 4,by omega,rfl,?_,?_,?_,?_⟩ ?_)
  .simp
  .rw[hq];simp[cg]
  .rw[hq];simp[cg,IntKind.wrap_u8]
  .simp[e1]
  .simp[e8]
 .have hqR:q=R:=by rw[hq,hR];rfl
  subst hqR
  refine gE (.head 1 0) rfl ?_ ?_
  .simp[es]
  .simp[es]
def Lw(l:Bs)(n:Nat)(hl:l.length<=1000000):ajl 130 [aS l,lj n,int 4] (.osl (.loc 0 0) (l++cg n).length) 5 1 ((l++cg n).map aC):=
 Do _ l n hl (lI l (by simp only[LIM];omega))
def Lx(n:Nat):ajl 130 [.e0,lj n,int 4] (.osl (.loc 0 0) (cg n).length) 5 1 ((cg n).map aC):=
 Do _ [] n (by simp) Dj
def Dp(l:Bs)(s:ByteArray)(hl:l.length<=900000)(hs:s.size<=10000):ajl 290 [aS l,str s] (.osl (.loc 0 0) (l++bK s.size++s.data.toList).length) 5 1 ((l++bK s.size++s.data.toList).map aC):=by
 refine iN JM rfl ?_
 obtain⟨q,hq⟩:∃q,q=l++bK s.size:=⟨_,rfl⟩
 rw[<-hq]
 have Wy:=gj s.size
 have hql:q.length<=1000000:=by rw[hq];simp;omega
 have TD:List.take q.length (q.map aC)=q.map aC:=aju (by simp)
 have hlim:q.length+s.size<=100000000:=by omega
 have hsz:s.data.size=s.size:=rfl
 simp[A7]
 refine ru (ts:=[aS l,int s.size]) (F:=[]) (pP l s.size (by omega)) (by simp) (by simp) ?_
 rw[<-hq]
 simp[aB,aa.more,LIM,hlim,TD,hsz]
 refine gE (.loc 10 0) rfl ?_ ?_
 .simp
 .simp
def fh(n:Int):Bool:=decide (0<=n)&&decide (n<=1099511627776)
def pQ(n:Int):aji 289 [int n] (tt (fh n)):=by
 refine pu JL rfl ?_
 simp[A6]
 repeat'(first|simp[*]|apply aj|(apply aN<;>intro h))
 all_goals(refine au ?_;simp[fh, *])
structure fj where
 off:Int
 key:ByteArray
 val:ByteArray
 dead:Bool
 stamp:Int
abbrev recT(r:fj):ab:= .agg [int r.off,str r.key,str r.val,bo r.dead,int r.stamp]
def dN(r:fj):Int:=
 if fh r.off=false then 1 else if fh r.stamp=false then 1 else if 64<r.key.size\/64<r.val.size then 1
 else if r.dead=true/\(r.key.toList=[]\/¬r.val.toList=[])then 1 else 0
def sq(r:fj):aji 246 [recT r] (.t (int (dN r))):=by
 refine pu Jy rfl ?_
 simp[AJ,AI]
 repeat'(first|simp[*]|apply aj|refine Up (pQ _) rfl ?_|((first|apply aN|apply uY|apply kq)<;>intro h))
 all_goals first|(refine au ?_<;>simp[*,dN];done)|(refine au ?_<;>simp_all[dN];done)|(refine au ?_<;>simp_all[dN]<;>omega)
def Ly(n d:Int)(hn:fh n=true):aji 335 [int n,int d] (.t (int (if d< -1099511627776\/1099511627776<d then-1 else n+d))):=by
 have hn':0<=n/\n<=1099511627776:=by simpa[fh]using hn
 refine pu JT rfl ?_
 simp[Bh]
 repeat'(first|simp[*]|apply aj|simp(disch:=omega) only[wr]|((first|apply aN|apply dL)<;>intro h))
 all_goals(refine au ?_;simp[*])
 all_goals omega
def mW(l:Bs)(a:Int):Bool×Int×Int:=match l[a.toNat]? with
 |none=>(false,0,10)
 |some x=>if 1<(x.toNat:Int)then(false,0,11)else(decide ((x.toNat:Int)=1),a+1,0)
def Lz(l:Bs)(a:Int)(ha:0<=a)(hl:l.length<=1000000000):aji 338 [aS l,int a] (.tup [.t (bo (mW l a).1),.t (int (mW l a).2.1),.t (int (mW l a).2.2)]):=by
 obtain⟨a,rfl⟩:=akp ha
 refine pu JW rfl ?_
 simp[Bk]
 by_cases h:a<l.length
 .have hx:=ajq h
  obtain⟨x,Tm⟩:∃x,l[a]=x:=⟨_,rfl⟩
  rw[Tm]at hx
  have hnl:¬l.length<=a:=by omega
  repeat'(first|simp[*]|simp(disch:=omega) only[wr]|(apply aN<;>intro h))
  all_goals(refine jN ?_ ?_ ?_<;>simp[*,mW];done)
 .have hx:l[a]?=none:=aj2 (by omega)
  have hnl:l.length<=a:=by omega
  repeat' simp[*]
  all_goals(refine jN ?_ ?_ ?_<;>simp[*,mW];done)
def jk(l:Bs)(a m:Int):ByteArray×Int×Int:=
 if¬(cz l a).2.2=0 then(es,0,(cz l a).2.2)
 else if(cz l a).1<0 then(es,0,11)
 else if m<(cz l a).1 then(es,0,2)
 else if(l.length:Int)-(cz l a).2.1<(cz l a).1 then(es,0,10)
 else(⟨((l.drop (cz l a).2.1.toNat).take (cz l a).1.toNat).toArray⟩,(cz l a).2.1+(cz l a).1,0)
def Dq(a:Int):∀(l:Bs) (i:Nat) (z:Int),(fg a i z l).2.2=0->a+i<(fg a i z l).2.1/\(fg a i z l).2.1<=a+i+l.length
 |[],i,z,h=>by simp[fg]at h
 |x::l,i,z,h=>by
  revert h
  unfold fg
  split
  .intro h;simp at h
  split
  .intro h;simp at h
  simp only
  split
  .intro h
   simp
   omega
  .intro h
   have:=Dq a l (i+1) _ h
   simp at this⊢
   omega
def LA{l:Bs}{a:Int}(h:(cz l a).2.2=0):0<=a/\a<(cz l a).2.1/\(cz l a).2.1<=l.length:=by
 unfold cz at h⊢
 by_cases ha:a<0
 .simp[ha]at h
 .rw[if_neg ha]at h⊢
  have:=Dq a _ 0 0 h
  simp at this
  by_cases hl:a.toNat<=l.length
  .omega
  .have hd:l.drop a.toNat=[]:=List.drop_eq_nil_of_le (by omega)
   rw[hd]at h
   simp[fg]at h
theorem Dr(a:Int):∀(l:Bs) (i:Nat) (z:Int),¬(fg a i z l).2.2=0->(fg a i z l).2.1=0
 |[],i,z,_=>rfl
 |x::l,i,z,h=>by
  revert h
  unfold fg
  split
  .intro _;rfl
  split
  .intro _;rfl
  simp only
  split
  .intro h;simp at h
  .exact Dr a l (i+1) _
def sv(l:Bs)(a:Int):0<=(cz l a).2.1/\(cz l a).2.1<=l.length:=by
 by_cases h:(cz l a).2.2=0
 .have:=LA h;omega
 .have:(cz l a).2.1=0:=by
   unfold cz at h⊢
   split
   .rfl
   .rename_i h2
    rw[if_neg h2]at h
    exact Dr _ _ _ _ h
  omega
def Ds(l:Bs):l.mapM (ab.byte?∘aC)=some l:=by
 have:=zE l
 rwa[List.mapM_map]at this
def LB(l:Bs)(a m:Int)(hl:l.length<=1000000000)(ha:a<=1000000000)(hm:m<=1000000):aji 334 [aS l,int a,int m] (.tup [.t (str (jk l a m).1),.t (int (jk l a m).2.1),.t (int (jk l a m).2.2)]):=by
 have Zv:=@LA l a
 have Yu:=sv l a
 have hgt:jk l a m=jk l a m:=rfl
 unfold jk at hgt⊢
 have T5:=wA l a hl ha
 generalize cz l a=g at*
 obtain⟨n,nx,e⟩:=g
 simp only at*
 refine pu JS rfl ?_
 simp[Bg]
 repeat'(first|simp[*]|refine Up T5 rfl ?_|simp(disch:=omega) only[wr]|((first|apply aN|apply dL)<;>intro h))
 .refine jN ?_ ?_ ?_<;>first|(simp[*];done)|(simp_all;done)|(simp_all;omega)
 .refine jN ?_ ?_ ?_<;>first|(simp[*];done)|(simp_all;done)|(simp_all;omega)
 .refine jN ?_ ?_ ?_<;>first|(simp[*];done)|(simp_all;done)|(simp_all;omega)
 .refine jN ?_ ?_ ?_<;>first|(simp[*];done)|(simp_all;done)|(simp_all;omega)
 .rename_i h1 h2 h3
  have hn:=Zv h1
  have hw:IntKind.i64.wrap (nx+n)=nx+n:=bx (by omega) (by omega)
  have c1:0<=nx:=by omega
  have c2:0<=n:=by omega
  have c3:nx+n<=l.length:=by omega
  have c4:(nx+n).toNat-nx.toNat=n.toNat:=by omega
  have c5:nx<=nx+n:=by omega
  simp[*,bt,c1,c2,oN,aa.more,ab.one,<-List.map_take,<-List.map_drop,Ds,List.drop_take]
  refine jN ?_ ?_ ?_<;>simp_all
abbrev LC(l:Bs)(s:Int×Int):DV:= .agg [.t (aS l),.t (int s.1),.t (int s.2)]
abbrev oi(l:Bs)(s:Int×Int):Row:= .box 356 (LC l s) false
def LE(l:Bs)(a:Int)(hl:l.length<=1000000000)(ha:a<=1000000000):aji 333 [aS l,int a] (.tup [.t (str (jk l a 64).1),.t (int (jk l a 64).2.1),.t (int (jk l a 64).2.2)]):=by
 refine pu JR rfl ?_
 simp[Bf]
 repeat'(first|simp[*]|refine Up (LB l a 64 hl ha (by omega)) rfl ?_)
 refine jN rfl rfl rfl
def jU(l:Bs)(s:Int×Int):Int×(Int×Int):=if s.2=0 then cz l s.1 else(0,s)
def lJ(l:Bs)(s:Int×Int):Bool×(Int×Int):=if s.2=0 then mW l s.1 else(false,s)
def jV(l:Bs)(s:Int×Int):ByteArray×(Int×Int):=if s.2=0 then jk l s.1 64 else(es,s)
def jW(l:Bs)(s:Int×Int):Prop:=0<=s.1/\s.1<=l.length
def Dt{l:Bs}{s:Int×Int}(h:jW l s):jW l (jU l s).2:=by
 unfold jU
 split
 .exact sv l s.1
 .exact h
def LF{l:Bs}{s:Int×Int}(h:jW l s):jW l (lJ l s).2:=by
 unfold lJ
 split
 .unfold mW
  split
  .exact⟨by simp,by simp⟩
  .rename_i x hx
   have:=(ajs.1 hx).1
   have:=h.1
   split
   .exact⟨by simp,by simp⟩
   .refine⟨?_,?_⟩<;>simp<;>omega
 .exact h
def LG{l:Bs}{s:Int×Int}(h:jW l s):jW l (jV l s).2:=by
 unfold jV
 split
 .have:=sv l s.1
  unfold jk
  (repeat' split)<;>(refine⟨?_,?_⟩<;>simp<;>omega)
 .exact h
def Du(l:Bs)(s:Int×Int)(hl:l.length<=1000000000)(hs:jW l s):ajo 336 [.ptr (.arg 0) 0 0,.fn 317 []] (oi l s) (.t (int (jU l s).1)) (oi l (jU l s).2):=by
 refine se JU rfl ?_
 have h0:=hs.1
 have ha:s.1<=1000000000:=by have:=hs.2;omega
 have T5:=wA l s.1 hl ha
 simp[Bi,ef]
 by_cases he:s.2=0
 .simp only[jU,he,if_true]
  simp[ef,he]
  repeat'(first|simp[*,ef]|refine Up T5 rfl ?_)
  refine mF (by simp) (fun _=>rfl) ?_
  simp
 .simp only[jU,he,ajS]
  simp[ef,he]
  refine mF (by simp) (fun _=>rfl) ?_
  simp
def LH(l:Bs)(s:Int×Int)(hl:l.length<=1000000000)(hs:jW l s):ajo 337 [.ptr (.arg 0) 0 0,.fn 338 []] (oi l s) (.t (bo (lJ l s).1)) (oi l (lJ l s).2):=by
 refine se JV rfl ?_
 have h0:=hs.1
 have ha:s.1<=1000000000:=by have:=hs.2;omega
 have T5:=Lz l s.1 h0 hl
 simp[Bj,ef]
 by_cases he:s.2=0
 .simp only[lJ,he,if_true]
  simp[ef,he]
  repeat'(first|simp[*,ef]|refine Up T5 rfl ?_)
  refine mF (by simp) (fun _=>rfl) ?_
  simp
 .simp only[lJ,he,ajS]
  simp[ef,he]
  refine mF (by simp) (fun _=>rfl) ?_
  simp
def Dv(l:Bs)(s:Int×Int)(hl:l.length<=1000000000)(hs:jW l s):ajo 339 [.ptr (.arg 0) 0 0,.fn 333 []] (oi l s) (.t (str (jV l s).1)) (oi l (jV l s).2):=by
 refine se JX rfl ?_
 have h0:=hs.1
 have ha:s.1<=1000000000:=by have:=hs.2;omega
 have T5:=LE l s.1 hl ha
 simp[Bl,ef]
 by_cases he:s.2=0
 .simp only[jV,he,if_true]
  simp[ef,he]
  repeat'(first|simp[*,ef]|refine Up T5 rfl ?_)
  refine mF (by simp) (fun _=>rfl) ?_
  simp
 .simp only[jV,he,ajS]
  simp[ef,he]
  refine mF (by simp) (fun _=>rfl) ?_
  simp
def pR(n d:Int):Int:=if d< -1099511627776\/1099511627776<d then-1 else n+d
def lK:fj:=⟨0,es,es,false,0⟩
def wB(l:Bs)(a base stamp:Int):fj×(Int×Int):=
 let p1:=jU l (a,0)
 let p2:=jU l p1.2
 let p3:=lJ l p2.2
 let p4:=jV l p3.2
 let p5:=jV l p4.2
 (⟨pR base p1.1,p4.1,p5.1,p3.1,pR stamp p2.1⟩,p5.2)
def sw(q:fj×(Int×Int)):fj×Int×Int:=
 if(if q.2.2=0 then dN q.1 else q.2.2)=0 then(q.1,q.2.1,0)else(lK,0,if q.2.2=0 then dN q.1 else q.2.2)
def jl(l:Bs)(a base stamp:Int):fj×Int×Int:=
 if fh base=false then(lK,0,1)else if fh stamp=false then(lK,0,1)else if a<0 then(lK,0,1)else if(l.length:Int)<a then(lK,0,1)
 else sw (wB l a base stamp)
def Dx(n d:Int)(hn:fh n=true):aji 335 [int n,int d] (.t (int (pR n d))):=Ly n d hn
def LI(l:Bs)(a base stamp:Int)(hl:l.length<=1000000000):aji 318 [aS l,int a,int base,int stamp] (.tup [.t (recT (jl l a base stamp).1),.t (int (jl l a base stamp).2.1),.t (int (jl l a base stamp).2.2)]):=by
 by_cases iQ:fh base=true/\fh stamp=true/\0<=a/\a<=l.length
 .obtain⟨hb,TT,h0,h1⟩:=iQ
  have WJ:¬a<0:=by omega
  have WZ:¬(l.length:Int)<a:=by omega
  have q0:jW l (a,0):=⟨by simpa using h0,by simpa using h1⟩
  have hv:jl l a base stamp=sw (wB l a base stamp):=by
   simp only[jl,hb,TT,WJ,WZ,ajS,Bool.true_eq_false]
  rw[hv]
  clear hv
  simp only[wB]
  have q1:=Dt q0
  have c1:=Du l (a,0) hl q0
  generalize jU l (a,0)=p1 at*
  have q2:=Dt q1
  have c2:=Du l p1.2 hl q1
  generalize jU l p1.2=p2 at*
  have q3:=LF q2
  have c3:=LH l p2.2 hl q2
  generalize lJ l p2.2=p3 at*
  have q4:=LG q3
  have c4:=Dv l p3.2 hl q3
  generalize jV l p3.2=p4 at*
  have c5:=Dv l p4.2 hl q4
  generalize jV l p4.2=p5 at*
  refine pu Be rfl ?_
  simp[vy,vx]
  try simp[hb,TT,WJ,WZ]
  all_goals try(repeat'(first|((first|refine aj ?_|refine Up (pQ _) rfl ?_|(refine UW (s:= .loc 35 0) c1 (fun _=>⟨rfl,rfl,rfl⟩) ?_ ?_;(· simp[hb,TT,WJ,WZ]))|(refine UW (s:= .loc 35 0) c2 (fun _=>⟨rfl,rfl,rfl⟩) ?_ ?_;(· simp[hb,TT,WJ,WZ]))|(refine UW (s:= .loc 35 0) c3 (fun _=>⟨rfl,rfl,rfl⟩) ?_ ?_;(· simp[hb,TT,WJ,WZ]))|(refine UW (s:= .loc 35 0) c4 (fun _=>⟨rfl,rfl,rfl⟩) ?_ ?_;(· simp[hb,TT,WJ,WZ]))|(refine UW (s:= .loc 35 0) c5 (fun _=>⟨rfl,rfl,rfl⟩) ?_ ?_;(· simp[hb,TT,WJ,WZ]))|refine Up (Dx base _ hb) rfl ?_|refine Up (Dx stamp _ TT) rfl ?_|(refine UV (F:=[]) (sq ⟨pR base p1.1,p4.1,p5.1,p3.1,pR stamp p2.1⟩) rfl ?_ ?_;(· simp[hb,TT,WJ,WZ])))<;>try simp[hb,TT,WJ,WZ])|((first|apply aN|apply dL)<;>intro h<;>try simp[hb,TT,WJ,WZ,h])))
  all_goals first|(refine jN ?_ ?_ ?_<;>simp[*,sw,lK];done)|(refine eM ?_;simp[*,sw,lK];done)
 .refine pu Be rfl ?_
  simp[vy,vx]
  all_goals try(repeat'(first|((first|refine aj ?_|refine Up (pQ _) rfl ?_)<;>try simp)|((first|apply aN|apply dL|apply kq)<;>intro h<;>try simp[h])))
  all_goals first|(exfalso;simp_all;done)|(refine jN ?_ ?_ ?_<;>simp[*,jl,lK];done)
@[simp] def Te{α β:Type}(f:α->β)(l:List α):List.take l.length (l.map f)=l.map f:=aju (by simp)
def sA(b:Bool):UInt8:=if b then 1 else 0
def sB(s:ByteArray):Bs:=bK s.size++s.data.toList
def gM(r:fj)(base stamp:Int):Bs:=bK (r.off-base)++bK (r.stamp-stamp)++[sA r.dead]++sB r.key++sB r.val
def ol{n:Int}:fh n=true↔0<=n/\n<=1099511627776:=by simp[fh]
def sC{r:fj}(h:dN r=0):fh r.off=true/\fh r.stamp=true/\r.key.size<=64/\r.val.size<=64:=by
 unfold dN at h
 (repeat' split at h)<;>simp_all<;>omega
def LJ(r:fj)(base stamp:Int)(hr:dN r=0)(hb:fh base=true)(hs:fh stamp=true):ajl 248 [recT r,int base,int stamp] (.tup [.osl (.loc 0 0) (gM r base stamp).length,.t (int 0)]) 5 1 ((gM r base stamp).map aC):=by
 obtain⟨o1,o2,o3,o4⟩:=sC hr
 have n1:=ol.1 o1
 have n2:=ol.1 o2
 have n3:=ol.1 hb
 have n4:=ol.1 hs
 refine iN JA rfl ?_
 have c1:=Dm (r.off-base)
 have l1:=gj (r.off-base)
 obtain⟨q1,Yr⟩:∃q,q=bK (r.off-base):=⟨_,rfl⟩
 rw[<-Yr]at c1 l1
 have c2:=pP q1 (r.stamp-stamp) (by omega)
 have l2:=gj (r.stamp-stamp)
 obtain⟨q2,Wk⟩:∃q,q=q1++bK (r.stamp-stamp):=⟨_,rfl⟩
 rw[<-Wk]at c2
 have l2:q2.length<=22:=by rw[Wk,ajB];omega
 obtain⟨q3,Zn⟩:∃q,q=q2++[sA r.dead]:=⟨_,rfl⟩
 have l3:q3.length<=23:=by rw[Zn,ajB];simp;omega
 have c4:=Dp q3 r.key (by omega) (by omega)
 have l4:=gj r.key.size
 obtain⟨q4,hq4⟩:∃q,q=q3++bK r.key.size++r.key.data.toList:=⟨_,rfl⟩
 rw[<-hq4]at c4
 have hk:r.key.data.toList.length=r.key.size:=by simp
 have l4:q4.length<=98:=by rw[hq4,ajB,ajB];omega
 have c5:=Dp q4 r.val (by omega) (by omega)
 obtain⟨q5,hq5⟩:∃q,q=q4++bK r.val.size++r.val.data.toList:=⟨_,rfl⟩
 rw[<-hq5]at c5
 have hq:gM r base stamp=q5:=by
  rw[hq5,hq4,Zn,Wk,Yr]
  simp[gM,sB]
 rw[hq]
 have WA:q2.length+1=q3.length:=by rw[Zn];simp
 have b0:aC 0= .v (.int .u8 0):=rfl
 have b1:aC 1= .v (.int .u8 1):=rfl
 simp[AN,AM]
 cases hd:r.dead with
 |false=>
  have e3:q2.map aC++[.v (.int .u8 0)]=q3.map aC:=by rw[Zn];simp[sA,hd]
  try simp[hr,hb,hs,hd,e3,WA,az,ax,aB,aa.more,LIM,show q3.length<=100000000 by omega]
  all_goals try(repeat'(first|((first|refine aj ?_|(refine UV (F:=[]) (sq r) rfl ?_ ?_;(· simp[hr,hb,hs,hd,e3,WA,az,ax,aB,aa.more,LIM,show q3.length<=100000000 by omega]))|refine Up (pQ _) rfl ?_|(refine UN (F:=[]) c1 ?_ ?_;(· simp[hr,hb,hs,hd,e3,WA,az,ax,aB,aa.more,LIM,show q3.length<=100000000 by omega]))|(refine UN (F:=[.loc 30 0]) c2 ?_ ?_;(· simp[hr,hb,hs,hd,e3,WA,az,ax,aB,aa.more,LIM,show q3.length<=100000000 by omega]))|(refine UN (F:=[.loc 39 0]) c4 ?_ ?_;(· simp[hr,hb,hs,hd,e3,WA,az,ax,aB,aa.more,LIM,show q3.length<=100000000 by omega]))|(refine UN (F:=[.loc 42 0]) c5 ?_ ?_;(· simp[hr,hb,hs,hd,e3,WA,az,ax,aB,aa.more,LIM,show q3.length<=100000000 by omega]))|simp(disch:=omega) only[wr])<;>try simp[hr,hb,hs,hd,e3,WA,az,ax,aB,aa.more,LIM,show q3.length<=100000000 by omega])))
  refine gE (.loc 45 0) rfl ?_ ?_
  .simp
  .simp
 |true=>
  have e3:q2.map aC++[.v (.int .u8 1)]=q3.map aC:=by rw[Zn];simp[sA,hd]
  try simp[hr,hb,hs,hd,e3,WA,az,ax,aB,aa.more,LIM,show q3.length<=100000000 by omega]
  all_goals try(repeat'(first|((first|refine aj ?_|(refine UV (F:=[]) (sq r) rfl ?_ ?_;(· simp[hr,hb,hs,hd,e3,WA,az,ax,aB,aa.more,LIM,show q3.length<=100000000 by omega]))|refine Up (pQ _) rfl ?_|(refine UN (F:=[]) c1 ?_ ?_;(· simp[hr,hb,hs,hd,e3,WA,az,ax,aB,aa.more,LIM,show q3.length<=100000000 by omega]))|(refine UN (F:=[.loc 30 0]) c2 ?_ ?_;(· simp[hr,hb,hs,hd,e3,WA,az,ax,aB,aa.more,LIM,show q3.length<=100000000 by omega]))|(refine UN (F:=[.loc 39 0]) c4 ?_ ?_;(· simp[hr,hb,hs,hd,e3,WA,az,ax,aB,aa.more,LIM,show q3.length<=100000000 by omega]))|(refine UN (F:=[.loc 42 0]) c5 ?_ ?_;(· simp[hr,hb,hs,hd,e3,WA,az,ax,aB,aa.more,LIM,show q3.length<=100000000 by omega]))|simp(disch:=omega) only[wr])<;>try simp[hr,hb,hs,hd,e3,WA,az,ax,aB,aa.more,LIM,show q3.length<=100000000 by omega])))
  refine gE (.loc 45 0) rfl ?_ ?_
  .simp
  .simp
end
section
open Go.RowKit Go.Proofs Go.Lib Go.Wm
def Dy(v:Nat)(hv:v<4294967296):aji 180 [eN v] (.t (eN (csteps 4 v:Nat))):=by
 refine pu IV rfl ?_
 simp[zV]
 refine ba (fun E=>∃(j:Nat),j<=4/\E.tmps 3= .t (int j)/\E.tmps 0= .t (eN (csteps j v:Nat))) (fun E=>match E.tmps 3 with| .t (.v (.int _ i))=>4-i.toNat|_=>0) [] rfl ?_ ?_
 .refine⟨0,by omega,?_,?_⟩<;>simp[csteps]
 rintro E1 ⟨j,hj,e3,e0⟩ hU hS A hA
 have hs:=II (csteps j v) (csteps_lt j v hv)
 rw[<-csteps_succ]at hs
 simp[zU,e3,e0]
 refine aN (fun h=>?_) (fun h=>?_)
 .repeat'(first|simp[*,jM]|simp(disch:=omega) only[wr])
  refine hA _ (aH [] rfl rfl ⟨j+1,by omega,?_,?_⟩ ?_)
  .simp
  .simp
  .simp[e3]
   omega
 .have:j=4:=by omega
  subst this
  simp[e3,e0]
  refine au rfl
def eA(k:Nat):List ab:=(List.range 16).map fun i=>eN ((if i<k then csteps 4 i else 0:Nat):Int)
abbrev sD:Row:= .box 223 (.agg ((eA 16).map .t)) false
theorem LK:∀k,k<16->ck ((eA k).map DV.t) k [.t (eN (csteps 4 k:Nat))]=(eA (k+1)).map .t
 |0,_=>rfl
 |1,_=>rfl
 |2,_=>rfl
 |3,_=>rfl
 |4,_=>rfl
 |5,_=>rfl
 |6,_=>rfl
 |7,_=>rfl
 |8,_=>rfl
 |9,_=>rfl
 |10,_=>rfl
 |11,_=>rfl
 |12,_=>rfl
 |13,_=>rfl
 |14,_=>rfl
 |15,_=>rfl
 |n+16,h=>absurd h (by omega)
def LL:ajj 90 [] (.fn 181 [.ptr (.loc 0 0) 0 0]) sD:=by
 refine pO Kn rfl ?_
 simp[BZ]
 refine ba (fun E=>∃(k:Nat) (d:DV),k<=16/\E.tmps 3= .t (int k)/\E.tmps 1= .ptr (.head 1 0) 0 0/\E.slots (.head 1 0)=some (.box 223 d false)/\((k=0/\d= .t (.agg (eA 0)))\/d= .agg ((eA k).map .t))) (fun E=>match E.tmps 3 with| .t (.v (.int _ i))=>16-i.toNat|_=>0) [(.loc 1 0,.head 1 0)] rfl ?_ ?_
 .refine⟨0,.t (.agg (eA 0)),by omega,?_,?_,?_,.inl ⟨rfl,rfl⟩⟩
  .simp
  .simp
  .simp
   rfl
 rintro E1 ⟨k,d,hk,e3,e1,es,hd⟩ hU hS A hA
 have Tk:(eA k).length=16:=by simp[eA]
 simp[BY,e3,e1]
 refine aN (fun h=>?_) (fun h=>?_)
 .have Uz:k<16:=by omega
  have VX:=LK k Uz
  simp only[ck]at VX
  have hwk:IntKind.u32.wrap (k:Int)=k:=by rw[IntKind.wrap_u32];omega
  have ZC:k+1<=16:=by omega
  have YK:List.take k ((eA k).map DV.t)++DV.t (eN (csteps 4 k:Nat))::List.drop (k+1) ((eA k).map DV.t)=(eA (k+1)).map .t:=by simpa using VX
  have TT:E1.slots (.head 1 0)=some (.box 223 d false):=es
  rcases hd with⟨rfl,rfl⟩|rfl
  .try simp[e3,e1,es,hU,Tk,hwk]
   all_goals try(repeat'(first|(refine Up (Dy 0 (by omega)) rfl ?_<;>try simp[e3,e1,es,hU,Tk,hwk])))
   refine hA _ (aH [(.head 1 0,.head 1 0)] rfl rfl ⟨1,.agg ((eA 1).map .t),by omega,?_,?_,?_,.inr rfl⟩ ?_)
   .simp
   .simp[e1]
   .simp
    rfl
   .simp[e3]
  .try simp[e3,e1,es,hU,Tk,hwk,h,ZC]
   all_goals try(repeat'(first|((first|refine Up (Dy k (by omega)) rfl ?_|simp(disch:=omega) only[wr])<;>try simp[e3,e1,es,hU,Tk,hwk,h,ZC])))
   refine hA _ (aH [(.head 1 0,.head 1 0)] rfl rfl ⟨k+1,.agg ((eA (k+1)).map .t),by omega,?_,?_,?_,.inr rfl⟩ ?_)
   .simp
   .simp[e1]
   .simp
    rw[YK,zG]
   .simp[e3]
    omega
 .have:k=16:=by omega
  subst this
  have hd:d= .agg ((eA 16).map .t):=by rcases hd with⟨h0,_⟩|h0<;>first|omega|exact h0
  subst hd
  simp[e3,e1]
  refine pt (.head 1 0) rfl (by simp[es]) (fun _=>rfl) ?_
  simp
def Dz(i:Nat)(h:i<16):(eA 16)[i]?=some (eN (csteps 4 i:Nat)):=by
 simp[eA,h]
def wC:(eA 16).length=16:=by simp[eA]
def LM(v:Nat)(c:UInt8)(hv:v<4294967296):ajo 181 [.t (eN v),.t (aC c),.ptr (.arg 0) 0 0] sD (.t (eN (cbyte v c:Nat))) sD:=by
 have hx1:=nR v c.toNat hv (byte_lt32 c)
 have VR:=xor_lt32 hv (byte_lt32 c)
 have Tx:cbyte v c=csteps 4 (csteps 4 (v^^^c.toNat)):=csteps_add 4 4 _
 rw[Tx]
 have hc:=c.toNat_lt
 have hwc:IntKind.u32.wrap (c.toNat:Int)=c.toNat:=by rw[IntKind.wrap_u32];omega
 obtain⟨x,hxx⟩:∃x,x=v^^^c.toNat:=⟨_,rfl⟩
 rw[<-hxx]at hx1 VR⊢
 have X6:=csteps_lt 4 _ VR
 have ha1:=zI x VR
 have h4:=csteps4 x
 have h4b:=csteps4 (csteps 4 x)
 have c1:=Dz (x%16) (by omega)
 have VS:bits .xor .u32 ((csteps 4 (x%16):Nat):Int) ((x:Int)/16)=((csteps 4 x:Nat):Int):=by
  rw[show(x:Int)/16=((x/16:Nat):Int) by omega,nR _ _ (csteps_lt _ _ (by omega)) (by omega),<-h4]
 obtain⟨y,hyy⟩:∃y,y=csteps 4 x:=⟨_,rfl⟩
 rw[<-hyy]at VS X6 h4b⊢
 have ha2:=zI y X6
 have c2:=Dz (y%16) (by omega)
 have hx3:bits .xor .u32 ((csteps 4 (y%16):Nat):Int) ((y:Int)/16)=((csteps 4 y:Nat):Int):=by
  rw[show(y:Int)/16=((y/16:Nat):Int) by omega,nR _ _ (csteps_lt _ _ (by omega)) (by omega),<-h4b]
 obtain⟨r,hr⟩:∃r,r=x%16:=⟨_,rfl⟩
 obtain⟨s,hs⟩:∃s,s=y%16:=⟨_,rfl⟩
 rw[<-hr]at ha1 c1 VS
 rw[<-hs]at ha2 c2 hx3
 have aeV:(r:Int)<16:=by omega
 have aeS:(s:Int)<16:=by omega
 have hrn:r<16:=by omega
 have VT:s<16:=by omega
 have g1:(eA 16)[r]'(by rw[wC];exact hrn)=eN (csteps 4 r:Nat):=(ajs.1 c1).2
 have g2:(eA 16)[s]'(by rw[wC];exact VT)=eN (csteps 4 s:Nat):=(ajs.1 c2).2
 refine se IW rfl ?_
 simp[zW,ef]
 try simp[ef,hwc,hx1,ha1,ha2,aeV,aeS,hrn,VT,g1,g2,VS,hx3,jM,wC]
 skip
 refine mF (by simp) (fun _=>rfl) ?_
 simp
def lL(l:Bs)(hl:l.length<=1000000000):aji 27 [aS l] (.t (eN (crcOf l:Nat))):=by
 refine pu J2 rfl ?_
 simp[Bv]
 refine jO (ts:=[]) (F:=[]) LL (fun _=>rfl) (by simp) (by simp) ?_
 simp
 refine ba (fun E=>∃(i:Nat),i<=l.length/\E.tmps 10= .t (int i)/\E.tmps 9= .t (int l.length)/\E.tmps 8= .t (aS l)/\E.tmps 4= .t (eN (crcFrom ones (l.take i):Nat))/\E.tmps 3= .fn 181 [.ptr (.head 1 0) 0 0]/\E.slots (.head 1 0)=some sD) (fun E=>match E.tmps 10 with| .t (.v (.int _ i))=>l.length-i.toNat|_=>0) [(.loc 7 0,.head 1 0)] rfl ?_ ?_
 .refine⟨0,by omega,?_,?_,?_,?_,?_,?_⟩<;>simp
  rfl
 rintro E1 ⟨i,hi,Vb,e9,e8,e4,e3,es⟩ hU hS A hA
 have TA:=crcFrom_lt (l.take i) ones ones_lt
 simp[Bu,Vb,e9]
 refine aN (fun h=>?_) (fun h=>?_)
 .have hx:=ajq h
  have TT:crcFrom ones (l.take (i+1))=cbyte (crcFrom ones (l.take i)) l[i]:=by
   rw[fO hx,crcFrom_append];rfl
  simp[*,es,h]
  refine zF (s:= .head 1 0) (LM (crcFrom ones (l.take i)) l[i] TA) ?_ ?_ rfl ?_ (fun _=>rfl) (fun _=>rfl) (fun _=>rfl) ?_ ?_
  .simp[es]
  .simp[hU]
  .simp
  .simp
  repeat'(first|simp[*,es,h]|simp(disch:=omega) only[wr])
  refine hA _ (aH [(.head 1 0,.head 1 0)] rfl rfl ⟨i+1,by omega,?_,?_,?_,?_,?_,?_⟩ ?_)
  .simp
  .simp[e9]
  .simp[e8]
  .simp[TT]
  .simp[e3]
  .simp
  .simp[Vb]
   omega
 .have hl:l.take i=l:=aju (by omega)
  rw[hl]at e4 TA
  have hm:IntKind.u32.max=((ones:Nat):Int):=by decide
  have hx:bits .xor .u32 ((ones:Nat):Int) ((crcFrom ones l:Nat):Int)=((crcOf l:Nat):Int):=by
   rw[nR _ _ ones_lt TA,Nat.xor_comm];rfl
  simp[*,IntKind.signed]
  refine au rfl
def eB(l:Bs):Bs:=l++cg (crcOf l)
def wD(l:Bs)(hl:l.length<=1000000):ajl 54 [aS l] (.osl (.loc 0 0) (eB l).length) 5 1 ((eB l).map aC):=by
 refine iN Ke rfl ?_
 have hc:=crcOf_lt l
 have hlim:l.length<=100000000:=by omega
 have c1:=Lw l (crcOf l) hl
 obtain⟨q,hq⟩:∃q,q=eB l:=⟨_,rfl⟩
 rw[show l++cg (crcOf l)=q from hq.symm]at c1
 rw[<-hq]
 simp[BR]
 try simp[aB,aa.more,LIM,hlim]
 all_goals try(repeat'(first|((first|refine Up (lL l (by omega)) rfl ?_|(refine UN (F:=[.loc 4 0]) c1 ?_ ?_;(· simp[aB,aa.more,LIM,hlim]))|simp(disch:=omega) only[wr])<;>try simp[aB,aa.more,LIM,hlim])))
 refine gE (.loc 8 0) rfl ?_ ?_
 .simp
 .simp
def bk(l:Bs):Bs:=l.take (l.length-4)
def gk(l:Bs):Int:=if l.length<4 then 10 else if dW (l.drop (l.length-4))=((crcOf (bk l):Nat):Int)then 0 else 20
def DA(l:Bs)(h:4<=l.length):jj l ((l.length:Int)-4) 4=(dW (l.drop (l.length-4)),0):=by
 have e:((l.length:Int)-4).toNat=l.length-4:=by omega
 unfold jj
 rw[if_neg (by omega),e,if_neg (by simp;omega)]
 congr 1
 rw[aju (by simp;omega)]
def DB(l:Bs)(hl:l.length<=1000000)(he:¬gk l=0):aji 152 [aS l] (.tup [.t .e0,.t (int (gk l))]):=by
 have hc:=crcOf_lt (bk l)
 have e0:((l.length:Int)-4).toNat=l.length-4:=by omega
 by_cases h4:l.length<4
 .have hv:gk l=10:=if_pos h4
  rw[hv]
  refine pu wj rfl ?_
  simp[rW]
  repeat'(first|simp[*]|simp(disch:=omega) only[wr]|(apply aN<;>intro h))
  all_goals first|exact kr rfl rfl|(exfalso;omega)
 .have hg:=DA l (by omega)
  have c1:=wz l ((l.length:Int)-4) 4
  rw[hg]at c1
  have TW:¬dW (l.drop (l.length-4))=((crcOf (bk l):Nat):Int):=fun hh=>he (by rw[gk,if_neg h4,if_pos hh])
  have hv:gk l=20:=by rw[gk,if_neg h4,if_neg TW]
  rw[hv]
  have c2:=lL (bk l) (by simp[bk];omega)
  unfold bk at c2 TW hc
  have k1:(4:Int)<=l.length:=by omega
  have k2:(l.length:Int)-4<=l.length:=by omega
  have k3:¬(l.length:Int)-4<0:=by omega
  refine pu wj rfl ?_
  simp[rW]
  repeat'(first|simp[*,bt,<-List.map_take]|apply aj|refine Up c1 rfl ?_|refine Up c2 rfl ?_|simp(disch:=omega) only[wr])
  all_goals exact kr rfl rfl
def sE(l:Bs)(hl:l.length<=1000000)(he:gk l=0):ajl 152 [aS l] (.tup [.osl (.loc 0 0) (bk l).length,.t (int 0)]) 5 1 ((bk l).map aC):=by
 have hc:=crcOf_lt (bk l)
 have e0:((l.length:Int)-4).toNat=l.length-4:=by omega
 have h4:¬l.length<4:=fun h=>by rw[gk,if_pos h]at he;simp at he
 have hg:=DA l (by omega)
 have c1:=wz l ((l.length:Int)-4) 4
 rw[hg]at c1
 have heq:dW (l.drop (l.length-4))=((crcOf (bk l):Nat):Int):=by
  rw[gk,if_neg h4]at he
  split at he
  .assumption
  .simp at he
 have c2:=lL (bk l) (by simp[bk];omega)
 have hlim:(bk l).length<=100000000:=by simp[bk];omega
 obtain⟨q,hq⟩:∃q,q=bk l:=⟨_,rfl⟩
 rw[<-hq]at c2 heq hc hlim⊢
 have hq':l.take (l.length-4)=q:=hq.symm
 have k1:(4:Int)<=l.length:=by omega
 have k2:(l.length:Int)-4<=l.length:=by omega
 have k3:¬(l.length:Int)-4<0:=by omega
 refine iN wj rfl ?_
 simp[rW]
 try simp[bt,e0,heq,k1,k2,k3,hq',hlim,aB,aa.more,LIM,<-List.map_take]
 all_goals try(repeat'(first|((first|refine aj ?_|refine Up c1 rfl ?_|refine Up c2 rfl ?_|simp(disch:=omega) only[wr])<;>try simp[bt,e0,heq,k1,k2,k3,hq',hlim,aB,aa.more,LIM,<-List.map_take])))
 refine gE (.loc 32 0) rfl ?_ ?_
 .simp
 .simp
def om(a b c:Int):Int:=if c<(if b<a then b else a)then c else if b<a then b else a
def oq(a b c:Int):Int:=if(if a<b then b else a)<c then c else if a<b then b else a
def pT(a b c:Int)(i:Nat):Int:=if i=1 then a else if i=2 then(if b<a then b else a)else om a b c
def LN(a b c:Int):aji 287 [.sl 1 [int a,int b,int c]] (.t (int (om a b c))):=by
 refine pu JJ rfl ?_
 simp[A4,pD]
 refine ba (fun E=>∃i:Nat,1<=i/\i<=3/\E.tmps 4= .t (int i)/\E.tmps 0= .t (.sl 1 [int a,int b,int c])/\E.tmps 3= .t (int (pT a b c i))) (fun E=>match E.tmps 4 with| .t (.v (.int _ i))=>3-i.toNat|_=>0) [] rfl ?_ ?_
 .exact⟨1,by omega,by omega,by simp,by simp,by simp[pT]⟩
 rintro E1 ⟨i,h1,h3,e4,e0,e3⟩ hU hS A hA
 have hi:i=1\/i=2\/i=3:=by omega
 rcases hi with rfl|rfl|rfl
 .simp[*,rF,pD,jx]
  refine hA _ (aH [] rfl rfl ⟨2,by omega,by omega,?_,?_,?_⟩ ?_)<;>simp[*,pT]
 .simp[*,rF,pD,jx]
  refine hA _ (aH [] rfl rfl ⟨3,by omega,by omega,?_,?_,?_⟩ ?_)<;>simp[*,pT,om]
 .simp[*,rF,pD]
  refine au ?_
  simp[pT]
def pU(a b c:Int)(i:Nat):Int:=if i=1 then a else if i=2 then(if a<b then b else a)else oq a b c
def LO(a b c:Int):aji 288 [.sl 1 [int a,int b,int c]] (.t (int (oq a b c))):=by
 refine pu JK rfl ?_
 simp[A5,pE]
 refine ba (fun E=>∃i:Nat,1<=i/\i<=3/\E.tmps 4= .t (int i)/\E.tmps 0= .t (.sl 1 [int a,int b,int c])/\E.tmps 3= .t (int (pU a b c i))) (fun E=>match E.tmps 4 with| .t (.v (.int _ i))=>3-i.toNat|_=>0) [] rfl ?_ ?_
 .exact⟨1,by omega,by omega,by simp,by simp,by simp[pU]⟩
 rintro E1 ⟨i,h1,h3,e4,e0,e3⟩ hU hS A hA
 have hi:i=1\/i=2\/i=3:=by omega
 rcases hi with rfl|rfl|rfl
 .simp[*,rG,pE,jx]
  refine hA _ (aH [] rfl rfl ⟨2,by omega,by omega,?_,?_,?_⟩ ?_)<;>simp[*,pU]
 .simp[*,rG,pE,jx]
  refine hA _ (aH [] rfl rfl ⟨3,by omega,by omega,?_,?_,?_⟩ ?_)<;>simp[*,pU,oq]
 .simp[*,rG,pE]
  refine au ?_
  simp[pU]
def kD(m a b c:Int):Bool:=(decide (0<=a)&&decide (a<=m))&&(decide (0<=b)&&decide (b<=m))&&(decide (0<=c)&&decide (c<=m))
def wE{m a b c:Int}:kD m a b c=true↔(0<=a/\a<=m)/\(0<=b/\b<=m)/\(0<=c/\c<=m):=by simp[kD,and_assoc]
def LP(m a b c:Int):kD m a b c=true↔0<=om a b c/\oq a b c<=m:=by
 rw[wE]
 unfold om oq
 constructor
 .intro h
  constructor<;>(repeat' split)<;>omega
 .intro⟨h1,h2⟩
  split at h1<;>split at h2<;>(try split at h1)<;>(try split at h2)<;>omega
def DC(m a b c:Int):aji 245 [int m,.sl 1 [int a,int b,int c]] (tt (kD m a b c)):=by
 have Vu:=LP m a b c
 have c1:=LN a b c
 have c2:=LO a b c
 generalize om a b c=x at*
 generalize oq a b c=y at*
 generalize kD m a b c=r at*
 refine pu Jw rfl ?_
 simp[AH]
 repeat'(first|simp[*]|apply aj|refine Up c1 rfl ?_|refine Up c2 rfl ?_|(apply aN<;>intro h))
 all_goals refine au ?_
 all_goals congr 2
 all_goals cases r<;>simp at Vu⊢<;>omega
structure aF where
 base:Int
 last:Int
 frm:Int
 epoch:Int
 pid:Int
 gen:Int
 seq:Int
 txn:Bool
 ctl:Int
 recs:List fj
abbrev aG(b:aF):ab:= .agg [int b.base,int b.last,int b.frm,int b.epoch,int b.pid,int b.gen,int b.seq,bo b.txn,int b.ctl,.sl 5 (b.recs.map recT)]
def lM(last:Int):Int->List fj->Bool
 |_,[]=>true
 |next,r::l=>if dN r≠0\/r.off<next\/last<r.off then false else lM last (r.off+1) l
def fm(b:aF):Bool:=
 if kD 1099511627776 b.base b.last b.frm=false then false
 else if kD 1048576 b.epoch b.gen b.seq=false then false
 else if b.last-b.base<0\/16<=b.last-b.base\/1099511627776<b.frm+(b.last-b.base)\/1048576<b.seq+(b.last-b.base)then false
 else if b.pid< -1\/1099511627776<b.pid then false
 else if b.pid= -1/\(¬b.gen+b.seq=0\/b.txn=true\/¬b.ctl=0)then false
 else if b.ctl=0 then lM b.last b.base b.recs
 else if b.ctl=1\/b.ctl=2 then decide (b.last-b.base=0/\b.recs=[]/\b.txn=true)
 else false
def Tf{r:fj}(h:dN r=0):0<=r.off/\r.off<=1099511627776:=by
 have:=(sC h).1
 exact ol.1 this
def DD(b:aF)(hl:b.recs.length<=1000000):aji 190 [aG b] (tt (fm b)):=by
 have k1:=@wE 1099511627776 b.base b.last b.frm
 have k2:=@wE 1048576 b.epoch b.gen b.seq
 have hv:fm b=fm b:=rfl
 conv at hv=>lhs;unfold fm
 have c1:=DC 1099511627776 b.base b.last b.frm
 have c2:=DC 1048576 b.epoch b.gen b.seq
 generalize kD 1099511627776 b.base b.last b.frm=r1 at*
 generalize kD 1048576 b.epoch b.gen b.seq=r2 at*
 refine pu I5 rfl ?_
 simp[Ac,vh]
 cases r1 with
 |false=>
  try simp[az,ax]
  all_goals try(repeat'(first|((first|refine aj ?_|refine Up c1 rfl ?_)<;>try simp[az,ax])))
  all_goals(refine au ?_;simp_all)
 |true=>
 cases r2 with
 |false=>
  try simp[az,ax]
  all_goals try(repeat'(first|((first|refine aj ?_|refine Up c1 rfl ?_|refine Up c2 rfl ?_)<;>try simp[az,ax])))
  all_goals(refine au ?_;simp_all)
 |true=>
 obtain⟨⟨a1,a2⟩,⟨a3,a4⟩,a5,a6⟩:=k1.1 rfl
 obtain⟨⟨a7,a8⟩,⟨a9,a10⟩,a11,a12⟩:=k2.1 rfl
 clear k1 k2
 simp only[Bool.true_eq_false,ajS]at hv
 have Tx:∀{E:aa} {r:Bool},r=fm b->Ends (de [aG b] (tt (fm b))) (.t (bo r)) E:=fun h=>au (by rw[h])
 have XA:∀E:aa,E.tmps 92= .t (int 0)->E.tmps 91= .t (int b.recs.length)->E.tmps 90= .t (.sl 5 (b.recs.map recT))->E.tmps 4= .t (int b.base)->E.tmps 1= .ptr (.loc 1 0) 0 0->E.slots (.loc 1 0)=some (.box 79 (.t (aG b)) false)->lM b.last b.base b.recs=fm b->
   qH Tryz.prog bu (Fin [cy.tmp 2] (Ends (de [aG b] (tt (fm b)))))
  [Fr.blk 2,Fr.code ((ac.region [{dst:=some 2,op:=al.mv (Operand.const (Value.bool true)),guard:=none}]).seq ac.ret),Fr.blk 1,Fr.code ((ac.region [{dst:=some 2,op:=al.mv (Operand.const (Value.bool false)),guard:=none}]).seq ac.ret)] vg E:=by
  intro E e92 e91 e90 e4 e1 es Ua
  refine ba (fun E=>∃(i:Nat) (next:Int),i<=b.recs.length/\0<=next/\next<=1099511627777/\E.tmps 92= .t (int i)/\E.tmps 91= .t (int b.recs.length)/\E.tmps 90= .t (.sl 5 (b.recs.map recT))/\E.tmps 4= .t (int next)/\E.tmps 1= .ptr (.head 1 0) 0 0/\E.slots (.head 1 0)=some (.box 79 (.t (aG b)) false)/\lM b.last next (b.recs.drop i)=fm b) (fun E=>match E.tmps 92 with| .t (.v (.int _ i))=>b.recs.length-i.toNat|_=>0) [(.loc 1 0,.head 1 0)] rfl ?_ ?_
  .refine⟨0,b.base,by omega,a1,by omega,?_,?_,?_,?_,?_,?_,Ua⟩<;>simp[e92,e91,e90,e4,e1,es]
  rintro E1 ⟨i,next,hi,hn0,UO,f92,f91,f90,f4,f1,fs,hr⟩ hU hS A hA
  simp[vg,vh,f92,f91]
  refine aN (fun h=>?_) (fun h=>?_)
  .have hd:b.recs.drop i=b.recs[i]::b.recs.drop (i+1):=aku h
   obtain⟨x,Tm⟩:∃x,b.recs[i]=x:=⟨_,rfl⟩
   rw[Tm]at hd
   have c3:=sq x
   have ahD:=@Tf x
   rw[hd,lM]at hr
   try simp[f92,f91,f90,f4,f1,fs,h,Tm,hU]
   all_goals try(repeat'(first|((first|refine aj ?_|refine Up c3 rfl ?_|simp(disch:=omega) only[wr])<;>try simp[f92,f91,f90,f4,f1,fs,h,Tm,hU])|((first|apply aN|apply dL)<;>intro h<;>try simp[f92,f91,f90,f4,f1,fs,h,Tm,hU])))
   all_goals first
    |(exfalso;omega)
    |(refine Tx ?_;rw[<-hr];simp_all;done)
    |(refine Tx ?_;rw[<-hr];simp_all;omega)
    |(refine hA _ (aH [(.head 1 0,.head 1 0)] rfl rfl ⟨i+1,x.off+1,by omega,by omega,by omega,?_,?_,?_,?_,?_,?_,?_⟩ ?_)
      .simp
      .simp[f91]
      .simp[f90]
      .simp
      .simp[f1]
      .simp[fs]
      .rw[<-hr];simp_all<;>omega
      .simp[f92];omega)
  .have hd:b.recs.drop i=[]:=List.drop_eq_nil_of_le (by omega)
   rw[hd,lM]at hr
   simp[f92,f91,h]
   exact Tx hr
 try simp[az,ax]
 all_goals try(repeat'(first|((first|refine aj ?_|refine Up c1 rfl ?_|refine Up c2 rfl ?_|simp(disch:=omega) only[wr])<;>try simp[az,ax])|((first|apply aN|apply dL|apply uY)<;>intro h<;>try simp[az,ax,h])))
 all_goals first
  |(refine Tx ?_;rw[<-hv];clear XA Tx c1 c2 hv;simp_all;done)
  |(refine Tx ?_;rw[<-hv];clear XA Tx c1 c2 hv;simp_all;omega)
  |(refine Tx ?_;rw[<-hv];clear XA Tx c1 c2 hv;cases htx:b.txn<;>simp_all<;>omega)
  |(refine XA _ ?_ ?_ ?_ ?_ ?_ ?_ ?_
    .simp
    .simp
    .simp
    .simp
    .simp
    .simp
    .rw[<-hv];clear XA Tx c1 c2 hv;(repeat' split)<;>first|rfl|(exfalso;omega)|(exfalso;simp_all;done)|(exfalso;simp_all;omega))
def DE{last:Int}:∀(l:List fj) (next:Int),lM last next l=true->(∀r∈l,dN r=0/\next<=r.off/\r.off<=last)/\(l=[]\/(l.length:Int)<=last-next+1)
 |[],next,_=>⟨by simp,.inl rfl⟩
 |r::l,next,h=>by
  rw[lM]at h
  split at h
  .simp at h
  .rename_i hc
   obtain⟨h1,h2⟩:=DE l (r.off+1) h
   have hr:dN r=0/\next<=r.off/\r.off<=last:=by simp only[not_or,ne_eq,Decidable.not_not]at hc;omega
   refine⟨fun x hx=>?_,.inr ?_⟩
   .rcases akc.1 hx with rfl|hx
    .exact hr
    .have:=h1 x hx;omega
   .rcases h2 with rfl|h2
    .simp;omega
    .simp;omega
structure LQ(b:aF):Prop where
 b1:0<=b.base/\b.base<=1099511627776
 b2:0<=b.last/\b.last<=1099511627776
 sp:0<=b.last-b.base/\b.last-b.base<16
 ctl:b.ctl=0\/b.ctl=1\/b.ctl=2
 recs:∀r∈b.recs,dN r=0/\b.base<=r.off/\r.off<=b.last
 len:b.recs.length<=16
def DF{b:aF}(h:fm b=true):LQ b:=by
 unfold fm at h
 split at h
 .simp at h
 rename_i h1
 split at h
 .simp at h
 rename_i h2
 split at h
 .simp at h
 rename_i h3
 split at h
 .simp at h
 split at h
 .simp at h
 have h1:=wE.1 (by simpa using h1)
 simp only[not_or,Int.not_lt,Int.not_le]at h3
 split at h
 .rename_i h6
  obtain⟨h7,h8⟩:=DE _ _ h
  refine⟨h1.1,h1.2.1,by omega,.inl h6,h7,?_⟩
  rcases h8 with h8|h8
  .rw[h8];simp
  .omega
 split at h
 .rename_i h6
  have h:=ajC h
  refine⟨h1.1,h1.2.1,by omega,.inr h6,?_,?_⟩<;>rw[h.2.1]<;>simp
 .simp at h
def dh(b:aF):List Int:=[b.base,b.last-b.base,b.frm,b.epoch,b.pid,b.gen,b.seq]
def mX(b:aF):UInt8:=UInt8.ofNat (b.ctl.toNat+if b.txn then 4 else 0)
def ot(b:aF):Bs:=match b.recs with
 |[]=>[]
 |r::l=>bK r.stamp++(r::l).flatMap fun x=>gM x b.base r.stamp
def gN(b:aF):Bs:=(dh b).flatMap bK++[mX b]++bK b.recs.length++ot b
def bT(b:aF):Bs:=cg (eB (gN b)).length++eB (gN b)
def wF{r:fj}(h:dN r=0)(base stamp:Int):(gM r base stamp).length<=200:=by
 obtain⟨_,_,h3,h4⟩:=sC h
 have l1:=gj (r.off-base)
 have l2:=gj (r.stamp-stamp)
 have l3:=gj r.key.size
 have l4:=gj r.val.size
 have hk:r.key.data.toList.length=r.key.size:=by simp
 have hv:r.val.data.toList.length=r.val.size:=by simp
 simp only[gM,sB,ajB,akx,List.length_nil]
 omega
def pV{α:Type}(f:α->Bs)(c:Nat):∀l:List α,(∀x∈l,(f x).length<=c)->(l.flatMap f).length<=c*l.length
 |[],_=>by simp
 |x::l,h=>by
  have h1:=h x (by simp)
  have h2:=pV f c l fun y hy=>h y (by simp[hy])
  rw[List.flatMap_cons,ajB,akx,Nat.mul_succ]
  omega
def LR{b:aF}(h:b.ctl=0\/b.ctl=1\/b.ctl=2):(b.txn=true->bits .or .u8 (IntKind.u8.wrap b.ctl) 4=((mX b).toNat:Int))/\(b.txn=false->IntKind.u8.wrap b.ctl=((mX b).toNat:Int)):=by
 rcases h with h|h|h<;>refine⟨fun ht=>?_,fun ht=>?_⟩<;>simp only[mX,h,ht]<;>decide
end
end Go.Wt
