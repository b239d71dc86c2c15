/- A part of the proof of a tier statement (the last text closes it): lemmas without condition. -/
import Derived.Test.YteaimhlobmaghaaGreatDoorP24
import Derived.DataShut
import Derived.LaidHandle
import Derived.LaidLaws
import Derived.LaidMore
import Derived.Lib.LaidTab
import Derived.Lib.LaidU8
import Derived.MakeChecks
import Derived.Stop.LaidErr
set_option linter.all false
set_option maxRecDepth 10000000
set_option maxHeartbeats 0
namespace Go.Wt
section
open Go.RowKit Go.Proofs Go.Lib Go.Wm
def gX(m:Mn)(s:aw)(n:ByteArray):Mn×aw×Int:=
 if dx [ft n,bH m,bP s]≠0 then(ej,fG,dx [ft n,bH m,bP s])
 else if fT (dH m s n).2.2=true then dH m s n else(ej,fG,(dH m s n).2.2)
def P1(m:Mn)(s:aw)(n:ByteArray)(hm:m.l.length<=1000000)(h1:s.objs.length<=1000000)(h2:s.faults.length<=1000000)(hp:n.size<=900000):
  ajk 46 ⟨[],[.ptr (.arg 0) 0 0,.fn 81 tB],[is s m es,bA s,bX n,bq (.arg 0),bp m],.t (int (dH m s n).2.2),
   [some (if fT (dH m s n).2.2=true then is (dH m s n).2.1 (dH m s n).1 es else oy),some (bA s),some (bX n),some (bq (.arg 0)),some (bp m)],[]⟩:=by
 by_cases hz:(dH m s n).2.2=0
 .have c1:=(PZ m s n hm h1 h2 hp hz).rows (rows2:=[is s m es,bA s,bX n,bq (.arg 0),bp m]) (rows2':=[some (is (dH m s n).2.1 (dH m s n).1 es),some (bA s),some (bX n),some (bq (.arg 0)),some (bp m)])
   ⟨kb _ _ _,.inl rfl,.inl rfl,.inl rfl,.inl rfl,trivial⟩ ⟨.inr ⟨_,_,rfl,rfl,kb _ _ _⟩,.inl rfl,.inl rfl,.inl rfl,.inl rfl,trivial⟩
  have c2:=sV (n:=5) c1 rfl rfl (by decide) ?_ ?_ ?_
  .rw[hz]
   exact c2
  .simp only[tB,akd]
   exact⟨rfl,rfl,rfl,rfl,by simp⟩
  .simp only[akd]
   exact⟨rfl,rfl,rfl,rfl,rfl,by simp⟩
  .intro i r hi
   match i with
   |0=>cases hi;rfl
   |1=>cases hi;rfl
   |2=>cases hi;rfl
   |3=>cases hi;rfl
   |4=>cases hi;rfl
   |i+5=>simp at hi
 .have c1:=(P0 m s n hm h1 h2 hp hz).rows (rows2:=[is s m es,bA s,bX n,bq (.arg 0),bp m]) (rows2':=[some (is (dH m s n).2.1 (dH m s n).1 es),some (bA s),some (bX n),some (bq (.arg 0)),some (bp m)])
   ⟨kb _ _ _,.inl rfl,.inl rfl,.inl rfl,.inl rfl,trivial⟩ ⟨.inr ⟨_,_,rfl,rfl,kb _ _ _⟩,.inl rfl,.inl rfl,.inl rfl,.inl rfl,trivial⟩
  refine w9 (n:=5) c1 rfl rfl ?_ ?_ ?_
  .simp only[tB,akd]
   exact⟨rfl,rfl,rfl,rfl,by simp⟩
  .simp only[akd]
   exact⟨rfl,rfl,rfl,rfl,rfl,by simp⟩
  .intro i r hi
   match i with
   |0=>cases hi;rfl
   |1=>cases hi;rfl
   |2=>cases hi;rfl
   |3=>cases hi;rfl
   |i+4=>simp at hi
def FU(m:Mn)(s:aw)(n:ByteArray)(hm:m.l.length<=1000000)(hp:n.size<=900000):
  aji 22 [bh m,bi s,str n] (.tup [.t (bh (gX m s n).1),.t (bi (gX m s n).2.1),.t (int (gX m s n).2.2)]):=by
 have c1:=sQ n
 have c1:aji 43 [str n] (.t (int (ft n))):=c1
 have c3:=lQ m hm
 have c4:=tc s
 have c5:=p7 [ft n,bH m,bP s] (by simp)
 have Uf:dx [ft n,bH m,bP s]=0->bP s=0:=fun h=>xq h _ (by simp)
 have hv:gX m s n=gX m s n:=rfl
 conv at hv=>rhs;unfold gX
 generalize gX m s n=r at*
 generalize ft n=e1 at*
 generalize bH m=e3 at*
 have hsz:=fun h=>lW (s:=s) h
 generalize bP s=e4 at*
 generalize dx [e1,e3,e4]=ce at*
 simp only[ajQ,aj4]at c5
 by_cases VG:ce=0
 .rw[if_neg (by simp[VG])]at hv
  have hs:=hsz (Uf VG)
  have c6:=(P1 m s n hm (by omega) (by omega) hp).rows (rows2:=[dZ s m es,bA s,bX n,bq (.arg 0),bp m]) ⟨(kb _ _ _).symm,.inl rfl,.inl rfl,.inl rfl,.inl rfl,trivial⟩ (xp _)
  generalize dH m s n=W at*
  subst VG
  cases hk:fT W.2.2 with
  |true=>
   rw[if_pos hk]at hv
   rw[if_pos hk]at c6
   subst hv
   refine pu vB rfl ?_
   simp[rJ]
   try simp[az,ax]
   all_goals try(repeat'(first|((first|refine Up c1 rfl ?_|refine Up c3 rfl ?_|refine Up c4 rfl ?_|refine Up c5 rfl ?_|(refine UG (S:=[.loc 28 0,.loc 4 0,.loc 5 0,.loc 10 0,.loc 3 0]) (F:=[]) c6 ?_ ?_;(· simp[az,ax])))<;>try simp[az,ax])))
   all_goals exact j7 .rfl .rfl .rfl
  |false=>
   rw[hk]at hv c6
   simp only[ajU,ajS]at hv c6
   subst hv
   refine pu vB rfl ?_
   simp[rJ]
   try simp[az,ax]
   all_goals try(repeat'(first|((first|refine Up c1 rfl ?_|refine Up c3 rfl ?_|refine Up c4 rfl ?_|refine Up c5 rfl ?_|(refine UG (S:=[.loc 28 0,.loc 4 0,.loc 5 0,.loc 10 0,.loc 3 0]) (F:=[]) c6 ?_ ?_;(· simp[az,ax])))<;>try simp[az,ax])))
   all_goals exact j7 gS iq .rfl
 .rw[if_pos VG]at hv
  subst hv
  refine pu vB rfl ?_
  simp[rJ]
  try simp[az,ax,VG]
  all_goals try(repeat'(first|((first|refine Up c1 rfl ?_|refine Up c3 rfl ?_|refine Up c4 rfl ?_|refine Up c5 rfl ?_)<;>try simp[az,ax,VG])))
  all_goals exact j7 gS iq .rfl
abbrev pS:ByteArray:=⟨#[112]⟩
def oH:Pc:=⟨0,0,2,310,1009933406,2⟩
def P2:Pc:=⟨1,2,4,310,223165912,2⟩
def fW:Mn:=⟨0,0,[]⟩
def xL:aw:=⟨[],0,[]⟩
def oI:Mn:=⟨2,1,[oH]⟩
def tC:oBj:=⟨⟨#[112,45,48]⟩,fJ++gz++[60,50,92,94]⟩
def FV:oBj:=⟨⟨#[112,45,49]⟩,iz++jr++[13,77,61,216]⟩
def dC:aw:=⟨[tC],1,[]⟩
def d9:Mn:=⟨4,2,[oH,P2]⟩
def cK:aw:=⟨[tC,FV],2,[]⟩
def gY:aw:=⟨[tC,FV],3,[]⟩
def fL:Lg:=⟨400,4,[⟨4,kQ++ni⟩,⟨6,qp++xK⟩]⟩
def gA:Ca:=⟨4000,[]⟩
def P3:fI fK fW xL pS=(oI,dC,0):=by kernel_rfl
def P4:fI fK oI dC pS=(d9,cK,0):=by kernel_rfl
def P5:j2 fK d9=(fL,0):=by kernel_rfl
def eX:gX d9 cK pS=(d9,gY,0):=by kernel_rfl
def P6:kP d9 cK gA pS 7=⟨fG,fV,[],90⟩:=by kernel_rfl
def P7:(eQ d9 7).2=false:=by kernel_rfl
def P8:tg 4000=(gA,0):=by kernel_rfl
def FX:jm fL d9=0:=by kernel_rfl
def P9:jm fL fW=4:=by kernel_rfl
def xM:Ca:=⟨4000,[⟨⟨#[112,45,48]⟩,0,tC.bytes⟩]⟩
def tD:bQ cK gA pS oH=⟨gY,xM,[b7 0,b7 1],0⟩:=by kernel_rfl
def Qa:∀s∈fL.segs,s.bytes.length<=900000:=ajC (by kernel_rfl)
def xN:∀s∈fK.segs,s.bytes.length<=900000:=ajC (by kernel_rfl)
def Qb:kO cK gA pS oH 0:=by
 refine⟨by decide,by decide,by decide,by simp[gA],by decide,by decide,by decide,⟨by decide,by decide⟩,?_,?_,?_⟩
 .exact ajC (by kernel_rfl)
 .exact ajC (by kernel_rfl)
 .exact ajC (by kernel_rfl)
def Qc:tj fL d9 cK gA pS 1 1 oH 0 (b7 1) []:=by
 refine⟨by decide,by decide,by rw[FX];decide,by decide,rfl,by decide,by kernel_rfl,Qb,by rw[tD],by rw[tD];simp,?_,by simp[b7],?_⟩
 .rw[tD]
  kernel_rfl
 .exact ajC (by kernel_rfl)
def Qd:dx [cj fL,bH d9,bP cK,dG gA]=0:=by kernel_rfl
def FY:aE (.agg [int 0,int 0,.e0]) (bh fW):=gS
def Qe:aE (.agg [.e0,int 0,.e0]) (bi xL):=iq
def Qf:aji 11 [aO fK,.agg [int 0,int 0,.e0],.agg [.e0,int 0,.e0],str pS] (.tup [.t (bh oI),.t (bi dC),.t (int 0)]):=by
 have h:=bE fK fW xL pS (by decide) xN (by decide) (by decide)
 rw[P3]at h
 exact nS (ts':=[aO fK,.agg [int 0,int 0,.e0],.agg [.e0,int 0,.e0],str pS]) h ⟨.rfl,FY,Qe,.rfl,trivial⟩
def Qg:aji 11 [aO fK,bh oI,bi dC,str pS] (.tup [.t (bh d9),.t (bi cK),.t (int 0)]):=by
 have h:=bE fK oI dC pS (by decide) xN (by decide) (by decide)
 rw[P4]at h
 exact h
def Qh:aji 13 [aO fK,bh d9] (.tup [.t (aO fL),.t (int 0)]):=by
 have h:=j3 fK d9 (by decide) (fun s hs=>by have:=xN s hs;omega) (by decide)
 rw[P5]at h
 exact h
def Qi:aji 28 [int 4000] (.tup [.t (dr gA),.t (int 0)]):=by
 have h:=OH 4000
 rw[P8]at h
 exact h
def Qj:aji 37 [aO fL,bh d9,bi cK,dr gA,str pS,int 1,int 1] (.tup [.t (kE [b7 1]),.t (bi gY),.t (dr xM),.t (int 0)]):=by
 have h:=Pk fL d9 cK gA pS 1 1 oH 0 (b7 1) [] Qc (by decide) (fun s hs=>by have:=Qa s hs;omega) (by simp[gA]) Qd
 rw[tD]at h
 exact h
def Qk:aji 20 [bh d9,bi cK,dr gA,str pS,int 7] (.tup [.t (kE []),.t (bi fG),.t (dr fV),.t (int 90)]):=by
 have h:=OW d9 cK gA pS 7 0 (by decide) (by decide) (by simp[gA]) (fun _ h=>by rw[P7]at h;cases h)
 rw[P6]at h
 exact h
def Ql:aji 22 [bh d9,bi cK,str pS] (.tup [.t (bh d9),.t (bi gY),.t (int 0)]):=by
 have h:=FU d9 cK pS (by decide) (by decide)
 rw[eX]at h
 exact h
def Qm:aji 18 [aO fL,bh d9] (.t (int 0)):=by
 have h:=m3 fL d9 (by decide)
 rw[FX]at h
 exact h
def Qn:aji 18 [aO fL,.agg [int 0,int 0,.e0]] (.t (int 4)):=by
 have h:=m3 fL fW (by decide)
 rw[P9]at h
 exact nS (ts':=[aO fL,.agg [int 0,int 0,.e0]]) h ⟨.rfl,FY,trivial⟩
def h9:aji 9 [] (tt true):=by
 have c0:=PU
 have c1:=Qf
 have c2:=Qg
 have c3:=Qh
 have c4:=Qi
 have c5:=Qj
 have c6:=Qk
 have c7:=Ql
 have c8:=Qm
 have c9:=Qn
 have n1:fL.segs.length=2:=rfl
 have n2:fK.segs.length=4:=rfl
 have n3:cK.objs.length=2:=rfl
 have n4:gY.objs.length=2:=rfl
 have n5:gY.calls=3:=rfl
 have n6:fL.start=4:=rfl
 have n7:(b7 1).base=1:=rfl
 generalize fL=Y at*
 generalize fK=L at*
 generalize cK=S2 at*
 generalize gY=S3 at*
 generalize dC=S1 at*
 generalize oI=M1 at*
 generalize d9=M2 at*
 generalize gA=C0 at*
 generalize xM=C1 at*
 generalize fG=SZ at*
 generalize fV=CZ at*
 generalize b7 1=b1 at*
 refine pu o9 rfl ?_
 simp[s9]
 repeat'(first|simp[*]|apply aj|refine Up c0 rfl ?_|refine Up c1 rfl ?_|refine Up c2 rfl ?_|refine Up c3 rfl ?_|refine Up c4 rfl ?_|refine Up c5 rfl ?_|refine Up c6 rfl ?_|refine Up c7 rfl ?_|refine Up c8 rfl ?_|refine Up c9 rfl ?_)
 exact au rfl
def Qo(l:Bs):aji 89 [aS l,aS l] (tt true):=by
 refine pu Km rfl ?_
 simp[BX]
 repeat' simp[*,oN,aa.more,ab.one,Ds]
 all_goals exact au rfl
def Qp(s:bL):aji 73 [bF s,bF s] (tt true):=by
 have c1:=Qo s.bytes
 refine pu Kk rfl ?_
 simp[BU]
 repeat'(first|simp[*]|apply aj|refine Up c1 rfl ?_)
 all_goals exact au rfl
def Qq(L:Lg)(hn:L.segs.length<=1000000):aji 17 [aO L,aO L] (tt true):=by
 refine pu JZ rfl ?_
 simp[Bp]
 repeat'(first|simp[*]|apply aj)
 refine ba (fun E=>∃i:Nat,i<=L.segs.length/\E.tmps 5= .t (int i)/\E.tmps 2= .ptr (.head 1 0) 0 0/\E.tmps 3= .ptr (.head 1 1) 0 0/\E.slots (.head 1 0)=some (.box 24 (.t (aO L)) false)/\E.slots (.head 1 1)=some (.box 24 (.t (aO L)) false)) (fun E=>match E.tmps 5 with| .t (.v (.int _ i))=>L.segs.length-i.toNat|_=>0) [(.loc 2 0,.head 1 0),(.loc 3 0,.head 1 1)] rfl ?_ ?_
 .refine⟨0,by omega,?_,?_,?_,?_,?_⟩<;>simp
 rintro E1 ⟨i,hi,e5,e2,e3,s0,s1⟩ hU hS A hA
 simp[*,Bo,s0,s1]
 repeat'(first|simp[*,s0,s1]|(apply aN<;>intro h))
 .have hx:=ajq h
  obtain⟨x,Tm⟩:∃x,L.segs[i]=x:=⟨_,rfl⟩
  rw[Tm]at hx
  have c1:=Qp x
  have hw:IntKind.i64.wrap ((i:Int)+1)=((i+1:Nat):Int):=by rw[bx (by omega) (by omega)];omega
  repeat'(first|simp[*,s0,s1,h]|refine Up c1 rfl ?_)
  refine hA _ (aH [(.head 1 0,.head 1 0),(.head 1 1,.head 1 1)] rfl rfl ⟨i+1,by omega,?_,?_,?_,?_,?_⟩ ?_)
  all_goals simp[*,s0,s1]
  all_goals omega
 .skip
  all_goals exact au rfl
def jt(L:Lg):Bool:=(L.segs.take 300).all (fun s=>decide (s.bytes.length<=5000))&&decide (L.segs.length<=12)
def FZ{α:Type}{p:α->Bool}{l:List α}{i:Nat}{x:α}(h:l[i]?=some x):(l.take (i+1)).all p=((l.take i).all p&&p x):=by
 rw[List.take_add_one,h,List.all_append]
 simp
def xO{α:Type}{p:α->Bool}{l:List α}{i k:Nat}{x:α}(h:l[i]?=some x)(hk:i<k)(hx:p x=false):(l.take k).all p=false:=by
 rw[List.all_eq_false]
 exact⟨x,ajx (by rw[List.getElem?_take_of_lt hk];exact h),by simp[hx]⟩
def Qr(L:Lg):aji 38 [aO L] (.t (bo (jt L))):=by
 refine pu J7 rfl ?_
 simp[BE]
 skip
 refine ba (fun E=>∃i:Nat,i<=L.segs.length/\i<=300/\(L.segs.take i).all (fun s=>decide (s.bytes.length<=5000))=true/\E.tmps 3= .t (int i)/\E.tmps 1= .ptr (.head 1 0) 0 0/\E.slots (.head 1 0)=some (.box 24 (.t (aO L)) false)) (fun E=>match E.tmps 3 with| .t (.v (.int _ i))=>300-i.toNat|_=>0) [(.loc 1 0,.head 1 0)] rfl ?_ ?_
 .refine⟨0,by omega,by omega,by simp,?_,?_,?_⟩<;>simp
 rintro E1 ⟨i,hi,Yw,Tt,e3,e1,s0⟩ hU hS A hA
 have V6:(i=L.segs.length\/i=300)->(L.segs.take 300).all (fun s=>decide (s.bytes.length<=5000))=true:=by
  rintro(h|h)
  .rw[h,akg]at Tt
   rw[ajR]at Tt⊢
   exact fun x hx=>Tt x (akm hx)
  .rw[h]at Tt;exact Tt
 by_cases h3:i=300
 .subst h3
  have hd:=V6 (.inr rfl)
  have hv:jt L=decide (L.segs.length<=12):=by unfold jt;rw[hd];rfl
  rw[hv]
  simp[pG,e3,e1,s0]
  repeat'(first|simp[*,s0]|apply aj|(apply aN<;>intro h))
  all_goals(refine au ?_<;>simp_all<;>omega)
 have k3:i<300:=by omega
 have k3':(i:Int)<300:=by omega
 by_cases h:i<L.segs.length
 .have hx:=ajq h
  obtain⟨x,Tm⟩:∃x,L.segs[i]=x:=⟨_,rfl⟩
  rw[Tm]at hx
  have hw:IntKind.i64.wrap ((i:Int)+1)=((i+1:Nat):Int):=by rw[bx (by omega) (by omega)];omega
  have hs:=FZ (p:=fun s:bL=>decide (s.bytes.length<=5000)) hx
  by_cases hb:x.bytes.length<=5000
  .have TR:¬(5000:Int)<x.bytes.length:=by omega
   simp[pG,e3,e1,s0]
   repeat'(first|simp[*,s0,h]|apply aj)
   refine hA _ (aH [(.head 1 0,.head 1 0)] rfl rfl ⟨i+1,by omega,by omega,by rw[hs,Tt];simpa using hb,?_,?_,?_⟩ ?_)
   all_goals simp[e3,e1,s0]
   all_goals omega
  .have TR:(5000:Int)<x.bytes.length:=by omega
   have hv:jt L=false:=by unfold jt;rw[xO hx k3 (by simpa using hb)];rfl
   rw[hv]
   simp[pG,e3,e1,s0]
   repeat'(first|simp[*,s0,h]|apply aj)
   all_goals exact au rfl
 .have hd:=V6 (.inl (by omega))
  have hv:jt L=decide (L.segs.length<=12):=by unfold jt;rw[hd];rfl
  rw[hv]
  simp[pG,e3,e1,s0]
  repeat'(first|simp[*,s0,h]|apply aj)
  all_goals(refine au ?_<;>simp_all<;>omega)
def qq(m:Mn):Bool:=decide (m.l.length<=300)
def Qs(m:Mn):aji 39 [bh m] (.t (bo (qq m))):=by
 unfold qq
 refine pu J8 rfl ?_
 simp[BF]
 skip
 all_goals(refine au ?_<;>simp_all<;>omega)
def gZ(o:oBj):Bool:=!decide (6000<o.bytes.length)&&!decide (200<o.name.size)
def kR(s:aw):Bool:=!(decide (60<s.objs.length)&&decide (s.objs.length<=1024))&&!(decide (60<s.faults.length)&&decide (s.faults.length<=1024))&&(s.objs.take 60).all gZ
def tE(s:aw)(i:Nat)(hi:i<=s.objs.length)(Yw:i<=60)(Tt:(s.objs.take i).all gZ=true)(E1:aa)(e3:E1.tmps 3= .t (int i))(e1:E1.tmps 1= .ptr (.head 1 0) 0 0)(s0:E1.slots (.head 1 0)=some (bA s))(hU:E1.used=(fun s=>([(Nm.loc 1 0,Nm.head 1 0)].map (·.2)).contains s))(A:aa->Prop)
  (hA:∀E',qI (fun E=>∃i:Nat,i<=s.objs.length/\i<=60/\(s.objs.take i).all gZ=true/\E.tmps 3= .t (int i)/\E.tmps 1= .ptr (.head 1 0) 0 0/\E.slots (.head 1 0)=some (bA s)) (fun E=>match E.tmps 3 with| .t (.v (.int _ i))=>60-i.toNat|_=>0) ([(Nm.loc 1 0,Nm.head 1 0)].map (·.2)) (match E1.tmps 3 with| .t (.v (.int _ i))=>60-i.toNat|_=>0) E'->A E'):
  aY Tryz.prog bu (Fin [.tmp 2] (Ends (de [bi s] (.t (bo ((s.objs.take 60).all gZ)))))) (.code mN:: .again A::[.blk 0,.code (.seq (.region [⟨some 2,.mv (.const (.bool true)),none⟩]) .ret)]) E1:=by
 have V6:(i=s.objs.length\/i=60)->(s.objs.take 60).all gZ=true:=by
  rintro(h|h)
  .rw[h,akg]at Tt
   rw[ajR]at Tt⊢
   exact fun x hx=>Tt x (akm hx)
  .rw[h]at Tt;exact Tt
 by_cases h3:i=60
 .subst h3
  rw[V6 (.inr rfl)]
  simp[mN,e3,e1,s0]
  repeat'(first|simp[*,s0]|apply aj|(apply aN<;>intro h))
  all_goals exact au rfl
 have k3:i<60:=by omega
 have k3':(i:Int)<60:=by omega
 by_cases h:i<s.objs.length
 .have hx:=ajq h
  obtain⟨x,Tm⟩:∃x,s.objs[i]=x:=⟨_,rfl⟩
  rw[Tm]at hx
  have hw:IntKind.i64.wrap ((i:Int)+1)=((i+1:Nat):Int):=by rw[bx (by omega) (by omega)];omega
  have hs:=FZ (p:=gZ) hx
  by_cases TZ:6000<x.bytes.length
  .have TY:(6000:Int)<x.bytes.length:=by omega
   rw[xO hx k3 (by simp[gZ,TZ])]
   simp[mN,e3,e1,s0]
   repeat'(first|simp[*,s0,h]|apply aj)
   all_goals exact au rfl
  have TY:¬(6000:Int)<x.bytes.length:=by omega
  by_cases Uu:200<x.name.size
  .have YT:(200:Int)<x.name.size:=by omega
   rw[xO hx k3 (by simp[gZ,Uu])]
   simp[mN,e3,e1,s0]
   repeat'(first|simp[*,s0,h]|apply aj)
   all_goals exact au rfl
  have YT:¬(200:Int)<x.name.size:=by omega
  simp[mN,e3,e1,s0]
  repeat'(first|simp[*,s0,h]|apply aj)
  refine hA _ (aH [(.head 1 0,.head 1 0)] rfl rfl ⟨i+1,by omega,by omega,by rw[hs,Tt];simp[gZ,TZ,Uu],?_,?_,?_⟩ ?_)
  all_goals simp[e3,e1,s0]
  all_goals omega
 .rw[V6 (.inl (by omega))]
  simp[mN,e3,e1,s0]
  repeat'(first|simp[*,s0,h]|apply aj)
  all_goals exact au rfl
def Qt(s:aw):aji 40 [bi s] (.t (bo (kR s))):=by
 by_cases k1:60<s.objs.length/\s.objs.length<=1024
 .have hv:kR s=false:=by simp[kR,k1]
  rw[hv]
  obtain⟨a,b⟩:=k1
  have a':(60:Int)<s.objs.length:=by omega
  have b':(s.objs.length:Int)<=1024:=by omega
  refine pu nU rfl ?_
  simp[mO]
  repeat'(first|simp[*]|apply aj)
  all_goals exact au rfl
 by_cases k2:60<s.faults.length/\s.faults.length<=1024
 .have hv:kR s=false:=by simp[kR,k2]
  rw[hv]
  obtain⟨a,b⟩:=k2
  have a':(60:Int)<s.faults.length:=by omega
  have b':(s.faults.length:Int)<=1024:=by omega
  have k1':¬((60:Int)<s.objs.length/\(s.objs.length:Int)<=1024):=by omega
  refine pu nU rfl ?_
  simp[mO]
  repeat'(first|simp[*]|apply aj|((first|apply aN|apply dL)<;>intro h))
  all_goals exact au rfl
 have hv:kR s=(s.objs.take 60).all gZ:=by
  have e1:(decide (60<s.objs.length)&&decide (s.objs.length<=1024))=false:=by simpa using k1
  have e2:(decide (60<s.faults.length)&&decide (s.faults.length<=1024))=false:=by simpa using k2
  unfold kR
  rw[e1,e2]
  rfl
 rw[hv]
 have e1:(s.objs.length<=60/\(s.objs.length:Int)<=60/\¬(60:Int)<s.objs.length)\/(60<s.objs.length/\¬s.objs.length<=1024/\(60:Int)<s.objs.length/\¬(s.objs.length:Int)<=1024):=by omega
 have e2:(s.faults.length<=60/\(s.faults.length:Int)<=60/\¬(60:Int)<s.faults.length)\/(60<s.faults.length/\¬s.faults.length<=1024/\(60:Int)<s.faults.length/\¬(s.faults.length:Int)<=1024):=by omega
 clear k1 k2 hv
 rcases e1 with⟨a1,a2,a3⟩|⟨a1,a2,a3,a4⟩<;>rcases e2 with⟨b1,b2,b3⟩|⟨b1,b2,b3,b4⟩
 .refine pu nU rfl ?_
  simp[mO]
  repeat'(first|simp[*]|apply aj)
  refine ba (fun E=>∃i:Nat,i<=s.objs.length/\i<=60/\(s.objs.take i).all gZ=true/\E.tmps 3= .t (int i)/\E.tmps 1= .ptr (.head 1 0) 0 0/\E.slots (.head 1 0)=some (bA s)) (fun E=>match E.tmps 3 with| .t (.v (.int _ i))=>60-i.toNat|_=>0) [(.loc 1 0,.head 1 0)] rfl ?_ ?_
  .refine⟨0,by omega,by omega,by simp,?_,?_,?_⟩<;>simp
  rintro E1 ⟨i,hi,Yw,Tt,e3,e1,s0⟩ hU hS A hA
  exact tE s i hi Yw Tt E1 e3 e1 s0 hU A hA
 .refine pu nU rfl ?_
  simp[mO]
  repeat'(first|simp[*]|apply aj)
  refine ba (fun E=>∃i:Nat,i<=s.objs.length/\i<=60/\(s.objs.take i).all gZ=true/\E.tmps 3= .t (int i)/\E.tmps 1= .ptr (.head 1 0) 0 0/\E.slots (.head 1 0)=some (bA s)) (fun E=>match E.tmps 3 with| .t (.v (.int _ i))=>60-i.toNat|_=>0) [(.loc 1 0,.head 1 0)] rfl ?_ ?_
  .refine⟨0,by omega,by omega,by simp,?_,?_,?_⟩<;>simp
  rintro E1 ⟨i,hi,Yw,Tt,e3,e1,s0⟩ hU hS A hA
  exact tE s i hi Yw Tt E1 e3 e1 s0 hU A hA
 .refine pu nU rfl ?_
  simp[mO]
  repeat'(first|simp[*]|apply aj)
  refine ba (fun E=>∃i:Nat,i<=s.objs.length/\i<=60/\(s.objs.take i).all gZ=true/\E.tmps 3= .t (int i)/\E.tmps 1= .ptr (.head 1 0) 0 0/\E.slots (.head 1 0)=some (bA s)) (fun E=>match E.tmps 3 with| .t (.v (.int _ i))=>60-i.toNat|_=>0) [(.loc 1 0,.head 1 0)] rfl ?_ ?_
  .refine⟨0,by omega,by omega,by simp,?_,?_,?_⟩<;>simp
  rintro E1 ⟨i,hi,Yw,Tt,e3,e1,s0⟩ hU hS A hA
  exact tE s i hi Yw Tt E1 e3 e1 s0 hU A hA
 .refine pu nU rfl ?_
  simp[mO]
  repeat'(first|simp[*]|apply aj)
  refine ba (fun E=>∃i:Nat,i<=s.objs.length/\i<=60/\(s.objs.take i).all gZ=true/\E.tmps 3= .t (int i)/\E.tmps 1= .ptr (.head 1 0) 0 0/\E.slots (.head 1 0)=some (bA s)) (fun E=>match E.tmps 3 with| .t (.v (.int _ i))=>60-i.toNat|_=>0) [(.loc 1 0,.head 1 0)] rfl ?_ ?_
  .refine⟨0,by omega,by omega,by simp,?_,?_,?_⟩<;>simp
  rintro E1 ⟨i,hi,Yw,Tt,e3,e1,s0⟩ hU hS A hA
  exact tE s i hi Yw Tt E1 e3 e1 s0 hU A hA
def Qu:aji 41 [.agg [int 0,.e0]] (tt true):=by
 have c1:aji 110 [.e0] (.t (int 0)):=by
  refine pu KB rfl ?_
  simp[Ch]
  skip
  refine ba (fun E=>E.tmps 3= .t (int 0)/\E.tmps 7= .t (int 0)/\E.tmps 8= .t (int 0)) (fun _=>0) [] rfl ?_ ?_
  .refine⟨?_,?_,?_⟩<;>simp
  .rintro E1 ⟨e3,e7,e8⟩ hU hS A hA
   simp[Cg,e7,e8]
   try simp[e3,e7,e8]
   skip
   exact au rfl
 refine pu J9 rfl ?_
 simp[BG]
 all_goals try(repeat'(first|((first|refine aj ?_|refine Up c1 rfl ?_)<;>try simp)))
 all_goals exact au rfl
def tF(L:Lg)(m:Mn)(s:aw)(n:ByteArray):Bool:=jt L&&(qq m&&(kR s&&decide (n.size<=200)))
def Qv(L:Lg)(m:Mn)(s:aw)(n:ByteArray):aji 10 [aO L,bh m,bi s,.agg [int 0,.e0],str n] (.t (bo (tF L m s n))):=by
 have c1:=Qr L
 have c2:=Qs m
 have c3:=Qt s
 have c4:=Qu
 unfold tF
 generalize jt L=b1 at*
 generalize qq m=b2 at*
 generalize kR s=b3 at*
 have hs:((n.size:Int)<=200)↔n.size<=200:=by omega
 cases b1<;>cases b2<;>cases b3
 all_goals
  refine pu JY rfl ?_
  simp[Bm]
  repeat'(first|simp[*]|apply aj|refine Up c1 rfl ?_|refine Up c2 rfl ?_|refine Up c3 rfl ?_|refine Up c4 rfl ?_)
  all_goals exact au rfl
def Qw{L:Lg}(h:jt L=true):L.segs.length<=12/\∀s∈L.segs,s.bytes.length<=5000:=by
 unfold jt at h
 rw[ajT,akk,ajR]at h
 refine⟨h.2,fun s hs=>?_⟩
 have ht:L.segs.take 300=L.segs:=aju (by omega)
 have:=h.1 s (by rw[ht];exact hs)
 simpa using this
def oJ(e:Int)(a b:Mn×aw):Mn×aw:=if e=0\/e=140 then a else b
def iZ(L:Lg)(n:ByteArray)(p:Mn×aw):Mn×aw:=oJ (fI L p.1 p.2 n).2.2 ((fI L p.1 p.2 n).1,(fI L p.1 p.2 n).2.1) p
def oK(n:ByteArray)(q:Mn×aw):Mn×aw:=oJ (gX q.1 q.2 n).2.2 ((gX q.1 q.2 n).1,(gX q.1 q.2 n).2.1) q
def l8(L:Lg)(n:ByteArray)(p:Mn×aw):Mn×aw:=
 if(fI L p.1 p.2 n).2.2=140\/(fI L p.1 p.2 n).2.2=211 then oK n (iZ L n p)else iZ L n p
def ju(L:Lg)(n:ByteArray):Nat->Mn×aw->Mn×aw
 |0,p=>p
 |k+1,p=>ju L n k (l8 L n p)
def Qx(m:Mn)(id:Int):(gq m id).1.l.length<=m.l.length:=by
 unfold gq
 split
 .simp[ej]
 split
 .simp[ej]
 split
 .split
  .simp[ej]
  .split
   .simp[ej]
   .simp
 .simp[ej]
def Qy(L:Lg)(m:Mn)(s:aw)(n:ByteArray)(h:m.l.length<=300):(fI L m s n).1.l.length<=300:=by
 have hw:(cm L m s n).1.l.length<=300:=by
  unfold cm
  split
  .exact h
  .rename_i p _
   unfold oD
   split
   .exact h
   .rename_i e1
    have e1:(cI m (dy p.1 p.2)).2.2=0:=Classical.not_not.1 e1
    have hb:=xn e1
    split
    .simp only;omega
    .have:=Qx (cI m (dy p.1 p.2)).1 (cI m (dy p.1 p.2)).2.1
     simp only;omega
 unfold fI
 split
 .simp[ej]
 split
 .exact hw
 .simp[ej]
def Qz(m:Mn)(s:aw)(n:ByteArray)(h:m.l.length<=300):(gX m s n).1.l.length<=300:=by
 have hw:(dH m s n).1.l.length<=300:=by
  unfold dH
  split
  .exact h
  .unfold ir
   split
   .simp[ej]
   .exact akf (aks _ _) h
 unfold gX
 split
 .simp[ej]
 split
 .exact hw
 .simp[ej]
def F0{e:Int}{a b:Mn×aw}(ha:a.1.l.length<=300)(hb:b.1.l.length<=300):(oJ e a b).1.l.length<=300:=by
 unfold oJ
 split
 .exact ha
 .exact hb
def xP(L:Lg)(n:ByteArray)(p:Mn×aw)(h:p.1.l.length<=300):(iZ L n p).1.l.length<=300:=F0 (Qy L p.1 p.2 n h) h
def QA(n:ByteArray)(p:Mn×aw)(h:p.1.l.length<=300):(oK n p).1.l.length<=300:=F0 (Qz p.1 p.2 n h) h
def F1(L:Lg)(n:ByteArray)(p:Mn×aw)(h:p.1.l.length<=300):(l8 L n p).1.l.length<=300:=by
 unfold l8
 split
 .exact QA n _ (xP L n p h)
 .exact xP L n p h
def QB(L:Lg)(s:aw)(n:ByteArray)(k:Nat)(hk:k<=1000)(hn:L.segs.length<=12)(hb:∀s∈L.segs,s.bytes.length<=5000)(hp:n.size<=200):
  aji 26 [aO L,bi s,str n,int k] (.tup [.t (bh (ju L n k (fW,s)).1),.t (bi (ju L n k (fW,s)).2)]):=by
 refine pu J1 rfl ?_
 simp[Bt,jg]
 skip
 refine ba (fun E=>∃(i:Nat) (p:Mn×aw) (y:ab),i<=k/\p.1.l.length<=300/\ju L n k (fW,s)=ju L n (k-i) p/\aE y (.sl 6 (p.1.l.map aW))/\E.tmps 2= .t (str n)/\E.tmps 3= .t (int k)/\E.tmps 11= .t (int i)/\E.tmps 4= .ptr (.head 1 0) 0 0/\E.tmps 5= .ptr (.head 1 1) 0 0/\E.tmps 8= .ptr (.head 1 2) 0 0/\E.tmps 9= .ptr (.head 1 3) 0 0/\E.tmps 10= .ptr (.head 1 4) 0 0/\
   E.slots (.head 1 0)=some (cd L)/\E.slots (.head 1 1)=some (bA p.2)/\E.slots (.head 1 2)=some (.box 27 (.t (.agg [int 0,int 0,.e0])) false)/\E.slots (.head 1 3)=some (.box 31 (.t (.agg [.e0,int 0,.e0])) false)/\E.slots (.head 1 4)=some (.box 27 (.t (.agg [int p.1.ver,int p.1.next,y])) false))
  (fun E=>match E.tmps 11 with| .t (.v (.int _ i))=>k-i.toNat|_=>0) [(.loc 4 0,.head 1 0),(.loc 5 0,.head 1 1),(.loc 8 0,.head 1 2),(.loc 9 0,.head 1 3),(.loc 10 0,.head 1 4)] rfl ?_ ?_
 .refine⟨0,(fW,s),.e0,by omega,by simp[fW],rfl,.nil,?_,?_,?_,?_,?_,?_,?_,?_,?_,?_,?_,?_,?_⟩<;>simp[fW]
 rintro E1 ⟨i,p,y,hi,Wy,U9,hmt,e2,e3,Wd,e4,e5,e8,e9,Vb,s0,s1,s2,s3,s4⟩ hU hS A hA
 have Vu:aE (.agg [int p.1.ver,int p.1.next,y]) (bh p.1):=aE.aggL ⟨.rfl,.rfl,hmt,trivial⟩
 by_cases h:i<k
 .have h':(i:Int)<k:=by omega
  have hw:IntKind.i64.wrap ((i:Int)+1)=((i+1:Nat):Int):=by rw[bx (by omega) (by omega)];omega
  have c1:=nS (ts':=[aO L,.agg [int p.1.ver,int p.1.next,y],bi p.2,str n]) (bE L p.1 p.2 n (by omega) (fun x hx=>by have:=hb x hx;omega) (by omega) (by omega)) ⟨.rfl,Vu,.rfl,.rfl,trivial⟩
  have XD:k-i=(k-(i+1))+1:=by omega
  rw[XD]at U9
  have U9:ju L n k (fW,s)=ju L n (k-(i+1)) (l8 L n p):=U9
  have U2:=F1 L n p Wy
  have V9:l8 L n p=l8 L n p:=rfl
  conv at V9=>rhs;unfold l8
  have Ze:iZ L n p=iZ L n p:=rfl
  conv at Ze=>rhs;unfold iZ oJ
  have c2:=FU (iZ L n p).1 (iZ L n p).2 n (by have:=xP L n p Wy;omega) (by omega)
  have YI:oK n (iZ L n p)=oK n (iZ L n p):=rfl
  conv at YI=>rhs;unfold oK oJ
  generalize l8 L n p=T at*
  generalize oK n (iZ L n p)=TH at*
  generalize iZ L n p=TM at*
  generalize gX TM.1 TM.2 n=HS at*
  generalize fI L p.1 p.2 n=MF at*
  have V4:∀(E':aa) (y':ab),aE y' (.sl 6 (T.1.l.map aW))->E'.tmps 2= .t (str n)->E'.tmps 3= .t (int k)->E'.tmps 11= .t (int (i+1:Nat))->E'.tmps 4= .ptr (.head 1 0) 0 0->E'.tmps 5= .ptr (.head 1 1) 0 0->E'.tmps 8= .ptr (.head 1 2) 0 0->E'.tmps 9= .ptr (.head 1 3) 0 0->E'.tmps 10= .ptr (.head 1 4) 0 0->
    E'.slots (.head 1 0)=some (cd L)->E'.slots (.head 1 1)=some (bA T.2)->E'.slots (.head 1 2)=some (.box 27 (.t (.agg [int 0,int 0,.e0])) false)->E'.slots (.head 1 3)=some (.box 31 (.t (.agg [.e0,int 0,.e0])) false)->E'.slots (.head 1 4)=some (.box 27 (.t (.agg [int T.1.ver,int T.1.next,y'])) false)->A E':=by
   intro E' y' f0 f1 f2 f3 f4 f5 f6 f7 f8 f9 g1 g2 g3 g4
   refine hA E' (aH [(.head 1 0,.head 1 0),(.head 1 1,.head 1 1),(.head 1 2,.head 1 2),(.head 1 3,.head 1 3),(.head 1 4,.head 1 4)] rfl rfl ⟨i+1,T,y',by omega,U2,U9,f0,?_,?_,?_,?_,?_,?_,?_,?_,?_,?_,?_,?_,?_⟩ ?_)
   all_goals simp[*]
   all_goals omega
  by_cases m0:MF.2.2=0
  .rw[if_pos (.inl m0)]at Ze
   rw[if_neg (by rw[m0];decide)]at V9
   subst Ze
   subst V9
   rw[m0]at c1
   simp[jQ,jg,e3,Wd]
   repeat'(first|simp[*,s0,s1,s2,s3,s4,h]|apply aj|refine Up c1 rfl ?_)
   all_goals refine V4 _ _ .rfl ?_ ?_ ?_ ?_ ?_ ?_ ?_ ?_ ?_ ?_ ?_ ?_ ?_
   all_goals simp[*,s0,s1,s2,s3,s4,h]
  by_cases m1:MF.2.2=140
  .rw[if_pos (.inr m1)]at Ze
   rw[if_pos (.inl m1)]at V9
   subst Ze
   subst V9
   rw[m1]at c1
   simp only at c2
   by_cases k0:HS.2.2=0
   .rw[if_pos (.inl k0)]at YI
    subst YI
    rw[k0]at c2
    simp[jQ,jg,e3,Wd]
    repeat'(first|simp[*,s0,s1,s2,s3,s4,h]|apply aj|refine Up c1 rfl ?_|refine Up c2 rfl ?_)
    all_goals refine V4 _ _ .rfl ?_ ?_ ?_ ?_ ?_ ?_ ?_ ?_ ?_ ?_ ?_ ?_ ?_
    all_goals simp[*,s0,s1,s2,s3,s4,h]
   by_cases k1:HS.2.2=140
   .rw[if_pos (.inr k1)]at YI
    subst YI
    rw[k1]at c2
    simp[jQ,jg,e3,Wd]
    repeat'(first|simp[*,s0,s1,s2,s3,s4,h]|apply aj|refine Up c1 rfl ?_|refine Up c2 rfl ?_)
    all_goals refine V4 _ _ .rfl ?_ ?_ ?_ ?_ ?_ ?_ ?_ ?_ ?_ ?_ ?_ ?_ ?_
    all_goals simp[*,s0,s1,s2,s3,s4,h]
   .rw[if_neg (by simp[k0,k1])]at YI
    subst YI
    simp[jQ,jg,e3,Wd]
    repeat'(first|simp[*,s0,s1,s2,s3,s4,h]|apply aj|refine Up c1 rfl ?_|refine Up c2 rfl ?_)
    all_goals refine V4 _ _ .rfl ?_ ?_ ?_ ?_ ?_ ?_ ?_ ?_ ?_ ?_ ?_ ?_ ?_
    all_goals simp[*,s0,s1,s2,s3,s4,h]
  rw[if_neg (by simp[m0,m1])]at Ze
  subst Ze
  by_cases m2:MF.2.2=211
  .rw[if_pos (.inr m2)]at V9
   subst V9
   rw[m2]at c1
   have c3:=nS (ts':=[.agg [int TM.1.ver,int TM.1.next,y],bi TM.2,str n]) c2 ⟨Vu,.rfl,.rfl,trivial⟩
   by_cases k0:HS.2.2=0
   .rw[if_pos (.inl k0)]at YI
    subst YI
    rw[k0]at c3
    simp[jQ,jg,e3,Wd]
    repeat'(first|simp[*,s0,s1,s2,s3,s4,h]|apply aj|refine Up c1 rfl ?_|refine Up c3 rfl ?_)
    all_goals refine V4 _ _ .rfl ?_ ?_ ?_ ?_ ?_ ?_ ?_ ?_ ?_ ?_ ?_ ?_ ?_
    all_goals simp[*,s0,s1,s2,s3,s4,h]
   by_cases k1:HS.2.2=140
   .rw[if_pos (.inr k1)]at YI
    subst YI
    rw[k1]at c3
    simp[jQ,jg,e3,Wd]
    repeat'(first|simp[*,s0,s1,s2,s3,s4,h]|apply aj|refine Up c1 rfl ?_|refine Up c3 rfl ?_)
    all_goals refine V4 _ _ .rfl ?_ ?_ ?_ ?_ ?_ ?_ ?_ ?_ ?_ ?_ ?_ ?_ ?_
    all_goals simp[*,s0,s1,s2,s3,s4,h]
   .rw[if_neg (by simp[k0,k1])]at YI
    subst YI
    simp[jQ,jg,e3,Wd]
    repeat'(first|simp[*,s0,s1,s2,s3,s4,h]|apply aj|refine Up c1 rfl ?_|refine Up c3 rfl ?_)
    all_goals refine V4 _ _ hmt ?_ ?_ ?_ ?_ ?_ ?_ ?_ ?_ ?_ ?_ ?_ ?_ ?_
    all_goals simp[*,s0,s1,s2,s3,s4,h]
  .rw[if_neg (by simp[m1,m2])]at V9
   subst V9
   simp[jQ,jg,e3,Wd]
   repeat'(first|simp[*,s0,s1,s2,s3,s4,h]|apply aj|refine Up c1 rfl ?_)
   all_goals refine V4 _ _ hmt ?_ ?_ ?_ ?_ ?_ ?_ ?_ ?_ ?_ ?_ ?_ ?_ ?_
   all_goals simp[*,s0,s1,s2,s3,s4,h]
 .have TE:i=k:=by omega
  subst TE
  rw[Nat.sub_self]at U9
  have U9:ju L n i (fW,s)=p:=U9
  rw[U9]
  simp[jQ,jg,e3,Wd]
  repeat' simp[*,s0,s1,s2,s3,s4]
  exact lR Vu .rfl
def F2{α:Type}{p:α->Bool}:∀{l:List α} {i:Nat} {x:α},i<(l.takeWhile p).length->l[i]?=some x->p x=true
 |[],i,x,h,_=>by simp at h
 |y::l,i,x,h,hx=>by
  by_cases hy:p y=true
  .rw[List.takeWhile_cons_of_pos hy]at h
   cases i with
   |zero=>simp at hx;subst hx;exact hy
   |succ i=>exact F2 (l:=l) (by simpa using h) (by simpa using hx)
  .rw[List.takeWhile_cons_of_neg hy]at h
   simp at h
def kf(a b:bL)(p:Pc):Bool:=decide (p.state=2)&&(decide (p.base=a.base)&&(decide (p.fin=b.base)&&decide (p.sum=((crcOf a.bytes:Nat):Int))))
def QC{a b:bL}{p:Pc}(h:iT (dy a b.base) p=true):kf a b p=true:=by
 simp[iT,ow,dy,kf]at*
 omega
def F3:∀(l:List (bL×Int)) (s:Int),s<=jZ s l
 |[],s=>Int.le_refl _
 |p::l,s=>by
  have h1:s<=p8 s p.2:=by unfold p8;split<;>omega
  have h2:=F3 l (p8 s p.2)
  have h3:jZ s (p::l)=jZ (p8 s p.2) l:=rfl
  omega
def QD{L:Lg}(h:cj L=0):0<L.segs.length:=by
 unfold cj at h
 split at h
 .cases h
 .rename_i h1
  exact List.length_pos_iff.2 fun h2=>h1 (.inr h2)
def QE{L:Lg}{M:Mn}(h:cj L=0):fS L M<L.segs.length:=by
 have h1:=(List.takeWhile_sublist (l:=dY L.segs) (mZ M)).length_le
 have h2:=ov L.segs
 have h3:=QD h
 unfold fS
 omega
def QF{α:Type}{q:α->Bool}{l:List α}{i:Nat}{x:α}(h:l[i]?=some x):(l.take (i+1)).any q=((l.take i).any q||q x):=by
 rw[List.take_add_one,h,List.any_append]
 simp
def F4(L:Lg)(n:ByteArray):∀(k:Nat) (p:Mn×aw),p.1.l.length<=300->(ju L n k p).1.l.length<=300
 |0,_,h=>h
 |k+1,p,h=>F4 L n k _ (F1 L n p h)
def nk(M:Mn)(a b:bL)(j:Nat):Bool:=(M.l.take j).any (kf a b)
def F5(ts:List ab)(L:Lg)(M:Mn)(hn:L.segs.length<=12)(hb:∀s∈L.segs,s.bytes.length<=5000)(hm:M.l.length<=300)(E:aa):E.tmps 5= .ptr (.loc 5 0) 0 0->E.tmps 9= .ptr (.loc 9 0) 0 0->E.tmps 11=tt true->E.slots (.loc 5 0)=some (cd L)->E.slots (.loc 9 0)=some (bp M)->E.used (.loc 12 0)=false->E.used (.loc 19 0)=false->E.used (.loc 18 0)=false->
  aY Tryz.prog bu (Fin [.tmp 10] (Ends (de ts (tt true)))) [.code ly] E:=by
 intro t5 t9 VE z5 z9 Vr v19 v18
 have c1:=j3 L M (by omega) (fun s hs=>by have:=hb s hs;omega) (by omega)
 have TL:j2 L M=j2 L M:=rfl
 conv at TL=>rhs;unfold j2
 by_cases h0:dx [cj L,bH M]=0
 .rw[if_pos h0]at TL
  have hlg:cj L=0:=xq h0 _ (by simp)
  have hK:=QE (M:=M) hlg
  rw[TL]at c1
  have TT:L.start<=j1 L M:=F3 _ _
  have hIn:∀(i:Nat) (a b:bL),i<fS L M->L.segs[i]?=some a->L.segs[i+1]?=some b->M.l.any (kf a b)=true:=by
   intro i a b hi ha hb
   have h1:=F2 (p:=mZ M) hi (D6 ha hb)
   have h1:M.l.any (iT (dy a b.base))=true:=h1
   rw[List.any_eq_true]at h1⊢
   obtain⟨p,hp,hq⟩:=h1
   exact⟨p,hp,QC hq⟩
  have c2:=Qq ⟨L.limit,j1 L M,L.segs.drop (fS L M)⟩ (by simp;omega)
  generalize fS L M=K at*
  generalize j1 L M=st at*
  have Uv:(L.segs.drop K).length=L.segs.length-K:=by simp
  have k1:¬(L.segs.length:Int)-((L.segs.length-K:Nat):Int)<0:=by omega
  have k2:IntKind.i64.wrap ((L.segs.length:Int)-((L.segs.length-K:Nat):Int))=(K:Int):=by rw[bx (by omega) (by omega)];omega
  have k3:¬L.segs.length-K=0:=by omega
  have k4:¬(K:Int)<0:=by omega
  have k5:¬((L.segs.length-K:Nat):Int)=0:=by omega
  simp[ly]
  try simp[t5,t9,VE,z5,z9,Vr,v19,v18,Uv,k1,k2,k3,k4,k5]
  all_goals try(repeat'(first|((first|refine aj ?_|refine Up c1 rfl ?_)<;>try simp[t5,t9,VE,z5,z9,Vr,v19,v18,Uv,k1,k2,k3,k4,k5])))
  refine ba (fun E=>∃i:Nat,i<=K/\E.tmps 15= .t (int i)/\E.tmps 5= .ptr (.head 1 0) 0 0/\E.tmps 9= .ptr (.head 1 1) 0 0/\E.tmps 12= .ptr (.head 1 2) 0 0/\E.tmps 11=tt true/\E.tmps 14= .t (int K)/\E.slots (.head 1 0)=some (cd L)/\E.slots (.head 1 1)=some (bp M)/\E.slots (.head 1 2)=some (cd ⟨L.limit,st,L.segs.drop K⟩)) (fun E=>match E.tmps 15 with| .t (.v (.int _ i))=>K-i.toNat|_=>0) [(.loc 5 0,.head 1 0),(.loc 9 0,.head 1 1),(.loc 12 0,.head 1 2)] rfl ?_ ?_
  .refine⟨0,by omega,?_,?_,?_,?_,?_,?_,?_,?_,?_⟩<;>simp[t5,t9,VE,z5,z9]
  rintro E1 ⟨i,hi,YX,e5,e9,e12,Wd,YY,s0,s1,s2⟩ hU hS A hA
  by_cases h:i<K
  .have Xc:i<L.segs.length:=by omega
   have Xb:i+1<L.segs.length:=by omega
   have ha:=ajq Xc
   have Y5:=ajq Xb
   obtain⟨a,XF⟩:∃a,L.segs[i]=a:=⟨_,rfl⟩
   obtain⟨b,XZ⟩:∃b,L.segs[i+1]=b:=⟨_,rfl⟩
   rw[XF]at ha
   rw[XZ]at Y5
   have TE:=hIn i a b h ha Y5
   have VB:(i:Int)<L.segs.length:=by omega
   have VA:(i:Int)+1<L.segs.length:=by omega
   have UT:IntKind.i64.wrap ((i:Int)+1)=((i+1:Nat):Int):=by rw[bx (by omega) (by omega)];omega
   have h':(i:Int)<K:=by omega
   have UL:(0:Int)<=(i:Int)+1:=by omega
   have c3:=lL a.bytes (by have:=hb a (XF▸akA Xc);omega)
   simp[vc,YX,YY]
   try simp[YX,e5,e9,e12,Wd,YY,s0,s1,s2,hU,h,h']
   skip
   refine ba (fun E=>∃j:Nat,j<=M.l.length/\E.tmps 16= .t (bo (nk M a b j))/\E.tmps 17= .t (int j)/\E.tmps 15= .t (int i)/\E.tmps 5= .ptr (.head 1 0) 0 0/\E.tmps 9= .ptr (.head 1 1) 0 0/\E.tmps 12= .ptr (.head 1 2) 0 0/\E.tmps 11=tt true/\E.tmps 14= .t (int K)/\E.slots (.head 1 0)=some (cd L)/\E.slots (.head 1 1)=some (bp M)/\E.slots (.head 1 2)=some (cd ⟨L.limit,st,L.segs.drop K⟩)) (fun E=>match E.tmps 17 with| .t (.v (.int _ j))=>M.l.length-j.toNat|_=>0) [(.head 1 0,.head 1 0),(.head 1 1,.head 1 1),(.head 1 2,.head 1 2)] rfl ?_ ?_
   .refine⟨0,by omega,?_,?_,?_,?_,?_,?_,?_,?_,?_,?_,?_⟩<;>simp[nk,YX,e5,e9,e12,Wd,YY,s0,s1,s2]
   rintro E2 ⟨j,hj0,XO,Wz,XP,f5,f9,XR,XS,XQ,s0,s1,s2⟩ Xe hS2 A2 hA2
   clear e5 e9 e12 Wd YY hS
   by_cases hj:j<M.l.length
   .have hx:=ajq hj
    obtain⟨p,XY⟩:∃p,M.l[j]=p:=⟨_,rfl⟩
    rw[XY]at hx
    have Y6:nk M a b (j+1)=(nk M a b j||kf a b p):=QF (q:=kf a b) hx
    have hw:IntKind.i64.wrap ((j:Int)+1)=((j+1:Nat):Int):=by rw[bx (by omega) (by omega)];omega
    have hii:kf a b p=kf a b p:=rfl
    conv at hii=>rhs;unfold kf
    generalize kf a b p=b0 at*
    generalize nk M a b j=aer at*
    generalize crcOf a.bytes=cr at*
    cases aer with
    |true=>
     simp only[Bool.true_or]at Y6
     simp[mK,Wz,f9,s1]
     try simp[f5,f9,XR,XS,XQ,XP,XO,Wz,s0,s1,s2,Xe,hj,XY,hw,UT,Xc,Xb,XF,XZ,VB,VA,UL]
     all_goals try(repeat'(first|(refine aj ?_<;>try simp[f5,f9,XR,XS,XQ,XP,XO,Wz,s0,s1,s2,Xe,hj,XY,hw,UT,Xc,Xb,XF,XZ,VB,VA,UL])))
     refine hA2 _ (aH [(.head 1 0,.head 1 0),(.head 1 1,.head 1 1),(.head 1 2,.head 1 2)] rfl rfl ⟨j+1,by omega,?_,?_,?_,?_,?_,?_,?_,?_,?_,?_,?_⟩ ?_)
     all_goals simp[f5,f9,XR,XS,XQ,XP,XO,Wz,s0,s1,s2,Xe,hj,XY,hw,UT,Xc,Xb,XF,XZ,VB,VA,UL,Y6]
     all_goals omega
    |false=>
    simp only[Bool.false_or]at Y6
    rw[hii]at Y6
    clear hii
    by_cases r1:p.state=2
    .by_cases r2:p.base=a.base
     .by_cases r3:p.fin=b.base
      .simp only[r1,r2,r3,decide_true,Bool.true_and]at Y6
       simp[mK,Wz,f9,s1]
       try simp[f5,f9,XR,XS,XQ,XP,XO,Wz,s0,s1,s2,Xe,hj,XY,hw,UT,Xc,Xb,XF,XZ,VB,VA,UL,r1,r2,r3]
       all_goals try(repeat'(first|((first|refine aj ?_|refine Up c3 rfl ?_)<;>try simp[f5,f9,XR,XS,XQ,XP,XO,Wz,s0,s1,s2,Xe,hj,XY,hw,UT,Xc,Xb,XF,XZ,VB,VA,UL,r1,r2,r3])))
       refine hA2 _ (aH [(.head 1 0,.head 1 0),(.head 1 1,.head 1 1),(.head 1 2,.head 1 2)] rfl rfl ⟨j+1,by omega,?_,?_,?_,?_,?_,?_,?_,?_,?_,?_,?_⟩ ?_)
       all_goals simp[f5,f9,XR,XS,XQ,XP,XO,Wz,s0,s1,s2,Xe,hj,XY,hw,UT,Xc,Xb,XF,XZ,VB,VA,UL,r1,r2,r3,Y6]
       all_goals omega
      .simp only[r1,r2,r3,decide_true,decide_false,Bool.true_and,Bool.false_and]at Y6
       simp[mK,Wz,f9,s1]
       try simp[f5,f9,XR,XS,XQ,XP,XO,Wz,s0,s1,s2,Xe,hj,XY,hw,UT,Xc,Xb,XF,XZ,VB,VA,UL,r1,r2,r3]
       all_goals try(repeat'(first|(refine aj ?_<;>try simp[f5,f9,XR,XS,XQ,XP,XO,Wz,s0,s1,s2,Xe,hj,XY,hw,UT,Xc,Xb,XF,XZ,VB,VA,UL,r1,r2,r3])))
       refine hA2 _ (aH [(.head 1 0,.head 1 0),(.head 1 1,.head 1 1),(.head 1 2,.head 1 2)] rfl rfl ⟨j+1,by omega,?_,?_,?_,?_,?_,?_,?_,?_,?_,?_,?_⟩ ?_)
       all_goals simp[f5,f9,XR,XS,XQ,XP,XO,Wz,s0,s1,s2,Xe,hj,XY,hw,UT,Xc,Xb,XF,XZ,VB,VA,UL,r1,r2,r3,Y6]
       all_goals omega
     .simp only[r1,r2,decide_true,decide_false,Bool.true_and,Bool.false_and]at Y6
      simp[mK,Wz,f9,s1]
      try simp[f5,f9,XR,XS,XQ,XP,XO,Wz,s0,s1,s2,Xe,hj,XY,hw,UT,Xc,Xb,XF,XZ,VB,VA,UL,r1,r2]
      all_goals try(repeat'(first|(refine aj ?_<;>try simp[f5,f9,XR,XS,XQ,XP,XO,Wz,s0,s1,s2,Xe,hj,XY,hw,UT,Xc,Xb,XF,XZ,VB,VA,UL,r1,r2])))
      refine hA2 _ (aH [(.head 1 0,.head 1 0),(.head 1 1,.head 1 1),(.head 1 2,.head 1 2)] rfl rfl ⟨j+1,by omega,?_,?_,?_,?_,?_,?_,?_,?_,?_,?_,?_⟩ ?_)
      all_goals simp[f5,f9,XR,XS,XQ,XP,XO,Wz,s0,s1,s2,Xe,hj,XY,hw,UT,Xc,Xb,XF,XZ,VB,VA,UL,r1,r2,Y6]
      all_goals omega
    .simp only[r1,decide_false,Bool.false_and]at Y6
     simp[mK,Wz,f9,s1]
     try simp[f5,f9,XR,XS,XQ,XP,XO,Wz,s0,s1,s2,Xe,hj,XY,hw,UT,Xc,Xb,XF,XZ,VB,VA,UL,r1]
     all_goals try(repeat'(first|(refine aj ?_<;>try simp[f5,f9,XR,XS,XQ,XP,XO,Wz,s0,s1,s2,Xe,hj,XY,hw,UT,Xc,Xb,XF,XZ,VB,VA,UL,r1])))
     refine hA2 _ (aH [(.head 1 0,.head 1 0),(.head 1 1,.head 1 1),(.head 1 2,.head 1 2)] rfl rfl ⟨j+1,by omega,?_,?_,?_,?_,?_,?_,?_,?_,?_,?_,?_⟩ ?_)
     all_goals simp[f5,f9,XR,XS,XQ,XP,XO,Wz,s0,s1,s2,Xe,hj,XY,hw,UT,Xc,Xb,XF,XZ,VB,VA,UL,r1,Y6]
     all_goals omega
   .have hjl:j=M.l.length:=by omega
    subst hjl
    rw[show nk M a b M.l.length=true by unfold nk;rw[akg];exact TE]at XO
    simp[mK,Wz,f9,s1]
    try simp[f5,f9,XR,XS,XQ,XP,XO,Wz,s0,s1,s2,Xe,UT]
    skip
    refine hA _ (aH [(.head 1 0,.head 1 0),(.head 1 1,.head 1 1),(.head 1 2,.head 1 2)] rfl rfl ⟨i+1,by omega,?_,?_,?_,?_,?_,?_,?_,?_,?_⟩ ?_)
    all_goals simp[f5,f9,XR,XS,XQ,XP,s0,s1,s2,YX]
    all_goals omega
  .have hiK:i=K:=by omega
   subst hiK
   have kle:i<=L.segs.length:=by omega
   have hdm:List.drop i (L.segs.map bF)=(L.segs.drop i).map bF:=by rw[List.map_drop]
   simp[vc,YX,YY]
   try simp[YX,e5,e9,e12,Wd,YY,s0,s1,s2,hU,bt,kle,hdm,TT,<-List.map_drop]
   all_goals try(repeat'(first|((first|refine aj ?_|(refine UV (F:=[]) c2 rfl ?_ ?_;(· simp[YX,e5,e9,e12,Wd,YY,s0,s1,s2,hU,bt,kle,hdm,TT,<-List.map_drop])))<;>try simp[YX,e5,e9,e12,Wd,YY,s0,s1,s2,hU,bt,kle,hdm,TT,<-List.map_drop])))
   exact au (by simp[TT])
 .rw[if_neg h0]at TL
  rw[TL]at c1
  simp[ly]
  try simp[t5,t9,VE,z5,z9,Vr,v19,v18,h0]
  all_goals try(repeat'(first|((first|refine aj ?_|refine Up c1 rfl ?_)<;>try simp[t5,t9,VE,z5,z9,Vr,v19,v18,h0])))
  exact au rfl
def h5(L:Lg)(s:aw)(n:ByteArray)(k:Int)(M:Mn):aji 5 [aO L,bi s,str n,int k,bh M] (tt true):=by
 have c0:=h9
 have c1:=Qv L M s n
 cases hf:tF L M s n with
 |false=>
  rw[hf]at c1
  refine pu o5 rfl ?_
  simp[s5,ly]
  repeat'(first|simp[*]|apply aj|refine Up c0 rfl ?_|refine UV (F:=[]) c1 rfl ?_ ?_)
  exact au rfl
 |true=>
 rw[hf]at c1
 unfold tF at hf
 simp only[ajT,akk]at hf
 obtain⟨f1,f2,f3,f4⟩:=hf
 obtain⟨g1,g2⟩:=Qw f1
 have g3:M.l.length<=300:=by simpa[qq]using f2
 by_cases k1:k<0
 .refine pu o5 rfl ?_
  simp[s5,ly]
  repeat'(first|simp[*]|apply aj|refine Up c0 rfl ?_|refine UV (F:=[]) c1 rfl ?_ ?_)
  exact au rfl
 by_cases k2:12<k
 .refine pu o5 rfl ?_
  simp[s5,ly]
  repeat'(first|simp[*]|apply aj|refine Up c0 rfl ?_|refine UV (F:=[]) c1 rfl ?_ ?_)
  exact au rfl
 by_cases k3:1000<s.calls
 .refine pu o5 rfl ?_
  simp[s5,ly]
  repeat'(first|simp[*]|apply aj|refine Up c0 rfl ?_|refine UV (F:=[]) c1 rfl ?_ ?_)
  exact au rfl
 by_cases k4:0<k
 .obtain⟨kn,rfl⟩:=akp (show 0<=k by omega)
  have c2:=QB L s n kn (by omega) g1 g2 f4
  have Z1:(ju L n kn (fW,s)).1.l.length<=300:=F4 L n kn _ (by simp[fW])
  have k4':0<kn:=by omega
  generalize ju L n kn (fW,s)=P at*
  refine pu o5 rfl ?_
  simp[s5]
  repeat'(first|simp[*]|apply aj|refine Up c0 rfl ?_|refine UV (F:=[]) c1 rfl ?_ ?_|refine Up c2 rfl ?_)
  refine F5 _ L P.1 g1 g2 Z1 _ ?_ ?_ ?_ ?_ ?_ ?_ ?_ ?_<;>simp
 .refine pu o5 rfl ?_
  simp[s5]
  repeat'(first|simp[*]|apply aj|refine Up c0 rfl ?_|refine UV (F:=[]) c1 rfl ?_ ?_)
  refine F5 _ L M g1 g2 g3 _ ?_ ?_ ?_ ?_ ?_ ?_ ?_ ?_<;>simp
end
section
open Go.RowKit Go.ChangeShapes Go.WideShapes Go.Deep Go.Proofs
abbrev fx:Sh:= .int .i64
abbrev xQ:Sh:= .sl false [.int .u8]
abbrev tG:List Sh:=[fx,xQ]
abbrev tH:List Sh:=[fx,fx,fx,fx,.int .u32,fx]
abbrev tJ:List Sh:=[.str,xQ]
abbrev tK:List Sh:=[fx,fx]
def QG:jd Tryz.prog 20 24=some [fx,fx,.sl true tG]:=by kernel_rfl
def QH:jd Tryz.prog 20 27=some [fx,fx,.sl true tH]:=by kernel_rfl
def QI:jd Tryz.prog 20 31=some [.sl true tJ,fx,.sl true tK]:=by kernel_rfl
def cU.int_inv{k:IntKind}{t:ab}(h:cU (.int k) t):∃n,t= .v (.int k n):=by cases h;exact⟨_,rfl⟩
def cU.str_inv{t:ab}(h:cU .str t):∃s,t= .v (.string s):=by cases h;exact⟨_,rfl⟩
def cU.sl_inv{α:Type}{l:List Sh}{t:ab}{f:α->ab}(h:cU (.sl true l) t)(hf:∀cs:List ab,cs.length=l.length->(∀(j:Nat) (s:Sh) (c:ab),l[j]?=some s->cs[j]?=some c->cU s c)->∃x,.agg cs=f x):∃xs:List α,t= .sl l.length (xs.map f):=by
 cases h with
 |sl h0 h1 h2=>
  rename_i ts
  have:∀ts:List ab,(∀t∈ts,t.cells.length=l.length)->(∀t∈ts,if true=true then∃cs,t= .agg cs else t.one=true)->(∀t∈ts,∀(j:Nat) (s:Sh) (c:ab),l[j]?=some s->t.cells[j]?=some c->cU s c)->∃xs:List α,ts=xs.map f:=by
   intro ts
   induction ts with
   |nil=>intros;exact⟨[],rfl⟩
   |cons t ts ih=>
    intro h0 h1 h2
    obtain⟨xs,rfl⟩:=ih (fun t ht=>h0 t (ajW _ ht)) (fun t ht=>h1 t (ajW _ ht)) (fun t ht=>h2 t (ajW _ ht))
    have ha:=h1 t ajK
    rw[if_pos rfl]at ha
    obtain⟨cs,rfl⟩:=ha
    obtain⟨x,hx⟩:=hf cs (h0 _ ajK) (h2 _ ajK)
    exact⟨x::xs,by rw[hx];rfl⟩
  obtain⟨xs,rfl⟩:=this ts h0 h1 h2
  exact⟨xs,rfl⟩
def QJ{t:ab}(h:t.one=true):t.cells=[t]:=by cases t<;>first|rfl|cases h
def cU.by_inv{t:ab}(h:cU xQ t):∃l:Bs,t=aS l:=by
 cases h with
 |sl h0 h1 h2=>
  rename_i ts
  have:∀ts:List ab,(∀t∈ts,if false=true then∃cs,t= .agg cs else t.one=true)->(∀t∈ts,∀(j:Nat) (s:Sh) (c:ab),([.int .u8]:List Sh)[j]?=some s->t.cells[j]?=some c->cU s c)->∃l:Bs,ts=l.map aC:=by
   intro ts
   induction ts with
   |nil=>intros;exact⟨[],rfl⟩
   |cons t ts ih=>
    intro h1 h2
    obtain⟨l,rfl⟩:=ih (fun t ht=>h1 t (ajW _ ht)) (fun t ht=>h2 t (ajW _ ht))
    have ho:t.one=true:=by have:=h1 t ajK;simpa using this
    have hc:=h2 t ajK 0 (.int .u8) t rfl (by rw[QJ ho];rfl)
    cases hc with
    |int hw=>
     rename_i n
     have hn:0<=n/\n<256:=by
      have h5:=(Lit.wf_int_iff .u8 n).1 hw
      have e1:IntKind.u8.min=0:=by decide
      have e2:IntKind.u8.max=255:=by decide
      rw[e1,e2]at h5
      omega
     refine⟨UInt8.ofNat n.toNat::l,?_⟩
     have h3:(UInt8.ofNat n.toNat).toNat=n.toNat:=UInt8.toNat_ofNat_of_lt (by show n.toNat<256;omega)
     have h4:((UInt8.ofNat n.toNat).toNat:Int)=n:=by rw[h3];omega
     rw[ajQ]
     congr 1
     show _=ab.v (.int .u8 ((UInt8.ofNat n.toNat).toNat:Int))
     rw[h4]
  obtain⟨l,rfl⟩:=this ts h1 h2
  exact⟨l,rfl⟩
def xR{l:List ab}(h:l.length=2):∃a b,l=[a,b]:=by
 match l,h with
 |[a,b],_=>exact⟨a,b,rfl⟩
def xS{l:List ab}(h:l.length=3):∃a b c,l=[a,b,c]:=by
 match l,h with
 |[a,b,c],_=>exact⟨a,b,c,rfl⟩
def QK{l:List ab}(h:l.length=6):∃a b c d e f,l=[a,b,c,d,e,f]:=by
 match l,h with
 |[a,b,c,d,e,f],_=>exact⟨a,b,c,d,e,f,rfl⟩
def QL(cs:List ab)(h0:cs.length=tG.length)(h:∀(j:Nat) (s:Sh) (c:ab),tG[j]?=some s->cs[j]?=some c->cU s c):∃x:bL,.agg cs=bF x:=by
 obtain⟨a,b,rfl⟩:=xR h0
 obtain⟨a',rfl⟩:=(h 0 _ _ rfl rfl).int_inv
 obtain⟨b',rfl⟩:=(h 1 _ _ rfl rfl).by_inv
 exact⟨⟨a',b'⟩,rfl⟩
def QM(cs:List ab)(h0:cs.length=tJ.length)(h:∀(j:Nat) (s:Sh) (c:ab),tJ[j]?=some s->cs[j]?=some c->cU s c):∃x:oBj,.agg cs=a0 x:=by
 obtain⟨a,b,rfl⟩:=xR h0
 obtain⟨a',rfl⟩:=(h 0 _ _ rfl rfl).str_inv
 obtain⟨b',rfl⟩:=(h 1 _ _ rfl rfl).by_inv
 exact⟨⟨a',b'⟩,rfl⟩
def QN(cs:List ab)(h0:cs.length=tK.length)(h:∀(j:Nat) (s:Sh) (c:ab),tK[j]?=some s->cs[j]?=some c->cU s c):∃x:cE,.agg cs=bD x:=by
 obtain⟨a,b,rfl⟩:=xR h0
 obtain⟨a',rfl⟩:=(h 0 _ _ rfl rfl).int_inv
 obtain⟨b',rfl⟩:=(h 1 _ _ rfl rfl).int_inv
 exact⟨⟨a',b'⟩,rfl⟩
def QO(cs:List ab)(h0:cs.length=tH.length)(h:∀(j:Nat) (s:Sh) (c:ab),tH[j]?=some s->cs[j]?=some c->cU s c):∃x:Pc,.agg cs=aW x:=by
 obtain⟨a,b,c,d,e,f,rfl⟩:=QK h0
 obtain⟨a',rfl⟩:=(h 0 _ _ rfl rfl).int_inv
 obtain⟨b',rfl⟩:=(h 1 _ _ rfl rfl).int_inv
 obtain⟨c',rfl⟩:=(h 2 _ _ rfl rfl).int_inv
 obtain⟨d',rfl⟩:=(h 3 _ _ rfl rfl).int_inv
 obtain⟨e',rfl⟩:=(h 4 _ _ rfl rfl).int_inv
 obtain⟨f',rfl⟩:=(h 5 _ _ rfl rfl).int_inv
 exact⟨⟨a',b',c',d',e',f'⟩,rfl⟩
section
variable{H:Type}{enc:TypeId×Value->H}{P:Program}{w:World}{base:Nat}
def xT{t:TypeId}{fs:Array Field}{shs:List Sh}{v:Value}{d:DataW H}{p:List MemPlace}(hu:P.underlying t=some (.struct fs))(YJ:jd P 20 t=some shs)(hv:Value.okWide P w .any base t v)(h:DataW.Trod enc P w 0 (fun _=>true) true t v d p):
  ∃ts:List ab,ts.length=shs.length/\(∀(i:Nat) (s:Sh) (c:ab),shs[i]?=some s->ts[i]?=some c->cU s c)/\aM w (fun _=>False) v (.agg ts):=by
 obtain⟨cs,rfl,_⟩:=okWide_struct hu hv
 obtain⟨fuel,h⟩:=h
 have hr:=zS 20 t shs YJ fuel _ _ h
 obtain⟨ts,h1,h2,h3⟩:=hr
 have hcs:(Value.agg cs).cells.toList=cs.toList:=rfl
 refine⟨ts,h2,fun i s c hi hc=>?_,?_⟩
 .obtain⟨v,t',_,q2,_,_,q3⟩:=h3 i s hi
  rw[hc]at q2
  cases q2
  exact q3
 .have e:cs=cs.toList.toArray:=by simp
  rw[e]
  have hl:cs.toList.length=ts.length:=by rw[h2];exact h1
  have each:∀(i:Nat) (v:Value) (t:ab),cs.toList[i]?=some v->ts[i]?=some t->aM w (fun _=>False) v t/\t.one=true:=by
   intro i v t hv ht
   have hi:i<shs.length:=by rw[<-h2];exact(ajs.1 ht).1
   obtain⟨v',t',q1,q2,q3,q4,_⟩:=h3 i _ (ajq hi)
   rw[ht]at q2
   cases q2
   have q1:cs.toList[i]?=some v':=q1
   rw[hv]at q1
   cases q1
   exact⟨q3,q4⟩
  refine .agg hl (fun t ht=>?_) fun i v t hv ht=>(each i v t hv ht).1
  obtain⟨i,hi,rfl⟩:=ajL ht
  exact(each i _ _ (ajq (by omega)) (ajq hi)).2
def QP{v:Value}{d:DataW H}{p:List MemPlace}(hv:Value.okWide Tryz.prog w .any base 24 v)(h:DataW.Trod enc Tryz.prog w 0 (fun _=>true) true 24 v d p):∃L:Lg,aM w (fun _=>False) v (aO L):=by
 obtain⟨ts,h1,h2,h3⟩:=xT (P:=Tryz.prog) (t:=24) (shs:=[fx,fx,.sl true tG]) (base:=base) (v:=v) Tryz.underlying24 QG hv h
 obtain⟨a,b,c,rfl⟩:=xS h1
 obtain⟨a',rfl⟩:=(h2 0 _ _ rfl rfl).int_inv
 obtain⟨b',rfl⟩:=(h2 1 _ _ rfl rfl).int_inv
 obtain⟨l,rfl⟩:=(h2 2 _ _ rfl rfl).sl_inv QL
 exact⟨⟨a',b',l⟩,h3⟩
def QQ{v:Value}{d:DataW H}{p:List MemPlace}(hv:Value.okWide Tryz.prog w .any base 27 v)(h:DataW.Trod enc Tryz.prog w 0 (fun _=>true) true 27 v d p):∃M:Mn,aM w (fun _=>False) v (bh M):=by
 obtain⟨ts,h1,h2,h3⟩:=xT (P:=Tryz.prog) (t:=27) (shs:=[fx,fx,.sl true tH]) (base:=base) (v:=v) Tryz.underlying27 QH hv h
 obtain⟨a,b,c,rfl⟩:=xS h1
 obtain⟨a',rfl⟩:=(h2 0 _ _ rfl rfl).int_inv
 obtain⟨b',rfl⟩:=(h2 1 _ _ rfl rfl).int_inv
 obtain⟨l,rfl⟩:=(h2 2 _ _ rfl rfl).sl_inv QO
 exact⟨⟨a',b',l⟩,h3⟩
def QR{v:Value}{d:DataW H}{p:List MemPlace}(hv:Value.okWide Tryz.prog w .any base 31 v)(h:DataW.Trod enc Tryz.prog w 0 (fun _=>true) true 31 v d p):∃s:aw,aM w (fun _=>False) v (bi s):=by
 obtain⟨ts,h1,h2,h3⟩:=xT (P:=Tryz.prog) (t:=31) (shs:=[.sl true tJ,fx,.sl true tK]) (base:=base) (v:=v) Tryz.underlying31 QI hv h
 obtain⟨a,b,c,rfl⟩:=xS h1
 obtain⟨l,rfl⟩:=(h2 0 _ _ rfl rfl).sl_inv QM
 obtain⟨b',rfl⟩:=(h2 1 _ _ rfl rfl).int_inv
 obtain⟨l',rfl⟩:=(h2 2 _ _ rfl rfl).sl_inv QN
 exact⟨⟨l,b',l'⟩,h3⟩
end
def F6(w:World):Prop:=∀p∈i3,∃cs e fr,w.heap[p.1]?=some (.cells cs e fr)/\p.2 cs
def QS{P:Program}{f:FuncId}{ts:List ab}{x:ab}(h:ao P f ts (.t x)){w:World}(afb:F6 w){vs:List Value}(hl:vs.length=ts.length)(hv:∀(i:Nat) (v:Value) (t:ab),vs[i]?=some v->ts[i]?=some t->aM w (fun _=>False) v t):
  Calls P f vs.toArray w fun e w'=>∃v,e= .returned v/\Below w.heap.size w w'/\∃M,aM w' M v x:=by
 obtain⟨_,h2⟩:=h
 let c:aA:=⟨w,fun _=>False,fun _=>False,0,fun s=>match s with| .glob g=>⟨g,0,0⟩|_=>⟨0,0,0⟩,some 0⟩
 have hM:∀b,¬ae c c.pin (Ct.mk [] (ts.map .t) [] (.t x) [] []).env.slots b:=by
  rintro b (⟨hb,_⟩|⟨s,r,hs,_⟩)
  .exact hb
  .cases s<;>simp[Ct.env,aU]at hs
 refine(h2 c c.pin w vs rfl ⟨ajz _,rfl,rfl,rfl,fun _ _ _=>rfl,fun b hb=>hb.elim,fun s r hs=>?_,fun s s' r r' hs=>?_,fun s _ _=>rfl,fun g=>rfl,fun p hp=>?_⟩ (by simpa using hl) (fun i v d hi hd=>?_)).mono fun e w' ⟨v,he,Z',E',h3,h4,h5⟩=>⟨v,he,⟨h4.os,h4.tape,h4.output,h4.size,fun b hb=>h4.old b hb (fun hx=>hx)⟩,_,h5.t_inv⟩
 .cases s<;>simp[Ct.env,aU]at hs
 .cases s<;>simp[Ct.env,aU]at hs
 .obtain⟨cs,e,fr,g1,g2⟩:=afb p hp
  exact⟨cs,e,fr,g1,g2,fun h=>h,fun h=>h⟩
 .simp only[ajw,ajt]at hd
  obtain⟨t,ht,rfl⟩:=hd
  exact .t ((hv i v t hi ht).mono (ajz _) fun b _ _=>⟨rfl,hM b⟩)
end
end Go.Wt
namespace Go.Wt
open Go.ChangeShapes Go.WideShapes Go.Deep Go.RowKit
section
variable{H:Type}{enc:TypeId×Value->H}{P:Program}
def F7{W W':World}(hl:laidOutB P=true)(hb:Below W.heap.size W W'):∀{ts:List TypeId} {vs:List Value} {ds:List (DataW H)} {ps:List MemPlace},(∀t∈ts,P.readableRec t=true/\t<P.types.size)->
  DataW.TrodAll enc P W 0 (fun _=>true) true ts vs ds ps->(∀x∈ps,x.block<W.heap.size)->DataW.TrodAll enc P W' 0 (fun b=>decide (b<W.heap.size)) true ts vs ds ps
 |[],[],[],_,_,h,_=>h
 |t::ts,v::vs,d::ds,ps,hr,h,hlt=>by
  obtain⟨p,q,h1,h2,rfl⟩:=h
  exact⟨p,q,Below.trod hl (hr t (by simp)).1 (hr t (by simp)).2 h1 hb (fun x hx=>hlt x (by simp[hx])),F7 hl hb (fun t' ht'=>hr t' (by simp[ht'])) h2 (fun x hx=>hlt x (by simp[hx])),rfl⟩
 |[],_::_,_,_,_,h,_=>h.elim
 |[],[],_::_,_,_,h,_=>h.elim
 |_::_,[],_,_,_,h,_=>h.elim
 |_::_,_::_,[],_,_,h,_=>h.elim
def QT{l:List TypeId}(h:(l.all fun t=>P.readableRec t&&decide (t<P.types.size))=true):∀t∈l,P.readableRec t=true/\t<P.types.size:=by
 intro t ht
 have:=List.all_eq_true.1 h t ht
 simpa using this
def QU{H:Type}{enc:TypeId×Value->H}{P:Program}{w:World}{base:Nat}{spare:Nat->Bool}{held:Bool}{t t' t'' t3 t4:TypeId}{args:Array Value}{ds:List (DataW H)}{ps:List MemPlace}(h:DataW.TrodAll enc P w base spare held [t,t',t'',t3,t4] args.toList ds ps):
  ∃v0 v1 v2 v3 v4 d0 d1 d2 d3 d4 p0 p1 p2 p3 p4,args=#[v0,v1,v2,v3,v4]/\ds=[d0,d1,d2,d3,d4]/\ps=p0++p1++p2++p3++p4/\DataW.Trod enc P w base spare held t v0 d0 p0/\DataW.Trod enc P w base spare held t' v1 d1 p1/\DataW.Trod enc P w base spare held t'' v2 d2 p2/\DataW.Trod enc P w base spare held t3 v3 d3 p3/\DataW.Trod enc P w base spare held t4 v4 d4 p4:=by
 obtain⟨v,vs,d,ds1,p,q,hargs,rfl,rfl,hd,hr⟩:=trodAll_cons h
 obtain⟨v1,vs1,d1,ds2,p1,q1,rfl,rfl,rfl,hd1,hr1⟩:=trodAll_cons hr
 obtain⟨v2,vs2,d2,ds3,p2,q2,rfl,rfl,rfl,hd2,hr2⟩:=trodAll_cons hr1
 obtain⟨v3,vs3,d3,ds4,p3,q3,rfl,rfl,rfl,hd3,hr3⟩:=trodAll_cons hr2
 obtain⟨v4,vs4,d4,ds5,p4,q4,rfl,rfl,rfl,hd4,hr4⟩:=trodAll_cons hr3
 obtain⟨rfl,rfl,rfl⟩:=trodAll_nil hr4
 exact⟨v,v1,v2,v3,v4,d,d1,d2,d3,d4,p,p1,p2,p3,p4,by cases args;simp_all,rfl,by simp,hd,hd1,hd2,hd3,hd4⟩
def tL{P:Program}{w:World}{n:String}{g:Nat}{cs:Array Value}(hg:P.globalNamed n=some g)(h:w.var? P n=some cs):∃e fr,w.heap[g]?=some (.cells cs e fr):=by
 simp only[World.var?,hg,Option.bind_some]at h
 split at h
 .rename_i c t fr hb
  cases h
  exact⟨_,_,hb⟩
 .cases h
def QV{H:Type}{enc:TypeId×Value->H}{P:Program}{w:World}{base:Nat}{spare:Nat->Bool}{held:Bool}{fuel:Nat}{t e:TypeId}{n:Nat}{cs:List Value}{x:DataW H×List MemPlace}(ht:P.underlying t=some (.array n e))
  (h:DataW.trod enc P w base spare held fuel t cs=some x):cs.length=P.cellsOf t:=by
 cases fuel with
 |zero=>simp[DataW.trod]at h
 |succ fuel=>
  simp only[DataW.trod,ht]at h
  split at h
  .assumption
  .cases h
end
end Go.Wt
namespace Go.Proofs.YteaimhlobmaghaaGreatDoor
open Go.ChangeShapes Go.WideShapes Go.ChangeAt Go.RowKit Go.Wt
def Tryz.own:ownKnob Tryz.prog.godebug=none:=by kernel_rfl
def Tryz.laidOut:laidOutB Tryz.prog=true:=by kernel_rfl
def qr:List (String×DataW Unit):=[("math/bits.deBruijn32tab",Rows.laid_math_bits_deBruijn32tab),("math/bits.deBruijn64tab",Rows.laid_math_bits_deBruijn64tab),("internal/strconv.uint64pow10",Rows.laid_internal_strconv_uint64pow10),("strconv.ErrRange",Rows.laid_strconv_ErrRange),("strconv.ErrSyntax",Rows.laid_strconv_ErrSyntax),("watermeet/manifest.steps",Rows.laid_watermeet_manifest_steps)]
def F8:Tryz.prog.globalNamed "watermeet/manifest.steps" =some 0:=by kernel_rfl
def QW:(Tryz.prog.globals[0]?).map (·.type)=some 252:=by kernel_rfl
def F9:Tryz.prog.globalNamed "strconv.ErrSyntax" =some 1:=by kernel_rfl
def QX:(Tryz.prog.globals[1]?).map (·.type)=some 213:=by kernel_rfl
def Ga:Tryz.prog.globalNamed "strconv.ErrRange" =some 2:=by kernel_rfl
def QY:(Tryz.prog.globals[2]?).map (·.type)=some 213:=by kernel_rfl
def Gb:Tryz.prog.globalNamed "internal/strconv.uint64pow10" =some 4:=by kernel_rfl
def QZ:(Tryz.prog.globals[4]?).map (·.type)=some 336:=by kernel_rfl
def Q0:Tryz.prog.cellsOf 179=1:=by kernel_rfl
def Q1:Tryz.prog.cellsOf 3=1:=by kernel_rfl
def Q2:Tryz.prog.cellsOf 336=20:=by kernel_rfl
def Gc:Tryz.prog.cellsOf 251=2:=by kernel_rfl
def Q3:Tryz.prog.cellsOf 252=8:=by kernel_rfl
theorem Q4:(Rows.laid_internal_strconv_uint64pow10:DataW Unit)=Lib.tabData .u64 Lib.pow10Tab:=by rfl
def Q5:List (Int×Int):=[(1,2),(1,3),(2,3),(3,4)]
def Q6{W:World}(h:laidMetH Tryz.prog qr W):F6 W:=by
 rw[MakeChecks.laidMetH_plain _ _ _ (by kernel_rfl)]at h
 intro p hp
 simp only[i3,l9,List.map_cons,List.map_nil,List.cons_append,List.nil_append,List.mem_cons,List.not_mem_nil,or_false]at hp
 rcases hp with rfl|rfl|rfl|rfl
 .obtain⟨g,t,cs,fuel,p,hg,ht,hv,hd⟩:=Lib.laidMet.reads h (n:= "watermeet/manifest.steps") (d:=Rows.laid_watermeet_manifest_steps) (.tail _ (.tail _ (.tail _ (.tail _ (.tail _ (.head _))))))
  obtain rfl:=Option.some.inj (F8.symm.trans hg)
  obtain rfl:=Option.some.inj (QW.symm.trans ht)
  obtain⟨e,fr,hb⟩:=tL F8 hv
  have hl:cs.toList.length=8:=by rw[<-Q3];exact QV Tryz.underlying252 hd
  have each:∀(i:Nat) (x:Int×Int),Q5[i]?=some x->(cs.toList.drop (i*2)).take 2=[.int .i64 x.1,.int .i64 x.2]:=by
   intro i x hx
   have hi:i<4:=(List.getElem?_eq_some_iff.1 hx).1
   obtain⟨f',d,q,hds,ht'⟩:=Lib.array_elem Tryz.underlying252 hd i hi
   rw[Gc]at ht'
   have hdx:d=Lib.tabData .i64 [x.1,x.2]:=by
    match i,hx,hds with
    |0,hx,hds=>cases hx;cases hds;rfl
    |1,hx,hds=>cases hx;cases hds;rfl
    |2,hx,hds=>cases hx;cases hds;rfl
    |3,hx,hds=>cases hx;cases hds;rfl
   subst hdx
   exact Lib.cells_of_tab Tryz.underlying251 Tryz.underlying3 Q1 Gc ht'
  refine⟨cs,e,fr,hb,?_⟩
  show cs.toList=_
  have e0:=each 0 _ rfl
  have e1:=each 1 _ rfl
  have e2:=each 2 _ rfl
  have e3:=each 3 _ rfl
  generalize cs.toList=l at hl e0 e1 e2 e3
  match l,hl with
  |[a,b,c,d,e,f,g,i],_=>
   simp only[Nat.zero_mul,List.drop_zero,Nat.one_mul,List.drop_succ_cons,List.take_succ_cons,List.take_zero,Nat.reduceMul,List.cons.injEq,and_true]at e0 e1 e2 e3
   obtain⟨rfl,rfl⟩:=e0
   obtain⟨rfl,rfl⟩:=e1
   obtain⟨rfl,rfl⟩:=e2
   obtain⟨rfl,rfl⟩:=e3
   rfl
 .have h1:laidMet Tryz.prog (("internal/strconv.uint64pow10",Rows.laid_internal_strconv_uint64pow10)::_) W:=(laidMet.tail (laidMet.tail h))
  rw[Q4]at h1
  have h2:=Lib.tabIs_of_head Gb QZ Tryz.underlying336 Tryz.underlying179 Q0 Q2 h1
  obtain⟨e,fr,hb⟩:=tL Gb h2
  refine⟨_,e,fr,hb,?_⟩
  show(List.map (fun z=>Value.int .u64 z) Lib.pow10Tab).toArray.toList=_
  kernel_rfl
 .obtain⟨g,t,cs,fuel,p,hg,ht,hv,hd⟩:=Lib.laidMet.reads h (n:= "strconv.ErrSyntax") (d:=Rows.laid_strconv_ErrSyntax) (.tail _ (.tail _ (.tail _ (.tail _ (.head _)))))
  obtain rfl:=Option.some.inj (F9.symm.trans hg)
  obtain rfl:=Option.some.inj (QX.symm.trans ht)
  obtain⟨e,fr,hb⟩:=tL F9 hv
  obtain⟨l⟩:=cs
  obtain⟨_,u,x,hc,_,_⟩:=iface_of_trod Tryz.underlying213 hd
  have hc:l=[.iface u x]:=hc
  subst hc
  exact⟨_,e,fr,hb,u,x,rfl⟩
 .obtain⟨g,t,cs,fuel,p,hg,ht,hv,hd⟩:=Lib.laidMet.reads h (n:= "strconv.ErrRange") (d:=Rows.laid_strconv_ErrRange) (.tail _ (.tail _ (.tail _ (.head _))))
  obtain rfl:=Option.some.inj (Ga.symm.trans hg)
  obtain rfl:=Option.some.inj (QY.symm.trans ht)
  obtain⟨e,fr,hb⟩:=tL Ga hv
  obtain⟨l⟩:=cs
  obtain⟨_,u,x,hc,_,_⟩:=iface_of_trod Tryz.underlying213 hd
  have hc:l=[.iface u x]:=hc
  subst hc
  exact⟨_,e,fr,hb,u,x,rfl⟩
def Q7(os:Os)(args:Array Value):laidMetH Tryz.prog qr ((World.doorLaid Tryz.prog 600 os).forCall (fun _ _=>0) ⟨#[],args,[]⟩).memory:=
 laidMetH_of_parts3 (fuel:=8) (laidMet_of_run' 8 (by kernel_rfl) (by kernel_rfl)) (by kernel_rfl) (by kernel_rfl)
end Go.Proofs.YteaimhlobmaghaaGreatDoor
namespace Go.Proofs.YteaimhlobmaghaaGreatDoor
open Go.ChangeShapes Go.WideShapes Go.ChangeAt Go.RowKit Go.Wt
def Q8(os:Os)(started:os.Started)(H:Type)(enc:TypeId×Value->H):
  ReturnsInHanded {} Tryz.checked os 5 .any (fun w args=>(Rows.tierWholeSpec.pre enc Tryz.prog Tryz.f5 [] false w args/\laidMetH Tryz.prog qr w)/\sizedMet enc Tryz.prog Tryz.f5 (OpenSpec.ofChange Rows.tierWholeSpec) false w args)
   (Rows.tierWholeSpec.post enc Tryz.prog Tryz.f5 false true false false):=by
 refine returnsInHanded_of_change_and (C:=Tryz.checked) (X:=fun w _=>laidMetH Tryz.prog qr w) (fun _ _ _ hh h=>h.of_heap hh) Tryz.own started (by kernel_rfl) Tryz.func5
  (ChangeSpec.witness_shaped (enc:=enc) (C:=Tryz.checked) (os:=os) (X:=fun w _=>laidMetH Tryz.prog qr w) false (World.doorLaid Tryz.prog 600 os) #[.agg #[.int .i64 0,.int .i64 0,.slice none 0 0],.agg #[.slice none 0 0,.int .i64 0,.slice none 0 0],.string ⟨#[]⟩,.int .i64 0,.agg #[.int .i64 0,.int .i64 0,.slice none 0 0]] 8 rfl (World.shaped_of_RefB (by kernel_rfl) (by kernel_rfl)) (by kernel_rfl) (by kernel_rfl) (by kernel_rfl) (Q7 os _)) ?_
 intro W base args ds gs before hval0 hW _ _ hlaid _
 have hval:∀(j:Nat) t v,Tryz.f5.params[j]?=some t->args[j]?=some v->Value.okWide Tryz.prog W .any base t v:=hval0
 have hW':=hW
 obtain⟨p,q,hA0,hV,rfl,_,_⟩:=hW
 have hA:DataW.TrodAll enc Tryz.prog W 0 (fun _=>true) true Tryz.f5.params.toList args.toList ds p:=hA0
 rw[Tryz.params5]at hA hval
 obtain⟨rfl,rfl⟩:=trodVars_none hV
 clear hA0 hval0
 simp only[List.append_nil]at hW'
 have hlt:∀x∈p,x.block<W.heap.size:=fun x hx=>by simpa using hW'.lt x hx
 have hAk:=hA
 obtain⟨v0,v1,v2,v3,v4,d0,d1,d2,d3,d4,p0,p1,p2,p3,p4,rfl,rfl,rfl,t0,t1,t2,t3,t4⟩:=QU hA
 obtain⟨L,r0⟩:=QP (hval 0 24 v0 rfl rfl) t0
 obtain⟨s,r1⟩:=QR (hval 1 31 v1 rfl rfl) t1
 obtain⟨n,rfl⟩:=okWide_string Tryz.underlying9 (hval 2 9 v2 rfl rfl)
 obtain⟨k,rfl,rfl,rfl,_⟩:=open_int Tryz.underlying3 (hval 3 3 v3 rfl rfl) t3
 obtain⟨M,r4⟩:=QQ (hval 4 27 v4 rfl rfl) t4
 refine(QS (Go.Wt.h5 L s n k M) (Q6 hlaid) (vs:=[v0,v1,.string n,.int .i64 k,v4]) rfl (fun j v t hv ht=>?_)).mono fun e W' ⟨v,he,hb,M',hr⟩=>?_
 .match j,hv,ht with
  |0,hv,ht=>cases hv;cases ht;exact r0
  |1,hv,ht=>cases hv;cases ht;exact r1
  |2,hv,ht=>cases hv;cases ht;exact .v rfl
  |3,hv,ht=>cases hv;cases ht;exact .v rfl
  |4,hv,ht=>cases hv;cases ht;exact r4
  |j+5,hv,_=>cases hv
 have hv:v= .bool true:=by cases hr;rfl
 subst he
 subst hv
 refine⟨_,rfl,_,_,_,[],_,[],hW',?_,F7 Tryz.laidOut hb ?_ hAk hlt,rfl,hb.frame _,fun h=>by cases h⟩
 .exact trodAll_mk1 (shut_bool Tryz.underlying4 true)
 .exact QT (by kernel_rfl)
def td:(Rows.tierWholeRow.inPlace==Tryz.prog.inPlace 5)=true:=by kernel_rfl
def xt:(Rows.tierWholeRow.unfollowed==Tryz.prog.unfollowed 5)=true:=by kernel_rfl
def Q9:(Rows.tierWholeRow.recurses==Tryz.prog.recurses 5)=true:=by kernel_rfl
def Ra:(Rows.tierWholeRow.named==Tryz.prog.varsNamed 5)=true:=by kernel_rfl
def Rb:joinedFacts Tryz.prog 5 Tryz.f5 Rows.tierWholeSpec Rows.tierWholeRow=true:=by
 unfold joinedFacts
 rw[td,xt,Q9,Ra]
 kernel_rfl
def Rd:Rows.TierWholeSaid:=
 OpenClaim.holds_of_wide 5 Tryz.f5 rfl rfl rfl rfl rfl rfl rfl ⟨rfl,rfl,rfl,rfl,rfl⟩ rfl rfl rfl rfl rfl (by kernel_rfl) Tryz.func5 Rb
  (of_decide_eq_true (by kernel_rfl)) (by unfold Func.isWrapper;first|(rw[if_pos (by decide+kernel)];kernel_rfl)|(rw[if_neg (by decide+kernel)];exact⟨rfl,rfl⟩))
  (fun os started H enc _=>Q8 os started H enc)
end Go.Proofs.YteaimhlobmaghaaGreatDoor
