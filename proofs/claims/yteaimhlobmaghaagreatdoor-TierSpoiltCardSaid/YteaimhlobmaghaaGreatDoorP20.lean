/- A part of the proof of a tier statement (the last text closes it): lemmas without condition. -/
import Derived.Test.YteaimhlobmaghaaGreatDoorP19
set_option linter.all false
set_option maxRecDepth 10000000
set_option maxHeartbeats 0
namespace Go.Wt
section
open Go.RowKit Go.Proofs Go.Lib Go.Wm
def Nq(l:List ab):ajk 125 ⟨[],[.t (.sl 6 l)],[],.xs 6 l,[],[]⟩:=by
 refine aJ KP rfl ?_
 simp[Cy]
 repeat' simp[*,nl,DV.isE0]
 exact ug [] rfl (by simp[*]) .rfl
def gS{a b:ab}:aE (.agg [a,b,.e0]) (.agg [a,b,.sl 6 []]):=aE.aggL ⟨.rfl,.rfl,.nil,trivial⟩
def j7{E:aa}{ts:List ab}{x x' y y' z z':ab}(hx:aE x x')(hy:aE y y')(hz:aE z z'):Ends (de ts (.tup [.t x',.t y',.t z'])) (.tup [.t x,.t y,.t z]) E:=by
 refine jP ?_
 show bZ (.tup [E.out1 [] (.t x),E.out1 [] (.t y),E.out1 [] (.t z)]) _
 rw[bn,bn,bn]
 exact .tup3 (.t hx) (.t hy) (.t hz)
def Nr{E:aa}{ts:List ab}{ds:List DV}{x x' y y' z z':ab}{rd:List Nm}(hv:E.view (.agg ds)=some (x,rd))(hx:aE x x')(hy:aE y y')(hz:aE z z'):Ends (de ts (.tup [.t x',.t y',.t z'])) (.tup [.agg ds,.t y,.t z]) E:=by
 refine jP ?_
 show bZ (.tup [E.out1 [] (.agg ds),E.out1 [] (.t y),E.out1 [] (.t z)]) _
 rw[dp hv,bn,bn]
 exact .tup3 (.t hx) (.t hy) (.t hz)
def ej:Mn:=⟨0,0,[]⟩
def s7{n:Int}(h:dO n=false):0<=n/\n<=1099511627776:=by
 simp[dO]at h
 omega
def iU{m:Mn}(h:bH m=0):0<=m.ver/\m.ver<=1099511627776/\0<=m.next/\m.next<=1099511627776/\m.l.length<=256/\gP m.next (-1) 0 true m.l=true:=by
 unfold bH at h
 split at h
 .cases h
 split at h
 .cases h
 split at h
 .cases h
 split at h
 .cases h
 rename_i h1 h2 h3 h4
 have h1:=s7 (by simpa using h1)
 have h2:=s7 (by simpa using h2)
 exact⟨h1.1,h1.2,h2.1,h2.2,by omega,by simpa using h3⟩
def qc(m:Mn)(base fin size:Int):Int:=
 if bH m≠0 then bH m
 else if dO base=true then 1 else if dO fin=true then 1 else if dO size=true then 1 else if fin<=base then 1
 else if m.l.any (fR 1)=true then 211
 else if base<(lU m.l).2 then 71
 else if m.l.length=256 then 2 else if m.ver=1099511627776 then 2 else if m.next=1099511627776 then 2 else 0
def j8(m:Mn)(base fin size sum:Int):Mn×Int×Int:=if qc m base fin size=0 then(⟨m.ver+1,m.next+1,m.l++[⟨m.next,base,fin,size,sum,1⟩]⟩,m.next,0)else(ej,0,qc m base fin size)
def En(m:Mn)(base fin size sum:Int)(hl:m.l.length<=1000000):aji 51 [bh m,int base,int fin,int size,eN sum] (.tup [.t (bh (j8 m base fin size sum).1),.t (int (j8 m base fin size sum).2.1),.t (int (j8 m base fin size sum).2.2)]):=by
 have c1:=lQ m hl
 have c2:=kG base
 have c3:=kG fin
 have c4:=kG size
 have c5:=qb m hl
 have c6:=DX 1
 have c7:=L7 1 m.l hl
 have c8:=Nq (m.l.map aW)
 have hv:j8 m base fin size sum=j8 m base fin size sum:=rfl
 conv at hv=>rhs;unfold j8 qc
 generalize j8 m base fin size sum=r at*
 have hme:bH m=0->True->0<=m.ver/\m.ver<=1099511627776/\0<=m.next/\m.next<=1099511627776/\m.l.length<=256:=fun h _=>⟨(iU h).1,(iU h).2.1,(iU h).2.2.1,(iU h).2.2.2.1,(iU h).2.2.2.2.1⟩
 generalize bH m=me at*
 generalize dO base=b1 at*
 generalize dO fin=b2 at*
 generalize dO size=b3 at*
 generalize lU m.l=sp at*
 generalize m.l.any (fR 1)=a at*
 by_cases h0:me=0
 .subst h0
  refine pu BP rfl ?_
  simp[vL,vK]
  simp only[ne_eq,akB,ajS]at hv
  have Xl:m.l.length+1<=100000000:=by omega
  obtain⟨TZ,Uu,Wu,Vh,_⟩:=hme rfl trivial
  have U5:IntKind.i64.wrap (m.ver+1)=m.ver+1:=bx (by omega) (by omega)
  have Ui:IntKind.i64.wrap (m.next+1)=m.next+1:=bx (by omega) (by omega)
  try simp[aB,aa.more,LIM,az,ax,hl,Xl,U5,Ui]
  all_goals try(repeat'(first|((first|refine aj ?_|refine Up c1 rfl ?_|refine Up c2 rfl ?_|refine Up c3 rfl ?_|refine Up c4 rfl ?_|refine Up c5 rfl ?_|(refine jO (ts:=[int 1]) (F:=[]) c6 (fun _=>rfl) (by simp;done) (by simp;done) ?_;simp)|(refine UR (S:=[.loc 47 0]) c7 ?_ ?_;(· simp[aB,aa.more,LIM,az,ax,hl,Xl,U5,Ui]))|(refine UR (S:=[]) c8 ?_ ?_;(· simp[aB,aa.more,LIM,az,ax,hl,Xl,U5,Ui])))<;>try simp[aB,aa.more,LIM,az,ax,hl,Xl,U5,Ui])|((first|apply aN|apply dL|apply uY|apply kq)<;>intro h<;>try simp[aB,aa.more,LIM,az,ax,hl,Xl,U5,Ui,h])))
  all_goals clear c1 c2 c3 c4 c5 c6 c7 c8 hme
  all_goals first
   |(simp only[*,if_true,ajS,ajU]at hv;subst hv;exact j7 gS .rfl .rfl)
   |(simp only[*,if_true,ajS,ajU,ite_self,if_neg (show¬(2:Int)=0 by omega),if_neg (show¬(1:Int)=0 by omega),if_neg (show¬(71:Int)=0 by omega),if_neg (show¬(211:Int)=0 by omega)]at hv;subst hv;exact j7 gS .rfl .rfl)
   |(have hn:m.l.length=256:=by omega
     simp only[*,if_true,ajS,ajU,ite_self,if_neg (show¬(2:Int)=0 by omega)]at hv;subst hv;exact j7 gS .rfl .rfl)
   |(have hn:¬m.l.length=256:=by omega
     have TD:List.take (m.l.length+1) (m.l.map aW++[aW ⟨m.next,base,fin,size,sum,1⟩])=m.l.map aW++[aW ⟨m.next,base,fin,size,sum,1⟩]:=aju (by simp)
     simp only[*,if_true,ajS,ajU]at hv;subst hv
     refine Nr (x:=bh ⟨m.ver+1,m.next+1,m.l++[⟨m.next,base,fin,size,sum,1⟩]⟩) (rd:=[.loc 83 0]) ?_ .rfl .rfl .rfl
     simp;exact TD)
 .refine pu BP rfl ?_
  simp[vL,vK]
  try simp[h0]
  all_goals try(repeat'(first|(refine Up c1 rfl ?_<;>try simp[h0])))
  simp[h0]at hv
  subst hv
  all_goals exact j7 gS .rfl .rfl
abbrev xd:List ab:=[.agg [int 1,int 2],.agg [int 1,int 3],.agg [int 2,int 3],.agg [int 3,int 4]]
def jq(s a b:Int)(r:Bool):Prop:=aX Tryz.prog .eql 251 (.tmp 11) (.tmp 15) (.t (.agg [int s,int 2])) (.t (.agg [int a,int b]))=val (.t (.v (.bool r)))
def Ns:jq 1 1 2 true/\(jq 2 1 2 false/\jq 2 1 3 false/\jq 2 2 3 false/\jq 2 3 4 false)/\(jq 3 1 2 false/\jq 3 1 3 false/\jq 3 2 3 false/\jq 3 3 4 false):=
 by unfold jq;exact⟨by kernel_rfl,⟨by kernel_rfl,by kernel_rfl,by kernel_rfl,by kernel_rfl⟩,by kernel_rfl,by kernel_rfl,by kernel_rfl,by kernel_rfl⟩
def Nt(s:Int)(hs:s=1\/s=2\/s=3):aji 256 [.sl 2 xd,.agg [int s,int 2]] (.t (int (if s=1 then 0 else-1))):=by
 refine pu JE rfl ?_
 simp[AW]
 refine ba (fun E=>∃i:Nat,i<=4/\(0<i->s≠1)/\E.tmps 8= .t (int i)/\E.tmps 7= .t (int 4)/\E.tmps 0= .t (.sl 2 xd)/\E.tmps 3= .ptr (.head 3 0) 0 0/\E.slots (.head 3 0)=some (.box 251 (.t (.agg [int s,int 2])) false)) (fun E=>match E.tmps 8 with| .t (.v (.int _ i))=>4-i.toNat|_=>0) [(.loc 3 0,.head 3 0)] rfl ?_ ?_
 .exact⟨0,by omega,by omega,by simp,by simp,by simp,by simp,by simp⟩
 rintro E1 ⟨i,hi,h1,e8,e7,e0,e3,s0⟩ hU hS A hA
 have hi:i=0\/i=1\/i=2\/i=3\/i=4:=by omega
 have q:=Ns
 simp only[jq]at q
 rcases hs with rfl|rfl|rfl<;>rcases hi with rfl|rfl|rfl|rfl|rfl
 all_goals try(exact absurd rfl (h1 (by omega)))
 all_goals simp[*,AV,s0]
 all_goals first
  |(refine au ?_;simp;done)
  |(refine hA _ (aH [(.head 3 0,.head 3 0)] rfl rfl ⟨1,by omega,by omega,?_,?_,?_,?_,?_⟩ ?_)<;>simp[*,s0];done)
  |(refine hA _ (aH [(.head 3 0,.head 3 0)] rfl rfl ⟨2,by omega,by omega,?_,?_,?_,?_,?_⟩ ?_)<;>simp[*,s0];done)
  |(refine hA _ (aH [(.head 3 0,.head 3 0)] rfl rfl ⟨3,by omega,by omega,?_,?_,?_,?_,?_⟩ ?_)<;>simp[*,s0];done)
  |(refine hA _ (aH [(.head 3 0,.head 3 0)] rfl rfl ⟨4,by omega,by omega,?_,?_,?_,?_,?_⟩ ?_)<;>simp[*,s0];done)
def Nu(s:Int)(hs:s=1\/s=2\/s=3):aji 212 [.sl 2 xd,.agg [int s,int 2]] (tt (decide (s=1))):=by
 have c1:=Nt s hs
 refine pu Jk rfl ?_
 simp[Av]
 repeat'(first|simp[*]|refine Up c1 rfl ?_)
 refine au ?_
 rcases hs with rfl|rfl|rfl<;>simp
def gq(m:Mn)(id:Int):Mn×Int:=
 if bH m≠0 then(ej,bH m)
 else if bf (eT id) m.l<0 then(ej,150)
 else match m.l[(bf (eT id) m.l).toNat]? with
 |some p=>if p.state≠1 then(ej,150)else if m.ver=1099511627776 then(ej,2)else(⟨m.ver+1,m.next,m.l.set (bf (eT id) m.l).toNat {p with state:=2}⟩,0)
 |none=>(ej,150)
def Nv{next last en:Int}{op:Bool}{l:List Pc}(h:gP next last en op l=true):∀p∈l,p.state=1\/p.state=2\/p.state=3:=by
 induction l generalizing last en op with
 |nil=>simp
 |cons x l ih=>
  unfold gP at h
  intro p hp
  repeat' split at h
  all_goals first
   |cases h;done
   |(rcases akc.1 hp with rfl|hp
     .simp[*]
     .exact ih h p hp)
def qd{E:aa}{ds:List DV}{d d':DV}(h:bZ (E.outD [] d') d):Ends ⟨[],ds,[],d,[],[]⟩ d' E:= .inr (.inr ⟨[],rfl,by rw[rk,rl _ rfl rfl],h⟩)
def iV{E:aa}{ds:List DV}{x x' y y':ab}(hx:aE x x')(hy:aE y y'):Ends ⟨[],ds,[],.tup [.t x',.t y'],[],[]⟩ (.tup [.t x,.t y]) E:=by
 refine qd ?_
 show bZ (.tup [E.out1 [] (.t x),E.out1 [] (.t y)]) _
 rw[bn,bn]
 exact .tup2 (.t hx) (.t hy)
def Eo{E:aa}{ds es:List DV}{x x' y y':ab}{rd:List Nm}(hv:E.view (.agg es)=some (x,rd))(hx:aE x x')(hy:aE y y'):Ends ⟨[],ds,[],.tup [.t x',.t y'],[],[]⟩ (.tup [.agg es,.t y]) E:=by
 refine qd ?_
 show bZ (.tup [E.out1 [] (.agg es),E.out1 [] (.t y)]) _
 rw[dp hv,bn]
 exact .tup2 (.t hx) (.t hy)
def oB{E:aa}{s:Nm}{n:Nat}{x:ab}{rd:List Nm}(hv:E.view (.osl s n)=some (x,rd)):E.out1 [] (.osl s n)= .t x:=by
 have Tt:rd.all (fun s=>(([]:List (Nm×Nm)).lookup s).isNone)=true:=by simp[ajR]
 show(match E.view (.osl s n)with|some (x,rd)=>if rd.all (fun s=>(([]:List (Nm×Nm)).lookup s).isNone)=true then DV.t x else(DV.osl s n).ren []|none=>(DV.osl s n).ren [])=_
 rw[hv]
 simp only[Tt,if_true]
def j9{E:aa}{ds:List DV}{d1 d2:DV}{x x' y y':ab}(h1:E.out1 [] d1= .t x)(h2:E.out1 [] d2= .t y)(hx:aE x x')(hy:aE y y'):Ends ⟨[],ds,[],.tup [.t x',.t y'],[],[]⟩ (.tup [d1,d2]) E:=by
 refine qd ?_
 show bZ (.tup [E.out1 [] d1,E.out1 [] d2]) _
 rw[h1,h2]
 exact .tup2 (.t hx) (.t hy)
def gr{E:aa}{ds:List DV}{d1 d2 d3:DV}{x x' y y' z z':ab}(h1:E.out1 [] d1= .t x)(h2:E.out1 [] d2= .t y)(h3:E.out1 [] d3= .t z)(hx:aE x x')(hy:aE y y')(hz:aE z z'):Ends ⟨[],ds,[],.tup [.t x',.t y',.t z'],[],[]⟩ (.tup [d1,d2,d3]) E:=by
 refine qd ?_
 show bZ (.tup [E.out1 [] d1,E.out1 [] d2,E.out1 [] d3]) _
 rw[h1,h2,h3]
 exact .tup3 (.t hx) (.t hy) (.t hz)
def ip:oO 4 2 true (.global 0)=val (.t (.sl 2 [.agg [int 1,int 2],.agg [int 1,int 3],.agg [int 2,int 3],.agg [int 3,int 4]])):=by
 first|rfl|simp[oO,l9,ax,LIM,b8,cB]
def Nw(n:Int):aji 132 [int n] (tt true):=by
 refine pu KT rfl ?_
 simp[CE]
 skip
 all_goals exact au rfl
def Nx(m:Mn)(id:Int)(hl:m.l.length<=1000000):ajn 131 [.t (bh m),.t (int id),.t (int 2),.fn 132 []] (.tup [.t (bh (gq m id).1),.t (int (gq m id).2)]):=by
 have c1:=lQ m hl
 have c2:=MX id m.l hl
 have hme:bH m=0->True->0<=m.ver/\m.ver<=1099511627776/\∀p∈m.l,p.state=1\/p.state=2\/p.state=3:=fun h _=>⟨(iU h).1,(iU h).2.1,Nv (iU h).2.2.2.2.2⟩
 have UA:=lw (eT id) m.l
 have hv:gq m id=gq m id:=rfl
 conv at hv=>rhs;unfold gq
 generalize gq m id=r at*
 generalize bH m=me at*
 generalize bf (eT id) m.l=ix at*
 refine lH KS rfl ?_
 by_cases h0:me=0
 .subst h0
  obtain⟨TZ,Uu,TT⟩:=hme rfl trivial
  simp only[ne_eq,akB,ajS]at hv
  by_cases hi:ix<0
  .rw[if_pos hi]at hv
   subst hv
   simp[nY,bR]
   try simp[bR,hi]
   all_goals try(repeat'(first|((first|refine aj ?_|refine Up c1 rfl ?_|(refine UR (S:=[.loc 5 0]) c2 ?_ ?_;(· simp[bR,hi])))<;>try simp[bR,hi])))
   all_goals exact iV gS .rfl
  .rw[if_neg hi]at hv
   obtain⟨i,rfl⟩:=akp (show 0<=ix by omega)
   have TC:i<m.l.length:=by omega
   have hx:=ajq TC
   obtain⟨x,Tm⟩:∃x,m.l[i]=x:=⟨_,rfl⟩
   rw[Tm]at hx
   simp only[akl,hx]at hv
   have c3:=Nu x.state (TT x (Tm▸akA TC))
   have c4:=Nw i
   by_cases h1:x.state=1
   .rw[if_neg (by simp[h1])]at hv
    rw[h1]at c3
    by_cases h2:m.ver=1099511627776
    .rw[if_pos h2]at hv
     subst hv
     simp[nY,bR]
     try simp[bR,hi,TC,Tm,h1,h2,ip]
     all_goals try(repeat'(first|((first|refine aj ?_|refine Up c1 rfl ?_|(refine UV (F:=[]) c3 rfl ?_ ?_;(· simp[bR,hi,TC,Tm,h1,h2,ip]))|refine Up c4 rfl ?_|(refine UR (S:=[.loc 5 0]) c2 ?_ ?_;(· simp[bR,hi,TC,Tm,h1,h2,ip])))<;>try simp[bR,hi,TC,Tm,h1,h2,ip])))
     all_goals exact iV gS .rfl
    .rw[if_neg h2]at hv
     have c5:=Ed m.l (by simp only[LIM];omega)
     have U5:IntKind.i64.wrap (m.ver+1)=m.ver+1:=bx (by omega) (by omega)
     have VX:∀t:ab,t=aW {x with state:=2}->(m.l.map aW).set i t=(m.l.set i {x with state:=2}).map aW:=fun t ht=>by rw[ht,List.map_set]
     simp[nY,CD,bR]
     try simp[bR,hi,TC,Tm,h1,h2,U5,ip]
     all_goals try(repeat'(first|((first|refine aj ?_|refine Up c1 rfl ?_|(refine UV (F:=[]) c3 rfl ?_ ?_;(· simp[bR,hi,TC,Tm,h1,h2,U5,ip]))|refine Up c4 rfl ?_|(refine UR (S:=[.loc 5 0]) c2 ?_ ?_;(· simp[bR,hi,TC,Tm,h1,h2,U5,ip]))|(refine UN (F:=[]) c5 ?_ ?_;(· simp[bR,hi,TC,Tm,h1,h2,U5,ip])))<;>try simp[bR,hi,TC,Tm,h1,h2,U5,ip])))
     subst hv
     refine Eo (x:=bh ⟨m.ver+1,m.next,m.l.set i {x with state:=2}⟩) (rd:=[.loc 51 0]) ?_ .rfl .rfl
     simp
     exact aju (by simp)
   .rw[if_pos h1]at hv
    subst hv
    simp[nY,bR]
    try simp[bR,hi,TC,Tm,h1,ip]
    all_goals try(repeat'(first|((first|refine aj ?_|refine Up c1 rfl ?_|(refine UV (F:=[]) c3 rfl ?_ ?_;(· simp[bR,hi,TC,Tm,h1,ip]))|(refine UR (S:=[.loc 5 0]) c2 ?_ ?_;(· simp[bR,hi,TC,Tm,h1,ip])))<;>try simp[bR,hi,TC,Tm,h1,ip])))
    all_goals exact iV gS .rfl
 .rw[if_pos h0]at hv
  subst hv
  simp[nY,bR]
  try simp[bR,h0]
  all_goals try(repeat'(first|(refine Up c1 rfl ?_<;>try simp[bR,h0])))
  all_goals exact iV gS .rfl
def Ep(m:Mn)(id:Int)(hl:m.l.length<=1000000):aji 55 [bh m,int id] (.tup [.t (bh (gq m id).1),.t (int (gq m id).2)]):=by
 have c1:=Nx m id hl
 generalize gq m id=r at*
 refine pu Kg rfl ?_
 simp[BS]
 repeat'(first|simp[*]|refine UR (S:=[]) c1 ?_ ?_)
 all_goals exact kr rfl rfl
def dF(p:ByteArray)(id:Int):ByteArray:=(p++⟨#[45]⟩)++oA id
def fU(s:aw)(b:Bool):Int:=if bP s≠0 then bP s else if b=false then 1 else 0
def s8(s:aw)(b:Bool)(h1:s.objs.length<=1000000)(h2:s.faults.length<=1000000):aji 91 [bi s,bo b] (.t (int (fU s b))):=by
 have c1:=Eb s h1 h2
 unfold fU
 generalize bP s=e at*
 by_cases he:e=0
 .subst he
  cases b
  .refine pu vV rfl ?_
   simp[rT]
   repeat'(first|simp[*]|refine Up c1 rfl ?_)
   all_goals exact au rfl
  .refine pu vV rfl ?_
   simp[rT]
   repeat'(first|simp[*]|refine Up c1 rfl ?_)
   all_goals exact au rfl
 .refine pu vV rfl ?_
  simp[rT]
  repeat'(first|simp[*]|refine Up c1 rfl ?_)
  all_goals exact au rfl
def fG:aw:=⟨[],0,[]⟩
def iq{a:ab}:aE (.agg [.e0,a,.e0]) (.agg [.sl 2 [],a,.sl 2 []]):=aE.aggL ⟨.nil,.rfl,.nil,trivial⟩
def lW{s:aw}(h:bP s=0):s.objs.length<=1024/\s.faults.length<=1024/\0<=s.calls/\s.calls<1099511627776/\((List.range s.objs.length).all (io s.objs))=true:=by
 unfold bP at h
 split at h
 .cases h
 split at h
 .cases h
 split at h
 .cases h
 split at h
 .cases h
 split at h
 .cases h
 split at h
 .cases h
 rename_i g1 g2 g3 g4 g5 g6
 exact⟨by omega,by omega,by omega,by omega,by simpa using g6⟩
def qe{s:aw}{b:Bool}(h:fU s b=0):bP s=0/\b=true:=by
 unfold fU at h
 split at h
 .exact absurd h ‹_›
 split at h
 .cases h
 exact⟨by simpa using‹¬bP s≠0›,by simpa using‹¬b=false›⟩
def dz(s:aw):aw:=⟨s.objs,s.calls+1,s.faults⟩
def ta(b:Bs):Bs:=match b[b.length/2]? with|some x=>b.set (b.length/2) (x^^^255)|none=>b
def qf(l:List oBj)(n:ByteArray):Bs:=match l[cA l n]? with|some o=>o.bytes|none=>[]
def kL(s:aw)(n:ByteArray):aw×Bs×Int:=
 if fU s (dX n)≠0 then(fG,[],fU s (dX n))
 else if cV s=1 then(dz s,[],140)else if cV s=2 then(dz s,[],140)
 else if dq s.objs n=false then(dz s,[],141)
 else(dz s,if cV s=3 then ta (qf s.objs n)else qf s.objs n,0)
def Ny(x:UInt8):bits .xor .u8 (x.toNat:Int) 255=((x^^^255).toNat:Int):=by
 have h:(List.range 256).all (fun n=>decide (bits .xor .u8 (n:Int) 255=((UInt8.ofNat n^^^255).toNat:Int)))=true:=by kernel_rfl
 have:=ajR.1 h x.toNat (List.mem_range.2 x.toNat_lt)
 simpa using this
def Nz{s:aw}(h:bP s=0)(n:ByteArray):(qf s.objs n).length<=8192:=by
 unfold qf
 cases hx:s.objs[cA s.objs n]? with
 |none=>simp
 |some o=>
  have hi:=(ajs.1 hx).1
  have:=(lW h).2.2.2.2
  rw[ajR]at this
  have:=this (cA s.objs n) (List.mem_range.2 hi)
  unfold io at this
  rw[hx]at this
  simp at this
  exact this.2.2
def Er(s:aw)(n:ByteArray)(h1:s.objs.length<=1000000)(h2:s.faults.length<=1000000):aji 29 [bi s,str n] (.tup [.t (bi (kL s n).1),.t (aS (kL s n).2.1),.t (int (kL s n).2.2)]):=by
 have c1:=sO n
 have c2:=s8 s (dX n) h1 h2
 have Uf:=fun h=>qe (s:=s) (b:=dX n) h
 have Vt:List.take s.objs.length (s.objs.map a0)=s.objs.map a0:=aju (by simp)
 have UJ:List.take s.faults.length (s.faults.map bD)=s.faults.map bD:=aju (by simp)
 unfold kL
 generalize dX n=nb at*
 generalize fU s nb=me at*
 by_cases h0:me=0
 .subst h0
  obtain⟨WQ,rfl⟩:=Uf rfl
  obtain⟨_,_,g3,g4,_⟩:=lW WQ
  have hob:=Nz WQ n
  have c3:=sX s h1 h2 g3 g4
  have c4:=fun f=>sW s.objs s.faults (s.calls+1) f n h1
  simp only[ne_eq,akB,ajS]
  generalize cV s=fa at*
  have c4:=c4 fa
  have TF:List.range 3=[0,1,2]:=rfl
  have hend:∀(E:aa) (b:List Nm->DV),E.view (.agg [.osl (.loc 21 1) s.objs.length,.t (int (s.calls+1)),.osl (.loc 21 2) s.faults.length])=E.view (.agg [.osl (.loc 21 1) s.objs.length,.t (int (s.calls+1)),.osl (.loc 21 2) s.faults.length]):=fun _ _=>rfl
  by_cases f1:fa=1
  .subst f1
   rw[if_pos rfl]
   refine pu mM rfl ?_
   simp[lB,lA]
   repeat'(first|simp[*]|apply aj|refine Up c1 rfl ?_|refine Up c2 rfl ?_|refine UR (S:=[]) c3 ?_ ?_)
   refine gr (x:=bi (dz s)) (y:= .e0) (dp (rd:=[.loc 21 1,.loc 21 2]) ?_) (bn _) (bn _) .rfl .nil .rfl
   simp[Vt,UJ,dz]
  by_cases f2:fa=2
  .subst f2
   rw[if_neg (by omega),if_pos rfl]
   refine pu mM rfl ?_
   simp[lB,lA]
   repeat'(first|simp[*]|apply aj|refine Up c1 rfl ?_|refine Up c2 rfl ?_|refine UR (S:=[]) c3 ?_ ?_)
   refine gr (x:=bi (dz s)) (y:= .e0) (dp (rd:=[.loc 21 1,.loc 21 2]) ?_) (bn _) (bn _) .rfl .nil .rfl
   simp[Vt,UJ,dz]
  rw[if_neg f1,if_neg f2]
  unfold qf at*
  have hlt:dq s.objs n=true->cA s.objs n<s.objs.length:=fun h=>by
   unfold dq at h
   cases hx:s.objs[cA s.objs n]? with
   |none=>rw[hx]at h;cases h
   |some o=>exact(ajs.1 hx).1
  generalize dq s.objs n=ha at*
  generalize cA s.objs n=lo at*
  cases ha with
  |false=>
   rw[if_pos rfl]
   refine pu mM rfl ?_
   simp[lB,lA]
   repeat'(first|simp[*]|apply aj|refine Up c1 rfl ?_|refine Up c2 rfl ?_|refine UR (S:=[]) c3 ?_ ?_|refine UR (S:=[.loc 21 0,.loc 21 1,.loc 21 2]) c4 ?_ ?_)
   refine gr (x:=bi (dz s)) (y:= .e0) (dp (rd:=[.loc 21 1,.loc 21 2]) ?_) (bn _) (bn _) .rfl .nil .rfl
   simp[Vt,UJ,dz]
  |true=>
  rw[if_neg (by simp)]
  have hlo:=hlt rfl
  have hx:=ajq hlo
  obtain⟨x,Tm⟩:∃x,s.objs[lo]=x:=⟨_,rfl⟩
  rw[Tm]at hx
  simp only[hx]at*
  have c5:=lI x.bytes (by simp only[LIM];omega)
  have htC:List.take x.bytes.length (x.bytes.map aC)=x.bytes.map aC:=aju (by simp)
  by_cases f3:fa=3
  .subst f3
   rw[if_pos rfl]
   by_cases hb:0<x.bytes.length
   .obtain⟨k,hk⟩:∃k,x.bytes.length/2=k:=⟨_,rfl⟩
    have TR:((x.bytes.length:Nat):Int)/2=(k:Int):=by omega
    have hm:k<x.bytes.length:=by omega
    obtain⟨y,hy⟩:∃y,x.bytes[k]=y:=⟨_,rfl⟩
    have hy':x.bytes[k]?=some y:=by rw[ajq hm,hy]
    have hu:=Ny y
    have UA:ta x.bytes=x.bytes.set k (y^^^255):=by unfold ta;rw[hk,hy']
    have htD:List.take x.bytes.length ((x.bytes.map aC).set k (aC (y^^^255)))=(x.bytes.set k (y^^^255)).map aC:=by rw[List.map_set];exact aju (by simp)
    rw[UA]
    refine pu mM rfl ?_
    simp[lB,lA]
    repeat'(first|simp[*]|apply aj|refine Up c1 rfl ?_|refine Up c2 rfl ?_|refine UR (S:=[]) c3 ?_ ?_|refine UR (S:=[.loc 21 0,.loc 21 1,.loc 21 2]) c4 ?_ ?_|refine UN (F:=[]) c5 ?_ ?_|simp(disch:=omega) only[wr])
    refine gr (x:=bi (dz s)) (y:=aS (x.bytes.set k (y^^^255))) (dp (rd:=[.loc 21 1,.loc 21 2]) ?_) (oB (rd:=[.loc 59 0]) ?_) (bn _) .rfl .rfl .rfl
    .simp[Vt,UJ,dz]
    .simp
     exact(aju (by simp)).trans rfl
   .have V1:x.bytes=[]:=aj3.1 (by omega)
    have UA:ta x.bytes=[]:=by rw[V1];rfl
    rw[UA]
    rw[V1]at c5
    refine pu mM rfl ?_
    simp[lB,lA]
    repeat'(first|simp[*]|apply aj|refine Up c1 rfl ?_|refine Up c2 rfl ?_|refine UR (S:=[]) c3 ?_ ?_|refine UR (S:=[.loc 21 0,.loc 21 1,.loc 21 2]) c4 ?_ ?_|refine UN (F:=[]) c5 ?_ ?_)
    refine gr (x:=bi (dz s)) (y:=aS []) (dp (rd:=[.loc 21 1,.loc 21 2]) ?_) (oB (rd:=[.loc 59 0]) ?_) (bn _) .rfl .rfl .rfl
    .simp[Vt,UJ,dz]
    .simp[V1]
  .rw[if_neg f3]
   refine pu mM rfl ?_
   simp[lB,lA]
   repeat'(first|simp[*]|apply aj|refine Up c1 rfl ?_|refine Up c2 rfl ?_|refine UR (S:=[]) c3 ?_ ?_|refine UR (S:=[.loc 21 0,.loc 21 1,.loc 21 2]) c4 ?_ ?_|refine UN (F:=[]) c5 ?_ ?_)
   refine gr (x:=bi (dz s)) (y:=aS x.bytes) (dp (rd:=[.loc 21 1,.loc 21 2]) ?_) (oB (rd:=[.loc 59 0]) ?_) (bn _) .rfl .rfl .rfl
   .simp[Vt,UJ,dz]
   .simp[htC]
 .rw[if_pos h0]
  refine pu mM rfl ?_
  simp[lB,lA]
  repeat'(first|simp[*]|refine Up c1 rfl ?_|refine Up c2 rfl ?_)
  all_goals exact gr (bn _) (bn _) (bn _) iq .nil .rfl
end
section
open Go.RowKit Go.Proofs Go.Lib
def xe(w:World)(base:Option Addr)(n cap vb:Nat)(r:Value)(W1:World)(hn:n<=cap)(hm:cap<=9223372036854775807)
  (hr:∀ty,(Builtin.append_ #[28,28] ty #[.slice base n cap,.slice (some ⟨vb,0,none⟩) 1 1]).run Tryz.prog w= .ok r W1):
  Calls Tryz.prog 128 #[.slice base n cap,.int .i64 n,.slice (some ⟨vb,0,none⟩) 1 1] w fun e' w'=>e'= .returned r/\w'=W1:=by
 go_enter Tryz.func128,Tryz.ntmps128
 go_wp2_with (at_builtin;refine r7 (v:= .slice base n cap) (u:= .slice (some ⟨vb,0,none⟩) 1 1) rfl _ _ rfl rfl rfl (hr _) ?_)
 all_goals(go_ret;exact⟨rfl,rfl⟩)
def NA(w:World)(b n cap i vb:Nat)(W1 W2:World)(hi:i<n)(Tv:n+1<=cap)(hm:cap<=9223372036854775807)
  (hov:∀lb cb,(callFunc 209 #[.slice (some ⟨vb,0,none⟩) 1 1,.slice (some ⟨b,(i+1)*2,none⟩) lb cb]).run Tryz.prog w= .ok (.value (.bool false)) w)
  (Vg:∀ty dc sc,(Builtin.copy_ #[28,28] ty #[.slice (some ⟨b,(i+1)*2,none⟩) (n+1-(i+1)) dc,.slice (some ⟨b,i*2,none⟩) (n+1-i) sc]).run Tryz.prog w.drew= .ok (goInt ((n-i:Nat):Int)) W1)
  (Vo:∀ty dc,(Builtin.copy_ #[28,28] ty #[.slice (some ⟨b,i*2,none⟩) (n+1-i) dc,.slice (some ⟨vb,0,none⟩) 1 1]).run Tryz.prog W1= .ok (goInt 1) W2):
  Calls Tryz.prog 128 #[.slice (some ⟨b,0,none⟩) n cap,.int .i64 i,.slice (some ⟨vb,0,none⟩) 1 1] w fun e' w'=>e'= .returned (.slice (some ⟨b,0,none⟩) (n+1) cap)/\w'=W2:=by
 have hz2:¬((i:Int)=(n:Int)):=by omega
 have U5:IntKind.i64.wrap ((i:Int)+1)=(i:Int)+1:=by rw[IntKind.wrap_i64];omega
 have Ui:IntKind.i64.wrap ((n:Int)+1)=(n:Int)+1:=by rw[IntKind.wrap_i64];omega
 have TZ:(0:Int)<=(i:Int)+1:=by omega
 have V1:(0:Int)<=(n:Int)+1:=by omega
 have TE:i<=n:=by omega
 have htn:((i:Int)+1).toNat=i+1:=by omega
 have aeH:((n:Int)+1).toNat=n+1:=by omega
 have Uu:¬(cap=i+1):=by omega
 have Wu:(i:Int)<=(n:Int)+1:=by omega
 have Vh:¬(cap=i):=by omega
 have hb5:¬((cap:Int)<(n:Int)+1):=by omega
 have hb6:(n:Int)+1<=(cap:Int):=by omega
 go_enter Tryz.func128,Tryz.ntmps128
 go_wp2_with (simp only[hov])
 go_region_law (refine r5 rfl _ _ rfl (by simp[Act.eval,Act.put];rfl) (by simp[Act.eval,Act.put];rfl) (Vg _ _ _) ?_)
 go_wp2_with (at_builtin;refine r6 rfl _ _ rfl rfl rfl (Vo _ _) ?_)
 go_ret
 exact⟨rfl,rfl⟩
def NB(w:World)(b n cap i vb N G:Nat)(W1 W2 W3:World)(hi:i<n)(Xk:n<=cap)(Tv:cap<n+1)(hm:cap<=1000000000)(hG:n+1<=G)(afQ:G<=9223372036854775807)
  (hrz:∀ty,(Builtin.append_ #[28,3] ty #[.slice (some ⟨b,0,none⟩) i cap,.int .i64 ((n:Int)+1-(i:Int))]).run Tryz.prog w= .ok (.slice (some ⟨N,0,none⟩) (n+1) G) W1)
  (Vg:∀ty dc,(Builtin.copy_ #[28,28] ty #[.slice (some ⟨N,i*2,none⟩) (n+1-i) dc,.slice (some ⟨vb,0,none⟩) 1 1]).run Tryz.prog W1= .ok (goInt 1) W2)
  (Vo:∀ty dc sc,(Builtin.copy_ #[28,28] ty #[.slice (some ⟨N,(i+1)*2,none⟩) (n+1-(i+1)) dc,.slice (some ⟨b,i*2,none⟩) (n-i) sc]).run Tryz.prog W2.drew= .ok (goInt ((n-i:Nat):Int)) W3):
  Calls Tryz.prog 128 #[.slice (some ⟨b,0,none⟩) n cap,.int .i64 i,.slice (some ⟨vb,0,none⟩) 1 1] w fun e' w'=>e'= .returned (.slice (some ⟨N,0,none⟩) (n+1) G)/\w'=W3:=by
 have hz2:¬((i:Int)=(n:Int)):=by omega
 have hz3:(cap:Int)<(n:Int)+1:=by omega
 have U5:IntKind.i64.wrap ((i:Int)+1)=(i:Int)+1:=by rw[IntKind.wrap_i64];omega
 have Ui:IntKind.i64.wrap ((n:Int)+1)=(n:Int)+1:=by rw[IntKind.wrap_i64];omega
 have hw3:IntKind.i64.wrap ((n:Int)+1-(i:Int))=(n:Int)+1-(i:Int):=by rw[IntKind.wrap_i64];omega
 have TZ:(0:Int)<=(i:Int)+1:=by omega
 have TE:i<=n:=by omega
 have htn:((i:Int)+1).toNat=i+1:=by omega
 have Wu:(i:Int)<=(n:Int):=by omega
 have Vh:(i:Int)<=(n:Int)+1:=by omega
 have hic:i<=cap:=by omega
 have hGi:¬(G=i):=by omega
 have afP:¬(G=i+1):=by omega
 have hci:¬(cap=i):=by omega
 go_enter Tryz.func128,Tryz.ntmps128
 go_wp2_with (first
  |(at_builtin;refine r7 rfl _ _ rfl rfl rfl (hrz _) ?_)
  |(at_builtin;refine r6 rfl _ _ rfl rfl rfl (Vg _ _) ?_))
 go_region_law (refine r5 rfl _ _ rfl (by simp[Act.eval,Act.put];rfl) (by simp[Act.eval,Act.put];rfl) (Vo _ _ _) ?_)
 go_wp2
 go_ret
 exact⟨rfl,rfl⟩
def NC(l:List ab)(x:ab)(i:Nat)(hi:i<=l.length)(hl:l.length<=1000000):ajk 128 (dM [.t (int i),.ls 2 [x]] 65 2 l (l.take i++[x]++l.drop i)):=by
 have hsz:bm Tryz.prog 65=some 2:=by kernel_rfl
 have hu:Tryz.prog.underlying 28=some (.slice 65):=by kernel_rfl
 have h3:Tryz.prog.underlying 3=some (.int .i64):=by kernel_rfl
 have ZK:(Tryz.prog.info? 65).map (fun i=>decide (i.bytes<=1000))=some true:=by kernel_rfl
 refine pL ⟨_,_,Tryz.func128,by kernel_rfl,rfl⟩ (by decide) fun Z U w M Vc W6 hv=>?_
 obtain⟨VH,zv,z1,z0,z2,z3,z4⟩:=r9 (P:=Tryz.prog) w (e:=65) (m:=2) (zt:=(.agg [.v (.string ⟨#[]⟩),.e0])) (by kernel_rfl) rfl
 have Vl:VH.size=2:=by
  unfold bm at hsz
  rw[z1]at hsz
  simpa using hsz
 have Xd:VH.bytes<=1000:=by
  rw[z1]at ZK
  simpa using ZK
 obtain⟨v1,v2,rfl⟩:∃v1 v2,Vc=[v1,v2]:=by
  match Vc,W6 with
  |[v1,v2],_=>exact⟨v1,v2,rfl⟩
 obtain⟨rfl,_⟩:=(hv 0 v1 _ rfl rfl).v_inv
 obtain⟨vb,vcs,ve,Th,rfl,hMv,hvb,Yx,UO,Y3,Zw,Y2⟩:=C4 (by decide) (hv 1 v2 _ rfl rfl)
 clear hv W6
 have ZO:∀(ad:Option Addr) (n cap:Nat) (Tw:List Value),Tw.length=n*VH.size->n<=1000000->cap<n+1->(∀w2:World,w2.heap=w.heap->(Builtin.firstCells VH.size n (.slice ad n cap)).run Tryz.prog w2= .ok Tw.toArray w2)->
   n+1<=grownCap w (n+1) cap 65/\grownCap w (n+1) cap 65<=maxLen/\∀ty,(Builtin.append_ #[28,28] ty #[.slice ad n cap,.slice (some ⟨vb,0,none⟩) 1 1]).run Tryz.prog w= .ok (.slice (some ⟨w.heap.size,0,none⟩) (n+1) (grownCap w (n+1) cap 65))
    (w.drew.alloc (.cells (Tw++Th++(Builtin.zeroCells zv.cells (grownCap w (n+1) cap 65-(n+1))).toList).toArray 65)):=by
  intro ad n cap Tw ho Yu hlt TP
  have key:=fun ty=>uj (P:=Tryz.prog) w 28 28 ty 65 VH zv (.slice 65) hu hu (by intro k hk;cases hk) z1 z0 ad n cap (.slice (some ⟨vb,0,none⟩) 1 1) 1 Tw Th ho (by rw[Vl];exact UO) (fun w2=>by simp[Builtin.lenOf]) (fun w2 Ui=>by
   rw[Vl]
   exact run_firstCells_some (P:=Tryz.prog) w2 2 1 ⟨vb,0,none⟩ 1 1 Th UO (fun j v hj=>by rw[Addr.add_lit,ajX,nD Ui];exact Zw j v hj)) TP (fun TK=>absurd TK (by omega)) (by simp only[maxLen];omega) (by
   have:(n+1)*VH.bytes<=1000001*1000:=Nat.mul_le_mul (by omega) Xd
   omega)
  have X4:=fun ty=>(key ty).resolve_left (fun hh=>absurd hh.1 (by omega))
  exact⟨(X4 0).2.1,(X4 0).2.2.1,fun ty=>(X4 ty).2.2.2⟩
 refine⟨fun ad Uy=>?_,fun b cap cs h=>?_⟩
 .subst Uy
  have UL:i=0:=by simpa using hi
  subst UL
  obtain⟨g1,g2,g3⟩:=ZO ad 0 0 [] (by simp) (by omega) (by omega) (fun w2 _=>jF _ _ _ _ _)
  refine(xe w ad 0 0 vb _ _ (ajz _) (by omega) g3).mono ?_
  rintro e' w' ⟨rfl,rfl⟩
  refine⟨_,rfl,?_⟩
  have hR:=(aV.nil (w:=w) (M:=M) (m:=2)).append (rest:=(Builtin.zeroCells zv.cells (grownCap w (0+1) 0 65-(0+1))).toList) Y2 (by simp)
  refine od (by simp[World.alloc]) rfl rfl rfl (fun b hb=>ako w.drew _ hb) (heap_alloc_new w.drew _) (by simp) (by omega) ?_ (by simpa using g1) g2 hR
  simp only[ajB,List.length_nil,UO,Array.length_toList,size_zeroCells,z3]
  omega
 have ZI:=h.hcap
 have Vf:cap<=9223372036854775807:=by simp only[maxLen]at ZI;omega
 obtain⟨n,hn⟩:∃n,n=l.length:=⟨_,rfl⟩
 have Xk:n<=cap:=by rw[hn];exact h.hl
 have hcs:=h.hcs
 have Tk:(l.take i++[x]++l.drop i).length=n+1:=by
  simp only[ajB,ajA,aj9,List.length_singleton]
  omega
 have Xn:b<w.heap.size:=(ajy.1 h.hg).1
 have hRn:aV w M 2 (cs.take (n*2)) l:=by
  have:=h.hR.takeC n
  rwa[aju (show l.length<=n by omega)]at this
 have TP:∀k,k<=n->∀w2:World,w2.heap=w.heap->∀c,(Builtin.firstCells VH.size k (.slice (some ⟨b,0,none⟩) k c)).run Tryz.prog w2= .ok (cs.take (k*2)).toArray w2:=by
  intro k hk w2 Ui c
  rw[Vl]
  exact run_firstCells_some (P:=Tryz.prog) w2 2 k ⟨b,0,none⟩ k c _ (by rw[ajA,hcs];omega) (h.cells (o:=0) (fun j v hj=>by
   rw[ajN]at hj
   split at hj
   .rw[ajX];exact hj
   .cases hj) Ui)
 rw[<-hn]at hi hl⊢
 by_cases TE:i=n
 .subst TE
  have Xl:l.take i++[x]++l.drop i=l++[x]:=by rw[aju (by omega),List.drop_of_length_le (by omega),akr]
  rw[Xl]at Tk⊢
  by_cases Tv:i+1<=cap
  .have hr:∀ty,(Builtin.append_ #[28,28] ty #[.slice (some ⟨b,0,none⟩) i cap,.slice (some ⟨vb,0,none⟩) 1 1]).run Tryz.prog w= .ok (.slice (some ⟨b,0,none⟩) (i+1) cap) (w.setRow b (lay cs (0+i*2) Th).toArray):=
    fun ty=>rZ w hu z1 Vl Tv UO (fun j v hj=>by rw[Addr.add_lit,ajX];exact Zw j v hj) h.hg (by rw[UO,hcs];omega) Y3
   refine(xe w (some ⟨b,0,none⟩) i cap vb _ _ Xk Vf hr).mono ?_
   rintro e' w' ⟨rfl,rfl⟩
   refine⟨_,rfl,?_⟩
   have:=oc h (w1:=w) (cs':=lay cs (0+i*2) Th) (l':=l++[x]) rfl rfl rfl rfl (iM (by rw[UO,hcs];omega)) (by rw[Tk];exact Tv) (by
    rw[ajX]
    exact hRn.append Y2 (by rw[ajA,hcs,<-hn];omega))
   rw[Tk]at this
   exact this
  .obtain⟨g1,g2,g3⟩:=ZO (some ⟨b,0,none⟩) i cap (cs.take (i*2)) (by rw[ajA,hcs,Vl];omega) hl (by omega) (fun w2 Ui=>TP i (ajz _) w2 Ui cap)
   refine(xe w (some ⟨b,0,none⟩) i cap vb _ _ Xk Vf g3).mono ?_
   rintro e' w' ⟨rfl,rfl⟩
   refine⟨_,rfl,?_⟩
   refine od (by simp[World.alloc]) rfl rfl rfl (fun b hb=>ako w.drew _ hb) (heap_alloc_new w.drew _) Tk.symm (by omega) ?_ (by rw[Tk];exact g1) g2 (hRn.append Y2 (by rw[ajA,hcs,<-hn];omega))
   simp only[ajB,ajA,UO,hcs,Array.length_toList,size_zeroCells,z3]
   omega
 have hlt:i<n:=by omega
 obtain⟨tail,U3⟩:∃tail,tail=(cs.take (n*2)).drop (i*2):=⟨_,rfl⟩
 have U2:tail.length=(n-i)*2:=by rw[U3,aj9,ajA,hcs];omega
 have Yn:∀k v,tail[k]?=some v->cs[i*2+k]?=some v:=fun k v hk=>by
  rw[U3,aka,ajN]at hk
  split at hk
  .exact hk
  .cases hk
 have ht1:∀v∈tail,v.oneCell'=true:=fun v hv=>h.one (by decide) v (by rw[<-hn];rw[U3]at hv;exact akn hv)
 have hRt:aV w M 2 tail (l.drop i):=by rw[U3];exact hRn.drop i
 by_cases Tv:n+1<=cap
 .have hov:∀lb cb,(callFunc 209 #[.slice (some ⟨vb,0,none⟩) 1 1,.slice (some ⟨b,(i+1)*2,none⟩) lb cb]).run Tryz.prog w= .ok (.value (.bool false)) w:=fun lb cb=>by
   rw[run_callFunc_extern Tryz.func209 (by kernel_rfl) (by kernel_rfl) (by kernel_rfl) (e:=Extern.SlicesOverlaps.overlaps #[28,28] #[4]) (by kernel_rfl),
    Lib.run_overlaps_apart w 28 4 65 hu 2 (fun w=>by simp[*,Sem.run]) ⟨vb,0,none⟩ ⟨b,(i+1)*2,none⟩ 1 1 lb cb (fun he=>hMv (by have he:vb=b:=he;rw[he];exact h.hM)) ve 65 vcs.size cs.length (by simp[World.shape?,Yx]) (by simp[World.shape?,h.hg]) (by have:=h.h0;rw[hcs];omega) (by simp[World.frozen?,Yx]) (by simp[World.frozen?,Yx])]
   rfl
  have Vg:∀ty dc sc,(Builtin.copy_ #[28,28] ty #[.slice (some ⟨b,(i+1)*2,none⟩) (n+1-(i+1)) dc,.slice (some ⟨b,i*2,none⟩) (n+1-i) sc]).run Tryz.prog w.drew= .ok (goInt ((n-i:Nat):Int)) (w.drew.setRow b (lay cs ((i+1)*2) tail).toArray):=
   fun ty dc sc=>run_copy_row w.drew (k:=n-i) (o:=(i+1)*2) (sLen:=n+1-i) (dLen:=n+1-(i+1)) hu z1 Vl (by simp only[Nat.min_def];split<;>omega) U2 (h.cells Yn rfl) (show w.drew.heap[b]?=_ from h.hg) (by rw[U2,hcs];omega) ht1
  obtain⟨X,hX⟩:∃X,X=lay cs ((i+1)*2) tail:=⟨_,rfl⟩
  have Wv:X.length=cs.length:=by rw[hX];exact iM (by rw[U2,hcs];omega)
  rw[<-hX]at Vg
  have VN:(w.drew.setRow b X.toArray).heap[b]?=some (.cells X.toArray 65 (0,0)):=setRow_heap w.drew b _ _ _ _ h.hg
  have Vo:∀ty dc,(Builtin.copy_ #[28,28] ty #[.slice (some ⟨b,i*2,none⟩) (n+1-i) dc,.slice (some ⟨vb,0,none⟩) 1 1]).run Tryz.prog (w.drew.setRow b X.toArray)= .ok (goInt 1) ((w.drew.setRow b X.toArray).setRow b (lay X (i*2) Th).toArray):=
   fun ty dc=>run_copy_row _ (k:=1) (o:=i*2) (sLen:=1) (dLen:=n+1-i) hu z1 Vl (by simp only[Nat.min_def];split<;>omega) UO (fun j v hj=>by
    rw[Addr.add_lit,ajX,cell_setRow_other _ _ _ _ (fun he=>hMv (by have he:vb=b:=he;rw[he];exact h.hM))]
    exact Zw j v hj) VN (by rw[UO,Wv,hcs];omega) Y3
  refine(NA w b n cap i vb _ _ hlt Tv Vf hov Vg Vo).mono ?_
  rintro e' w' ⟨rfl,rfl⟩
  refine⟨_,rfl,?_⟩
  rw[rY]
  have hY:lay X (i*2) Th=cs.take (i*2)++Th++(tail++cs.drop ((i+1)*2+tail.length)):=by
   have e1:X.take (i*2)=cs.take (i*2):=by
    rw[hX,lay,aj1,List.take_append_of_le_length (by rw[ajA,hcs];omega),List.take_take]
    congr 1
    omega
   have e2:X.drop (i*2+Th.length)=tail++cs.drop ((i+1)*2+tail.length):=by
    rw[hX,lay,aj1]
    exact List.drop_left' (by rw[ajA,hcs,UO];omega)
   rw[lay,e1,e2]
  have:=oc h (w1:=w.drew) (cs':=lay X (i*2) Th) (l':=l.take i++[x]++l.drop i) rfl rfl rfl rfl (by rw[iM (by rw[UO,Wv,hcs];omega),Wv]) (by rw[Tk];exact Tv) (by
   rw[hY]
   exact r8 (h.hR.takeC i) (by rw[ajA,ajA,hcs,<-hn];omega) Y2 UO hRt)
  rw[Tk]at this
  exact this
 .have abm:cap<n+1:=by omega
  have XK:=fun ty=>uv (P:=Tryz.prog) w 28 3 ty 65 VH zv .i64 hu h3 z1 z0 (some ⟨b,0,none⟩) i cap .i64 (n+1-i) (by simp only[LIM];omega) (cs.take (i*2)) (Builtin.zeroCells zv.cells (n+1-i)).toList (by rw[ajA,hcs,Vl];omega) (by rw[z3,Vl]) Xd rfl (fun w2 Ui=>by
   have:=TP i (by omega) w2 Ui cap
   exact this) (fun TK=>absurd TK (by omega)) (by simp only[maxLen];omega) (by
   have:(i+(n+1-i))*VH.bytes<=1000001*1000:=Nat.mul_le_mul (by omega) Xd
   omega)
  have Uc:=fun ty=>(XK ty).resolve_left (fun hh=>absurd hh.1 (by omega))
  have abp:i+(n+1-i)=n+1:=by omega
  have XD:((n+1-i:Nat):Int)=(n:Int)+1-(i:Int):=by omega
  simp only[abp,XD]at Uc
  obtain⟨G,hG⟩:∃G,G=grownCap w (n+1) cap 65:=⟨_,rfl⟩
  rw[<-hG]at Uc
  have hGn:n+1<=G:=(Uc 0).2.1
  have hGm:G<=maxLen:=(Uc 0).2.2.1
  have hrz:=fun ty=>(Uc ty).2.2.2
  clear XK Uc
  obtain⟨U8,Yi⟩:∃U8:List Value,U8=cs.take (i*2)++(Builtin.zeroCells zv.cells (n+1-i)).toList++(Builtin.zeroCells zv.cells (G-(n+1))).toList:=⟨_,rfl⟩
  rw[<-Yi]at hrz
  have TG:U8.length=G*2:=by
   rw[Yi]
   simp only[ajB,ajA,hcs,Array.length_toList,size_zeroCells,z3]
   omega
  have hgN:(w.drew.alloc (.cells U8.toArray 65)).heap[w.heap.size]?=some (.cells U8.toArray 65 (0,0)):=heap_alloc_new w.drew _
  have hcO:∀b0 o,b0<w.heap.size->(w.drew.alloc (.cells U8.toArray 65)).cell? ⟨b0,o,none⟩=w.cell? ⟨b0,o,none⟩:=fun b0 o V1=>by
   unfold World.cell?
   rw[ako w.drew _ V1]
   rfl
  have Vg:∀ty dc,(Builtin.copy_ #[28,28] ty #[.slice (some ⟨w.heap.size,i*2,none⟩) (n+1-i) dc,.slice (some ⟨vb,0,none⟩) 1 1]).run Tryz.prog (w.drew.alloc (.cells U8.toArray 65))= .ok (goInt 1) ((w.drew.alloc (.cells U8.toArray 65)).setRow w.heap.size (lay U8 (i*2) Th).toArray):=
   fun ty dc=>run_copy_row _ (k:=1) (o:=i*2) (sLen:=1) (dLen:=n+1-i) hu z1 Vl (by simp only[Nat.min_def];split<;>omega) UO (fun j v hj=>by
    rw[Addr.add_lit,ajX,hcO _ _ hvb]
    exact Zw j v hj) hgN (by rw[UO,TG];omega) Y3
  obtain⟨X,hX⟩:∃X,X=lay U8 (i*2) Th:=⟨_,rfl⟩
  have Wv:X.length=U8.length:=by rw[hX];exact iM (by rw[UO,TG];omega)
  rw[<-hX]at Vg
  have VN:((w.drew.alloc (.cells U8.toArray 65)).setRow w.heap.size X.toArray).heap[w.heap.size]?=some (.cells X.toArray 65 (0,0)):=setRow_heap _ _ _ _ _ _ hgN
  have Vo:∀ty dc sc,(Builtin.copy_ #[28,28] ty #[.slice (some ⟨w.heap.size,(i+1)*2,none⟩) (n+1-(i+1)) dc,.slice (some ⟨b,i*2,none⟩) (n-i) sc]).run Tryz.prog ((w.drew.alloc (.cells U8.toArray 65)).setRow w.heap.size X.toArray).drew= .ok (goInt ((n-i:Nat):Int)) ((((w.drew.alloc (.cells U8.toArray 65)).setRow w.heap.size X.toArray).drew).setRow w.heap.size (lay X ((i+1)*2) tail).toArray):=
   fun ty dc sc=>run_copy_row _ (k:=n-i) (o:=(i+1)*2) (sLen:=n-i) (dLen:=n+1-(i+1)) hu z1 Vl (by simp only[Nat.min_def];split<;>omega) U2 (fun j v hj=>by
    rw[Addr.add_lit]
    show(((w.drew.alloc (.cells U8.toArray 65)).setRow w.heap.size X.toArray)).cell? _=_
    rw[cell_setRow_other _ _ _ _ (show b≠w.heap.size by omega),hcO _ _ Xn,gb h.hg]
    exact Yn j v hj) (show((w.drew.alloc (.cells U8.toArray 65)).setRow w.heap.size X.toArray).heap[w.heap.size]?=_ from VN) (by rw[U2,Wv,TG];omega) ht1
  refine(NB w b n cap i vb w.heap.size G _ _ _ hlt Xk abm (by omega) hGn (by simp only[maxLen]at hGm;omega) hrz Vg Vo).mono ?_
  rintro e' w' ⟨rfl,rfl⟩
  refine⟨_,rfl,?_⟩
  refine od (cs':=lay X ((i+1)*2) tail) ((setRow_size _ _ _).trans ((setRow_size _ _ _).trans (by simp[World.alloc]))) rfl rfl rfl (fun b0 V1=>?_) (setRow_heap _ _ _ _ _ _ (show((w.drew.alloc (.cells U8.toArray 65)).setRow w.heap.size X.toArray).heap[w.heap.size]?=_ from VN)) Tk.symm (by omega) (by rw[iM (by rw[U2,Wv,TG];omega),Wv,TG]) (by rw[Tk];exact hGn) hGm ?_
  .rw[setRow_other _ _ _ _ (show b0≠w.heap.size by omega)]
   show((w.drew.alloc (.cells U8.toArray 65)).setRow w.heap.size X.toArray).heap[b0]?=_
   rw[setRow_other _ _ _ _ (show b0≠w.heap.size by omega)]
   exact ako w.drew _ V1
  .have e1:X.take ((i+1)*2)=cs.take (i*2)++Th:=by
    rw[hX,lay,show(i+1)*2=i*2+Th.length by omega,Yi]
    have:(List.take (i*2) (cs.take (i*2)++(Builtin.zeroCells zv.cells (n+1-i)).toList++(Builtin.zeroCells zv.cells (G-(n+1))).toList))=cs.take (i*2):=by
     rw[aj1]
     exact List.take_left' (by rw[ajA,hcs];omega)
    rw[this]
    exact List.take_left' (by rw[ajB,ajA,hcs];omega)
   rw[lay,e1,aj1]
   exact r8 (h.hR.takeC i) (by rw[ajA,ajA,hcs,<-hn];omega) Y2 UO hRt
end
section
open Go.RowKit Go.Proofs Go.Lib Go.Wm
abbrev iW(b:Bool):Row:= .box 4 (.t (bo b)) false
abbrev bW(s:ByteArray):Row:= .box 9 (.t (str s)) false
abbrev eU(b:Bs):Row:= .box 59 (.t (aS b)) false
abbrev dA(s:Nm):Row:= .box 142 (.ptr s 0 0) false
def Es(l:List oBj)(fl:List cE)(calls Tl:Int)(i:Nat)(n:ByteArray)(b:Bs)(hi:i<l.length)(hb:b.length<=1000000):ajk 127 ⟨[],[.ptr (.arg 0) 0 0,.ptr (.arg 1) 0 0,.ptr (.arg 5) 0 0,.ptr (.arg 6) 0 0,.ptr (.arg 7) 0 0],
  [iW true,dA (.arg 2),cF l.length calls fl.length Tl (.arg 3) (.arg 4),cG l,cH fl,av i,bW n,eU b],.tup [],
  [some (iW true),some (dA (.arg 2)),some (cF l.length calls fl.length Tl (.arg 3) (.arg 4)),some (cG (l.set i ⟨n,b⟩)),some (cH fl),some (av i),some (bW n),some (eU b)],[]⟩:=by
 have c1:=lI b (by simp only[LIM];omega)
 have Zf:List.take b.length (b.map aC)=b.map aC:=aju (by simp)
 refine aJ CA rfl ?_
 simp[wg,we]
 repeat'(first|simp[*]|refine UN (F:=[]) c1 ?_ ?_)
 exact ug [(.arg 0,.arg 0),(.arg 1,.arg 1),(.arg 2,.arg 2),(.arg 3,.arg 3),(.arg 4,.arg 4),(.arg 5,.arg 5),(.arg 6,.arg 6),(.arg 7,.arg 7)] rfl (by simp[*]) .rfl
def Et(l:List oBj)(fl:List cE)(calls Tl:Int)(i:Nat)(n:ByteArray)(b:Bs)(hi:i<=l.length)(hl:l.length<=1000000)(hb:b.length<=1000000):ajk 127 ⟨[],[.ptr (.arg 0) 0 0,.ptr (.arg 1) 0 0,.ptr (.arg 5) 0 0,.ptr (.arg 6) 0 0,.ptr (.arg 7) 0 0],
  [iW false,dA (.arg 2),cF l.length calls fl.length Tl (.arg 3) (.arg 4),cG l,cH fl,av i,bW n,eU b],.tup [],
  [some (iW false),some (dA (.arg 2)),some (cF (l.length+1) calls fl.length Tl (.loc 0 0) (.arg 4)),none,some (cH fl),some (av i),some (bW n),some (eU b)],[cG (l.take i++[⟨n,b⟩]++l.drop i)]⟩:=by
 have c1:=lI b (by simp only[LIM];omega)
 have c2:=NC (l.map a0) (.agg [str es,.e0]) i (by simpa using hi) (by simpa using hl)
 have Zf:List.take b.length (b.map aC)=b.map aC:=aju (by simp)
 have Z2:(List.take i (l.map a0)++[ab.agg [str es,.e0]]++List.drop i (l.map a0)).length=l.length+1:=by simp;omega
 have VX:(List.take i (l.map a0)++[ab.agg [str es,.e0]]++List.drop i (l.map a0)).set i (a0 ⟨n,b⟩)=(l.take i++[(⟨n,b⟩:oBj)]++l.drop i).map a0:=by
  have:(List.take i (l.map a0)).length=i:=by simp;omega
  rw[aj1,List.set_append_right _ _ (by omega),this]
  simp
 have hLx:(List.take i (l.map a0)++[ab.agg [str es,.e0]]++List.drop i (l.map a0))[i]?=some (ab.agg [str es,.e0]):=by
  have:(List.take i (l.map a0)).length=i:=by simp;omega
  rw[aj1,akw (by omega),this]
  simp
 unfold dM at c2
 rw[Z2,ajJ]at c2
 have Ya:i<l.length+1:=by omega
 have Yw:(i:Int)<(l.length:Int)+1:=by omega
 generalize List.take i (l.map a0)++[ab.agg [str es,.e0]]++List.drop i (l.map a0)=L at*
 have hLl:i<L.length:=by omega
 have hLi:L[i]=ab.agg [str es,.e0]:=by rw[ajq hLl]at hLx;exact Option.some.inj hLx
 refine aJ CA rfl ?_
 simp[wg,we]
 try simp[hi,Ya,Yw,Z2,hLi,Zf,az,ax]
 all_goals try(repeat'(first|((first|(refine UN (F:=[]) c1 ?_ ?_;(· simp[hi,Ya,Yw,Z2,hLi,Zf,az,ax]))|(refine UR (S:=[.arg 3]) c2 ?_ ?_;(· simp[hi,Ya,Yw,Z2,hLi,Zf,az,ax])))<;>try simp[hi,Ya,Yw,Z2,hLi,Zf,az,ax])))
 refine px [(.arg 0,.arg 0),(.arg 1,.arg 1),(.arg 2,.arg 2),(.loc 16 0,.loc 0 0),(.arg 3,.arg 3),(.arg 4,.arg 4),(.arg 5,.arg 5),(.arg 6,.arg 6),(.arg 7,.arg 7)] rfl ?_ ?_ ?_ ?_
 .simp
  exact VX.trans (by simp)
 .simp
  omega
 .simp
 .exact .rfl
def ND(t:Bool)(l:List oBj)(fl:List cE)(calls Tl i:Int)(n:ByteArray)(b:Bs):ajk 126 ⟨[],[.t (aS b),.ptr (.arg 0) 0 0,.ptr (.arg 1) 0 0,.ptr (.arg 5) 0 0,.ptr (.arg 6) 0 0],
  [iW t,dA (.arg 2),cF l.length calls fl.length Tl (.arg 3) (.arg 4),cG l,cH fl,av i,bW n],.fn 127 [.ptr (.arg 0) 0 0,.ptr (.arg 1) 0 0,.ptr (.arg 5) 0 0,.ptr (.arg 6) 0 0,.ptr (.loc 0 0) 0 0],
  [some (iW t),some (dA (.arg 2)),some (cF l.length calls fl.length Tl (.arg 3) (.arg 4)),some (cG l),some (cH fl),some (av i),some (bW n)],[eU b]⟩:=by
 refine aJ KQ rfl ?_
 simp[Cz]
 skip
 refine ug [(.arg 0,.arg 0),(.arg 1,.arg 1),(.arg 2,.arg 2),(.arg 3,.arg 3),(.arg 4,.arg 4),(.arg 5,.arg 5),(.arg 6,.arg 6),(.loc 5 0,.loc 0 0)] rfl (by simp[*]) ?_
 .simp
  exact .rfl
def ka{α:Type}(Tl:Int)(a afE all:α):α:=if Tl=1 then a else if Tl=3 then afE else all
def fH(Tl:Int):Int:=if Tl=1 then 140 else if Tl=3 then 140 else if Tl=2 then 140 else 0
abbrev oC(k:Nat):DV:= .fn 127 [.ptr (.arg 0) 0 0,.ptr (.arg 1) 0 0,.ptr (.arg 5) 0 0,.ptr (.arg 6) 0 0,.ptr (.arg k) 0 0]
def NE(l:List oBj)(fl:List cE)(calls Tl:Int)(i:Nat)(n:ByteArray)(b h:Bs)(hi:i<l.length)(hb:b.length<=1000000)(hh:h.length<=1000000):ajk 129 ⟨[],[.ptr (.arg 2) 0 0,oC 7,oC 8],
  [iW true,dA (.arg 2),cF l.length calls fl.length Tl (.arg 3) (.arg 4),cG l,cH fl,av i,bW n,eU b,eU h],
  .tup [.agg [.osl (.arg 3) l.length,.t (int calls),.osl (.arg 4) fl.length],.t (int (fH Tl))],
  [some (iW true),some (dA (.arg 2)),some (cF l.length calls fl.length Tl (.arg 3) (.arg 4)),some (cG (ka Tl l (l.set i ⟨n,h⟩) (l.set i ⟨n,b⟩))),some (cH fl),some (av i),some (bW n),some (eU b),some (eU h)],[]⟩:=by
 have c1:=Es l fl calls Tl i n b hi hb
 have c2:=Es l fl calls Tl i n h hi hh
 have Vt:List.take l.length (l.map a0)=l.map a0:=aju (by simp)
 have UJ:List.take fl.length (fl.map bD)=fl.map bD:=aju (by simp)
 have htC:∀o:oBj,List.take l.length ((l.set i o).map a0)=(l.set i o).map a0:=fun o=>aju (by simp)
 have hls:∀o:oBj,(l.set i o).length=l.length:=fun o=>by simp
 unfold ka fH
 generalize hA:l.set i ⟨n,b⟩=A at*
 generalize hB:l.set i ⟨n,h⟩=B at*
 have Xu:=hA▸htC ⟨n,b⟩
 have Xt:=hB▸htC ⟨n,h⟩
 have hlA:l.length<=A.length:=by rw[<-hA,hls];exact ajz _
 have hlB:l.length<=B.length:=by rw[<-hB,hls];exact ajz _
 by_cases f1:Tl=1
 .subst f1
  refine aJ fe rfl ?_
  simp[eO]
  try simp
  skip
  refine ug [(.arg 0,.arg 0),(.arg 1,.arg 1),(.arg 2,.arg 2),(.arg 3,.arg 3),(.arg 4,.arg 4),(.arg 5,.arg 5),(.arg 6,.arg 6),(.arg 7,.arg 7),(.arg 8,.arg 8)] rfl (by simp[*]) ?_
  .simp[hlA,hlB,Xu,Xt]
   exact .rfl
 by_cases f3:Tl=3
 .subst f3
  refine aJ fe rfl ?_
  simp[eO]
  try simp
  all_goals try(repeat'(first|((refine UR (S:=[.arg 0,.arg 1,.arg 2,.arg 3,.arg 4,.arg 5,.arg 6,.arg 8]) c2 ?_ ?_;(· simp))<;>try simp)))
  refine ug [(.arg 0,.arg 0),(.arg 1,.arg 1),(.arg 2,.arg 2),(.arg 3,.arg 3),(.arg 4,.arg 4),(.arg 5,.arg 5),(.arg 6,.arg 6),(.arg 7,.arg 7),(.arg 8,.arg 8)] rfl (by simp[*]) ?_
  .simp[hlA,hlB,Xu,Xt]
   exact .rfl
 by_cases f2:Tl=2
 .subst f2
  refine aJ fe rfl ?_
  simp[eO]
  try simp
  all_goals try(repeat'(first|((refine UR (S:=[.arg 0,.arg 1,.arg 2,.arg 3,.arg 4,.arg 5,.arg 6,.arg 7]) c1 ?_ ?_;(· simp))<;>try simp)))
  refine ug [(.arg 0,.arg 0),(.arg 1,.arg 1),(.arg 2,.arg 2),(.arg 3,.arg 3),(.arg 4,.arg 4),(.arg 5,.arg 5),(.arg 6,.arg 6),(.arg 7,.arg 7),(.arg 8,.arg 8)] rfl (by simp[*]) ?_
  .simp[hlA,hlB,Xu,Xt]
   exact .rfl
 .refine aJ fe rfl ?_
  simp[eO]
  try simp[f1,f2,f3]
  all_goals try(repeat'(first|((refine UR (S:=[.arg 0,.arg 1,.arg 2,.arg 3,.arg 4,.arg 5,.arg 6,.arg 7]) c1 ?_ ?_;(· simp[f1,f2,f3]))<;>try simp[f1,f2,f3])))
  refine ug [(.arg 0,.arg 0),(.arg 1,.arg 1),(.arg 2,.arg 2),(.arg 3,.arg 3),(.arg 4,.arg 4),(.arg 5,.arg 5),(.arg 6,.arg 6),(.arg 7,.arg 7),(.arg 8,.arg 8)] rfl (by simp[*]) ?_
  .simp[hlA,hlB,Xu,Xt]
   exact .rfl
def NF(t:Bool)(l:List oBj)(fl:List cE)(calls i:Int)(n:ByteArray)(b h:Bs):ajk 129 ⟨[],[.ptr (.arg 2) 0 0,oC 7,oC 8],
  [iW t,dA (.arg 2),cF l.length calls fl.length 1 (.arg 3) (.arg 4),cG l,cH fl,av i,bW n,eU b,eU h],
  .tup [.agg [.osl (.arg 3) l.length,.t (int calls),.osl (.arg 4) fl.length],.t (int 140)],
  [some (iW t),some (dA (.arg 2)),some (cF l.length calls fl.length 1 (.arg 3) (.arg 4)),some (cG l),some (cH fl),some (av i),some (bW n),some (eU b),some (eU h)],[]⟩:=by
 have Vt:List.take l.length (l.map a0)=l.map a0:=aju (by simp)
 have UJ:List.take fl.length (fl.map bD)=fl.map bD:=aju (by simp)
 refine aJ fe rfl ?_
 simp[eO]
 skip
 refine ug [(.arg 0,.arg 0),(.arg 1,.arg 1),(.arg 2,.arg 2),(.arg 3,.arg 3),(.arg 4,.arg 4),(.arg 5,.arg 5),(.arg 6,.arg 6),(.arg 7,.arg 7),(.arg 8,.arg 8)] rfl (by simp[*]) ?_
 .simp[Vt,UJ]
  exact .rfl
def cW(l:List oBj)(i:Nat)(o:oBj):List oBj:=l.take i++[o]++l.drop i
def Eu(l:List oBj)(i:Nat)(o:oBj)(hi:i<=l.length):(cW l i o).length=l.length+1:=by simp[cW];omega
def NG(l:List oBj)(fl:List cE)(calls Tl:Int)(i:Nat)(n:ByteArray)(b h:Bs)(hi:i<=l.length)(hl:l.length<=1000000)(hb:b.length<=1000000)(hh:h.length<=1000000)(f1:¬Tl=1):ajk 129 ⟨[],[.ptr (.arg 2) 0 0,oC 7,oC 8],
  [iW false,dA (.arg 2),cF l.length calls fl.length Tl (.arg 3) (.arg 4),cG l,cH fl,av i,bW n,eU b,eU h],
  .tup [.agg [.osl (.loc 0 0) (l.length+1),.t (int calls),.osl (.arg 4) fl.length],.t (int (fH Tl))],
  [some (iW false),some (dA (.arg 2)),some (cF (l.length+1) calls fl.length Tl (.loc 0 0) (.arg 4)),none,some (cH fl),some (av i),some (bW n),some (eU b),some (eU h)],[cG (if Tl=3 then cW l i ⟨n,h⟩else cW l i ⟨n,b⟩)]⟩:=by
 have c1:=Et l fl calls Tl i n b hi hl hb
 have c2:=Et l fl calls Tl i n h hi hl hh
 have UJ:List.take fl.length (fl.map bD)=fl.map bD:=aju (by simp)
 have hls:=Eu l i
 have htC:∀o:oBj,List.take (l.length+1) ((cW l i o).map a0)=(cW l i o).map a0:=fun o=>aju (by simp[hls o hi])
 unfold fH
 rw[if_neg f1]
 have hA:cW l i ⟨n,b⟩=cW l i ⟨n,b⟩:=rfl
 have hB:cW l i ⟨n,h⟩=cW l i ⟨n,h⟩:=rfl
 conv at hA=>lhs;unfold cW
 conv at hB=>lhs;unfold cW
 rw[hA]at c1
 rw[hB]at c2
 have hlA:=hls ⟨n,b⟩ hi
 have hlB:=hls ⟨n,h⟩ hi
 have Xu:=htC ⟨n,b⟩
 have Xt:=htC ⟨n,h⟩
 clear hA hB htC hls
 generalize cW l i ⟨n,b⟩=A at*
 generalize cW l i ⟨n,h⟩=B at*
 by_cases f3:Tl=3
 .subst f3
  refine aJ fe rfl ?_
  simp[eO]
  try simp
  all_goals try(repeat'(first|((refine UR (S:=[.arg 0,.arg 1,.arg 2,.arg 3,.arg 4,.arg 5,.arg 6,.arg 8]) c2 ?_ ?_;(· simp))<;>try simp)))
  refine ug [(.arg 0,.arg 0),(.arg 1,.arg 1),(.arg 2,.arg 2),(.loc 21 0,.loc 0 0),(.arg 3,.arg 3),(.arg 4,.arg 4),(.arg 5,.arg 5),(.arg 6,.arg 6),(.arg 7,.arg 7),(.arg 8,.arg 8)] rfl (by simp[*]) ?_
  .simp[hlA,hlB,Xu,Xt,UJ]
   exact .rfl
 by_cases f2:Tl=2
 .subst f2
  refine aJ fe rfl ?_
  simp[eO]
  try simp
  all_goals try(repeat'(first|((refine UR (S:=[.arg 0,.arg 1,.arg 2,.arg 3,.arg 4,.arg 5,.arg 6,.arg 7]) c1 ?_ ?_;(· simp))<;>try simp)))
  refine ug [(.arg 0,.arg 0),(.arg 1,.arg 1),(.arg 2,.arg 2),(.loc 27 0,.loc 0 0),(.arg 3,.arg 3),(.arg 4,.arg 4),(.arg 5,.arg 5),(.arg 6,.arg 6),(.arg 7,.arg 7),(.arg 8,.arg 8)] rfl (by simp[*]) ?_
  .simp[hlA,hlB,Xu,Xt,UJ]
   exact .rfl
 .refine aJ fe rfl ?_
  simp[eO]
  try simp[f1,f2,f3]
  all_goals try(repeat'(first|((refine UR (S:=[.arg 0,.arg 1,.arg 2,.arg 3,.arg 4,.arg 5,.arg 6,.arg 7]) c1 ?_ ?_;(· simp[f1,f2,f3]))<;>try simp[f1,f2,f3])))
  refine ug [(.arg 0,.arg 0),(.arg 1,.arg 1),(.arg 2,.arg 2),(.loc 27 0,.loc 0 0),(.arg 3,.arg 3),(.arg 4,.arg 4),(.arg 5,.arg 5),(.arg 6,.arg 6),(.arg 7,.arg 7),(.arg 8,.arg 8)] rfl (by simp[*]) ?_
  .simp[hlA,hlB,Xu,Xt,UJ]
   exact .rfl
def xf(l:List oBj)(n:ByteArray)(b:Bs):List oBj:=if dq l n=true then l.set (cA l n) ⟨n,b⟩else cW l (cA l n) ⟨n,b⟩
def iX(s:aw)(n:ByteArray)(b:Bs):aw×Int:=
 if fU s (dX n)≠0 then(fG,fU s (dX n))else if 8192<b.length then(fG,2)else if dq s.objs n=false/\1024<=s.objs.length then(fG,2)
 else(⟨ka (cV s) s.objs (xf s.objs n (b.take (b.length/2))) (xf s.objs n b),s.calls+1,s.faults⟩,fH (cV s))
def qg(l:List oBj)(s:ByteArray):∀(k i j:Nat),i<=j->kK l s k i j<=j
 |0,i,j,h=>h
 |k+1,i,j,h=>by
  unfold kK
  split
  .split<;>(first|(split<;>first|exact qg l s k _ _ (by omega)|exact akf (qg l s k _ _ (by omega)) (by omega))|exact qg l s k _ _ (by omega)|exact akf (qg l s k _ _ (by omega)) (by omega))
  .exact h
def NH(l:List oBj)(s:ByteArray):cA l s<=l.length:=qg l s _ _ _ (Nat.zero_le _)
def Ev(s:aw)(n:ByteArray)(b:Bs)(h1:s.objs.length<=1000000)(h2:s.faults.length<=1000000)(hb:b.length<=1000000):aji 53 [bi s,str n,aS b] (.tup [.t (bi (iX s n b).1),.t (int (iX s n b).2)]):=by
 have c1:=sO n
 have c2:=s8 s (dX n) h1 h2
 have Uf:=fun h=>qe (s:=s) (b:=dX n) h
 have hv:iX s n b=iX s n b:=rfl
 conv at hv=>rhs;unfold iX
 generalize iX s n b=r at*
 generalize dX n=nb at*
 generalize fU s nb=me at*
 by_cases h0:me=0
 .subst h0
  obtain⟨WQ,rfl⟩:=Uf rfl
  obtain⟨_,_,g3,g4,_⟩:=lW WQ
  have c3:=sX s h1 h2 g3 g4
  have c4:=fun f=>sW s.objs s.faults (s.calls+1) f n h1
  simp only[ne_eq,akB,ajS]at hv
  have TF:List.range 3=[0,1,2]:=rfl
  have hlt:dq s.objs n=true->cA s.objs n<s.objs.length:=fun h=>by
   unfold dq at h
   cases hx:s.objs[cA s.objs n]? with
   |none=>rw[hx]at h;cases h
   |some o=>exact(ajs.1 hx).1
  have TK:=NH s.objs n
  have c4:=c4 (cV s)
  unfold xf at hv
  generalize cV s=fa at*
  generalize dq s.objs n=ha at*
  generalize cA s.objs n=lo at*
  by_cases TZ:8192<b.length
  .have TY:(8192:Int)<(b.length:Int):=by omega
   rw[if_pos TZ]at hv
   subst hv
   refine pu nV rfl ?_
   simp[mP]
   try simp[TF,TZ,TY]
   all_goals try(repeat'(first|((first|refine aj ?_|refine Up c1 rfl ?_|refine Up c2 rfl ?_|(refine UR (S:=[]) c3 ?_ ?_;(· simp[TF,TZ,TY]))|(refine UR (S:=[.loc 22 0,.loc 22 1,.loc 22 2]) c4 ?_ ?_;(· simp[TF,TZ,TY])))<;>try simp[TF,TZ,TY])))
   all_goals exact iV iq .rfl
  have TY:¬(8192:Int)<(b.length:Int):=by omega
  rw[if_neg TZ]at hv
  by_cases Uu:ha=false/\1024<=s.objs.length
  .rw[if_pos Uu]at hv
   obtain⟨rfl,Uu⟩:=Uu
   have YT:(1024:Int)<=(s.objs.length:Int):=by omega
   subst hv
   refine pu nV rfl ?_
   simp[mP]
   try simp[TF,TZ,TY,Uu,YT]
   all_goals try(repeat'(first|((first|refine aj ?_|refine Up c1 rfl ?_|refine Up c2 rfl ?_|(refine UR (S:=[]) c3 ?_ ?_;(· simp[TF,TZ,TY,Uu,YT]))|(refine UR (S:=[.loc 22 0,.loc 22 1,.loc 22 2]) c4 ?_ ?_;(· simp[TF,TZ,TY,Uu,YT])))<;>try simp[TF,TZ,TY,Uu,YT])))
   all_goals exact iV iq .rfl
  rw[if_neg Uu]at hv
  have c5:=fun b'=>ND ha s.objs s.faults (s.calls+1) fa lo n b'
  obtain⟨k,hk⟩:∃k,b.length/2=k:=⟨_,rfl⟩
  have Uz:((b.length:Nat):Int)/2=(k:Int):=by omega
  have U6:k<=b.length:=by omega
  have UH:(k:Int)<=(b.length:Int):=by omega
  rw[hk]at hv
  have c6:=c5 b
  have c7:=c5 (b.take k)
  have TD:List.take k (b.map aC)=(b.take k).map aC:=by rw[List.map_take]
  have hhl:(b.take k).length<=1000000:=by rw[ajA];omega
  clear c5
  generalize b.take k=h at*
  cases ha with
  |true=>
   have hlo:=hlt rfl
   have c8:=NE s.objs s.faults (s.calls+1) fa lo n b h hlo hb hhl
   simp only[if_true]at hv
   refine pu nV rfl ?_
   simp[mP]
   try simp[TF,TZ,TY,Uz,U6,UH,TD,bt]
   all_goals try(repeat'(first|((first|refine aj ?_|refine Up c1 rfl ?_|refine Up c2 rfl ?_|(refine UR (S:=[]) c3 ?_ ?_;(· simp[TF,TZ,TY,Uz,U6,UH,TD,bt]))|(refine UR (S:=[.loc 22 0,.loc 22 1,.loc 22 2]) c4 ?_ ?_;(· simp[TF,TZ,TY,Uz,U6,UH,TD,bt]))|(refine UK (S:=[.loc 11 0,.loc 9 0,.loc 22 0,.loc 22 1,.loc 22 2,.loc 10 0,.loc 4 0]) (F:=[]) (keep:=[.loc 11 0,.loc 9 0,.loc 22 0,.loc 22 1,.loc 22 2,.loc 10 0,.loc 4 0]) c6 ?_ ?_ ?_;iterate 2 (· simp[TF,TZ,TY,Uz,U6,UH,TD,bt]))|(refine UK (S:=[.loc 11 0,.loc 9 0,.loc 22 0,.loc 22 1,.loc 22 2,.loc 10 0,.loc 4 0]) (F:=[]) (keep:=[.loc 11 0,.loc 9 0,.loc 22 0,.loc 22 1,.loc 22 2,.loc 10 0,.loc 4 0]) c7 ?_ ?_ ?_;iterate 2 (· simp[TF,TZ,TY,Uz,U6,UH,TD,bt]))|(refine UK (S:=[.loc 11 0,.loc 9 0,.loc 22 0,.loc 22 1,.loc 22 2,.loc 10 0,.loc 4 0,.loc 47 0,.loc 54 0]) (F:=[]) (keep:=[.loc 9 0]) c8 ?_ ?_ ?_;iterate 2 (· simp[TF,TZ,TY,Uz,U6,UH,TD,bt]))|simp(disch:=omega) only[wr])<;>try simp[TF,TZ,TY,Uz,U6,UH,TD,bt])))
   subst hv
   refine j9 (x:=bi ⟨ka fa s.objs (s.objs.set lo ⟨n,h⟩) (s.objs.set lo ⟨n,b⟩),s.calls+1,s.faults⟩) (dp (rd:=[.loc 22 1,.loc 22 2]) ?_) (bn _) .rfl .rfl
   have hD:(ka fa s.objs (s.objs.set lo ⟨n,h⟩) (s.objs.set lo ⟨n,b⟩)).length=s.objs.length:=by unfold ka;(repeat' split)<;>simp
   generalize ka fa s.objs (s.objs.set lo ⟨n,h⟩) (s.objs.set lo ⟨n,b⟩)=D at*
   have htD:List.take s.objs.length (D.map a0)=D.map a0:=aju (by simp[hD])
   have UJ:List.take s.faults.length (s.faults.map bD)=s.faults.map bD:=aju (by simp)
   simp[hD,htD,UJ]
  |false=>
   have Wu:¬1024<=s.objs.length:=fun h=>Uu ⟨rfl,h⟩
   have Vh:¬(1024:Int)<=(s.objs.length:Int):=by omega
   simp only[ajU,ajS]at hv
   by_cases f1:fa=1
   .subst f1
    have c8:=NF false s.objs s.faults (s.calls+1) lo n b h
    refine pu nV rfl ?_
    simp[mP]
    try simp[TF,TZ,TY,Uz,U6,UH,TD,bt,Wu,Vh]
    all_goals try(repeat'(first|((first|refine aj ?_|refine Up c1 rfl ?_|refine Up c2 rfl ?_|(refine UR (S:=[]) c3 ?_ ?_;(· simp[TF,TZ,TY,Uz,U6,UH,TD,bt,Wu,Vh]))|(refine UR (S:=[.loc 22 0,.loc 22 1,.loc 22 2]) c4 ?_ ?_;(· simp[TF,TZ,TY,Uz,U6,UH,TD,bt,Wu,Vh]))|(refine UK (S:=[.loc 11 0,.loc 9 0,.loc 22 0,.loc 22 1,.loc 22 2,.loc 10 0,.loc 4 0]) (F:=[]) (keep:=[.loc 11 0,.loc 9 0,.loc 22 0,.loc 22 1,.loc 22 2,.loc 10 0,.loc 4 0]) c6 ?_ ?_ ?_;iterate 2 (· simp[TF,TZ,TY,Uz,U6,UH,TD,bt,Wu,Vh]))|(refine UK (S:=[.loc 11 0,.loc 9 0,.loc 22 0,.loc 22 1,.loc 22 2,.loc 10 0,.loc 4 0]) (F:=[]) (keep:=[.loc 11 0,.loc 9 0,.loc 22 0,.loc 22 1,.loc 22 2,.loc 10 0,.loc 4 0]) c7 ?_ ?_ ?_;iterate 2 (· simp[TF,TZ,TY,Uz,U6,UH,TD,bt,Wu,Vh]))|(refine UK (S:=[.loc 11 0,.loc 9 0,.loc 22 0,.loc 22 1,.loc 22 2,.loc 10 0,.loc 4 0,.loc 47 0,.loc 54 0]) (F:=[]) (keep:=[.loc 9 0]) c8 ?_ ?_ ?_;iterate 2 (· simp[TF,TZ,TY,Uz,U6,UH,TD,bt,Wu,Vh]))|simp(disch:=omega) only[wr])<;>try simp[TF,TZ,TY,Uz,U6,UH,TD,bt,Wu,Vh])))
    rw[show ka 1 s.objs (cW s.objs lo ⟨n,h⟩) (cW s.objs lo ⟨n,b⟩)=s.objs from rfl]at hv
    subst hv
    refine j9 (x:=bi ⟨s.objs,s.calls+1,s.faults⟩) (dp (rd:=[.loc 22 1,.loc 22 2]) ?_) (bn _) .rfl .rfl
    have htD:List.take s.objs.length (s.objs.map a0)=s.objs.map a0:=aju (by simp)
    have UJ:List.take s.faults.length (s.faults.map bD)=s.faults.map bD:=aju (by simp)
    simp[htD,UJ]
   .have c8:=NG s.objs s.faults (s.calls+1) fa lo n b h TK h1 hb hhl f1
    refine pu nV rfl ?_
    simp[mP]
    try simp[TF,TZ,TY,Uz,U6,UH,TD,bt,Wu,Vh]
    all_goals try(repeat'(first|((first|refine aj ?_|refine Up c1 rfl ?_|refine Up c2 rfl ?_|(refine UR (S:=[]) c3 ?_ ?_;(· simp[TF,TZ,TY,Uz,U6,UH,TD,bt,Wu,Vh]))|(refine UR (S:=[.loc 22 0,.loc 22 1,.loc 22 2]) c4 ?_ ?_;(· simp[TF,TZ,TY,Uz,U6,UH,TD,bt,Wu,Vh]))|(refine UK (S:=[.loc 11 0,.loc 9 0,.loc 22 0,.loc 22 1,.loc 22 2,.loc 10 0,.loc 4 0]) (F:=[]) (keep:=[.loc 11 0,.loc 9 0,.loc 22 0,.loc 22 1,.loc 22 2,.loc 10 0,.loc 4 0]) c6 ?_ ?_ ?_;iterate 2 (· simp[TF,TZ,TY,Uz,U6,UH,TD,bt,Wu,Vh]))|(refine UK (S:=[.loc 11 0,.loc 9 0,.loc 22 0,.loc 22 1,.loc 22 2,.loc 10 0,.loc 4 0]) (F:=[]) (keep:=[.loc 11 0,.loc 9 0,.loc 22 0,.loc 22 1,.loc 22 2,.loc 10 0,.loc 4 0]) c7 ?_ ?_ ?_;iterate 2 (· simp[TF,TZ,TY,Uz,U6,UH,TD,bt,Wu,Vh]))|(refine UK (S:=[.loc 11 0,.loc 9 0,.loc 22 0,.loc 22 1,.loc 22 2,.loc 10 0,.loc 4 0,.loc 47 0,.loc 54 0]) (F:=[]) (keep:=[.loc 9 0]) c8 ?_ ?_ ?_;iterate 2 (· simp[TF,TZ,TY,Uz,U6,UH,TD,bt,Wu,Vh]))|simp(disch:=omega) only[wr])<;>try simp[TF,TZ,TY,Uz,U6,UH,TD,bt,Wu,Vh])))
    have Uv:ka fa s.objs (cW s.objs lo ⟨n,h⟩) (cW s.objs lo ⟨n,b⟩)=if fa=3 then cW s.objs lo ⟨n,h⟩else cW s.objs lo ⟨n,b⟩:=by unfold ka;rw[if_neg f1]
    rw[Uv]at hv
    have hD:(if fa=3 then cW s.objs lo ⟨n,h⟩else cW s.objs lo ⟨n,b⟩).length=s.objs.length+1:=by split<;>exact Eu _ _ _ TK
    subst hv
    refine j9 (x:=bi ⟨if fa=3 then cW s.objs lo ⟨n,h⟩else cW s.objs lo ⟨n,b⟩,s.calls+1,s.faults⟩) (dp (rd:=[.loc 55 0,.loc 22 2]) ?_) (bn _) .rfl .rfl
    generalize(if fa=3 then cW s.objs lo ⟨n,h⟩else cW s.objs lo ⟨n,b⟩)=D at*
    have htD:List.take (s.objs.length+1) (D.map a0)=D.map a0:=aju (by simp[hD])
    have UJ:List.take s.faults.length (s.faults.map bD)=s.faults.map bD:=aju (by simp)
    simp[hD,htD,UJ]
 .rw[if_pos h0]at hv
  subst hv
  refine pu nV rfl ?_
  simp[mP]
  try simp[h0]
  all_goals try(repeat'(first|((first|refine Up c1 rfl ?_|refine Up c2 rfl ?_)<;>try simp[h0])))
  all_goals exact iV iq .rfl
def Ew:aji 167 [] (.tup []):=by
 refine pu K0 rfl ?_
 simp[CR]
 refine eM ?_
 simp
def gT(l:List oBj)(i:Nat):List oBj:=l.take i++l.drop (i+1)
def xg(l:List oBj)(i:Nat)(hi:i<l.length):(gT l i).length=l.length-1:=by simp[gT];omega
abbrev Ex:DV:= .fn 173 [.ptr (.arg 0) 0 0,.ptr (.arg 4) 0 0]
def NI(l:List oBj)(fl:List cE)(calls Tl:Int)(n:ByteArray)(hl:l.length<=1000000)(hh:dq l n=false):ajk 173 ⟨[],[.ptr (.arg 0) 0 0,.ptr (.arg 4) 0 0],
  [dA (.arg 1),cF l.length calls fl.length Tl (.arg 2) (.arg 3),cG l,cH fl,bW n],.tup [],
  [some (dA (.arg 1)),some (cF l.length calls fl.length Tl (.arg 2) (.arg 3)),some (cG l),some (cH fl),some (bW n)],[]⟩:=by
 have c4:=sW l fl calls Tl n hl
 rw[hh]at c4
 generalize cA l n=lo at*
 refine aJ CT rfl ?_
 simp[wn]
 repeat'(first|simp[*]|refine UR (S:=[.arg 1,.arg 2,.arg 3]) c4 ?_ ?_)
 exact ug [(.arg 0,.arg 0),(.arg 1,.arg 1),(.arg 2,.arg 2),(.arg 3,.arg 3),(.arg 4,.arg 4)] rfl (by simp[*]) .rfl
def NJ(l:List oBj)(fl:List cE)(calls Tl:Int)(n:ByteArray)(hl:l.length<=1000000)(hh:dq l n=true)(hi:cA l n<l.length):ajk 173 ⟨[],[.ptr (.arg 0) 0 0,.ptr (.arg 4) 0 0],
  [dA (.arg 1),cF l.length calls fl.length Tl (.arg 2) (.arg 3),cG l,cH fl,bW n],.tup [],
  [some (dA (.arg 1)),some (cF (l.length-1) calls fl.length Tl (.loc 0 0) (.arg 3)),none,some (cH fl),some (bW n)],[cG (gT l (cA l n))]⟩:=by
 have c4:=sW l fl calls Tl n hl
 rw[hh]at c4
 generalize cA l n=lo at*
 have c5:=Le (l.map a0) lo (lo+1) (by omega) (by simp;omega)
 have hE:List.take lo (l.map a0)++List.drop (lo+1) (l.map a0)=(gT l lo).map a0:=by unfold gT;rw[aki,List.map_take,List.map_drop]
 have TA:=xg l lo hi
 unfold dM at c5
 rw[hE,ajJ,ajJ,TA]at c5
 generalize gT l lo=L at*
 have hw:IntKind.i64.wrap ((lo:Int)+1)=((lo+1:Nat):Int):=by rw[bx (by omega) (by omega)];omega
 refine aJ CT rfl ?_
 simp[wn]
 repeat'(first|simp[*]|refine UR (S:=[.arg 1,.arg 2,.arg 3]) c4 ?_ ?_|refine UR (S:=[.arg 2]) c5 ?_ ?_)
 exact ug [(.arg 0,.arg 0),(.arg 1,.arg 1),(.arg 2,.arg 2),(.loc 20 0,.loc 0 0),(.arg 3,.arg 3),(.arg 4,.arg 4)] rfl (by simp[*]) .rfl
end
end Go.Wt
