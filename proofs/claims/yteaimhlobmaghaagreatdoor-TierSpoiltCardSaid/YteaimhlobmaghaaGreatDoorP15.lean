/- A part of the proof of a tier statement (the last text closes it): lemmas without condition. -/
import Derived.Test.YteaimhlobmaghaaGreatDoorP14
import Derived.Deep.RegionLaw
import Derived.Lib.Overlaps
import Derived.RecoverIn
set_option linter.all false
set_option maxRecDepth 10000000
set_option maxHeartbeats 0
namespace Go.Wt
section
open Go.RowKit
variable{P:Program}
structure jR(w:World)(M:Nat->Prop)(e:TypeId)(m b cap:Nat)(cs:List Value)(l:List ab):Prop where
 hg:w.heap[b]?=some (.cells cs.toArray e (0,0))
 h0:0<cap
 hcs:cs.length=cap*m
 hl:l.length<=cap
 hcap:cap<=maxLen
 hR:aV w M m cs l
 hM:M b
structure oa(w w':World)(M:Nat->Prop)(e:TypeId)(m:Nat)(b0:Option Nat)(l':List ab)(v:Value):Prop where
 size:w.heap.size<=w'.heap.size
 os:w'.os=w.os
 tape:w'.tape=w.tape
 output:w'.output=w.output
 old:∀b,b<w.heap.size->b0≠some b->w'.heap[b]?=w.heap[b]?
 row:(∃ad,v= .slice ad 0 0/\l'=[])\/∃(b' VQ:Nat) (cs':List Value),v= .slice (some ⟨b',0,none⟩) l'.length VQ/\0<VQ/\w'.heap[b']?=some (.cells cs'.toArray e (0,0))/\cs'.length=VQ*m/\l'.length<=VQ/\VQ<=maxLen/\aV w M m cs' l'/\(b0=some b'\/w.heap.size<=b')
def dM(ds:List DV)(e m:Nat)(l l':List ab):Ct:=⟨[],.osl (.arg 0) l.length::ds,[.rows e m l false],.osl (.loc 0 0) l'.length,[none],[.rows e m l' false]⟩
theorem pL{f:FuncId}{e:TypeId}{m:Nat}{l l':List ab}{ds:List DV}(hc:jG P f)(hm:0<m)
  (h:∀(Z:Nm->Place) (U:Nm->Bool) (w:World) (M:Nat->Prop) (Vc:List Value),Vc.length=ds.length->(∀(i:Nat) (v:Value) (d:DV),Vc[i]?=some v->ds[i]?=some d->ah Z U w M v d)->
   (∀ad,l=[]->Calls P f (Value.slice ad 0 0::Vc).toArray w fun e' w'=>∃v,e'= .returned v/\oa w w' M e m none l' v)/\
   ∀b cap cs,jR w M e m b cap cs l->Calls P f (Value.slice (some ⟨b,0,none⟩) l.length cap::Vc).toArray w fun e' w'=>∃v,e'= .returned v/\oa w w' M e m (some b) l' v):
  ay P f (dM ds e m l l'):=by
 refine⟨hc,fun c Z w vs hw hs hl hv=>?_⟩
 obtain⟨v0,Vc,rfl⟩:∃v0 Vc,vs=v0::Vc:=by
  cases vs with
  |nil=>simp[dM]at hl
  |cons a b=>exact⟨a,b,rfl⟩
 have W8:=hv 0 v0 (.osl (.arg 0) l.length) rfl rfl
 obtain⟨ad,rfl,hU,Ve,V2⟩:=W8.osl_inv
 have hvt:∀(i:Nat) (v:Value) (d:DV),Vc[i]?=some v->ds[i]?=some d->ah Z (dM ds e m l l').env.used w (ae c Z (dM ds e m l l').env.slots) v d:=
  fun i v d h1 h2=>hv (i+1) v d (by simpa using h1) (by simpa[dM]using h2)
 obtain⟨g1,g2⟩:=h Z _ w _ Vc (by simpa[dM]using hl) hvt
 have Tj:(dM ds e m l l').env.slots (.arg 0)=some (.rows e m l false):=rfl
 obtain⟨hu0,hB,hX⟩:=hs.row (.arg 0) _ Tj
 have fin:∀(b0:Option Nat) (v:Value) (w':World),(∀b,b0=some b->0<(Z (.arg 0)).cap/\(Z (.arg 0)).blk=b)->(b0=none->(Z (.arg 0)).cap=0)->oa w w' (ae c Z (dM ds e m l l').env.slots) e m b0 l' v->
   ∃(Z':Nm->Place) (E':aa),E'.slots=(dM ds e m l l').out/\SimW c Z' E' w'/\ah Z' E'.used w' (ae c Z' E'.slots) v (dM ds e m l l').d:=by
  rintro b0 v w' V1 TZ ⟨size,os,tape,output,old,row⟩
  obtain⟨pl,acM,hv',UM⟩:∃pl:Place,pl.m=m/\(∃ad,v= .slice ad l'.length pl.cap/\l'.length<=pl.cap/\(0<pl.cap->ad=some ⟨pl.blk,0,none⟩))/\
    ((pl.cap=0/\l'=[])\/∃cs':List Value,0<pl.cap/\w'.heap[pl.blk]?=some (.cells cs'.toArray e (0,0))/\cs'.length=pl.cap*m/\l'.length<=pl.cap/\pl.cap<=maxLen/\aV w (ae c Z (dM ds e m l l').env.slots) m cs' l'/\(b0=some pl.blk\/w.heap.size<=pl.blk)):=by
   rcases row with⟨ad,rfl,rfl⟩|⟨b',VQ,cs',rfl,q1,q2,q3,q4,q5,q6,q7⟩
   .exact⟨⟨0,0,m⟩,rfl,⟨ad,rfl,ajz _,fun hh=>absurd hh (by simp)⟩,.inl ⟨rfl,rfl⟩⟩
   .exact⟨⟨b',VQ,m⟩,rfl,⟨_,rfl,q4,fun _=>rfl⟩,.inr ⟨cs',q1,q2,q3,q4,q5,q6,q7⟩⟩
  let Z':Nm->Place:=fun s=>if s= .loc 0 0 then pl else Z s
  let E':aa:=⟨fun _=> .junk,fun s=>if s= .loc 0 0 then some (.rows e m l' false)else none,fun s=>decide (s= .loc 0 0)⟩
  have hZ:Z' (.loc 0 0)=pl:=if_pos rfl
  have Zl:0<pl.cap->(c.X pl.blk\/w.heap.size<=pl.blk)/\(c.X pl.blk\/¬c.M0 pl.blk):=by
   intro hp
   rcases UM with⟨h0,_⟩|⟨cs',_,_,_,_,_,_,h7⟩
   .omega
   .rcases h7 with h7|h7
    .obtain⟨q1,q2⟩:=V1 _ h7
     have hr:(Row.rows e m l false).real (Z (.arg 0))=true:=by simpa[Row.real]using q1
     have hx:=((hX hr).1 rfl).resolve_right (fun hge=>by
      have:=hB.lt hr
      rw[hw]at hge
      omega)
     rw[q2]at hx
     exact⟨.inl hx,.inl hx⟩
    .exact⟨.inr h7,.inr fun VM=>by have:=hs.m0 _ VM;rw[hw]at this;omega⟩
  have VK:∀b,b<w.heap.size->¬ae c Z (dM ds e m l l').env.slots b->w'.heap[b]?=w.heap[b]?/\¬ae c Z' E'.slots b:=by
   intro b hlt hM
   have TW:b0≠some b:=by
    intro he
    obtain⟨q1,q2⟩:=V1 _ he
    exact hM (.inr ⟨.arg 0,_,Tj,rfl,by simpa[Row.real]using q1,q2⟩)
   refine⟨old b hlt TW,?_⟩
   rintro(VM|⟨s,r,h1,h2,h3,h4⟩)
   .exact hM (.inl VM)
   .have h1:(if s= .loc 0 0 then some (Row.rows e m l' false)else none)=some r:=h1
    by_cases VT:s= .loc 0 0
    .subst VT
     rw[if_pos rfl]at h1
     cases h1
     rw[hZ]at h3 h4
     simp only[Row.real,akk]at h3
     rcases UM with⟨h0,_⟩|⟨cs',_,_,_,_,_,_,h7⟩
     .omega
     .rcases h7 with h7|h7
      .rw[h4]at h7;exact TW h7
      .omega
    .rw[if_neg VT]at h1;cases h1
  refine⟨Z',E',?_,⟨?_,?_,?_,?_,?_,hs.m0,?_,?_,?_,?_⟩,?_⟩
  .funext s
   show(if s= .loc 0 0 then some (Row.rows e m l' false)else none)=aU [] [none] [.rows e m l' false] s
   cases s with
   |loc d j=>
    by_cases hd:d=0
    .subst hd
     cases j with
     |zero=>rfl
     |succ j=>simp[aU]
    .simp[aU,hd]
   |arg i=>cases i<;>simp[aU]
   |_=>simp[aU]
  .rw[hw];exact size
  .rw[hw];exact os
  .rw[hw];exact tape
  .rw[hw];exact output
  .intro b hlt Zv
   rw[hw]at hlt⊢
   refine old b hlt fun he=>?_
   obtain⟨q1,q2⟩:=V1 _ he
   have hr:(Row.rows e m l false).real (Z (.arg 0))=true:=by simpa[Row.real]using q1
   have hx:=((hX hr).1 rfl).resolve_right (fun hge=>by
    have:=hB.lt hr
    rw[hw]at hge
    omega)
   rw[q2]at hx
   exact Zv hx
  .intro s r hr
   have hr:(if s= .loc 0 0 then some (Row.rows e m l' false)else none)=some r:=hr
   by_cases VT:s= .loc 0 0
   .subst VT
    rw[if_pos rfl]at hr
    cases hr
    refine⟨rfl,?_,?_⟩
    .rw[hZ]
     rcases UM with⟨h0,h1⟩|⟨cs',q1,q2,q3,q4,q5,q6,_⟩
     .exact .inl ⟨h0,h1,acM,hm⟩
     .have q6':=q6.mono size VK
      exact .inr ⟨cs',q1,q2,acM,hm,q3,q4,q5,q6'.1,q6'.2⟩
    .rw[hZ]
     intro Tz
     simp only[Row.real,akk]at Tz
     obtain⟨k1,k2⟩:=Zl Tz
     exact⟨fun _=>by rw[hw];exact k1,k2⟩
   .rw[if_neg VT]at hr;cases hr
  .intro s s' r r' h1 h2 _ _ _ _
   have h1:(if s= .loc 0 0 then some (Row.rows e m l' false)else none)=some r:=h1
   have h2:(if s'= .loc 0 0 then some (Row.rows e m l' false)else none)=some r':=h2
   by_cases VT:s= .loc 0 0
   .by_cases Zj:s'= .loc 0 0
    .rw[VT,Zj]
    .rw[if_neg Zj]at h2;cases h2
   .rw[if_neg VT]at h1;cases h1
  .intro s hf hu
   have hu:decide (s= .loc 0 0)=true:=hu
   rw[ajC hu]at hf
   cases hf
  .exact hs.gl
  .obtain⟨ad',rfl,q1,q2⟩:=hv'
   have:=ah.osl (Z:=Z') (U:=E'.used) (w:=w') (M:=ae c Z' E'.slots) (s:= .loc 0 0) (n:=l'.length) (ad:=ad') rfl (by rw[hZ];exact q1) (by rw[hZ];exact q2)
   rw[hZ]at this
   exact this
 rcases hB with⟨h1,h2,h3,h4⟩|⟨cs,h1,h2,h3,h4,h5,h6,h7,h8,h9⟩
 .have Uy:l.length=0:=by rw[h2];rfl
  rw[h1,Uy]
  refine(g1 ad h2).mono fun e' w' ⟨v,he,hr⟩=>⟨v,he,fin none v w' (fun b hb=>by cases hb) (fun _=>h1) hr⟩
 .rw[V2 h1]
  refine(g2 _ _ cs ⟨h2,h1,h5,h6,h7,⟨h8,h9⟩,.inr ⟨.arg 0,_,Tj,rfl,by simpa[Row.real]using h1,rfl⟩⟩).mono fun e' w' ⟨v,he,hr⟩=>⟨v,he,fin _ v w' (fun b hb=>?_) (fun hb=>by cases hb) hr⟩
  cases hb
  exact⟨h1,rfl⟩
def lay(cs:List Value)(o:Nat)(Th:List Value):List Value:=cs.take o++Th++cs.drop (o+Th.length)
def iM{cs Th:List Value}{o:Nat}(h:o+Th.length<=cs.length):(lay cs o Th).length=cs.length:=by
 simp only[lay,ajB,ajA,aj9]
 omega
def rY(w:World)(b:Nat)(x y:Array Value):(w.setRow b x).setRow b y=w.setRow b y:=by
 unfold World.setRow
 congr 1
 simp only
 apply Array.ext
 .simp
 .intro i h1 h2
  simp only[Array.getElem_modify]
  by_cases hb:b=i
  .simp only[hb,if_true]
   generalize w.heap[i]'(by simpa using h1)=o
   cases o<;>rfl
  .simp only[hb,ajS]
def setRow_size(w:World)(b:Nat)(x:Array Value):(w.setRow b x).heap.size=w.heap.size:=by simp[World.setRow]
def run_copy_row(w:World){dT sT ty ZU:TypeId}{i:TypeInfo}{m:Nat}(hu:P.underlying dT=some (.slice ZU))(hi:P.info? ZU=some i)(Vl:i.size=m){b o dLen dCap:Nat}{a:Addr}{sLen aeq k:Nat}(hk:Nat.min sLen dLen=k)
  {Th cs:List Value} {te:TypeId} (hn:Th.length=k*m) (X7:∀j v,Th[j]?=some v->w.cell? (a.add j)=some v) (hg:w.heap[b]?=some (.cells cs.toArray te (0,0))) (VC:o+Th.length<=cs.length) (h1:∀v∈Th,v.oneCell'=true):
  (Builtin.copy_ #[dT,sT] ty #[.slice (some ⟨b,o,none⟩) dLen dCap,.slice (some a) sLen aeq]).run P w= .ok (goInt k) (w.setRow b (lay cs o Th).toArray):=by
 have hl:=run_loadCells_list (P:=P) w a Th X7
 have TT:=run_storeCells_at P b o te Th 0 cs.toArray w hg (by simpa using VC) h1
 simp only[Nat.add_zero]at TT
 simp[Builtin.copy_,ajD hu,Builtin.lenOf,Builtin.firstCells,sizeOf,typeInfo,hi,Vl,hk,<-hn,hl,TT,lay]
def rZ(w:World){t ty ZU:TypeId}{i:TypeInfo}{m:Nat}(hu:P.underlying t=some (.slice ZU))(hi:P.info? ZU=some i)(Vl:i.size=m){b o n cap:Nat}{a:Addr}{k c:Nat}
  {Th cs:List Value} {te:TypeId} (Tv:n+k<=cap) (hn:Th.length=k*m) (X7:∀j v,Th[j]?=some v->w.cell? (a.add j)=some v) (hg:w.heap[b]?=some (.cells cs.toArray te (0,0))) (VC:o+n*m+Th.length<=cs.length) (h1:∀v∈Th,v.oneCell'=true):
  (Builtin.append_ #[t,t] ty #[.slice (some ⟨b,o,none⟩) n cap,.slice (some a) k c]).run P w= .ok (.slice (some ⟨b,o,none⟩) (n+k) cap) (w.setRow b (lay cs (o+n*m) Th).toArray):=by
 subst Vl
 have Y4:=run_firstCells_some (P:=P) w i.size k a k c Th hn X7
 have TT:=run_storeCells_at P b (o+n*i.size) te Th 0 cs.toArray w hg (by simpa using VC) h1
 simp only[Nat.add_zero]at TT
 simp[Builtin.append_,ajD hu,sizeOf,typeInfo,hi,Builtin.lenOf,Tv,Y4,Addr.add_lit,TT,lay]
section
variable{ops:Array Oper}{o:Oper}{a:Act}{w:World}{K:Act->World->Prop}{Q:Exit->Act->World->Prop}{X:Prop}
def r5{dT sT:TypeId}(hg:o.guard=none)(d x:Operand)(UY:o.op=Op.call {callee:=Callee.builtin Builtin.copy,args:=#[d,x],argTypes:=#[dT,sT]}){v u:Value}(hd:a.eval d=v)(hx:a.eval x=u){v':Value}{w':World}
  (hr:(Builtin.copy_ #[dT,sT] o.type #[v,u]).run P w= .ok v' w') (hK:K (a.put o.dst v') w'):if Region.wanted o (yielded ops a.tmps)=true then Oper.wp P o a w K Q else X:=by
 rw[if_pos (by simp[Region.wanted,hg])]
 unfold Oper.wp
 simp[execOp,UY,resolve,invoke,builtin,hd,hx,hr,Result.andThen]
 exact hK
def C2{dT sT:TypeId}(hg:o.guard=none)(d x:Operand)(UY:o.op=Op.call {callee:=Callee.builtin Builtin.append,args:=#[d,x],argTypes:=#[dT,sT]}){v u:Value}(hd:a.eval d=v)(hx:a.eval x=u){v':Value}{w':World}
  (hr:(Builtin.append_ #[dT,sT] o.type #[v,u]).run P w= .ok v' w') (hK:K (a.put o.dst v') w'):if Region.wanted o (yielded ops a.tmps)=true then Oper.wp P o a w K Q else X:=by
 rw[if_pos (by simp[Region.wanted,hg])]
 unfold Oper.wp
 simp[execOp,UY,resolve,invoke,builtin,hd,hx,hr,Result.andThen]
 exact hK
def r6{rest:List Oper}{dT sT:TypeId}(hg:o.guard=none)(d x:Operand)(UY:o.op=Op.call {callee:=Callee.builtin Builtin.copy,args:=#[d,x],argTypes:=#[dT,sT]}){v u:Value}(hd:a.eval d=v)(hx:a.eval x=u){v':Value}{w':World}
  (hr:(Builtin.copy_ #[dT,sT] o.type #[v,u]).run P w= .ok v' w') (h:wpList P ops Q rest (a.put o.dst v') w'):wpList P ops Q (o::rest) a w:=
 wpList_plain hg fun K hK=>by
  unfold Oper.wp execOp
  simp only[UY,resolve,invoke,builtin,ajH,aj0,ajF,List.map_toArray,ajQ,aj4,hd,hx,hr]
  exact hK _ _ h
def r7{rest:List Oper}{dT sT:TypeId}(hg:o.guard=none)(d x:Operand)(UY:o.op=Op.call {callee:=Callee.builtin Builtin.append,args:=#[d,x],argTypes:=#[dT,sT]}){v u:Value}(hd:a.eval d=v)(hx:a.eval x=u){v':Value}{w':World}
  (hr:(Builtin.append_ #[dT,sT] o.type #[v,u]).run P w= .ok v' w') (h:wpList P ops Q rest (a.put o.dst v') w'):wpList P ops Q (o::rest) a w:=
 wpList_plain hg fun K hK=>by
  unfold Oper.wp execOp
  simp only[UY,resolve,invoke,builtin,ajH,aj0,ajF,List.map_toArray,ajQ,aj4,hd,hx,hr]
  exact hK _ _ h
end
def aV.drop{w:World}{M:Nat->Prop}{m:Nat}{cs:List Value}{l:List ab}(h:aV w M m cs l)(n:Nat):aV w M m (cs.drop (n*m)) (l.drop n):=by
 refine⟨fun t ht=>h.1 t (akn ht),fun k t j cc hk hj=>?_⟩
 rw[aka]at hk
 obtain⟨h1,v,h2,h3⟩:=h.2 (n+k) t j cc hk hj
 refine⟨h1,v,?_,h3⟩
 rw[aka,<-h2]
 congr 1
 rw[Nat.add_mul]
 omega
def aV.takeC{w:World}{M:Nat->Prop}{m:Nat}{cs:List Value}{l:List ab}(h:aV w M m cs l)(n:Nat):aV w M m (cs.take (n*m)) (l.take n):=by
 refine(h.take n).ext fun i hi=>?_
 rw[ajN,if_pos]
 rw[ajA]at hi
 exact ajY hi (ajZ _ (by omega))
def oc{w w1:World}{M:Nat->Prop}{e m b cap:Nat}{cs cs':List Value}{l l':List ab}(h:jR w M e m b cap cs l)(hh:w1.heap=w.heap)(X8:w1.os=w.os)(Uo:w1.tape=w.tape)(UE:w1.output=w.output)(Tk:cs'.length=cs.length)(XX:l'.length<=cap)(hR:aV w M m cs' l'):
  oa w (w1.setRow b cs'.toArray) M e m (some b) l' (.slice (some ⟨b,0,none⟩) l'.length cap):=by
 have hg:w1.heap[b]?=some (.cells cs.toArray e (0,0)):=by rw[hh];exact h.hg
 refine⟨by simp[World.setRow,hh],X8,Uo,UE,fun b' _ TW=>?_,.inr ⟨b,cap,cs',rfl,h.h0,setRow_heap w1 b _ _ _ _ hg,by rw[Tk,h.hcs],XX,h.hcap,hR,.inl rfl⟩⟩
 rw[setRow_other w1 b b' _ (fun he=>TW (by rw[he])),hh]
def C3{w:World}{M:Nat->Prop}{e m b cap:Nat}{cs:List Value}{l l':List ab}(h:jR w M e m b cap cs l)(hl:l'=l):oa w w M e m (some b) l' (.slice (some ⟨b,0,none⟩) l.length cap):=by
 subst hl
 exact⟨ajz _,rfl,rfl,rfl,fun _ _ _=>rfl,.inr ⟨b,cap,cs,rfl,h.h0,h.hg,h.hcs,h.hl,h.hcap,h.hR,.inl rfl⟩⟩
def od{w w':World}{M:Nat->Prop}{e m VQ n':Nat}{b0:Option Nat}{cs':List Value}{l':List ab}(hsz:w'.heap.size=w.heap.size+1)(X8:w'.os=w.os)(Uo:w'.tape=w.tape)(UE:w'.output=w.output)(TP:∀b,b<w.heap.size->w'.heap[b]?=w.heap[b]?)
  (hg:w'.heap[w.heap.size]?=some (.cells cs'.toArray e (0,0))) (hn:n'=l'.length) (h0:0<VQ) (Tk:cs'.length=VQ*m) (XX:l'.length<=VQ) (hcap:VQ<=maxLen) (hR:aV w M m cs' l'):oa w w' M e m b0 l' (.slice (some ⟨w.heap.size,0,none⟩) n' VQ):=by
 subst hn
 exact⟨by omega,X8,Uo,UE,fun b hb _=>TP b hb,.inr ⟨_,VQ,cs',rfl,h0,hg,Tk,XX,hcap,hR,.inr (ajz _)⟩⟩
def jR.cells{w:World}{M:Nat->Prop}{e m b cap:Nat}{cs:List Value}{l:List ab}(h:jR w M e m b cap cs l){o:Nat}{Th:List Value}(hn:∀j v,Th[j]?=some v->cs[o+j]?=some v){w1:World}(hh:w1.heap=w.heap):
  ∀j v,Th[j]?=some v->w1.cell? ((⟨b,o,none⟩:Addr).add j)=some v:=by
 intro j v hj
 rw[Addr.add_lit]
 have hg:w1.heap[b]?=some (.cells cs.toArray e (0,0)):=by rw[hh];exact h.hg
 rw[gb hg]
 simpa using hn j v hj
def jR.one{w:World}{M:Nat->Prop}{e m b cap:Nat}{cs:List Value}{l:List ab}(h:jR w M e m b cap cs l)(hm:0<m):∀v∈cs.take (l.length*m),v.oneCell'=true:=by
 intro v hv
 rw[<-mq]
 exact h.hR.one hm l.length (ajz _) v hv
def aV.nil{w:World}{M:Nat->Prop}{m:Nat}:aV w M m [] []:=⟨by simp,fun k t j cc hk=>by simp at hk⟩
def r8{w:World}{M:Nat->Prop}{m:Nat}{A Th tail rest:List Value}{l1 l2:List ab}{x:ab}(h1:aV w M m A l1)(hA:A.length=l1.length*m)(h2:aV w M m Th [x])(hn:Th.length=1*m)(h3:aV w M m tail l2):
  aV w M m (A++Th++(tail++rest)) (l1++[x]++l2):=by
 have q:=h1.append (rest:=[]) h2 hA
 rw[akr]at q
 have:=q.append (rest:=rest) h3 (by rw[ajB,ajB,hA,hn,List.length_singleton,Nat.add_mul])
 rwa[aj1]at this
def r9(w:World){e m:Nat}{zt:ab}(hz:cu P e=some zt)(hl:zt.cells.length=m):∃(VH:TypeInfo) (zv:Value),P.info? e=some VH/\VH.zero=some zv/\(∀w:World,(zeroValue e).run P w= .ok zv w)/\zv.cells.size=m/\(∀v∈zv.cells.toList,v.oneCell'=true):=by
 obtain⟨VH,zv,z1,z2,_,z3⟩:=nF (M:=fun _=>False) (U:=fun _=>false) (Z:=fun _=>⟨0,0,0⟩) (w:=w) hz
 obtain⟨u1,u2,_⟩:=z3.cells_inv rfl
 refine⟨VH,zv,z1,z2,fun w=>by simp[zeroValue,typeInfo,z1,z2,Sem.run],?_,fun v hv=>by rw[<-mq];exact u2 v hv⟩
 have:(DV.t zt).cells.length=zt.cells.length:=by cases zt<;>simp[DV.cells,ab.cells]
 rw[<-Array.length_toList,u1,this,hl]
def C4{Z:Nm->Place}{U:Nm->Bool}{w:World}{M:Nat->Prop}{v:Value}{m:Nat}{x:ab}(hm:0<m)(h:ah Z U w M v (.ls m [x])):∃(vb:Nat) (vcs:Array Value) (ve:TypeId) (Th:List Value),v= .slice (some ⟨vb,0,none⟩) 1 1/\¬M vb/\vb<w.heap.size/\w.heap[vb]?=some (.cells vcs ve (0,0))/\
  Th.length=1*m/\(∀v∈Th,v.oneCell'=true)/\(∀j v,Th[j]?=some v->w.cell? ⟨vb,j,none⟩=some v)/\aV w M m Th [x]:=by
 cases h with
 |@ls b n _ _ cs e hn hM hg h=>
  have hn:n=1:=hn
  subst hn
  generalize hv:Value.slice (some ⟨b,0,none⟩) 1 1=v at h
  cases h with
  |sl u US hb hn' hc Vu hu h1 h2=>
   obtain⟨Th,q1,q2,q3,q4⟩:=nC hm Vu u hu h1 h2
   cases hv
   exact⟨b,cs,e,Th,rfl,hM,hb,hg,q1,fun v hv=>by rw[<-mq];exact q2 v hv,fun j v hj=>by have:=q3 j v hj;rwa[ajX]at this,q4⟩
end
section
open Go.RowKit
variable{P:Program}
def ji(o:Oper):Option Nat×Op×Option (Nat×Bool):=(o.dst,o.op,o.guard)
def lF{o:Oper}{d:Option Nat}{op:Op}{g:Option (Nat×Bool)}(h:ji o=(d,op,g)):∃ty p af,o=⟨d,op,ty,p,af,g⟩:=by
 obtain⟨d',op',ty,p,af,g'⟩:=o
 simp only[ji,ajV]at h
 obtain⟨rfl,rfl,rfl⟩:=h
 exact⟨ty,p,af,rfl⟩
def C5{l:List Oper}{s1 s2 s3 s4:Option Nat×Op×Option (Nat×Bool)}(h:l.map ji=[s1,s2,s3,s4]):∃o1 o2 o3 o4,l=[o1,o2,o3,o4]/\ji o1=s1/\ji o2=s2/\ji o3=s3/\ji o4=s4:=by
 have hl:l.length=4:=by have:=congrArg List.length h;rwa[ajJ]at this
 obtain⟨o1,l,rfl⟩:=List.exists_cons_of_length_eq_add_one hl
 obtain⟨o2,l,rfl⟩:=List.exists_cons_of_length_eq_add_one (Nat.succ.inj hl)
 obtain⟨o3,l,rfl⟩:=List.exists_cons_of_length_eq_add_one (Nat.succ.inj (Nat.succ.inj hl))
 obtain⟨o4,l,rfl⟩:=List.exists_cons_of_length_eq_add_one (Nat.succ.inj (Nat.succ.inj (Nat.succ.inj hl)))
 have h0:l=[]:=ajO (Nat.succ.inj (Nat.succ.inj (Nat.succ.inj (Nat.succ.inj hl))))
 subst h0
 have h1:=List.cons.inj h
 have h2:=List.cons.inj h1.2
 have h3:=List.cons.inj h2.2
 have h4:=List.cons.inj h3.2
 exact⟨o1,o2,o3,o4,rfl,h1.1,h2.1,h3.1,h4.1⟩
def wt{n id x y d1 d2 d3:Nat}{t e:TypeId}{m:Nat}{zt:ab}{ops:Array Oper}{E:aa}{K:Exit->aa->Prop}{s:Nm}{l:List ab}{i:Nat}
  (hops:ops.toList.map ji=[(some d1,.move (.tmp x),none),(some d2,.move (.tmp y),none),(some d3,.slice t (.tmp d1) (some (.tmp d2)) none none,none),(none,.call {callee:= .builtin .clear,args:=#[.tmp d3],argTypes:=#[t]},none)])
  (ht:P.underlying t=some (.slice e)) (hm:bm P e=some m) (hz:cu P e=some zt) (hzm:zt.cells.length=m) (hd1:d1<n) (hd2:d2<n) (hd3:d3<n) (hy:y≠d1) (Wx:d1≠d2)
  (ex:E.tmps x= .osl s l.length) (ey:E.tmps y= .t (.v (.int .i64 i))) (Tj:E.slots s=some (.rows e m l false)) (hi:i<=l.length)
  (hK:K .normal ((((E.put d1 (.osl s l.length)).put d2 (.t (.v (.int .i64 i)))).put d3 .junk).upd [(s,some (.rows e m (l.take i) false))])):
  cM P n (.region id ops false) E K:=by
 obtain⟨o1,o2,o3,o4,hl,h1,h2,h3,h4⟩:=C5 hops
 obtain⟨ty1,p1,af1,rfl⟩:=lF h1
 obtain⟨ty2,p2,af2,rfl⟩:=lF h2
 obtain⟨ty3,p3,af3,rfl⟩:=lF h3
 obtain⟨ty4,p4,af4,rfl⟩:=lF h4
 have:ops=#[_,_,_,_]:=akh hl
 rw[this]
 exact K9 ht hm hz hzm hd1 hd2 hd3 hy Wx ex ey Tj hi hK
def wu{n id x y d1 d2 d3 d4:Nat}{t e:TypeId}{m:Nat}{ops:Array Oper}{E:aa}{K:Exit->aa->Prop}{s:Nm}{k i:Nat}
  (hops:ops.toList.map ji=[(some d1,.move (.tmp x),none),(some d2,.move (.tmp y),none),(some d3,.slice t (.tmp d1) none (some (.tmp d2)) none,none),(some d4,.move (.tmp d3),none)]\/
   ops.toList.map ji=[(some d1,.move (.tmp x),none),(some d2,.move (.tmp y),none),(some d3,.slice t (.tmp d1) none (some (.tmp d2)) none,none),(some d4,.assign (.tmp d3),none)])
  (ht:P.underlying t=some (.slice e)) (hm:bm P e=some m) (hd1:d1<n) (hd2:d2<n) (hd3:d3<n) (hd4:d4<n) (hy:y≠d1) (Wx:d1≠d2)
  (ex:E.tmps x= .osl s k) (ey:E.tmps y= .t (.v (.int .i64 i))) (hi:i<=k)
  (hK:K .normal ((((E.put d1 (.osl s k)).put d2 (.t (.v (.int .i64 i)))).put d3 (.osl s i)).put d4 (.osl s i))):
  cM P n (.region id ops false) E K:=by
 have key:∀(op4:Op),(∀(ev:Operand->Value) (ty p af),∀w:World,(execOp ev ⟨some d4,op4,ty,p,af,none⟩).run P w= .ok (.value (ev (.tmp d3))) w)->(∀cl,op4≠.defer cl)->
   ops.toList.map ji=[(some d1,.move (.tmp x),none),(some d2,.move (.tmp y),none),(some d3,.slice t (.tmp d1) none (some (.tmp d2)) none,none),(some d4,op4,none)]->cM P n (.region id ops false) E K:=by
  intro op4 acE ae1 hops
  obtain⟨o1,o2,o3,o4,hl,h1,h2,h3,h4⟩:=C5 hops
  obtain⟨ty1,p1,af1,rfl⟩:=lF h1
  obtain⟨ty2,p2,af2,rfl⟩:=lF h2
  obtain⟨ty3,p3,af3,rfl⟩:=lF h3
  obtain⟨ty4,p4,af4,rfl⟩:=lF h4
  refine CX fun c Z a w hc hs=>?_
  have hn:=hc.n
  subst hn
  rw[hl]
  refine gJ rfl (kB (by simp) (v:=a.eval (.tmp x)) (w':=w) rfl ?_)
  have Uq:ai c Z (E.put d1 (.osl s k)) (a.put (some d1) (a.eval (.tmp x))) w:=by
   have:=hs.ev (.tmp x)
   rw[show E.ev (.tmp x)=E.tmps x from rfl,ex]at this
   exact hs.put (dst:=some d1) (by simpa using hd1) this
  refine gJ rfl (kB (by simp) (v:=(a.put (some d1) (a.eval (.tmp x))).eval (.tmp y)) (w':=w) rfl ?_)
  generalize ha1:a.put (some d1) (a.eval (.tmp x))=a1 at*
  have T8:ai c Z ((E.put d1 (.osl s k)).put d2 (.t (.v (.int .i64 i)))) (a1.put (some d2) (a1.eval (.tmp y))) w:=by
   have:=Uq.ev (.tmp y)
   rw[show(E.put d1 (.osl s k)).ev (.tmp y)=E.tmps y from if_neg hy,ey]at this
   exact Uq.put (dst:=some d2) (by simpa using hd2) this
  generalize ha2:a1.put (some d2) (a1.eval (.tmp y))=a2 at*
  have hv1:a2.eval (.tmp d1)=a.eval (.tmp x):=by
   rw[<-ha2,CY Wx,<-ha1,rX (by rw[hs.sz];exact hd1)]
  have hx:=hs.ev (.tmp x)
  rw[show E.ev (.tmp x)=E.tmps x from rfl,ex]at hx
  obtain⟨ad,hv,hU,hcap,V2⟩:=hx.osl_inv
  have Ti:=nE (dst:=some d3) (ty:=ty3) (pos:=p3) (after:=af3) (g:=none) T8 (by simpa using hd3) ht hm (x:= .tmp d1) (lo:=none) (hi:=some (.tmp d2)) (ad:=ad) (len:=k) (cap:=(Z s).cap) (l:=0) (u:=i) (hv1.trans hv) hcap
   (by simp[dS]) (by simp[dS,aa.ev]) (by omega) (by omega) (by omega)
  refine gJ rfl (kB (by simp) Ti ?_)
  have hval:Value.slice (if(Z s).cap=((0:Int)).toNat then ad else ad.map (·.add (((0:Int)).toNat*m))) (((i:Int)).toNat-((0:Int)).toNat) ((Z s).cap-((0:Int)).toNat)= .slice ad i (Z s).cap:=by
   simp only[Int.toNat_zero,akl,Nat.sub_zero,Nat.zero_mul]
   by_cases h0:(Z s).cap=0
   .rw[if_pos h0]
   .rw[if_neg h0]
    have:=V2 (by omega)
    subst this
    simp[Addr.add]
  rw[hval]
  have Ug:ai c Z (((E.put d1 (.osl s k)).put d2 (.t (.v (.int .i64 i)))).put d3 (.osl s i)) (a2.put (some d3) (.slice ad i (Z s).cap)) w:=
   T8.put (dst:=some d3) (by simpa using hd3) (.osl hU (by omega) V2)
  have Wc:(a2.put (some d3) (.slice ad i (Z s).cap)).eval (.tmp d3)= .slice ad i (Z s).cap:=rX (by rw[T8.sz];exact hd3)
  refine gJ rfl (kB (fun cl=>ae1 cl) (acE _ _ _ _ w) ?_)
  rw[Wc]
  exact pK ⟨Z,_,hK,Ug.put (dst:=some d4) (by simpa using hd4) (.osl hU (by omega) V2)⟩
 rcases hops with hops|hops
 .exact key _ (fun ev ty p af w=>rfl) (by simp) hops
 .exact key _ (fun ev ty p af w=>rfl) (by simp) hops
def oe{f:FuncId}{fn:Func}{code:Code}{rs:List cy}(hf:P.funcs[f]?=some fn)(Vk:(fn.name== "runtime.NumGoroutine")=false)(hb:fn.body=some code)(hr:i8 P fn=some rs)
  {k:Ct} (VU:k.gs=[]) (hn:k.ds.length<=fn.ntmps) (hw:cM P fn.ntmps code (gi k.ds k.rows) (Fin rs (Ends k))):ay P f k:=CW hf Vk hb hr k hn (by rw[pw VU];exact hw)
def og{α:Type}{q:α->Bool}{l:List α}{j:Nat}{x:α}(h:l[j]?=some x):(l.take (j+1)).filter q=(l.take j).filter q++(if q x=true then[x]else[]):=by
 rw[List.take_add_one,h]
 by_cases hq:q x=true<;>simp[hq]
def pM{α:Type}(p:α->Bool):∀l:List α,(bf p l= -1/\∀x∈l,p x=false)\/∃i:Nat,bf p l=i/\i<l.length/\(∀x,l[i]?=some x->p x=true)/\∀x∈l.take i,p x=false:=by
 intro l
 by_cases h:∀x∈l,p x=false
 .exact .inl ⟨fP fun i x hx=>h x (ajx hx),h⟩
 .right
  induction l with
  |nil=>simp at h
  |cons a l ih=>
   by_cases ha:p a=true
   .exact⟨0,fE (i:=0) rfl (fun j x hj=>by omega) ha,by simp,fun x hx=>by simp at hx;subst hx;exact ha,by simp⟩
   .have ha:p a=false:=by simpa using ha
    obtain⟨i,h1,h2,h3,h4⟩:=ih (fun hh=>h fun x hx=>by
     rcases akc.1 hx with rfl|hx
     .exact ha
     .exact hh x hx)
    have hi:=ajq h2
    refine⟨i+1,fE (i:=i+1) (y:=l[i]) hi (fun j x hj hx=>?_) (h3 _ hi),by simpa using h2,fun x hx=>h3 x (by simpa using hx),fun x hx=>?_⟩
    .cases j with
     |zero=>simp at hx;subst hx;exact ha
     |succ j=>
      refine h4 x ?_
      have hx:l[j]?=some x:=by simpa using hx
      exact ajx (l:=l.take i) (i:=j) (by rw[ajN,if_pos (by omega)];exact hx)
    .simp only[List.take_succ_cons,akc]at hx
     rcases hx with rfl|hx
     .exact ha
     .exact h4 x hx
end
section
open Go.RowKit Go.Proofs Go.Lib
def Lc(w:World)(b cap n i j:Nat)(A:Addr)(W1 W2:World)(hA:(if cap=j then some (⟨b,0,none⟩:Addr)else some ⟨b,j*2,none⟩)=some A)(hlt:i<j)(hj:j<=n)(hn:n<=cap)(hm:cap<=9223372036854775807)
  (Zm:∀ty,(Builtin.append_ #[28,28] ty #[.slice (some ⟨b,0,none⟩) i cap,.slice (some A) (n-j) (cap-j)]).run Tryz.prog w.drew= .ok (.slice (some ⟨b,0,none⟩) (i+(n-j)) cap) W1)
  (TA:∀ty,(Builtin.clear_ #[28] ty #[.slice (some ⟨b,(i+(n-j))*2,none⟩) (n-(i+(n-j))) (cap-(i+(n-j)))]).run Tryz.prog W1= .ok (.tuple #[]) W2):
  Calls Tryz.prog 174 #[.slice (some ⟨b,0,none⟩) n cap,.int .i64 i,.int .i64 j] w fun e' w'=>e'= .returned (.slice (some ⟨b,0,none⟩) (i+(n-j)) cap)/\w'=W2:=by
 have XE:i<=j:=by omega
 have hic:i<=cap:=by omega
 have hjc:j<=cap:=by omega
 have heq:¬i=j:=by omega
 have hsc:¬cap=i+(n-j):=by omega
 have Uq:i+(n-j)<=n:=by omega
 go_enter Tryz.func174,Tryz.ntmps174
 go_wp2_with fail
 go_region_law (refine C2 (v:= .slice (some ⟨b,0,none⟩) i cap) (u:= .slice (some A) (n-j) (cap-j)) rfl (.tmp 22) (.tmp 25) rfl (by simp[Act.eval,Act.put]) (by simp[Act.eval,Act.put]) (Zm _) ?_)
 go_wp2
 go_ret
 exact⟨rfl,rfl⟩
def Ld(w:World)(b cap n i:Nat)(hi:i<=n)(hn:n<=cap):Calls Tryz.prog 174 #[.slice (some ⟨b,0,none⟩) n cap,.int .i64 i,.int .i64 i] w fun e' w'=>e'= .returned (.slice (some ⟨b,0,none⟩) n cap)/\w'=w:=by
 have hic:i<=cap:=by omega
 go_enter Tryz.func174,Tryz.ntmps174
 go_wp2
 all_goals(go_ret;exact⟨rfl,rfl⟩)
def Le(l:List ab)(i j:Nat)(XE:i<=j)(hj:j<=l.length):ay Tryz.prog 174 (dM [.t (int i),.t (int j)] 65 2 l (l.take i++l.drop j)):=by
 have hsz:bm Tryz.prog 65=some 2:=by kernel_rfl
 refine pL ⟨_,_,Tryz.func174,by kernel_rfl,rfl⟩ (by decide) fun Z U w M Vc W6 hv=>?_
 obtain⟨VH,zv,z1,z0,z2,z3,z4⟩:=r9 (P:=Tryz.prog) w (e:=65) (m:=2) (zt:=(.agg [.v (.string ⟨#[]⟩),.e0])) (by kernel_rfl) rfl
 have Vl:VH.size=2:=by
  unfold bm at hsz
  rw[z1]at hsz
  simpa using hsz
 obtain⟨v1,v2,rfl⟩:∃v1 v2,Vc=[v1,v2]:=by
  match Vc,W6 with
  |[v1,v2],_=>exact⟨v1,v2,rfl⟩
 obtain⟨rfl,_⟩:=(hv 0 v1 _ rfl rfl).v_inv
 obtain⟨rfl,_⟩:=(hv 1 v2 _ rfl rfl).v_inv
 refine⟨fun ad Uy=>?_,fun b cap cs h=>?_⟩
 .subst Uy
  have hj0:j=0:=by simpa using hj
  have UL:i=0:=by omega
  subst hj0 UL
  have h1:Calls Tryz.prog 174 #[.slice ad 0 0,.int .i64 (0:Nat),.int .i64 (0:Nat)] w fun e' w'=>e'= .returned (.slice ad 0 0)/\w'=w:=by
   clear hv W6
   go_enter Tryz.func174,Tryz.ntmps174
   go_wp2
   all_goals(go_ret;exact⟨rfl,rfl⟩)
  refine h1.mono ?_
  rintro e' w' ⟨rfl,rfl⟩
  exact⟨_,rfl,ajz _,rfl,rfl,rfl,fun _ _ _=>rfl,.inl ⟨ad,rfl,rfl⟩⟩
 have Vf:cap<=9223372036854775807:=by have:=h.hcap;simp only[maxLen]at this;omega
 obtain⟨n,hn⟩:∃n,n=l.length:=⟨_,rfl⟩
 have Xk:n<=cap:=by rw[hn];exact h.hl
 rw[<-hn]at hj⊢
 by_cases heq:i=j
 .subst heq
  refine(Ld w b cap n i hj Xk).mono ?_
  rintro e' w' ⟨rfl,rfl⟩
  refine⟨_,rfl,?_⟩
  have:=C3 h (l':=l.take i++l.drop i) (List.take_append_drop i l)
  rw[<-hn]at this
  exact this
 have hlt:i<j:=by omega
 obtain⟨Th,Ux⟩:∃Th,Th=(cs.take (n*2)).drop (j*2):=⟨_,rfl⟩
 have hcs:=h.hcs
 have hnl:Th.length=(n-j)*2:=by rw[Ux,aj9,ajA,hcs];omega
 have Vk:∀k v,Th[k]?=some v->cs[j*2+k]?=some v:=fun k v hk=>by
  rw[Ux,aka,ajN]at hk
  split at hk
  .exact hk
  .cases hk
 obtain⟨A,hA,X7⟩:∃A:Addr,(if cap=j then some (⟨b,0,none⟩:Addr)else some ⟨b,j*2,none⟩)=some A/\∀k v,Th[k]?=some v->w.drew.cell? (A.add k)=some v:=by
  by_cases hc:cap=j
  .refine⟨⟨b,0,none⟩,by simp[hc],fun k v hk=>?_⟩
   have:Th.length=0:=by rw[hnl];omega
   rw[aj3.1 this]at hk
   cases hk
  .exact⟨⟨b,j*2,none⟩,by simp[hc],h.cells Vk (w1:=w.drew) rfl⟩
 have h1n:∀v∈Th,v.oneCell'=true:=fun v hv=>h.one (by decide) v (by rw[<-hn];rw[Ux]at hv;exact akn hv)
 have hu:Tryz.prog.underlying 28=some (.slice 65):=by kernel_rfl
 have Zm:∀ty,(Builtin.append_ #[28,28] ty #[.slice (some ⟨b,0,none⟩) i cap,.slice (some A) (n-j) (cap-j)]).run Tryz.prog w.drew= .ok (.slice (some ⟨b,0,none⟩) (i+(n-j)) cap) (w.drew.setRow b (lay cs (0+i*2) Th).toArray):=
  fun ty=>rZ w.drew hu z1 Vl (by omega) hnl X7 (show w.drew.heap[b]?=_ from h.hg) (by rw[hnl,hcs];omega) h1n
 rw[ajX]at Zm
 have Wv:(lay cs (i*2) Th).length=cs.length:=iM (by rw[hnl,hcs];omega)
 obtain⟨X,hX⟩:∃X,X=lay cs (i*2) Th:=⟨_,rfl⟩
 rw[<-hX]at Zm Wv
 have VN:(w.drew.setRow b X.toArray).heap[b]?=some (.cells X.toArray 65 (0,0)):=setRow_heap w.drew b _ _ _ _ h.hg
 have TA:∀ty,(Builtin.clear_ #[28] ty #[.slice (some ⟨b,(i+(n-j))*2,none⟩) (n-(i+(n-j))) (cap-(i+(n-j)))]).run Tryz.prog (w.drew.setRow b X.toArray)= .ok (.tuple #[]) _:=
  fun ty=>ws hu (z2 _) z4 (by omega) VN (by rw[z3,Wv,hcs];omega)
 refine(Lc w b cap n i j A _ _ hA hlt hj Xk Vf Zm TA).mono ?_
 rintro e' w' ⟨rfl,rfl⟩
 refine⟨_,rfl,?_⟩
 rw[rY]
 have Tk:(l.take i++l.drop j).length=i+(n-j):=by
  rw[ajB,ajA,aj9,<-hn];omega
 have VV:(Builtin.zeroCells zv.cells (n-(i+(n-j)))).toList.length=(n-(i+(n-j)))*2:=by simp[Builtin.zeroCells,z3]
 have hR:=(h.hR.takeC i).append (rest:=(Builtin.zeroCells zv.cells (n-(i+(n-j)))).toList++X.drop ((i+(n-j))*2+(n-(i+(n-j)))*zv.cells.size)) (show aV w M 2 Th (l.drop j)from by
  have:=(h.hR.takeC n).drop j
  rw[<-Ux,aju (show l.length<=n by omega)]at this
  exact this) (by rw[ajA,ajA,<-hn,hcs];rw[Nat.min_eq_left (by omega),Nat.min_eq_left (by omega)])
 have TD:X.take ((i+(n-j))*2)=cs.take (i*2)++Th:=by
  rw[hX,lay]
  exact List.take_left' (by rw[ajB,ajA,hnl,hcs];omega)
 have:=oc h (w1:=w.drew) (cs':=X.take ((i+(n-j))*2)++(Builtin.zeroCells zv.cells (n-(i+(n-j)))).toList++X.drop ((i+(n-j))*2+(n-(i+(n-j)))*zv.cells.size)) rfl rfl rfl rfl (by
  simp only[ajB,ajA,aj9,VV,Wv,hcs,z3];omega) (by rw[Tk];omega) (by rw[TD,aj1];exact hR)
 rw[Tk]at this
 exact this
end
section
open Go.RowKit
variable{P:Program}
structure Lf(w w':World)(M:Nat->Prop)(e m b cap:Nat)(l':List ab):Prop where
 size:w.heap.size<=w'.heap.size
 os:w'.os=w.os
 tape:w'.tape=w.tape
 output:w'.output=w.output
 old:∀b',b'<w.heap.size->b'≠b->w'.heap[b']?=w.heap[b']?
 row:∃cs':List Value,w'.heap[b]?=some (.cells cs'.toArray e (0,0))/\cs'.length=cap*m/\l'.length<=cap/\aV w M m cs' l'
def ff(ds:List DV)(d:DV)(e m:Nat)(l l':List ab):Ct:=⟨[],.osl (.arg 0) l.length::ds,[.rows e m l false],d,[some (.rows e m l' false)],[]⟩
theorem Lh{f:FuncId}{e:TypeId}{m:Nat}{l l':List ab}{ds:List DV}{d:DV}(hc:jG P f)(hm:0<m)(Uy:l=[]->l'=[])
  (h:∀(Z:Nm->Place) (U:Nm->Bool) (w:World) (M:Nat->Prop) (Vc:List Value),Vc.length=ds.length->(∀(i:Nat) (v:Value) (d:DV),Vc[i]?=some v->ds[i]?=some d->ah Z U w M v d)->
   (∀ad,l=[]->Calls P f (Value.slice ad 0 0::Vc).toArray w fun e' w'=>∃v,e'= .returned v/\(∀(Z:Nm->Place) (U:Nm->Bool) (w:World) (M:Nat->Prop),ah Z U w M v d)/\Below w.heap.size w w')/\
   ∀b cap cs,jR w M e m b cap cs l->Calls P f (Value.slice (some ⟨b,0,none⟩) l.length cap::Vc).toArray w fun e' w'=>∃v,e'= .returned v/\(∀(Z:Nm->Place) (U:Nm->Bool) (w:World) (M:Nat->Prop),ah Z U w M v d)/\Lf w w' M e m b cap l'):
  ay P f (ff ds d e m l l'):=by
 refine⟨hc,fun c Z w vs hw hs hl hv=>?_⟩
 obtain⟨v0,Vc,rfl⟩:∃v0 Vc,vs=v0::Vc:=by
  cases vs with
  |nil=>simp[ff]at hl
  |cons a b=>exact⟨a,b,rfl⟩
 have W8:=hv 0 v0 (.osl (.arg 0) l.length) rfl rfl
 obtain⟨ad,rfl,hU,Ve,V2⟩:=W8.osl_inv
 have hvt:∀(i:Nat) (v:Value) (x:DV),Vc[i]?=some v->ds[i]?=some x->ah Z (ff ds d e m l l').env.used w (ae c Z (ff ds d e m l l').env.slots) v x:=
  fun i v x h1 h2=>hv (i+1) v x (by simpa using h1) (by simpa[ff]using h2)
 obtain⟨g1,g2⟩:=h Z _ w _ Vc (by simpa[ff]using hl) hvt
 have Tj:(ff ds d e m l l').env.slots (.arg 0)=some (.rows e m l false):=rfl
 obtain⟨hu0,hB,hX⟩:=hs.row (.arg 0) _ Tj
 have agp:∀s r,(ff ds d e m l l').env.slots s=some r->s= .arg 0:=by
  intro s r hr
  cases s with
  |arg i=>
   cases i with
   |zero=>rfl
   |succ i=>exact absurd hr (by simp[Ct.env,aU,ff])
  |loc a i=>exact absurd hr (by simp[Ct.env,aU,ff])
  |_=>exact absurd hr (by simp[Ct.env,aU,ff])
 have fin:∀(v:Value) (w':World),w.heap.size<=w'.heap.size->w'.os=w.os->w'.tape=w.tape->w'.output=w.output->
   (∀b,b<w.heap.size->(0<(Z (.arg 0)).cap->b≠(Z (.arg 0)).blk)->w'.heap[b]?=w.heap[b]?)->ah Z (ff ds d e m l l').env.used w' (fun _=>True) v d->(∀(Z:Nm->Place) (U:Nm->Bool) (w:World) (M:Nat->Prop),ah Z U w M v d)->
   (((Z (.arg 0)).cap=0/\l'=[])\/∃cs':List Value,0<(Z (.arg 0)).cap/\w'.heap[(Z (.arg 0)).blk]?=some (.cells cs'.toArray e (0,0))/\cs'.length=(Z (.arg 0)).cap*m/\l'.length<=(Z (.arg 0)).cap/\(Z (.arg 0)).cap<=maxLen/\aV w (ae c Z (ff ds d e m l l').env.slots) m cs' l')->(Z (.arg 0)).m=m->
   ∃(Z':Nm->Place) (E':aa),E'.slots=(ff ds d e m l l').out/\SimW c Z' E' w'/\ah Z' E'.used w' (ae c Z' E'.slots) v (ff ds d e m l l').d:=by
  intro v w' size os tape output old _ hv UM Vj
  let E':aa:=⟨fun _=> .junk,fun s=>if s= .arg 0 then some (.rows e m l' false)else none,fun s=>decide (s= .arg 0)⟩
  have VK:∀b,b<w.heap.size->¬ae c Z (ff ds d e m l l').env.slots b->w'.heap[b]?=w.heap[b]?/\¬ae c Z E'.slots b:=by
   intro b hlt hM
   refine⟨old b hlt fun h0 he=>hM (.inr ⟨.arg 0,_,Tj,rfl,by simpa[Row.real]using h0,he.symm⟩),?_⟩
   rintro(VM|⟨s,r,h1,h2,h3,h4⟩)
   .exact hM (.inl VM)
   .have h1:(if s= .arg 0 then some (Row.rows e m l' false)else none)=some r:=h1
    by_cases VT:s= .arg 0
    .subst VT
     rw[if_pos rfl]at h1
     cases h1
     exact hM (.inr ⟨.arg 0,_,Tj,rfl,by simpa[Row.real]using h3,h4⟩)
    .rw[if_neg VT]at h1;cases h1
  refine⟨Z,E',?_,⟨?_,?_,?_,?_,?_,hs.m0,?_,?_,?_,hs.gl⟩,hv _ _ _ _⟩
  .funext s
   show(if s= .arg 0 then some (Row.rows e m l' false)else none)=aU [] [some (.rows e m l' false)] [] s
   cases s with
   |arg i=>
    cases i with
    |zero=>rfl
    |succ i=>simp[aU]
   |loc a j=>simp[aU]
   |_=>simp[aU]
  .rw[hw];exact size
  .rw[hw];exact os
  .rw[hw];exact tape
  .rw[hw];exact output
  .intro b hlt Zv
   rw[hw]at hlt⊢
   refine old b hlt fun h0 he=>?_
   have hr:(Row.rows e m l false).real (Z (.arg 0))=true:=by simpa[Row.real]using h0
   have hx:=((hX hr).1 rfl).resolve_right (fun hge=>by
    have:=hB.lt hr
    rw[hw]at hge
    omega)
   rw[<-he]at hx
   exact Zv hx
  .intro s r hr
   have hr:(if s= .arg 0 then some (Row.rows e m l' false)else none)=some r:=hr
   by_cases VT:s= .arg 0
   .subst VT
    rw[if_pos rfl]at hr
    cases hr
    refine⟨rfl,?_,fun Tz=>hX (by simpa[Row.real]using Tz)⟩
    rcases UM with⟨h0,h1⟩|⟨cs',q1,q2,q3,q4,q5,q6⟩
    .exact .inl ⟨h0,h1,Vj,hm⟩
    .have q6':=q6.mono size VK
     exact .inr ⟨cs',q1,q2,Vj,hm,q3,q4,q5,q6'.1,q6'.2⟩
   .rw[if_neg VT]at hr;cases hr
  .intro s s' r r' h1 h2 _ _ _ _
   have h1:(if s= .arg 0 then some (Row.rows e m l' false)else none)=some r:=h1
   have h2:(if s'= .arg 0 then some (Row.rows e m l' false)else none)=some r':=h2
   by_cases VT:s= .arg 0
   .by_cases Zj:s'= .arg 0
    .rw[VT,Zj]
    .rw[if_neg Zj]at h2;cases h2
   .rw[if_neg VT]at h1;cases h1
  .intro s hf hu
   have hu:decide (s= .arg 0)=true:=hu
   rw[ajC hu]
   exact hs.fix (.arg 0) rfl hu0
 rcases hB with⟨h1,h2,h3,h4⟩|⟨cs,h1,h2,h3,h4,h5,h6,h7,h8,h9⟩
 .have hlz:l.length=0:=by rw[h2];rfl
  rw[h1,hlz]
  refine(g1 ad h2).mono fun e' w' ⟨v,he,hv,hb⟩=>⟨v,he,fin v w' hb.size hb.os hb.tape hb.output (fun b hlt _=>hb.block b hlt) (hv _ _ _ _) hv (.inl ⟨h1,Uy h2⟩) h3⟩
 .rw[V2 h1]
  refine(g2 _ _ cs ⟨h2,h1,h5,h6,h7,⟨h8,h9⟩,.inr ⟨.arg 0,_,Tj,rfl,by simpa[Row.real]using h1,rfl⟩⟩).mono fun e' w' ⟨v,he,hv,hr⟩=>⟨v,he,?_⟩
  obtain⟨cs',q1,q2,q3,q4⟩:=hr.row
  exact fin v w' hr.size hr.os hr.tape hr.output (fun b hlt TW=>hr.old b hlt (TW h1)) (hv _ _ _ _) hv (.inr ⟨cs',h1,q1,q2,q3,h7,q4⟩) h3
end
section
open Go.RowKit Go.Proofs Go.Lib Go.Wm
section
variable{P:Program}
def Li{f:FuncId}{fn:Func}{x y:Code}{args:Array Value}{u:FrameMode}{w:World}{R:Ending->FrameMode->World->Prop}(hf:P.funcs[f]?=some fn)(hb:fn.body=some (.seq x y))
  (h:∀(c₀:Frame) (cs:List Frame),c₀.mode=u->x.wpSIn (FW none) 0 P (fun e a cs' w'=>e= .normal/\bV (FW none) 0 P y (fun e' a' ZX=>bodyPostS P fn c₀ cs R e' a' cs' ZX) a w') {tmps:=args++Array.replicate (fn.ntmps-args.size) undef,defers:=[]} (c₀::cs) w):
  CallsDIn (FW none) 0 P f args u w R:=by
 refine⟨trivial,fun c₀ cs hu Tv=>?_⟩
 let b:Frame:={(default:Frame)with fn:=f,kind:= .deferred,roundOf:=none}
 have UZ:Frame.enter P f args .deferred=b.atR {tmps:=args++Array.replicate (fn.ntmps-args.size) undef,defers:=[]} [.code (.seq x y)]:=by
  simp[Frame.enter,Frame.atR,hf,hb,b]
 have i0:(lone (b.atR {tmps:=args++Array.replicate (fn.ntmps-args.size) undef,defers:=[]} [.code (.seq x y)]) (c₀::cs) w).fenced P (FW none):=fenced_calm trivial Tv rfl
 obtain⟨e1,a1,cs1,w1,Xl,⟨rfl,Yr⟩,adA⟩:=h c₀ cs hu b [.code y] rfl rfl trivial Tv
 obtain⟨e,a',w',hq,Vw⟩:=Yr b [] cs1 rfl trivial (Xl▸Tv) ⟨fn,hf⟩
 have TI:=ArrivesIn.of_steps (.head i0 stepR_seq adA) Vw
 rw[<-UZ]at TI
 cases e with
 |normal=>
  obtain⟨hd,u',rfl,v,hr,hR⟩:=hq
  exact⟨.returned v,u',w',_,hR,StepsIn.trans TI (.one (fenced_calm (fr:=b.atR a' []) trivial Tv rfl) (stepR_end rfl)),rfl,rfl,rfl,hd,fn,hf,hr⟩
 |ret=>
  obtain⟨hd,u',rfl,v,hr,hR⟩:=hq
  obtain⟨W4,hs⟩:=TI.1 rfl
  exact⟨.returned v,u',w',_,hR,hs,rfl,rfl,rfl,hd,fn,hf,hr⟩
 |panic Vx=>
  obtain⟨hd,u',rfl,hR⟩:=hq
  obtain⟨W4,hs⟩:=TI
  exact⟨.panicked Vx,u',w',_,hR,hs,rfl,rfl,rfl,hd,fn,hf⟩
 |exit id=>exact hq.elim
 |goto l=>exact hq.elim
 |outgrown=>
  obtain⟨u',hR⟩:=hq
  exact⟨.outgrown,u',w',b,hR,TI.resolve_left (by simp[b]),rfl,rfl,trivial⟩
def C6(P:Program)(f:FuncId)(k:Ct)(u u':FrameMode):Prop:=∀(c:aA) (Z:Nm->Place) (w:World) (vs:List Value),c.w0=w->SimW c Z k.env w->vs.length=k.ds.length->
 (∀(i:Nat) (v:Value) (d:DV),vs[i]?=some v->k.ds[i]?=some d->ah Z k.env.used w (ae c Z k.env.slots) v d)->
 CallsDIn (FW none) 0 P f vs.toArray u w fun e um w'=>(∃v,e= .returned v)/\um=u'/\∃(Z':Nm->Place) (E':aa),E'.slots=k.out/\SimW c Z' E' w'
def Lj{E:aa}{f:FuncId}{ds:List DV}{k:Ct}{S F:List Nm}{u u':FrameMode}(hh:C6 P f k u u')(hm:cL E ds k S F)(Ub:k.new=[]){c:aA}{Z:Nm->Place}{a:Act}{w:World}{vs:List Value}(h:ai c Z E a w)(hl:vs.length=ds.length)
  (hv:∀(i:Nat) (v:Value) (d:DV),vs[i]?=some v->ds[i]?=some d->ah Z E.used w (ae c Z E.slots) v d):
  CallsDIn (FW none) 0 P f vs.toArray u w fun e um w'=>(∃v,e= .returned v)/\um=u'/\∃Z',ai c Z' (E.upd (bB S 0 k++am E F)) a w':=by
 have Wn:∀s∈F,E.used s=true:=fun s hs=>by
  obtain⟨r,hr⟩:=akb.1 (hm.fu s hs)
  exact(h.row s r hr).1
 have h1:ai c Z (E.upd (am E F)) a w:=h.freeze Wn
 have Ut:=hm.goes
 obtain⟨h2,Wb,WI⟩:=h1.toSimW.enter Ut
 have h3:SimW (cS c Z (E.upd (am E F)) w (aL S k.gs)) (bS Z (aL S k.gs)) k.env w:=h2.congr hm.slots hm.used
 rw[hm.slots,hm.used]at Wb
 rw[hm.slots]at WI
 have YV:∀b,ae c Z (E.upd (am E F)).slots b->ae c Z E.slots b:=by
  rintro b (hb|⟨s,r,h4,h5,h6,h7⟩)
  .exact .inl hb
  .obtain⟨r0,h8,h9⟩:=eL h4
   rcases h9 with rfl|rfl
   .exact .inr ⟨s,r,h8,h5,h6,h7⟩
   .rw[dU]at h5;simp at h5
 have hF:∀s∈F,∀r,E.slots s=some r->r.real (Z s)=true->¬ae c Z (E.upd (am E F)).slots (Z s).blk:=by
  rintro s hs r Tj Tz (⟨TZ,Uu⟩|⟨s2,r2,h4,h5,h6,h7⟩)
  .exact((h.row s r Tj).2.2 Tz).2.elim Uu (fun hh=>hh TZ)
  .obtain⟨r0,h8,h9⟩:=eL h4
   rcases h9 with rfl|rfl
   .have:=h.inj s2 s r2 r h8 Tj h5 h6 Tz h7
    subst this
    rw[bM,fB,if_pos hs]at h4
    simp only[ajt]at h4
    obtain⟨y,_,UI⟩:=h4
    rw[<-UI,dU]at h5
    simp at h5
   .rw[dU]at h5;simp at h5
 refine(hh _ _ w vs rfl h3 (hl.trans hm.la) (fun i v d0 UC Un=>?_)).mono fun e um w1 he=>?_
 .have TC:i<ds.length:=by
   have:=(ajs.1 Un).1
   rw[hm.la];exact this
  have XH:=ajq TC
  have YH:=hv i v _ UC XH
  rcases hm.ar i _ d0 XH Un with rfl|⟨x,rd,x',h4,TK,rfl,h5⟩
  .refine Wb v _ (YH.mono (ajz _) (fun b _ hb=>⟨rfl,fun TR=>hb (YV b TR)⟩) (fun s hu=>⟨by rw[bJ,hu,Bool.or_true],rfl⟩))
  .refine .t ?_
   refine(h.toSimW.view (fun b hb=>YV b (WI b hb)) YH h4 fun s hs hcap hb=>?_).le TK
   obtain⟨e,m,l,fz,Tj⟩:=ia h4 s hs
   exact hF s (h5 s hs) _ Tj (by simpa[Row.real]using hcap) (WI _ hb)
 .obtain⟨hv1,rfl,Z1,E',Tj,Tr⟩:=he
  refine⟨hv1,rfl,?_⟩
  rw[jE]
  have:=h1.exit Ut Tr (lf (d:=0) hm Wn (by rw[Ub];intro j hj;simp at hj) Tj) (v:=undef) (d:= .junk) .junk (dst:=none) rfl
  exact this
end
section
variable{P:Program}{c:aA}{Z:Nm->Place}{E:aa}{a:Act}{w:World}{o:Oper}{D:List Deferred}
def _root_.Go.Act.wd(a:Act)(D:List Deferred):Act:={a with defers:=D}
def C7(a:Act)(D:List Deferred)(t:Option Nat)(v:Value):(a.put t v).wd D=(a.wd D).put t v:=by cases t<;>rfl
def C8(a:Act)(t:Option Nat)(v:Value):(a.put t v).defers=a.defers:=by cases t<;>rfl
def wv{rd:Option Nat}{s:al}{r:aq}{K:Act->World->Prop}{Q:Exit->Act->World->Prop}(h:ai c Z E (a.wd D) w)(hd:o.dst.all (· <c.n)=true)(hc:aK P o.op=some s)(hr:s.den P E o.dst=some r)(U7:∀cl,o.op≠.defer cl)
  (hK:∀v w' Z',ai c Z' (r.apply o.dst E) ((a.put o.dst v).wd D) w'->K (a.put o.dst v) w'):o.wpIn (FW rd) 0 P a w K Q:=by
 obtain⟨v,w',Ti,Z',hs⟩:=yE h hd hc hr
 rw[<-C7]at hs
 refine⟨fun _ _=>trivial,?_⟩
 rw[Oper.semAt_eq _ _ _ U7]
 have he:execOp (a.wd D).eval o=execOp a.eval o:=rfl
 rw[he]at Ti
 rcases Ti with Ti|⟨Ti,rfl⟩
 .rw[Ti];exact hK _ _ Z' hs
 .rw[Ti];exact hK _ _ Z' hs
def C9{x:Operand}{ts:Array TypeId}{g:FuncId}{vs:List Value}(ho:o.op= .call ⟨.value x,#[],ts⟩)(hv:a.eval x= .func (.func g) #[] vs.toArray):(execOp a.eval o).run P w=(callFunc g vs.toArray).run P w:=by
 obtain⟨dst,op,ty,pos,after,gd⟩:=o
 simp only at ho
 subst ho
 simp only[execOp,resolve,hv,Deferred.ofValue,ajH,aj0,ajF,invoke]
 simp
def Lk{rd:Option Nat}{x:Operand}{ts:Array TypeId}{g:FuncId}{caps:List DV}{r:aq}{K:Act->World->Prop}{Q:Exit->Act->World->Prop}(h:ai c Z E (a.wd D) w)(hd:o.dst.all (· <c.n)=true)(ho:o.op= .call ⟨.value x,#[],ts⟩)
  (hx:E.ev x= .fn g caps) (hC:pi P E g caps o.dst r) (hK:∀v w' Z',ai c Z' (r.apply o.dst E) ((a.put o.dst v).wd D) w'->K (a.put o.dst v) w'):o.wpIn (FW rd) 0 P a w K Q:=by
 have hx':=h.ev x
 rw[hx]at hx'
 obtain⟨us,vs,hv,YP,hlv,_,Zp⟩:=hx'.callee_inv (f:=g) (pre:=[]) (caps:=caps) rfl
 obtain rfl:us=[]:=aj3.1 YP
 obtain⟨h1,h2⟩:=gD E g caps o.dst r hC
 have U7:∀cl,o.op≠.defer cl:=by intro cl he;rw[ho]at he;cases he
 refine⟨fun _ _=>trivial,?_⟩
 have Ti:=C9 (P:=P) (w:=w) (a:=a) ho hv
 rw[Oper.semAt_eq _ _ _ U7,Ti,kX h1]
 refine⟨fun h=>by simp[FW,Fence.wide]at h,(callsIn_wide (n:=0-1).2 (h2 c Z _ w vs h hd hlv Zp)).mono fun e w' he=>?_⟩
 obtain⟨v,rfl,Z',hs⟩:=he
 exact hK v w' Z' (by rw[C7];exact hs)
def Ll{rd:Option Nat}{x:Operand}{ts:Array TypeId}{g:FuncId}{caps:List DV}{u:Value}{ups:List (Nm×Option Row)}{K:Act->World->Prop}{Q:Exit->Act->World->Prop}(h:ai c Z E (a.wd D) w)(ho:o.op= .call ⟨.value x,#[],ts⟩)
  (hx:E.ev x= .fn g caps) (hC:pj P E g caps u ups) (hQ:∀w' Z',ai c Z' (E.upd ups) (a.wd D) w'->Q (.panic (gf u)) a w'):o.wpIn (FW rd) 0 P a w K Q:=by
 have hx':=h.ev x
 rw[hx]at hx'
 obtain⟨us,vs,hv,YP,hlv,_,Zp⟩:=hx'.callee_inv (f:=g) (pre:=[]) (caps:=caps) rfl
 obtain rfl:us=[]:=aj3.1 YP
 obtain⟨h1,h2⟩:=my (C:=bu) rfl E g caps u ups hC
 have U7:∀cl,o.op≠.defer cl:=by intro cl he;rw[ho]at he;cases he
 refine⟨fun _ _=>trivial,?_⟩
 have Ti:=C9 (P:=P) (w:=w) (a:=a) ho hv
 rw[Oper.semAt_eq _ _ _ U7,Ti,kX h1]
 refine⟨fun h=>by simp[FW,Fence.wide]at h,(callsIn_wide (n:=0-1).2 (h2 c Z _ w vs h hlv Zp)).mono fun e w' he=>?_⟩
 obtain⟨rfl,Z',hs⟩:=he
 exact hQ w' Z' hs
def Lm{x:Operand}{ts:Array TypeId}{f:FuncId}{cap:Array Value}{K:Act->World->Prop}{Q:Exit->Act->World->Prop}(ho:o.op= .defer ⟨.value x,#[],ts⟩)(Vn:o.dst=none)(hv:a.eval x= .func (.func f) #[] cap)
  (hK:K (a.wd ({target:= .fn (.func f) cap,args:=#[]}::a.defers)) w):o.wpIn (FW none) 0 P a w K Q:=by
 refine⟨fun _ _=>trivial,?_⟩
 have hr:(FW none).round=none:=rfl
 rw[hr,Oper.semAt_none]
 obtain⟨dst,op,ty,pos,after,gd⟩:=o
 simp only at ho Vn
 subst ho Vn
 have:(execOp a.eval ⟨none,.defer ⟨.value x,#[],ts⟩,ty,pos,after,gd⟩).run P w= .ok (.defer {target:= .fn (.func f) cap,args:=#[]}) w:=by
  simp only[execOp,resolve,hv,Deferred.ofValue,ajH,aj0,ajF]
  simp
 rw[this]
 exact hK
end
def bO(n:Nat):List (Nm×Nm):=(List.range n).map fun i=>(Nm.arg i,Nm.arg i)
def dg(n:Nat):List Nm:=(List.range n).map Nm.arg
def pN{α:Type}(F:Nat->α)(i:Nat):∀n,((List.range n).map fun i=>(Nm.arg i,F i)).lookup (.arg i)=if i<n then some (F i)else none
 |0=>by simp
 |n+1=>by
  rw[List.range_succ,aki,List.lookup_append,pN F i n]
  simp only[ajQ,aj4,List.lookup_cons,List.lookup_nil]
  by_cases h:i<n
  .simp[h,Nat.lt_succ_of_lt h]
  .by_cases he:i=n
   .subst he;simp
   .have h1:(Nm.arg i==Nm.arg n)=false:=by simp[he]
    have h2:¬i<n+1:=by omega
    simp[h,h1,h2]
def lG{α:Type}(F:Nat->α){s:Nm}(hs:∀i,s≠.arg i):∀n,((List.range n).map fun i=>(Nm.arg i,F i)).lookup s=none
 |0=>by simp
 |n+1=>by
  rw[List.range_succ,aki,List.lookup_append,lG F hs n]
  simp only[ajQ,aj4,List.lookup_cons,List.lookup_nil]
  have h1:(s==Nm.arg n)=false:=by simp[hs n]
  simp[h1]
def Da{α:Type}(n:Nat)(G:Nat->α):((dg n).zipIdx.map fun p=>(p.1,G p.2))=(List.range n).map fun i=>(Nm.arg i,G i):=by
 apply List.ext_getElem?
 intro i
 simp only[dg,ajw,List.getElem?_zipIdx]
 by_cases hi:i<n
 .simp[List.getElem?_range hi]
 .simp[aj2 (show(List.range n).length<=i by simp;omega)]
def Ln{α:Type}(n:Nat)(G:Nat->α):((dg n).zipIdx.map fun p=>(Nm.arg p.2,p.1))=bO n:=by
 apply List.ext_getElem?
 intro i
 simp only[dg,bO,ajw,List.getElem?_zipIdx]
 by_cases hi:i<n
 .simp[List.getElem?_range hi]
 .simp[aj2 (show(List.range n).length<=i by simp;omega)]
def Db(n:Nat):aL (dg n) []=bO n:=by
 unfold aL
 rw[aj4,akr,Da n (fun i=>Nm.arg i)]
 rfl
def Lo(n d:Nat):dt (dg n) d 0=bO n:=by
 unfold dt
 rw[List.range_zero,aj4,akr,Ln n (fun i=>i)]
def Dc(n d:Nat){k:Ct}(hn:k.new=[]):bB (dg n) d k=(List.range n).map fun i=>(Nm.arg i,((k.rows'[i]?).join).map (Row.ren (bO n))):=by
 unfold bB
 rw[hn,List.zipIdx_nil,aj4,akr,List.length_nil,Lo,Da n (fun i=>((k.rows'[i]?).join).map (Row.ren (bO n)))]
def ww(n:Nat):bw (bO n)=true:=by
 have h1:(bO n).map (·.1)=dg n:=by unfold bO dg;rw[aj8];rfl
 have h2:(bO n).map (·.2)=dg n:=by unfold bO dg;rw[aj8];rfl
 have h3:(dg n).Nodup:=by
  unfold dg
  exact List.Pairwise.map _ (fun a b h=>by simpa using h) List.nodup_range
 unfold bw
 rw[h1,h2]
 simp only[h3,decide_true,Bool.true_and,ajR]
 intro p hp
 unfold bO at hp
 obtain⟨i,_,rfl⟩:=ajI.1 hp
 simp
def Lp(n:Nat):flip (bO n)=bO n:=by
 unfold flip bO
 rw[aj8]
 rfl
theorem wx{n:Nat}{E:aa}{rows':List (Option Row)}(hl:rows'.length=n)(hr:∀(i:Nat) (r:Row),rows'[i]?=some (some r)->r.ren (bO n)=r)(h:∀i,i<n->E.slots (.arg i)=(rows'[i]?).join):(E.canon (bO n)).slots=aU [] rows' []:=by
 funext s
 show(match(flip (bO n)).lookup s with|some s0=>(E.slots s0).map (Row.ren (bO n))|none=>none)=_
 rw[Lp]
 cases s with
 |arg i=>
  have h1:=pN (fun i=>Nm.arg i) i n
  unfold bO
  rw[h1]
  by_cases hi:i<n
  .rw[if_pos hi]
   simp only
   rw[h i hi]
   show _=(rows'[i]?).join
   cases h2:rows'[i]? with
   |none=>rfl
   |some o=>
    cases o with
    |none=>rfl
    |some r=>
     have:=hr i r h2
     unfold bO at this
     exact congrArg some this
  .rw[if_neg hi]
   simp only
   show none=(rows'[i]?).join
   rw[aj2 (by omega)]
   rfl
 |loc d j=>
  have h1:=lG (fun i=>Nm.arg i) (s:= .loc d j) (by intro i;simp) n
  unfold bO
  rw[h1]
  simp[aU]
 |glob g=>
  have h1:=lG (fun i=>Nm.arg i) (s:= .glob g) (by intro i;simp) n
  unfold bO
  rw[h1]
  simp[aU]
 |head x y=>
  have h1:=lG (fun i=>Nm.arg i) (s:= .head x y) (by intro i;simp) n
  unfold bO
  rw[h1]
  simp[aU]
 |yl=>
  have h1:=lG (fun i=>Nm.arg i) (s:= .yl) (by intro i;simp) n
  unfold bO
  rw[h1]
  simp[aU]
def Dd{n:Nat}{E:aa}{k:Ct}(VU:k.gs=[])(hl:k.rows.length=n)(hds:∀d∈k.ds,d.ren (bO n)=d)(hr:∀r∈k.rows,r.ren (bO n)=r)(h:∀i,i<n->E.slots (.arg i)=k.rows[i]?)(hu:∀i,i<n->E.used (.arg i)=true):cL E k.ds k (dg n) []:=by
 have TN:∀s∈dg n,∃i,i<n/\s= .arg i:=by
  intro s hs
  unfold dg at hs
  obtain⟨i,hi,rfl⟩:=ajI.1 hs
  exact⟨i,List.mem_range.1 hi,rfl⟩
 refine⟨?_,?_,?_,?_,?_,?_,?_,?_,?_,rfl,?_,by simp⟩
 .unfold dg
  exact List.Pairwise.map _ (fun a b h=>by simpa using h) List.nodup_range
 .intro s hs
  obtain⟨i,_,rfl⟩:=TN s hs
  simp[Nm.isGlob]
 .intro s hs
  obtain⟨i,_,rfl⟩:=TN s hs
  simp
 .rw[VU];simp
 .rw[VU];simp
 .rw[VU];simp
 .rw[hl];simp[dg]
 .intro i s hs
  have TE:i<n:=by
   have:=(ajs.1 hs).1
   simpa[dg]using this
  have YK:s= .arg i:=by
   simp only[dg,ajw,List.getElem?_range TE,akq,ajr]at hs
   exact hs.symm
  subst YK
  have h1:=h i TE
  have h2:=ajq (l:=k.rows) (i:=i) (by omega)
  rw[h2]at h1
  refine⟨_,h1,?_⟩
  rw[VU,Db,hr _ (akA _),h2]
 .intro s hs
  obtain⟨i,hi,rfl⟩:=TN s hs
  exact hu i hi
 .intro i d d0 h1 h2
  rw[h1]at h2
  cases h2
  left
  rw[VU,Db,hds _ (ajx h1)]
section
variable{P:Program}
def De{fn:Func}{rs:List cy}{k:Ct}{c:aA}{w:World}(hr:i8 P fn=some rs)(Wf:c.w0=w){E:aa}{Z1:Nm->Place}{a1:Act}{w1:World}{D:List Deferred}{d:DV}
  (Uq:ai {c with n:=fn.ntmps,dl:=some w.heap.size} Z1 E (a1.wd D) w1) (ho:fZ E rs=some d) (hk:∃ρ,bw ρ=true/\(E.canon ρ).slots=k.out/\bZ (E.outD ρ d) k.d):
  LeavesInM Fence.wide 0 P fn a1.tmps (fun e w'=>∃v,e= .returned v/\∃(Z':Nm->Place) (E':aa),E'.slots=k.out/\SimW c Z' E' w'/\ah Z' E'.used w' (ae c Z' E'.slots) v k.d) D .returning w1:=by
 have Uv:w.heap.size=c.w0.heap.size:=by rw[Wf]
 obtain⟨bs,Xn,WF,Yh⟩:=Uq.df
 have Xn:D=bs.map fun b=>{target:= .collected b,args:=#[]}:=Xn
 rw[Xn]
 refine rj bs w1 WF (fun b hb=>(Yh b hb).2) (fun w' g1 g2 g3 g4 g5=>?_)
 have T8:=Uq.taken (fun b hb=>⟨by obtain⟨l,q1,q2⟩:=(Yh b hb).1;cases q1;rw[<-Uv];exact q2,(Yh b hb).2⟩) g1 g2 g3 g4 g5
 obtain⟨v,h1,h2⟩:=rh T8 hr ho
 obtain⟨ρ,hρ,Tj,hd⟩:=hk
 obtain⟨Z',h3,h4,h5,h6⟩:=kY T8 hρ
 refine⟨v,h1,v,rfl,Z',E.canon ρ,Tj,?_,?_⟩
 .exact⟨h3.size,h3.os,h3.tape,h3.output,h3.old,h3.m0,h3.row,h3.inj,h3.fix,h3.gl⟩
 .exact ah.le hd (uQ T8 h4 h5 h6 h2)
def Lq{k:Ct}{c:aA}{Z:Nm->Place}{w:World}{vs:List Value}(m:Nat)(Wf:c.w0=w)(Tr:SimW c Z k.env w)(hl:vs.length=k.ds.length)(hn:k.ds.length<=m)
  (hv:∀(i:Nat) (v:Value) (d:DV),vs[i]?=some v->k.ds[i]?=some d->ah Z k.env.used w (ae c Z k.env.slots) v d):
  ai {c with n:=m,dl:=some w.heap.size} Z k.env {tmps:=vs.toArray++Array.replicate (m-vs.toArray.size) undef,defers:=[]} w:=by
 have Wi:SimW {c with n:=m,dl:=some w.heap.size} Z k.env w:=⟨Tr.size,Tr.os,Tr.tape,Tr.output,Tr.old,Tr.m0,Tr.row,Tr.inj,Tr.fix,Tr.gl⟩
 refine⟨Wi,fun t=>?_,by show(vs.toArray++Array.replicate (m-vs.toArray.size) undef).size=m;simp;omega,[],rfl,by simp,by simp⟩
 show ah Z k.env.used w (ae c Z k.env.slots) _ (k.ds.getD t .junk)
 by_cases ht:t<vs.length
 .have Xi:t<k.ds.length:=by omega
  have e1:(vs.toArray++Array.replicate (m-vs.toArray.size) undef).getD t undef=vs[t]:=by
   rw[ajM,akv]
   simp[ht]
  have e2:k.ds.getD t .junk=k.ds[t]:=by simp[Xi]
  rw[e1,e2]
  exact hv t _ _ (ajq ht) (ajq Xi)
 .have e2:k.ds.getD t .junk= .junk:=by simp[aj2 (show k.ds.length<=t by omega)]
  rw[e2]
  exact .junk
def Df{a:Act}{t u:Nat}{v:Value}(h:u≠t):(a.put (some t) v).tmps.getD u undef=a.tmps.getD u undef:=by
 show(a.tmps.setIfInBounds t v).getD u undef=_
 rw[ajM,ajM,Array.getElem?_setIfInBounds_ne (Ne.symm h)]
end
def gK(r r':Row):Prop:=r=r'\/∃e d d' fz,r= .box e d fz/\r'= .box e d' fz/\d.cells=d'.cells
def gL(o o':Option Row):Prop:=o=o'\/∃r r',o=some r/\o'=some r'/\gK r r'
def gK.mut{r r':Row}(h:gK r r'):r.mut=r'.mut:=by
 rcases h with rfl|⟨e,d,d',fz,rfl,rfl,_⟩<;>rfl
def gK.real{r r':Row}(h:gK r r')(pl:Place):r.real pl=r'.real pl:=by
 rcases h with rfl|⟨e,d,d',fz,rfl,rfl,_⟩<;>rfl
def gK.symm{r r':Row}(h:gK r r'):gK r' r:=by
 rcases h with rfl|⟨e,d,d',fz,rfl,rfl,hc⟩
 .exact .inl rfl
 .exact .inr ⟨e,d',d,fz,rfl,rfl,hc.symm⟩
def gL.symm{o o':Option Row}(h:gL o o'):gL o' o:=by
 rcases h with rfl|⟨r,r',h1,h2,h3⟩
 .exact .inl rfl
 .exact .inr ⟨r',r,h2,h1,h3.symm⟩
def gL.some{o o':Option Row}(h:gL o o'){r':Row}(hr:o'=some r'):∃r,o=some r/\gK r r':=by
 rcases h with rfl|⟨r,r2,h1,h2,h3⟩
 .exact⟨r',hr,.inl rfl⟩
 .rw[hr]at h2;cases h2;exact⟨r,h1,h3⟩
def gK.rep{Z:Nm->Place}{U:Nm->Bool}{M:Nat->Prop}{w:World}{pl:Place}{r r':Row}(h:gK r r')(hb:eo Z U M w pl r):eo Z U M w pl r':=by
 rcases h with rfl|⟨e,d,d',fz,rfl,rfl,hc⟩
 .exact hb
 .obtain⟨cs,h1,h2,h3,h4⟩:=hb
  exact⟨cs,h1,hc▸h2,h3,hc▸h4⟩
def sd{c:aA}{Z:Nm->Place}{sl Y0:Nm->Option Row}(h:∀s,gL (sl s) (Y0 s)):ae c Z Y0=ae c Z sl:=by
 funext b
 apply propext
 constructor
 .rintro(hb|⟨s,r,h1,h2,h3,h4⟩)
  .exact .inl hb
  .obtain⟨r0,h5,h6⟩:=(h s).some h1
   exact .inr ⟨s,r0,h5,h6.mut▸h2,(h6.real _).symm▸h3,h4⟩
 .rintro(hb|⟨s,r,h1,h2,h3,h4⟩)
  .exact .inl hb
  .obtain⟨r0,h5,h6⟩:=(h s).symm.some h1
   exact .inr ⟨s,r0,h5,h6.mut▸h2,(h6.real _).symm▸h3,h4⟩
def SimW.reslot{c:aA}{Z:Nm->Place}{E E':aa}{w:World}(h:SimW c Z E w)(hu:E'.used=E.used)(hs:∀s,gL (E.slots s) (E'.slots s)):SimW c Z E' w:=by
 have hM:=sd (c:=c) (Z:=Z) hs
 refine⟨h.size,h.os,h.tape,h.output,h.old,h.m0,?_,?_,?_,h.gl⟩
 .intro s r hr
  obtain⟨r0,h1,h2⟩:=(hs s).some hr
  obtain⟨g1,g2,g3⟩:=h.row s r0 h1
  rw[hu,hM]
  refine⟨g1,h2.rep g2,fun Tz=>?_⟩
  have:=g3 (by rw[h2.real];exact Tz)
  exact⟨fun hm=>this.1 (by rw[h2.mut];exact hm),this.2⟩
 .intro s s' r r' h1 h2 h3 h4 h5 h6
  obtain⟨r0,k1,k2⟩:=(hs s).some h1
  obtain⟨r1,k3,k4⟩:=(hs s').some h2
  exact h.inj s s' r0 r1 k1 k3 (by rw[k2.mut];exact h3) (by rw[k2.real];exact h4) (by rw[k4.real];exact h5) h6
 .intro s hf VI
  exact h.fix s hf (by rw[<-hu];exact VI)
def mT:List Row->List Row->Prop
 |[],[]=>True
 |r::l,r'::l'=>gK r r'/\mT l l'
 |_,_=>False
def mU:List (Option Row)->List (Option Row)->Prop
 |[],[]=>True
 |r::l,r'::l'=>gL r r'/\mU l l'
 |_,_=>False
def mT.spec:∀{l l':List Row},mT l l'->l.length=l'.length/\∀i:Nat,gL l[i]? l'[i]?
 |[],[],_=>⟨rfl,fun i=> .inl (by simp)⟩
 |[],_::_,h=>h.elim
 |_::_,[],h=>h.elim
 |r::l,r'::l',⟨h1,h2⟩=>by
  obtain⟨g1,g2⟩:=h2.spec
  refine⟨by simp[g1],fun i=>?_⟩
  cases i with
  |zero=>exact .inr ⟨r,r',rfl,rfl,h1⟩
  |succ i=>simpa using g2 i
def mU.spec:∀{l l':List (Option Row)},mU l l'->∀i:Nat,gL (l[i]?).join (l'[i]?).join
 |[],[],_=>fun i=> .inl (by simp)
 |[],_::_,h=>h.elim
 |_::_,[],h=>h.elim
 |r::l,r'::l',⟨h1,h2⟩=>fun i=>by
  cases i with
  |zero=>simpa using h1
  |succ i=>simpa using h2.spec i
def Dg{k k2:Ct}(hg:k.gs=k2.gs)(hr:mT k.rows k2.rows)(s:Nm):gL (k.env.slots s) (k2.env.slots s):=by
 show gL (aU k.gs (k.rows.map some) [] s) (aU k2.gs (k2.rows.map some) [] s)
 cases s with
 |glob g=>simp only[aU,hg];exact .inl rfl
 |arg i=>
  simp only[aU,ajw]
  have:=hr.spec.2 i
  generalize k.rows[i]?=x at*
  generalize k2.rows[i]?=y at*
  cases x<;>cases y<;>simpa using this
 |loc d j=>exact .inl (by simp[aU])
 |head _ _=>exact .inl rfl
 |yl=>exact .inl rfl
theorem Dh{k k2:Ct}(hg:k.gs=k2.gs)(hr:mT k.rows k2.rows):k2.env.used=k.env.used:=by
 funext s
 show k2.used0 s=k.used0 s
 cases s with
 |arg i=>simp only[Ct.used0,hr.spec.1]
 |glob g=>simp only[Ct.used0,hg]
 |_=>rfl
def Di{k k2:Ct}(hr:mU k.rows' k2.rows')(hn:k.new=k2.new)(s:Nm):gL (k.out s) (k2.out s):=by
 show gL (aU [] k.rows' k.new s) (aU [] k2.rows' k2.new s)
 cases s with
 |glob g=>exact .inl rfl
 |arg i=>exact hr.spec i
 |loc d j=>simp only[aU,hn];exact .inl rfl
 |head _ _=>exact .inl rfl
 |yl=>exact .inl rfl
def ay.rows{P:Program}{f:FuncId}{gs:List (Nat×TypeId×ab)}{ds:List DV}{d:DV}{new rows rows2:List Row}{rows' rows2':List (Option Row)}(h:ay P f ⟨gs,ds,rows,d,rows',new⟩)(h1:mT rows rows2)(h2:mU rows' rows2'):ay P f ⟨gs,ds,rows2,d,rows2',new⟩:=by
 refine⟨h.1,fun c Z w vs Wf hs hl hv=>?_⟩
 have YK:=Dg (k:=⟨gs,ds,rows,d,rows',new⟩) (k2:=⟨gs,ds,rows2,d,rows2',new⟩) rfl h1
 have hue:=Dh (k:=⟨gs,ds,rows,d,rows',new⟩) (k2:=⟨gs,ds,rows2,d,rows2',new⟩) rfl h1
 have hM:=sd (c:=c) (Z:=Z) YK
 refine(h.2 c Z w vs Wf (hs.reslot hue.symm fun s=>(YK s).symm) hl (fun i v x hi hd=>?_)).mono fun e w' ⟨v,he,Z',E',Tj,Tr,Tn⟩=>?_
 .have:=hv i v x hi hd
  rw[hue,hM]at this
  exact this
 .have Y1:=Di (k:=⟨gs,ds,rows,d,rows',new⟩) (k2:=⟨gs,ds,rows2,d,rows2',new⟩) h2 rfl
  rw[<-Tj]at Y1
  refine⟨v,he,Z',⟨E'.tmps,(Ct.mk gs ds rows2 d rows2' new).out,E'.used⟩,rfl,Tr.reslot rfl Y1,?_⟩
  show ah Z' E'.used w' (ae c Z' (Ct.mk gs ds rows2 d rows2' new).out) v d
  rw[sd (c:=c) (Z:=Z') Y1]
  exact Tn
def eZ.rows{P:Program}{f:FuncId}{gs:List (Nat×TypeId×ab)}{ds:List DV}{d:DV}{u:Value}{new rows rows2:List Row}{rows' rows2':List (Option Row)}(h:eZ P f ⟨gs,ds,rows,d,rows',new⟩ u)(h1:mT rows rows2)(h2:mU rows' rows2'):eZ P f ⟨gs,ds,rows2,d,rows2',new⟩ u:=by
 refine⟨h.1,fun c Z w vs Wf hs hl hv=>?_⟩
 have YK:=Dg (k:=⟨gs,ds,rows,d,rows',new⟩) (k2:=⟨gs,ds,rows2,d,rows2',new⟩) rfl h1
 have hue:=Dh (k:=⟨gs,ds,rows,d,rows',new⟩) (k2:=⟨gs,ds,rows2,d,rows2',new⟩) rfl h1
 have hM:=sd (c:=c) (Z:=Z) YK
 refine(h.2 c Z w vs Wf (hs.reslot hue.symm fun s=>(YK s).symm) hl (fun i v x hi hd=>?_)).mono fun e w' ⟨he,Z',E',Tj,Tr⟩=>?_
 .have:=hv i v x hi hd
  rw[hue,hM]at this
  exact this
 .have Y1:=Di (k:=⟨gs,ds,rows,d,rows',new⟩) (k2:=⟨gs,ds,rows2,d,rows2',new⟩) h2 rfl
  rw[<-Tj]at Y1
  exact⟨he,Z',⟨E'.tmps,(Ct.mk gs ds rows2 d rows2' new).out,E'.used⟩,rfl,Tr.reslot rfl Y1⟩
end
end Go.Wt
