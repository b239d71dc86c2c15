/- A part of the proof of a tier statement (the last text closes it): lemmas without condition. -/
import Derived.Test.YteaimhlobmaghaaGreatDoorP04
set_option linter.all false
set_option maxRecDepth 10000000
set_option maxHeartbeats 0
namespace Go.Wt
section
open Go.RowKit
variable{P:Program}{c:aA}{Z:Nm->Place}{E:aa}{a:Act}{w:World}{dst:Option Nat}{ty:TypeId}{pos:String}{after:Array Edge}{g:Option (Nat×Bool)}{r:aq}
def uq(agg:Bool)(m:Nat)(hm:0<m)(YU:agg=true\/m=1):∀(n:Nat) (l:List ab),l.length=n*m->(∀t∈l,t.one=true)->(ax agg m n l).length=n/\
  ∀(k:Nat) (t:ab),(ax agg m n l)[k]?=some t->t.cells.length=m/\∀j cc,t.cells[j]?=some cc->l[k*m+j]?=some cc
 |0,l,_,_=>⟨rfl,fun k t hk=>by simp[ax]at hk⟩
 |n+1,l,hl,h1=>by
  rw[Nat.succ_mul]at hl
  obtain⟨h2,h3⟩:=uq agg m hm YU n (l.drop m) (by simp;omega) (fun t ht=>h1 t (akn ht))
  refine⟨by simp[ax,h2],fun k t hk=>?_⟩
  cases k with
  |zero=>
   simp only[ax,List.getElem?_cons_zero,ajr]at hk
   by_cases ha:agg=true
   .rw[if_pos ha]at hk
    subst hk
    refine⟨by simp[ab.cells];omega,fun j cc hj=>?_⟩
    simp only[ab.cells,ajN]at hj
    split at hj
    .simpa using hj
    .simp at hj
   .rw[if_neg ha]at hk
    have hm1:m=1:=YU.resolve_left ha
    subst hm1
    cases l with
    |nil=>simp at hl
    |cons x l=>
     simp only[List.take_succ_cons,List.take_zero,List.headD_cons]at hk
     subst hk
     have hx:=h1 x ajK
     have hc:x.cells=[x]:=by cases x<;>first|rfl|simp[ab.one]at hx
     rw[hc]
     refine⟨rfl,fun j cc hj=>?_⟩
     cases j with
     |zero=>simpa using hj
     |succ j=>simp at hj
  |succ k=>
   simp only[ax,List.getElem?_cons_succ]at hk
   obtain⟨h4,h5⟩:=h3 k t hk
   refine⟨h4,fun j cc hj=>?_⟩
   have:=h5 j cc hj
   rw[aka]at this
   rw[Nat.succ_mul,show k*m+m+j=m+(k*m+j) by omega]
   exact this
section ops
variable(h:ai c Z E a w)(hd:dst.all (· <c.n)=true)
include h
def ai.alloc(o:Obj):ai c Z E a (w.alloc o):=by
 have:=h.upd (Z':=Z) (w':=w.alloc o) (ups:=[]) (by simp) rfl rfl rfl (fun b hb=> .inl (ako w _ hb)) (fun _ _=>rfl) (fun s r hl=>by simp[List.lookup]at hl) (fun s s' r r' h1 h2=>h.inj s s' r r' h1 h2) (fun b _ hM=>hM) (fun g _ hg=>by simp[List.lookup]at hg)
 exact this
def ur:¬ae c Z E.slots w.heap.size:=by
 rintro(⟨h1,_⟩|⟨s,r,h1,h2,h3,h4⟩)
 .have:=h.m0 _ h1;have:=h.size;omega
 .have:=(h.row s r h1).2.1.lt h3;omega
include hd
def yv{t e:TypeId}{m len:Nat}{z:ab}{To:Array (Nat×Operand)}(ht:P.underlying t=some (.slice e))(hm:bm P e=some m)(hz:cu P e=some z)(VV:z.cells.length=m)(ZS:len*m<=2^24)(VM:0<m)(Tk:0<len)
  (F:Operand->DV) (hF:∀p∈To.toList,ah Z E.used w (ae c Z E.slots) (a.eval p.2) (F p.2)) {d':DV} (VO:jw (.t (.agg (List.replicate len z.cells).flatten)) (To.toList.map fun p=>(p.1*m,m,F p.2))=some d'):
  ∃cs':List Value,(execOp a.eval ⟨dst,.buildSlice t len To,ty,pos,after,g⟩).run P w= .ok (.value (.slice (some ⟨w.heap.size,0,none⟩) len len)) (w.alloc (.cells cs'.toArray e))/\cs'.length=d'.cells.length/\d'.cells.length=len*m/\(∀v∈cs',co v=true)/\
   ∀(i:Nat) (u:Value) (x:DV),cs'[i]?=some u->d'.cells[i]?=some x->ah Z E.used w (ae c Z E.slots) u x:=by
 have _:=h
 have _:=hd
 obtain⟨i,zv,hi,hzv,hzR,WM⟩:=nF (Z:=Z) (U:=E.used) (M:=ae c Z E.slots) (w:=w) hz
 obtain⟨i',_,TU,hsz,_⟩:=ud hm
 rw[hi]at TU
 cases TU
 obtain⟨Xr,X5,hzp⟩:=WM.cells_inv rfl
 have Zb:(DV.t z).cells=z.cells.map .t:=by cases z<;>rfl
 rw[Zb,ajJ,VV]at Xr
 have YG:zv.cells.size=m:=by simpa using Xr
 have abv:∀(cells:Array Value),Instr.fill (fun i=>some (i*m,m)) ((Array.range (len*m)).map (fun x=>zv.cells[x%zv.cells.size]!)) (To.toList.map fun p=>(p.1,a.eval p.2))=some cells->0<len->
   (execOp a.eval ⟨dst,.buildSlice t len To,ty,pos,after,g⟩).run P w= .ok (.value (.slice (some ⟨w.heap.size,0,none⟩) len len)) (w.alloc (.cells cells e)):=by
  intro cells hf Tk
  have h1:¬(2^24<len*m):=by omega
  have h2:¬(len*m=0):=by
   intro hh
   rcases Nat.mul_eq_zero.1 hh with h|h<;>omega
  simp only[Nat.reducePow]at h1
  simp[execOp,Instr.buildSlice,ajD ht,ga hm,h1,h2,zeroValue,typeInfo,hi,hzv,newRow,newObj,hf,Sem.run]
 have adk:∀(n q:Nat),(List.replicate n z.cells).flatten[q]?=if q<n*m then z.cells[q%m]? else none:=by
  intro n
  induction n with
  |zero=>intro q;simp
  |succ n ih=>
   intro q
   rw[List.replicate_succ,List.flatten_cons,akz,VV]
   by_cases hq:q<m
   .rw[if_pos hq,Nat.mod_eq_of_lt hq,if_pos (by rw[Nat.succ_mul];omega)]
   .rw[if_neg hq,ih (q-m)]
    have e1:(q-m)%m=q%m:=by
     have:q=(q-m)+m:=by omega
     conv=>rhs;rw[this,Nat.add_mod_right]
    rw[e1]
    by_cases Wk:q-m<n*m
    .rw[if_pos Wk,if_pos (by rw[Nat.succ_mul];omega)]
    .rw[if_neg Wk,if_neg (by rw[Nat.succ_mul];omega)]
 have agD:(List.replicate len z.cells).flatten.length=len*m:=by simp[VV]
 have afs:((Array.range (len*m)).map (fun x=>zv.cells[x%zv.cells.size]!))=((List.range (len*m)).map fun x=>zv.cells[x%zv.cells.size]!).toArray:=by
  apply akh;simp
 have aaQ:∀(i:Nat) (u:Value),((List.range (len*m)).map fun x=>zv.cells[x%zv.cells.size]!)[i]?=some u->i<len*m/\zv.cells.toList[i%m]?=some u:=by
  intro i u hu
  simp only[ajw,ajt]at hu
  obtain⟨i',h1,rfl⟩:=hu
  obtain⟨h2,h3⟩:=ajs.1 h1
  simp at h2 h3
  subst h3
  refine⟨h2,?_⟩
  have hlt:i%m<zv.cells.size:=by rw[YG];exact Nat.mod_lt _ VM
  rw[YG,getElem!_pos zv.cells (i%m) hlt]
  simp[hlt]
 obtain⟨cs',h5,h6,h7,h8,h9,UI⟩:=uo F (fun i=>some (i*m,m)) (To.toList.map fun p=>(p.1,p.1*m,m,p.2)) ((List.range (len*m)).map fun x=>zv.cells[x%zv.cells.size]!) (.t (.agg (List.replicate len z.cells).flatten)) d' (by
   intro p hp
   simp only[ajI]at hp
   obtain⟨q,hq,rfl⟩:=hp
   exact hF q hq) (by
   intro p hp
   simp only[ajI]at hp
   obtain⟨q,_,rfl⟩:=hp
   rfl) rfl (by simp[DV.cells,VV]) (fun v hv=>by
   obtain⟨i,hi,rfl⟩:=ajL hv
   exact X5 _ (ajx (aaQ i _ (ajq hi)).2)) (fun i u x hu hx=>by
   obtain⟨bE,Wx⟩:=aaQ i u hu
   simp only[DV.cells,ajw,adk,if_pos bE,ajt]at hx
   obtain⟨zc,j3,rfl⟩:=hx
   exact hzp (i%m) u _ Wx (by rw[Zb,ajw,j3];rfl)) (by
   rw[<-VO]
   congr 1
   simp[aky])
 have hb:=abv cs'.toArray (by
  rw[afs,<-h5]
  congr 1
  simp[aky]) Tk
 exact⟨cs',hb,h7,by rw[h8];simp[DV.cells,VV],h9,UI⟩
def yw{t e:TypeId}{m len:Nat}{z:ab}{To:Array (Nat×Operand)}(ht:P.underlying t=some (.slice e))(hm:bm P e=some m)(hz:cu P e=some z)(h0:m≠0)(VV:z.cells.length=m)(ZS:len*m<=2^24)(hp0:len=0->To=#[])
  (F:Operand->DV) (hF:∀p∈To.toList,ah Z E.used w (ae c Z E.slots) (a.eval p.2) (F p.2))
  (hr:az (bI P e) m len z.cells (To.toList.map fun p=>(p.1*m,m,F p.2))=some r):bc P c E a w ⟨dst,.buildSlice t len To,ty,pos,after,g⟩ r:=by
 unfold az at hr
 by_cases Tk:len=0
 .rw[if_pos Tk]at hr
  simp only[val,ajr]at hr
  subst hr
  subst Tk
  have hpe:=hp0 rfl
  subst hpe
  have VD:=ai.alloc h (.cells #[] e)
  refine⟨.slice (some ⟨w.heap.size,0,none⟩) 0 0,_,.inl ?_,Z,ai.put VD hd (.t .e0)⟩
  simp[execOp,Instr.buildSlice,ajD ht,ga hm,newRow,newObj,Instr.fill,Sem.run]
  have e0:(Array.map (fun _:Nat=>(default:Value)) (Array.range 0))=#[]:=by apply akh;simp
  rw[e0]
 .rw[if_neg Tk]at hr
  split at hr
  .rename_i hc
   obtain⟨_,VM,YU⟩:=hc
   split at hr
   .rename_i l hl
    split at hr
    .rename_i hll
     simp only[val,ajr]at hr
     subst hr
     obtain⟨d',VO,Ym⟩:=ajv.1 hl
     obtain⟨cs',hb,h7,_,h9,UI⟩:=yv (dst:=dst) (ty:=ty) (pos:=pos) (after:=after) (g:=g) h hd ht hm hz VV ZS VM (by omega) F hF VO
     have XB:d'.cells=l.map .t:=yn Ym
     have hR:∀(i:Nat) (cc:ab),l[i]?=some cc->∃u,cs'[i]?=some u/\aM w (ae c Z E.slots) u cc:=by
      intro i cc Uw
      have TC:i<cs'.length:=by rw[h7,XB,ajJ];exact(ajs.1 Uw).1
      refine⟨_,ajq TC,?_⟩
      exact(UI i _ (.t cc) (ajq TC) (by rw[XB,ajw,Uw];rfl)).t_inv
     have T1:∀t∈l,t.one=true:=by
      intro t ht
      obtain⟨i,hi,rfl⟩:=ajL ht
      obtain⟨u,bE,Wx⟩:=hR i _ (ajq hi)
      rw[<-Wx.one]
      exact h9 u (ajx bE)
     obtain⟨TA,Uj⟩:=uq (bI P e) m VM YU len l hll T1
     have VD:=ai.alloc h (.cells cs'.toArray e)
     have Ub:(w.alloc (.cells cs'.toArray e)).heap[w.heap.size]?=some (.cells cs'.toArray e):=heap_alloc_new w _
     have agw:len<=2^24:=akf (Nat.le_mul_of_pos_right len VM) ZS
     have Tx:aM (w.alloc (.cells cs'.toArray e)) (ae c Z E.slots) (.slice (some ⟨w.heap.size,0,none⟩) (ax (bI P e) m len l).length len) (.sl m (ax (bI P e) m len l)):=by
      refine .sl (fun k j=>cs'.getD (k*m+j) undef) (ur h) (by simp) (by omega) (by simp only[maxLen];omega) (fun t ht=>?_) (fun k t j cc hk hj=>?_) (fun k t j cc hk hj=>?_) (fun k t j cc hk hj=>?_)
      .obtain⟨k,hk,rfl⟩:=ajL ht
       exact(Uj k _ (ajq hk)).1
      .obtain⟨u,bE,_⟩:=hR _ _ ((Uj k t hk).2 j cc hj)
       rw[gb Ub,ajX,bE]
       simp[List.getD,bE]
      .exact T1 cc (ajx ((Uj k t hk).2 j cc hj))
      .obtain⟨u,bE,Wx⟩:=hR _ _ ((Uj k t hk).2 j cc hj)
       simp only[List.getD,bE,Option.getD_some]
       exact Wx.mono (by simp) (fun b hb hM=>⟨ako w _ hb,hM⟩)
     rw[TA]at Tx
     refine⟨_,_,.inl hb,Z,ai.put VD hd ?_⟩
     split
     .exact .ls TA.symm (ur h) Ub Tx
     .exact .t Tx
    .simp at hr
   .simp at hr
  .simp at hr
omit h hd in
def yx{α β:Type}[BEq α][LawfulBEq α]:∀{l:List (α×β)} {x:α} {y:β},l.lookup x=some y->(x,y)∈l
 |(u,v)::l,x,y,h=>by
  simp only[List.lookup]at h
  split at h
  .rename_i hu
   simp at h hu
   subst h hu
   exact ajK
  .exact ajW _ (yx h)
def G0{t e:TypeId}{m len:Nat}{x:Operand}(ht:P.underlying t=some (.array len e))(hm:bm P e=some m)(hr:(al.asl x len m (bI P e)).den P E dst=some r):bc P c E a w ⟨dst,.slice t x none none none,ty,pos,after,g⟩ r:=by
 simp only[al.den]at hr
 unfold oO at hr
 split at hr
 .rename_i gl
  split at hr
  .rename_i vs hvs
   split at hr
   .rename_i hc
    obtain⟨Uy,VM,YU,hll,hlim,Wy⟩:=hc
    simp only[val,ajr]at hr
    subst hr
    have TN:(gl,fun cs:Array Value=>cs.toList=vs)∈i3:=by
     unfold i3
     rw[ajG,ajI]
     exact .inl ⟨(gl,vs),yx hvs,rfl⟩
    obtain⟨cs,e',fr,hg,hcs,_,_,hM⟩:=h.toSimW.lay TN
    have aft:cs=vs.toArray:=by rw[<-hcs]
    subst aft
    have T1:∀t∈vs.map ab.v,t.one=true:=by
     intro t ht
     obtain⟨v,_,rfl⟩:=ajI.1 ht
     rfl
    have aeX:∀v∈vs,b8 v=true:=ajR.1 Wy
    obtain⟨afx,Uj⟩:=uq (bI P e) m VM YU len (vs.map ab.v) (by simpa using hll) T1
    have hR:∀(i:Nat) (cc:ab),(vs.map ab.v)[i]?=some cc->∃u,vs[i]?=some u/\aM w (ae c Z E.slots) u cc:=by
     intro i cc Uw
     simp only[ajw,ajt]at Uw
     obtain⟨v,hv,rfl⟩:=Uw
     exact⟨v,hv,.v (aeX v (ajx hv))⟩
    have Tn:aM w (ae c Z E.slots) (.slice (some ⟨gl,0,none⟩) (ax (bI P e) m len (vs.map ab.v)).length len) (.sl m (ax (bI P e) m len (vs.map ab.v))):=by
     refine .sl (fun k j=>vs.getD (k*m+j) undef) hM (ajy.1 hg).1 (by omega) (by unfold LIM at hlim;simp only[maxLen];omega) (fun t ht=>?_) (fun k t j cc hk hj=>?_) (fun k t j cc hk hj=>?_) (fun k t j cc hk hj=>?_)
     .obtain⟨k,hk,rfl⟩:=ajL ht
      exact(Uj k _ (ajq hk)).1
     .obtain⟨u,bE,_⟩:=hR _ _ ((Uj k t hk).2 j cc hj)
      rw[gb hg,ajX,bE]
      simp[List.getD,bE]
     .exact T1 cc (ajx ((Uj k t hk).2 j cc hj))
     .obtain⟨u,bE,Wx⟩:=hR _ _ ((Uj k t hk).2 j cc hj)
      simp only[List.getD,bE,Option.getD_some]
      exact Wx
    rw[afx]at Tn
    refine be h hd (v:= .slice (some ⟨gl,0,none⟩) len len) ?_ (.t Tn)
    have TW:¬len=0:=by omega
    have TL:a.eval (.global gl)= .pointer (some ⟨gl,0,none⟩):=rfl
    simp[execOp,Instr.sliceAt,ajD ht,TL,Instr.sureAddr,Instr.sliceBounds,ga hm,TW]
    try(rw[Addr.add_lit])
   .simp at hr
  .simp at hr
 .simp at hr
def G1{t e:TypeId}{m len:Nat}{z:ab}{To:Array (Nat×Operand)}(ht:P.underlying t=some (.slice e))(hm:bm P e=some m)(hz:cu P e=some z)(VV:z.cells.length=m)(ZS:len*m<=2^24)
  (hr:tO (bI P e) m len z.cells (To.toList.map fun p=>(p.1*m,m,E.ev p.2))=some r):bc P c E a w ⟨dst,.buildSlice t len To,ty,pos,after,g⟩ r:=by
 unfold tO at hr
 split at hr
 .rename_i hc
  obtain⟨_,hm1,Tk,_⟩:=hc
  split at hr
  .rename_i d' VO
   split at hr
   .rename_i Vo
    obtain⟨T1,hll⟩:=Vo
    simp only[val,ajr]at hr
    subst hr
    obtain⟨cs',hb,h7,_,h9,UI⟩:=yv (dst:=dst) (ty:=ty) (pos:=pos) (after:=after) (g:=g) h hd ht hm hz VV ZS (by omega) Tk E.ev (fun p _=>h.ev p.2) VO
    have VD:=ai.alloc h (.cells cs'.toArray e)
    have Ub:(w.alloc (.cells cs'.toArray e)).heap[w.heap.size]?=some (.cells cs'.toArray e):=heap_alloc_new w _
    refine⟨_,_,.inl hb,Z,ai.put VD hd ?_⟩
    have:=ah.lst (Z:=Z) (U:=E.used) (w:=w.alloc (.cells cs'.toArray e)) (M:=ae c Z E.slots) (b:=w.heap.size) (cap:=len) (ds:=d'.cells) (fun i=>cs'.getD i undef) (ur h) (by simp) (by omega) (by
      have:len<=2^24:=by rw[hm1,Nat.mul_one]at ZS;exact ZS
      simp only[maxLen];omega) (fun i d hi=>by
      have hlt:i<cs'.length:=by rw[h7];exact(ajs.1 hi).1
      rw[gb Ub]
      simp[List.getD,hlt]) (fun i d hi=>by
      have hlt:i<cs'.length:=by rw[h7];exact(ajs.1 hi).1
      have bE:=UI i _ d (ajq hlt) hi
      have e1:cs'.getD i undef=cs'[i]:=by simp[List.getD,hlt]
      rw[e1]
      exact bE.mono (by simp) (fun b hb hM=>⟨ako w _ hb,hM⟩) (fun _ hu=>⟨hu,rfl⟩))
    rw[hll]at this
    exact this
   .simp at hr
  .simp at hr
 .simp at hr
def G2{To:Array (Nat×Operand)}{m:Nat}{ps:List (Nat×Nat×DV)}{rd:List Nm}(hv:E.viewPs (To.toList.map fun p=>(p.1*m,m,E.ev p.2))=some (ps,rd)):
  ai c Z (E.upd (am E rd)) a w/\∃F:Operand->DV,ps=(To.toList.map fun p=>(p.1*m,m,F p.2))/\∀p∈To.toList,ah Z (E.upd (am E rd)).used w (ae c Z (E.upd (am E rd)).slots) (a.eval p.2) (F p.2):=by
 have _:=hd
 simp only[aa.viewPs,ajt,ajV]at hv
 obtain⟨l,h1,rfl,rfl⟩:=hv
 obtain⟨h2,h3⟩:=ec h1
 have YA:∀(i:Nat) (p:Nat×Operand),To.toList[i]?=some p->∃q rd',E.view (E.ev p.2)=some (q,rd')/\l[i]?=some (p.1*m,m,q,rd'):=by
  intro i p hp
  have hi:i<l.length:=by
   have:=(ajs.1 hp).1
   simp at h2
   simp at this
   omega
  have h4:=h3 i (p.1*m,m,E.ev p.2) l[i] (by rw[ajw,hp];rfl) (ajq hi)
  simp only[ajt]at h4
  obtain⟨q,h5,h6⟩:=h4
  exact⟨q.1,q.2,h5,by rw[ajq hi,<-h6]⟩
 have hrd:∀s∈l.flatMap (fun q=>q.2.2.2),∃e m l fz,E.slots s=some (.rows e m l fz):=by
  intro s hs
  obtain⟨q,hq,hs⟩:=List.mem_flatMap.1 hs
  obtain⟨i,hi,rfl⟩:=ajL hq
  have Ya:i<To.toList.length:=by simp at h2;simp;omega
  obtain⟨q',rd',h5,h6⟩:=YA i _ (ajq Ya)
  rw[ajq hi]at h6
  simp only[ajr]at h6
  rw[h6]at hs
  exact ia h5 s hs
 have hFr:∀s∈l.flatMap (fun q=>q.2.2.2),E.used s=true:=fun s hs=>by
  obtain⟨e,m,l,fz,Tj⟩:=hrd s hs
  exact(h.row s _ Tj).1
 have h':=h.freeze hFr
 have hM:∀b,ae c Z (E.upd (am E (l.flatMap fun q=>q.2.2.2))).slots b->ae c Z E.slots b:=by
  rintro b (hb|⟨s,r,h1,h2,h3,h4⟩)
  .exact .inl hb
  .obtain⟨r0,h5,h6⟩:=eL h1
   rcases h6 with rfl|rfl
   .exact .inr ⟨s,_,h5,h2,h3,h4⟩
   .rw[dU]at h2;simp at h2
 refine⟨h',fun x=>match E.view (E.ev x)with|some (t,_)=> .t t|none=> .junk,?_,fun p hp=>?_⟩
 .refine List.ext_getElem? fun i=>?_
  simp only[ajw]
  cases hp:To.toList[i]? with
  |none=>
   have:l[i]?=none:=by
    rw[List.getElem?_eq_none_iff]at hp⊢
    simp at h2 hp⊢
    omega
   rw[this];rfl
  |some p=>
   obtain⟨q,rd',h5,h6⟩:=YA i p hp
   rw[h6]
   simp[h5]
 .obtain⟨i,hi,rfl⟩:=ajL hp
  obtain⟨q,rd',h5,h6⟩:=YA i _ (ajq hi)
  simp only[h5]
  refine .t (h.toSimW.view hM (h.ev _) h5 fun s hs hcap=>?_)
  have T8:s∈l.flatMap (fun q=>q.2.2.2):=List.mem_flatMap.2 ⟨_,ajx h6,hs⟩
  obtain⟨e,m,l',fz,Tj⟩:=ia h5 s hs
  have Wh:(E.upd (am E (l.flatMap fun q=>q.2.2.2))).slots s=some (.rows e m l' true):=by
   rw[bM,fB,if_pos T8,Tj];rfl
  exact h'.toSimW.frozen_nm Wh (by simp[Row.mut]) (by simpa[Row.real]using hcap)
def G3{t e:TypeId}{m len:Nat}{z:ab}{To:Array (Nat×Operand)}(ht:P.underlying t=some (.slice e))(hm:bm P e=some m)(hz:cu P e=some z)(h0:m≠0)(VV:z.cells.length=m)(ZS:len*m<=2^24)(hp0:len=0->To=#[])
  (hr:(al.lits e (bI P e) m len z.cells (To.toList.map fun p=>(p.1*m,m,p.2))).den P E dst=some r):bc P c E a w ⟨dst,.buildSlice t len To,ty,pos,after,g⟩ r:=by
 simp only[al.den,aj8]at hr
 have hr:md E (bI P e) m len z.cells (To.toList.map fun p=>(p.1*m,m,E.ev p.2))=some r:=hr
 unfold md at hr
 split at hr
 .rename_i r0 hr0
  simp only[ajr]at hr
  subst hr
  exact yw h hd ht hm hz h0 VV ZS hp0 E.ev (fun p _=>h.ev p.2) hr0
 .split at hr
  .exact G1 h hd ht hm hz VV ZS hr
  split at hr
  .rename_i ps rd Tu
   split at hr
   .rename_i r0 hr0
    simp only[ajr]at hr
    subst hr
    obtain⟨h',F,rfl,hF⟩:=G2 h hd Tu
    obtain⟨v,w',Ti,Z',hs⟩:=yw h' hd ht hm hz h0 VV ZS hp0 F hF hr0
    refine⟨v,w',Ti,Z',?_⟩
    have:(aq.mk r0.d (rd++r0.rd) (r0.ups++am E rd)).apply dst E=r0.apply dst (E.upd (am E rd)):=by
     unfold aq.apply
     rw[jE]
    rw[this]
    exact hs
   .simp at hr
  .simp at hr
end ops
end
section
open Go.RowKit
variable{P:Program}{c:aA}{Z:Nm->Place}{E:aa}{a:Act}{w:World}{dst:Option Nat}{ty:TypeId}{pos:String}{after:Array Edge}{g:Option (Nat×Bool)}{r:aq}
theorem eY{α β:Type}(s:Sem α)(f:α->Sem β):aQ P (s>>=f)=(aQ P s).bind fun x=>aQ P (f x):=by
 show aQ P (s.bind f)=_
 induction s with
 |pure x=>rfl
 |program k ih=>simp only[Sem.bind,aQ];exact ih _
 |mark m k ih=>simp only[Sem.bind,aQ];exact ih
 |_=>rfl
def kW{r:Nat}{es:Array MapEntry}{cl:Nat}(hb:w.heap[r]?=some (.map es cl)):(getObj r).run P w= .ok (.map es cl) w:=by simp[getObj,Sem.run,hb]
def o0{r:Nat}{es:Array MapEntry}{cl:Nat}(o:Obj)(hb:w.heap[r]?=some (.map es cl)):(setObj r o).run P w= .ok () {w with heap:=w.heap.setIfInBounds r o}:=by simp[setObj,Sem.run,hb]
def o6(e:MapEntry):MapEntry:={key:=e.key,val:=undef,born:=0}
def nG(i:Nat)(es:List MapEntry):Option (Nat×Value)->Option (Nat×Value)->Prop
 |none,x=>x=none
 |some (j,_),x=>i<=j/\∃e,es[j-i]?=some e/\x=some (j,e.val)
def nG.cons{i:Nat}{e0:MapEntry}{es:List MapEntry}{r' r:Option (Nat×Value)}(h:nG (i+1) es r' r):nG i (e0::es) r' r:=by
 cases r' with
 |none=>exact h
 |some p=>
  obtain⟨j,v⟩:=p
  obtain⟨h1,e,h2,h3⟩:=h
  refine⟨by omega,e,?_,h3⟩
  have:j-i=(j-(i+1))+1:=by omega
  rw[this];simpa using h2
theorem yy(kind:TypeDesc)(k:Value):∀(es:List MapEntry) (i:Nat),match Instr.findNow kind k (es.map o6) i with
  |some r'=>∃r,Instr.findNow kind k es i=some r/\nG i es r' r
  |none=>Instr.findNow kind k es i=none
 |[],i=>⟨none,rfl,rfl⟩
 |e::es,i=>by
  simp only[ajQ,Instr.findNow,o6]
  cases Instr.sameNow kind k e.key with
  |none=>rfl
  |some b=>
   cases b with
   |true=>exact⟨_,rfl,ajz _,e,by simp,rfl⟩
   |false=>
    have:=yy kind k es (i+1)
    simp only
    split at this
    .rename_i r' VY
     obtain⟨r,h1,h2⟩:=this
     exact⟨r,h1,h2.cons⟩
    .rename_i VY
     exact this
def yz{kt:TypeId}{k:Value}:∀(es:List MapEntry) (i:Nat) (r':Option (Nat×Value)) (w:World),aQ P (Instr.findAsking kt k (es.map o6) i)=some r'->
  ∃r,(Instr.findAsking kt k es i).run P w= .ok r w/\nG i es r' r
 |[],i,r',w,h=>by
  simp only[aj4,Instr.findAsking]at h
  have h:(some none:Option (Option (Nat×Value)))=some r':=h
  simp at h
  subst h
  exact⟨none,rfl,rfl⟩
 |e::es,i,r',w,h=>by
  simp only[ajQ,Instr.findAsking,o6,eY]at h
  obtain⟨b,h1,h2⟩:=ajv.1 h
  simp only[Instr.findAsking,ajH,oL h1,ajF]
  cases b with
  |true=>
   have h2:(some (some (i,undef)):Option (Option (Nat×Value)))=some r':=h2
   simp at h2
   subst h2
   exact⟨_,rfl,ajz _,e,by simp,rfl⟩
  |false=>
   obtain⟨r,h3,h4⟩:=yz es (i+1) r' w h2
   exact⟨r,h3,h4.cons⟩
def mr{kt:TypeId}{k:Value}{es:List MapEntry}{x:Option Nat}(h:jy P kt k (es.map (·.key))=some x)(w:World):
  (x=none/\(Instr.findKey kt k es).run P w= .ok none w)\/∃i e,x=some i/\es[i]?=some e/\(Instr.findKey kt k es).run P w= .ok (some (i,e.val)) w:=by
 unfold jy at h
 obtain⟨r',h1,rfl⟩:=ajt.1 h
 have he:(es.map (·.key)).map (fun x=>({key:=x,val:=undef,born:=0}:MapEntry))=es.map o6:=by rw[aj8];rfl
 rw[he]at h1
 simp only[Instr.findKey,eY]at h1
 obtain⟨d,h2,h3⟩:=ajv.1 h1
 have Ti:∃r,(Instr.findKey kt k es).run P w= .ok r w/\nG 0 es r' r:=by
  simp only[Instr.findKey,ajH,oL h2,ajF]
  have hn:=yy d k es 0
  split at hn
  .rename_i q hq
   obtain⟨r,h4,h5⟩:=hn
   rw[hq]at h3
   have h3:some q=some r':=h3
   simp at h3
   subst h3
   rw[h4]
   exact⟨r,rfl,h5⟩
  .rename_i hq
   rw[hq]at h3
   rw[hn]
   exact yz es 0 r' w h3
 obtain⟨r,h4,h5⟩:=Ti
 cases r' with
 |none=>
  have h5:r=none:=h5
  subst h5
  exact .inl ⟨rfl,h4⟩
 |some p=>
  obtain⟨j,v⟩:=p
  obtain⟨_,e,h6,rfl⟩:=h5
  exact .inr ⟨j,e,rfl,by simpa using h6,h4⟩
def qK{b:Bool}{kt:TypeId}{k:Value}(h:mf P b kt k=true)(w:World):(Instr.checkKey b 10000 kt k).run P w= .ok () w:=by
 unfold mf at h
 obtain⟨x,hx⟩:=akb.1 h
 exact oL hx w
def ut{e:TypeId}{z:ab}(hz:cu P e=some z)(w:World):∃v,(zeroValue e).run P w= .ok v w/\∀M,aM w M v z:=by
 unfold cu at hz
 obtain⟨v,hv,hz⟩:=ajv.1 hz
 obtain⟨i,hi,hv⟩:=ajv.1 hv
 exact⟨v,by simp[zeroValue,typeInfo,hi,hv],fun M=>mo hz⟩
def G4{e:TypeId}{z:ab}(hz:cu P e=some z):∃v,(∀w,(zeroValue e).run P w= .ok v w)/\∀w M,aM w M v z:=by
 unfold cu at hz
 obtain⟨v,hv,hz⟩:=ajv.1 hz
 obtain⟨i,hi,hv⟩:=ajv.1 hv
 exact⟨v,fun w=>by simp[zeroValue,typeInfo,hi,hv],fun w M=>mo hz⟩
def o7(h:ai c Z E a w){s:Nm}{es:List (Value×DV×Nat)}{cl:Nat}{fz:Bool}(Tj:E.slots s=some (.obj (.mp es cl) fz)):
  ∃ents:Array MapEntry,w.heap[(Z s).blk]?=some (.map ents cl)/\ents.size=es.length/\ents.toList.map (·.key)=es.map (·.1)/\ents.isEmpty=es.isEmpty/\
   ∀(i:Nat) (e:MapEntry) (x:Value×DV×Nat),ents[i]?=some e->es[i]?=some x->e.key=x.1/\e.born=x.2.2/\ah Z E.used w (ae c Z E.slots) e.val x.2.1:=by
 obtain⟨_,⟨ents,h1,h2,h3⟩,_⟩:=h.row s _ Tj
 refine⟨ents,h1,h2,?_,?_,h3⟩
 .refine List.ext_getElem (by simp[h2]) fun i h4 h5=>?_
  have hi:i<ents.size:=by simpa using h4
  have:=(h3 i ents[i] es[i] (aj7 hi) (ajq (by omega))).1
  simpa using this
 .cases es with
  |nil=>simpa[Array.isEmpty_iff_size_eq_zero]using h2
  |cons x es=>
   have:ents≠#[]:=fun he=>by rw[he]at h2;simp at h2
   simp[this]
def ai.setMap(h:ai c Z E a w){s:Nm}{es es':List (Value×DV×Nat)}{cl cl':Nat}(Tj:E.slots s=some (.obj (.mp es cl) false)){ents ents':Array MapEntry}(hg:w.heap[(Z s).blk]?=some (.map ents cl))
  (hsz:ents'.size=es'.length) (Tn:∀(i:Nat) (e:MapEntry) (x:Value×DV×Nat),ents'[i]?=some e->es'[i]?=some x->e.key=x.1/\e.born=x.2.2/\ah Z E.used w (ae c Z E.slots) e.val x.2.1):
  ai c Z (E.upd [(s,some (.obj (.mp es' cl') false))]) a {w with heap:=w.heap.setIfInBounds (Z s).blk (.map ents' cl')}:=by
 have hlt:=(ajy.1 hg).1
 have VJ:∀b,b≠(Z s).blk->(w.heap.setIfInBounds (Z s).blk (.map ents' cl'))[b]?=w.heap[b]?:=by
  intro b hb
  rw[akj]
  simp[Ne.symm hb]
 refine h.set (w':={w with heap:=w.heap.setIfInBounds (Z s).blk (.map ents' cl')}) Tj rfl rfl (by simp) rfl rfl rfl VJ ?_
 intro M' US
 refine⟨ents',by simp[akj,hlt],hsz,fun i e x he hx=>?_⟩
 obtain⟨h1,h2,h3⟩:=Tn i e x he hx
 exact⟨h1,h2,h3.mono (by simp) (fun b hb hM=>⟨VJ b (fun e=>hM (.inr ⟨s,_,Tj,rfl,rfl,e.symm⟩)),US b hb hM⟩) (fun _ hu=>⟨hu,rfl⟩)⟩
def ah.mp_inv{U:Nm->Bool}{M:Nat->Prop}{v:Value}{s:Nm}(h:ah Z U w M v (.mp s)):v= .map (some (Z s).blk):=by cases h;rfl
section ops
variable(h:ai c Z E a w)(hd:dst.all (· <c.n)=true)
include h hd
def G5{f:FuncId}{first caps:Array Operand}(hr:(al.mkfnb f first.toList caps.toList).den P E dst=some r):bc P c E a w ⟨dst,.makeFunc (.func f) first caps,ty,pos,after,g⟩ r:=by
 simp only[al.den,val,ajr]at hr
 subst hr
 have key:∀(l:List Operand) (i:Nat) (v:Value) (d:DV),(l.map a.eval)[i]?=some v->(l.map E.ev)[i]?=some d->ah Z E.used w (ae c Z E.slots) v d:=by
  intro l i v d hv hd
  simp only[ajw,ajt]at hv hd
  obtain⟨x,h1,rfl⟩:=hv
  obtain⟨y,h2,rfl⟩:=hd
  rw[h1]at h2
  cases h2
  exact h.ev x
 refine be h hd (v:= .func (.func f) (first.toList.map a.eval).toArray (caps.toList.map a.eval).toArray) ?_ (.mfn (by simp) (by simp) (key _) (key _))
 have e:∀(l:Array Operand),l.map a.eval=(l.toList.map a.eval).toArray:=by intro l;apply akh;simp
 simp[execOp,Instr.makeFunc,e]
def yA{t:TypeId}{rr:Option Operand}(ht:rr=none\/∃k e,P.underlying t=some (.map k e))(hr:(al.mkmap rr).den P E dst=some r):bc P c E a w ⟨dst,.makeMap t rr,ty,pos,after,g⟩ r:=by
 simp only[al.den]at hr
 unfold qE at hr
 split at hr
 .rename_i hf
  obtain⟨hf,Uf⟩:=hf
  simp only[ajr]at hr
  subst hr
  have hu:E.used (bg dst)=false:=by simpa[aa.fresh]using hf
  have Ti:(execOp a.eval ⟨dst,.makeMap t rr,ty,pos,after,g⟩).run P w= .ok (.value (.map (some w.heap.size))) (w.alloc (.map #[] 0)):=by
   cases rr with
   |none=>simp[execOp,Instr.makeMap,newObj,Sem.run]
   |some x=>
    rcases ht with ht|⟨k,e,ht⟩
    .cases ht
    .have hx:=h.ev x
     simp only[akq]at Uf
     unfold tQ at Uf
     split at Uf
     .rename_i h1;simp at h1
     .rename_i k n h1
      simp only[ajr]at h1
      rw[h1]at hx
      simp[execOp,Instr.makeMap,ajD ht,(hx.v_inv).1,asInt,asIntOf,newObj,Sem.run]
     .simp at Uf
  have Ub:(w.alloc (.map #[] 0)).heap[w.heap.size]?=some (.map #[] 0):=heap_alloc_new w _
  have TP:∀b,b<w.heap.size->(w.alloc (.map #[] 0)).heap[b]?=w.heap[b]?:=fun b hb=>ako w _ hb
  obtain⟨Z',h2,h3,h4⟩:=h.new (w':=w.alloc (.map #[] 0)) (s:=bg dst) (r:= .obj (.mp [] 0) false) (pl:=⟨w.heap.size,0,0⟩) hu (iC dst) (by simp) rfl rfl rfl TP (fun _=>ajz _) (by
   intro Z' U' M' hU hM
   exact⟨#[],Ub,rfl,fun i e x he=>by simp at he⟩)
  refine⟨_,_,.inl Ti,Z',h4.put hd ?_⟩
  have:=ah.mp (Z:=Z') (U:=(E.upd [(bg dst,some (.obj (.mp [] 0) false))]).used) (w:=w.alloc (.map #[] 0)) (M:=ae c Z' (E.upd [(bg dst,some (.obj (.mp [] 0) false))]).slots) (s:=bg dst) (by
   rw[bJ];simp[List.lookup])
  rw[h3]at this
  exact this
 .simp at hr
def G6{t tt kt e:TypeId}{x:Operand}(ht:P.underlying t=some (.map kt e))(hr:(al.mlen x).den P E dst=some r):bc P c E a w ⟨dst,.call ⟨.builtin .len,#[x],#[t]⟩,tt,pos,after,g⟩ r:=by
 have hx:=h.ev x
 simp only[al.den]at hr
 unfold oR at hr
 split at hr
 .rename_i he
  simp only[val,ajr]at hr
  subst hr
  rw[he]at hx
  refine be h hd (v:= .int .i64 0) ?_ (.t (.v rfl))
  simp[execOp,resolve,invoke,builtin,Builtin.len_,ajD ht,(hx.v_inv).1,goInt]
 .rename_i s he
  rw[he]at hx
  split at hr
  .rename_i es cl fz Tj
   simp only[ajr]at hr
   subst hr
   obtain⟨ents,hg,hsz,_⟩:=o7 h Tj
   refine be h hd (v:= .int .i64 es.length) ?_ (.t (.v rfl))
   simp[execOp,resolve,invoke,builtin,Builtin.len_,ajD ht,hx.mp_inv,kW hg,hsz,goInt]
  .simp at hr
 .simp at hr
def uu{ok b:Bool}{v:Value}{d:DV}{M:Nat->Prop}{U:Nm->Bool}(hv:ah Z U w M v d):ah Z U w M (if ok=true then .tuple #[v,.bool b]else v) (i4 ok d b):=by
 have _:=h;have _:=hd
 unfold i4
 cases ok with
 |false=>exact hv
 |true=>
  refine .tup (vs:=[v,.bool b]) rfl fun i u x hu hx=>?_
  match i with
  |0=>simp at hu hx;subst hu hx;exact hv
  |1=>simp at hu hx;subst hu hx;exact .t (.v rfl)
  |n+2=>simp at hu
def G7{t kt e:TypeId}{z:ab}{x k:Operand}{ok:Bool}(ht:P.underlying t=some (.map kt e))(hz:cu P e=some z)(hr:(al.mget kt z x k ok).den P E dst=some r):bc P c E a w ⟨dst,.lookup t x k ok,ty,pos,after,g⟩ r:=by
 have hx:=h.ev x
 have hk:=h.ev k
 simp only[al.den]at hr
 unfold fy at hr
 obtain⟨zv,hzr,WM⟩:=ut hz w
 split at hr
 .simp at hr
 .rename_i kv X9
  have X9:=hk.flat_inv X9
  split at hr
  .rename_i he
   rw[he]at hx
   split at hr
   .rename_i hc
    obtain⟨Vg,Vo⟩:=hc
    simp only[val,ajr]at hr
    subst hr
    have hf:=mr (es:=[]) Vo w
    rcases hf with⟨_,hf⟩|⟨i,e',hf,_⟩
    .refine be h hd (v:=if ok=true then .tuple #[zv,.bool false]else zv) ?_ (uu h hd (.t (WM _)))
     have Uj:=qK Vg w
     simp only[execOp,Instr.lookup,ajH,ajD ht,(hx.v_inv).1,X9,aj0,ajF,Array.isEmpty_empty,Uj,hf,hzr]
    .cases hf
   .simp at hr
  .rename_i s he
   rw[he]at hx
   split at hr
   .rename_i es cl fz Tj
    obtain⟨ents,hg,hsz,V5,aaq,Tn⟩:=o7 h Tj
    split at hr
    .rename_i Uj
     have Uj:=qK Uj w
     rw[<-aaq]at Uj
     rw[<-V5]at hr
     split at hr
     .rename_i hf
      simp only[ajr]at hr
      subst hr
      rcases mr hf w with⟨_,hf⟩|⟨i,e',hf,_⟩
      .refine be h hd (v:=if ok=true then .tuple #[zv,.bool false]else zv) ?_ (uu h hd (.t (WM _)))
       simp only[execOp,Instr.lookup,ajH,ajD ht,hx.mp_inv,X9,kW hg,aj0,ajF,Uj,hf,hzr]
      .cases hf
     .rename_i i hf
      split at hr
      .rename_i x' hx'
       simp only[ajr]at hr
       subst hr
       rcases mr hf w with⟨hf,_⟩|⟨i',e',hf,WH,Ti⟩
       .cases hf
       .simp only[ajr]at hf
        subst hf
        have ZZ:=(Tn i e' x' (by simpa using WH) hx').2.2
        refine be h hd (v:=if ok=true then .tuple #[e'.val,.bool true]else e'.val) ?_ (uu h hd ZZ)
        simp only[execOp,Instr.lookup,ajH,ajD ht,hx.mp_inv,X9,kW hg,aj0,ajF,Uj,Ti]
      .simp at hr
     .simp at hr
    .simp at hr
   .simp at hr
  .simp at hr
def yB{old new k':Value}(hk:oP P old new=some k')(w:World):(Instr.keyThatStays old new).run P w= .ok k' w:=by
 have _:=h;have _:=hd
 exact oL hk w
def yC{t kt e:TypeId}{x k y:Operand}{op:Op}(UY:op= .mapUpdate t x k y\/op= .insert t x k y)(ht:P.underlying t=some (.map kt e))(hr:(al.mset kt x k y).den P E dst=some r):bc P c E a w ⟨dst,op,ty,pos,after,g⟩ r:=by
 have hx:=h.ev x
 have hk:=h.ev k
 have hy:=h.ev y
 simp only[al.den]at hr
 unfold oQ at hr
 split at hr
 .rename_i kv s X9 hes
  have X9:=hk.flat_inv X9
  rw[hes]at hx
  split at hr
  .rename_i es cl Tj
   obtain⟨ents,hg,hsz,V5,aaq,Tn⟩:=o7 h Tj
   split at hr
   .rename_i Uj
    have Uj:=qK Uj w
    rw[<-V5]at hr
    have Tx:∀(w':World) (es':List (Value×DV×Nat)) (cl':Nat),(Instr.mapUpdate t (a.eval x) (a.eval k) (a.eval y)).run P w= .ok () w'->ai c Z (E.upd [(s,some (.obj (.mp es' cl') false))]) a w'->
      bc P c E a w ⟨dst,op,ty,pos,after,g⟩ ⟨.junk,[s],[(s,some (.obj (.mp es' cl') false))]⟩:=by
     intro w' es' cl' Ti hs
     refine⟨undef,w',.inr ⟨?_,rfl⟩,Z,hs.put hd .junk⟩
     rcases UY with rfl|rfl<;>simp[execOp,Ti]
    split at hr
    .rename_i hf
     simp only[ajr]at hr
     subst hr
     rcases mr hf w with⟨_,hf⟩|⟨i,e',hf,_⟩
     .refine Tx _ _ _ ?_ (h.setMap Tj hg (ents':=ents.push {key:=kv,val:=a.eval y,born:=cl}) (by simp[hsz]) ?_)
      .simp only[Instr.mapUpdate,ajH,ajD ht,hx.mp_inv,X9,kW hg,ajF,Uj,hf,o0 _ hg]
      .intro i e' x' WH hx'
       rw[Array.getElem?_push]at WH
       rw[akz]at hx'
       by_cases hi:i<es.length
       .rw[if_neg (by omega)]at WH
        rw[if_pos hi]at hx'
        exact Tn i e' x' WH hx'
       .rw[if_neg hi]at hx'
        have Ya:i-es.length=0:=by
         have:=(ajs.1 hx').1
         simp at this;omega
        rw[if_pos (by omega)]at WH
        simp[Ya]at hx'
        simp at WH
        subst WH hx'
        exact⟨rfl,rfl,hy⟩
     .cases hf
    .rename_i i hf
     split at hr
     .rename_i x' hx'
      split at hr
      .rename_i k' Uz
       simp only[ajr]at hr
       subst hr
       rcases mr hf w with⟨hf,_⟩|⟨i',e',hf,WH,Ti⟩
       .cases hf
       .simp only[ajr]at hf
        subst hf
        have eX:ents[i]?=some e':=by simpa using WH
        obtain⟨ZA,WX,hval⟩:=Tn i e' x' eX hx'
        rw[<-ZA]at Uz
        have TC:i<ents.size:=(ajy.1 eX).1
        refine Tx _ _ _ ?_ (h.setMap Tj hg (ents':=ents.modify i fun e=>{e with key:=k',val:=a.eval y}) (by simp[hsz]) ?_)
        .have hkr:=yB h hd Uz w
         have Ty:((ents[i]?).map (·.key)).getD kv=e'.key:=by rw[eX];rfl
         simp only[Instr.mapUpdate,ajH,ajD ht,hx.mp_inv,X9,kW hg,ajF,Uj,Ti,Ty,hkr,o0 _ hg]
        .intro j e2 x2 Wc VS
         rw[Array.getElem?_modify]at Wc
         rw[List.getElem?_set]at VS
         by_cases hj:i=j
         .subst hj
          rw[if_pos rfl,eX]at Wc
          rw[if_pos rfl,if_pos (by omega)]at VS
          simp at Wc VS
          subst Wc VS
          exact⟨rfl,WX,hy⟩
         .rw[if_neg hj]at Wc VS
          exact Tn j e2 x2 Wc VS
      .simp at hr
     .simp at hr
    .simp at hr
   .simp at hr
  .simp at hr
 .simp at hr
def G8{t kt e:TypeId}{z:ab}{x k:Operand}(ht:P.underlying t=some (.map kt e))(hz:cu P e=some z)(hr:(al.ment kt z x k).den P E dst=some r):bc P c E a w ⟨dst,.mapEntry t x k,ty,pos,after,g⟩ r:=by
 have hx:=h.ev x
 have hk:=h.ev k
 simp only[al.den]at hr
 unfold kh at hr
 obtain⟨zv,hzr,WM⟩:=ut hz w
 split at hr
 .rename_i kv s X9 hes
  have X9:=hk.flat_inv X9
  rw[hes]at hx
  split at hr
  .rename_i es cl Tj
   obtain⟨ents,hg,hsz,V5,aaq,Tn⟩:=o7 h Tj
   split at hr
   .rename_i Uj
    have Uj:=qK Uj w
    rw[<-V5]at hr
    have Tx:∀(w':World) (es':List (Value×DV×Nat)) (cl':Nat) (v:Value) (d:DV) (n:Nat),(Instr.mapEntry t (a.eval x) (a.eval k)).run P w= .ok (.tuple #[v,goInt n]) w'->ai c Z (E.upd [(s,some (.obj (.mp es' cl') false))]) a w'->
      (∀E',E'=E.upd [(s,some (.obj (.mp es' cl') false))]->ah Z E'.used w' (ae c Z E'.slots) v d)->bc P c E a w ⟨dst,.mapEntry t x k,ty,pos,after,g⟩ ⟨.tup [d,.t (.v (.int .i64 n))],[s],[(s,some (.obj (.mp es' cl') false))]⟩:=by
     intro w' es' cl' v d n Ti hs hv
     refine⟨.tuple #[v,goInt n],w',.inl (by simp[execOp,Ti]),Z,hs.put hd ?_⟩
     refine .tup (vs:=[v,goInt n]) rfl fun i u x hu hx=>?_
     match i with
     |0=>simp at hu hx;subst hu hx;exact hv _ rfl
     |1=>simp at hu hx;subst hu hx;exact .t (.v rfl)
     |n+2=>simp at hu
    split at hr
    .rename_i hf
     simp only[ajr]at hr
     subst hr
     rcases mr hf w with⟨_,hf⟩|⟨i,e',hf,_⟩
     .refine Tx _ _ _ zv _ cl ?_ (h.setMap Tj hg (ents':=ents.push {key:=kv,val:=zv,born:=cl}) (by simp[hsz]) ?_) (fun E' _=> .t ?_)
      .simp only[Instr.mapEntry,ajH,ajD ht,hx.mp_inv,X9,kW hg,ajF,Uj,hf,hzr,o0 _ hg,aj0]
      .intro i e' x' WH hx'
       rw[Array.getElem?_push]at WH
       rw[akz]at hx'
       by_cases hi:i<es.length
       .rw[if_neg (by omega)]at WH
        rw[if_pos hi]at hx'
        exact Tn i e' x' WH hx'
       .rw[if_neg hi]at hx'
        have Ya:i-es.length=0:=by
         have:=(ajs.1 hx').1
         simp at this;omega
        rw[if_pos (by omega)]at WH
        simp[Ya]at hx'
        simp at WH
        subst WH hx'
        exact⟨rfl,rfl,.t (WM _)⟩
      .obtain⟨v2,hv2,Yq⟩:=ut (w:={w with heap:=w.heap.setIfInBounds (Z s).blk (.map (ents.push {key:=kv,val:=zv,born:=cl}) (cl+1))}) hz
       obtain⟨v3,hv3,acI⟩:=G4 hz
       have:zv=v3:=by rw[hv3 w]at hzr;simpa using hzr.symm
       rw[this]
       exact acI _ _
     .cases hf
    .rename_i i hf
     split at hr
     .rename_i x' hx'
      split at hr
      .rename_i k' Uz
       simp only[ajr]at hr
       subst hr
       rcases mr hf w with⟨hf,_⟩|⟨i',e',hf,WH,Ti⟩
       .cases hf
       .simp only[ajr]at hf
        subst hf
        have eX:ents[i]?=some e':=by simpa using WH
        obtain⟨ZA,WX,hval⟩:=Tn i e' x' eX hx'
        rw[<-ZA]at Uz
        have TC:i<ents.size:=(ajy.1 eX).1
        have hs:=h.setMap (cl':=cl) Tj hg (ents':=ents.modify i fun e=>{e with key:=k'}) (es':=es.set i (k',x'.2.1,x'.2.2)) (by simp[hsz]) (by
         intro j e2 x2 Wc VS
         rw[Array.getElem?_modify]at Wc
         rw[List.getElem?_set]at VS
         by_cases hj:i=j
         .subst hj
          rw[if_pos rfl,eX]at Wc
          rw[if_pos rfl,if_pos (by omega)]at VS
          simp at Wc VS
          subst Wc VS
          exact⟨rfl,WX,hval⟩
         .rw[if_neg hj]at Wc VS
          exact Tn j e2 x2 Wc VS)
        have UM:=hs.row s (.obj (.mp (es.set i (k',x'.2.1,x'.2.2)) cl) false) (by rw[bM];simp[List.lookup])
        have acv:∀E',E'=E.upd [(s,some (.obj (.mp (es.set i (k',x'.2.1,x'.2.2)) cl) false))]->ah Z E'.used {w with heap:=w.heap.setIfInBounds (Z s).blk (.map (ents.modify i fun e=>{e with key:=k'}) cl)} (ae c Z E'.slots) e'.val x'.2.1:=by
         rintro E' rfl
         obtain⟨_,⟨adJ,WG,_,Yq⟩,_⟩:=UM
         have hlt:=(ajy.1 hg).1
         have WG:(w.heap.setIfInBounds (Z s).blk (.map (ents.modify i fun e=>{e with key:=k'}) cl))[(Z s).blk]?=some (.map adJ cl):=WG
         rw[akj,if_pos rfl,if_pos hlt]at WG
         simp only[ajr,Obj.map.injEq,and_true]at WG
         subst WG
         exact(Yq i {e' with key:=k'} (k',x'.2.1,x'.2.2) (by rw[Array.getElem?_modify,if_pos rfl,eX];rfl) (by rw[List.getElem?_set,if_pos rfl,if_pos (by omega)])).2.2
        refine Tx _ _ _ e'.val _ x'.2.2 ?_ hs acv
        have hkr:=yB h hd Uz w
        have Ty:((ents[i]?).map (·.key)).getD kv=e'.key:=by rw[eX];rfl
        have adg:(Option.map (fun x:MapEntry=>(x.born:Int)) ents[i]?).getD 0=(x'.2.2:Int):=by rw[eX];simp[WX]
        simp only[Instr.mapEntry,ajH,ajD ht,hx.mp_inv,X9,kW hg,ajF,Uj,Ti,Ty,hkr,o0 _ hg,aj0,adg]
      .simp at hr
     .simp at hr
    .simp at hr
   .simp at hr
  .simp at hr
 .simp at hr
def G9{t:TypeId}{x st y:Operand}(hr:(al.mst x st y).den P E dst=some r):bc P c E a w ⟨dst,.entryStore t x st y,ty,pos,after,g⟩ r:=by
 have hx:=h.ev x
 have hs:=h.ev st
 have hy:=h.ev y
 simp only[al.den]at hr
 unfold ki at hr
 split at hr
 .rename_i s κ n hes TT
  rw[hes]at hx
  rw[TT]at hs
  split at hr
  .rename_i es cl Tj
   obtain⟨ents,hg,hsz,V5,aaq,Tn⟩:=o7 h Tj
   split at hr
   .rename_i i hf
    split at hr
    .rename_i x' hx'
     simp only[ajr]at hr
     subst hr
     have hfi:ents.findIdx? (fun e=>(e.born:Int)==n)=some i:=by
      rw[List.findIdx?_eq_some_iff_getElem]at hf
      obtain⟨hi,h1,h2⟩:=hf
      rw[Array.findIdx?_eq_some_iff_getElem]
      refine⟨by omega,?_,fun j hj=>?_⟩
      .have:=(Tn i ents[i] es[i] (aj7 (by omega)) (ajq hi)).2.1
       rw[this];exact h1
      .have:=(Tn j ents[j] es[j] (aj7 (by omega)) (ajq (by omega))).2.1
       rw[this];exact h2 j hj
     have TC:i<ents.size:=by
      have:=(ajs.1 hx').1
      omega
     refine⟨undef,_,.inr ⟨?_,rfl⟩,Z,(h.setMap (cl':=cl) Tj hg (ents':=ents.modify i fun e=>{e with val:=a.eval y}) (es':=es.set i (x'.1,E.ev y,x'.2.2)) (by simp[hsz]) ?_).put hd .junk⟩
     .simp[execOp,Instr.entryStore,hx.mp_inv,kW hg,(hs.v_inv).1,asInt,asIntOf,hfi,o0 _ hg]
     .intro j e2 x2 Wc VS
      rw[Array.getElem?_modify]at Wc
      rw[List.getElem?_set]at VS
      by_cases hj:i=j
      .subst hj
       have eX:=aj7 TC
       obtain⟨ZA,WX,hval⟩:=Tn i ents[i] x' eX hx'
       rw[if_pos rfl,eX]at Wc
       rw[if_pos rfl,if_pos (by omega)]at VS
       simp at Wc VS
       subst Wc VS
       exact⟨ZA,WX,hy⟩
      .rw[if_neg hj]at Wc VS
       exact Tn j e2 x2 Wc VS
    .simp at hr
   .simp at hr
  .simp at hr
 .simp at hr
end ops
end
section
open Go.RowKit
variable{P:Program}{c:aA}{Z:Nm->Place}{E:aa}{a:Act}{w:World}{dst:Option Nat}{ty:TypeId}{pos:String}{after:Array Edge}{g:Option (Nat×Bool)}{r:aq}
def wrap_small{n:Int}(h0:0<=n)(h:n<=LIM):IntKind.i64.wrap n=n:=by
 have hl:(LIM:Int)=100000000:=rfl
 have e64:(2:Int)^IntKind.i64.bits=18446744073709551616:=by decide
 have e63:(2:Int)^(IntKind.i64.bits-1)=9223372036854775808:=by decide
 have e:n%2^IntKind.i64.bits=n:=Int.emod_eq_of_lt h0 (by rw[e64];omega)
 unfold IntKind.wrap
 simp only[e]
 rw[if_neg]
 rw[e63]
 simp only[ajT,akk,not_and]
 intro _
 omega
def yD{M:Nat->Prop}{m n cap:Nat}{z:ab}{zv:Value}(VV:z.cells.length=m)(h0:0<m)(hz:aM w M zv z)(TK:n<=cap):
  aV w M m ((List.range (cap*m)).map fun q=>zv.cells[q%zv.cells.size]!) (List.replicate n z):=by
 obtain⟨Xr,X5,hzp⟩:=(ah.t (Z:=fun _=>⟨0,0,0⟩) (U:=fun _=>false) hz).cells_inv rfl
 have Zb:(DV.t z).cells=z.cells.map .t:=by cases z<;>rfl
 rw[Zb,ajJ,VV]at Xr
 have YG:zv.cells.size=m:=by simpa using Xr
 refine⟨fun t ht=>?_,fun k t j cc hk hj=>?_⟩
 .rw[List.eq_of_mem_replicate ht];exact VV
 .have hkn:k<n:=by have:=(ajs.1 hk).1;simpa using this
  have ht:t=z:=List.eq_of_mem_replicate (ajx hk)
  subst ht
  have hjm:j<m:=by have:=(ajs.1 hj).1;omega
  have hlt:k*m+j<cap*m:=by
   have:(k+1)*m<=cap*m:=ajZ _ (by omega)
   rw[Nat.add_mul]at this
   omega
  have ae5:(k*m+j)%m=j:=by rw[Nat.add_comm,Nat.add_mul_mod_self_right,Nat.mod_eq_of_lt hjm]
  have hjs:j<zv.cells.size:=by omega
  have Ty:zv.cells.toList[j]?=some zv.cells[j]:=by simp[hjs]
  have Tn:=hzp j _ (.t cc) Ty (by rw[Zb,ajw,hj];rfl)
  have T1:=Tn.t_inv.one
  have h1:=X5 _ (ajx Ty)
  refine⟨by rw[<-T1];exact h1,zv.cells[j],?_,Tn.t_inv⟩
  rw[ajw,List.getElem?_range hlt]
  simp[YG,ae5,hjm]
section ops
variable(h:ai c Z E a w)(hd:dst.all (· <c.n)=true)
include h hd
def Ha{t e:TypeId}{m:Nat}{z:ab}{i:TypeInfo}{l cp:Operand}(ht:P.underlying t=some (.slice e))(hm:bm P e=some m)(hi:P.info? e=some i)(hz:cu P e=some z)(h0:m≠0)(VV:z.cells.length=m)(Xd:i.bytes<=1000)
  (hr:(al.mksl e i.bytes m z l cp).den P E dst=some r):bc P c E a w ⟨dst,.makeSlice t l cp,ty,pos,after,g⟩ r:=by
 have hl:=h.ev l
 have hc:=h.ev cp
 simp only[al.den]at hr
 unfold tR at hr
 split at hr
 .rename_i κ ln κ' cn YA hec
  rw[YA]at hl
  rw[hec]at hc
  split at hr
  .rename_i UB
   obtain⟨hf,Uy,XB,hlim,VM⟩:=UB
   simp only[ajr]at hr
   subst hr
   have hf:E.used (bg dst)=false:=by simpa[aa.fresh]using hf
   obtain⟨i',zv,TU,hzv,hzR,_⟩:=nF (Z:=Z) (U:=E.used) (M:=ae c Z E.slots) (w:=w) hz
   rw[hi]at TU
   cases TU
   have afM:(LIM:Int)=100000000:=rfl
   have U5:=wrap_small Uy (by omega:ln<=LIM)
   have Ui:=wrap_small (by omega:0<=cn) hlim
   have Tv:∀(k:Nat) (w:World),(askRoom k).run P w= .ok () w:=by
    intro k w
    unfold askRoom
    split<;>simp[mark,Sem.run]
   have hb:(i.bytes:Int)*cn<=100000000000:=by
    have h2:(i.bytes:Int)<=1000:=by omega
    have h3:cn<=100000000:=by omega
    have h4:(i.bytes:Int)*cn<=1000*cn:=Int.mul_le_mul_of_nonneg_right h2 (by omega)
    omega
   have TZ:(i.bytes:Int)*ln<=100000000000:=by
    have h2:(i.bytes:Int)<=1000:=by omega
    have h4:(i.bytes:Int)*ln<=1000*ln:=Int.mul_le_mul_of_nonneg_right h2 (by omega)
    omega
   have Ti:(execOp a.eval ⟨dst,.makeSlice t l cp,ty,pos,after,g⟩).run P w= .ok (.value (.slice (some ⟨w.heap.size,0,none⟩) ln.toNat cn.toNat)) (w.alloc (.cells ((List.range (cn.toNat*m)).map fun q=>zv.cells[q%zv.cells.size]!).toArray e)):=by
    have e1:¬(cn<0):=by omega
    have e2:¬(281474976710656<(i.bytes:Int)*cn):=by omega
    have e3:¬(ln<0):=by omega
    have e4:¬(cn<ln):=by omega
    by_cases hn:cn.toNat*m=0
    .simp[execOp,Instr.makeSlice,ajD ht,(hl.v_inv).1,(hc.v_inv).1,asInt,asIntOf,typeInfo,hi,U5,Ui,e1,e2,e3,e4,Tv,ga hm,hn,newRow,newObj,Sem.run]
     rw[show Array.map (fun _:Nat=>(default:Value)) (Array.range 0)=#[] by apply akh;simp]
    .simp[execOp,Instr.makeSlice,ajD ht,(hl.v_inv).1,(hc.v_inv).1,asInt,asIntOf,typeInfo,hi,U5,Ui,e1,e2,e3,e4,Tv,ga hm,hn,zeroValue,hzv,newRow,newObj,Sem.run]
     have afZ:Array.map (fun x=>zv.cells[x%zv.cells.size]!) (Array.range (cn.toNat*m))=(List.map (fun x=>zv.cells[x%zv.cells.size]!) (List.range (cn.toNat*m))).toArray:=by apply akh;simp
     rw[afZ]
   by_cases Ws:cn=0
   .subst Ws
    have afd:ln=0:=by omega
    subst afd
    have VD:=ai.alloc h (.cells ((List.range ((0:Int).toNat*m)).map fun q=>zv.cells[q%zv.cells.size]!).toArray e)
    obtain⟨Z',hZ⟩:=ai.newNil VD hd (e:=e) (m:=m) (s':=bg dst) (ad:=some ⟨w.heap.size,0,none⟩) hf (iC dst) VM
    exact⟨_,_,.inl Ti,Z',hZ⟩
   .obtain⟨Z',hZ⟩:=ai.newRow h hd (e:=e) (m:=m) (l:=List.replicate ln.toNat z) (n:=ln.toNat) (cap:=cn.toNat) (cs:=(List.range (cn.toNat*m)).map fun q=>zv.cells[q%zv.cells.size]!) (s':=bg dst) (w1:=w) hf (iC dst) rfl rfl rfl rfl VM (by simp) (by omega) (by omega) (by simp only[maxLen];omega) (by simp) (yD VV VM hzR (by omega))
    exact⟨_,_,.inl Ti,Z',hZ⟩
  .simp at hr
 .simp at hr
omit h hd in
def uv(w:World)(t u ty e:TypeId)(i:TypeInfo)(z:Value)(ku:IntKind)(ht:P.underlying t=some (.slice e))(hu:P.underlying u=some (.int ku))(hi:P.info? e=some i)(hz:i.zero=some z)
  (ad:Option Addr) (n cap:Nat) (κ:IntKind) (m:Nat) (hm:m<=LIM) (Tw Th:List Value) (hlo:Tw.length=n*i.size) (Xr:z.cells.size=i.size) (Xd:i.bytes<=1000) (Ux:Th=(Builtin.zeroCells z.cells m).toList)
  (TP:∀w2,w2.heap=w.heap->(Builtin.firstCells i.size n (.slice ad n cap)).run P w2= .ok Tw.toArray w2)
  (TT:n+m<=cap->∃w',(fC ad (n*i.size) Th).run P w= .ok () w')
  (Z5:n+m<=maxLen) (Yf:(n+m)*i.bytes<=140737488355328):
  (n+m<=cap/\∃w',(fC ad (n*i.size) Th).run P w= .ok () w'/\(Builtin.append_ #[t,u] ty #[.slice ad n cap,.int κ m]).run P w= .ok (.slice ad (n+m) cap) w')\/
  (cap<n+m/\n+m<=grownCap w (n+m) cap e/\grownCap w (n+m) cap e<=maxLen/\(Builtin.append_ #[t,u] ty #[.slice ad n cap,.int κ m]).run P w= .ok (.slice (some ⟨w.heap.size,0,none⟩) (n+m) (grownCap w (n+m) cap e))
    (w.drew.alloc (.cells (Tw++Th++(Builtin.zeroCells z.cells (grownCap w (n+m) cap e-(n+m))).toList).toArray e))):=by
 have afM:(LIM:Int)=100000000:=rfl
 have U5:IntKind.i64.wrap (m:Int)=m:=wrap_small (by omega) (by omega)
 have e1:¬((m:Int)<0):=by omega
 have e2:¬(281474976710656<(m:Int)*i.bytes):=by
  have h2:(i.bytes:Int)<=1000:=by omega
  have h4:(m:Int)*i.bytes<=m*1000:=Int.mul_le_mul_of_nonneg_left h2 (by omega)
  omega
 have hz0:m*i.size=0->Th=[]:=by
  intro hh
  rw[Ux]
  have:(Builtin.zeroCells z.cells m).size=0:=by simp[Builtin.zeroCells,Xr,hh]
  exact ajO (by simpa using this)
 have hnz:Builtin.zeroCells z.cells m=Th.toArray:=by rw[Ux]
 by_cases Tv:n+m<=cap
 .left
  obtain⟨w',V8⟩:=TT Tv
  refine⟨Tv,w',V8,?_⟩
  by_cases YO:m*i.size=0
  .rw[hz0 YO]at V8
   cases ad with
   |none=>
    simp only[fC,aj0,Result.ok.injEq,true_and]at V8
    subst V8
    simp[Builtin.append_,ajD ht,ajD hu,sizeOf,typeInfo,hi,asInt,asIntOf,U5,e1,e2,Tv,YO]
   |some ad=>
    simp only[fC]at V8
    simp[Builtin.append_,ajD ht,ajD hu,sizeOf,typeInfo,hi,asInt,asIntOf,U5,e1,e2,Tv,YO,V8]
  .cases ad with
   |none=>
    simp only[fC,aj0,Result.ok.injEq,true_and]at V8
    subst V8
    simp[Builtin.append_,ajD ht,ajD hu,sizeOf,typeInfo,zeroValue,hi,hz,asInt,asIntOf,U5,e1,e2,Tv,YO,hnz]
   |some ad=>
    simp only[fC]at V8
    simp[Builtin.append_,ajD ht,ajD hu,sizeOf,typeInfo,zeroValue,hi,hz,asInt,asIntOf,U5,e1,e2,Tv,YO,hnz,V8]
 .right
  have aat:¬(9223372036854775807<((n:Int)+(m:Int))):=by simp only[maxLen]at Z5;omega
  have qb:=growslice_fits (need:=n+m) (old:=cap) (by omega) Yf
  have aau:¬(281474976710656<Builtin.nextslicecap (n+m) cap*i.bytes):=by omega
  refine⟨by omega,grownCap_ge w (n+m) cap e,grownCap_le_maxLen w (n+m) cap e Z5,?_⟩
  by_cases YO:m*i.size=0
  .have:=hz0 YO
   subst this
   simp[Builtin.append_,ajD ht,ajD hu,sizeOf,typeInfo,zeroValue,hi,hz,asInt,asIntOf,U5,e1,e2,Tv,YO,aat,aau,Question.forced,TP w.drew rfl,newRow,grownCap]
   congr 2
   apply akh
   simp
  .simp[Builtin.append_,ajD ht,ajD hu,sizeOf,typeInfo,zeroValue,hi,hz,asInt,asIntOf,U5,e1,e2,Tv,YO,hnz,aat,aau,Question.forced,TP w.drew rfl,newRow,grownCap]
   congr 2
   apply akh
   simp[aj1]
def Hb{t u e:TypeId}{i:TypeInfo}{zt:ab}{ku:IntKind}{x y:Operand}{ts:Array TypeId}{tt:TypeId}(V9:ts=#[t,u])(ht:P.underlying t=some (.slice e))(hu:P.underlying u=some (.int ku))(hi:P.info? e=some i)(hz:cu P e=some zt)
  (YG:zt.cells.length=i.size) (Xd:i.bytes<=1000) (h0:i.size≠0)
  (hr:(al.appz e i.size zt x y).den P E dst=some r):bc P c E a w ⟨dst,.call {callee:= .builtin .append,args:=#[x,y],argTypes:=ts},tt,pos,after,g⟩ r:=by
 subst V9
 have hy:=h.ev y
 simp only[al.den]at hr
 unfold nq at hr
 split at hr
 .rename_i κ q he
  rw[he]at hy
  split at hr
  .rename_i hq
   refine yq h hd hi hz YG Xd h0 (fun z l rd X5 Xr T3 hl=>?_) hr
   obtain⟨i',zv,TU,hzv,hzR,_⟩:=nF (Z:=Z) (U:=E.used) (M:=ae c Z E.slots) (w:=w) hz
   rw[hi]at TU
   cases TU
   rw[X5]at hzv
   cases hzv
   simp only[aa.more,aa.view,if_true,ajr,ajV]at T3
   obtain⟨rfl,rfl⟩:=T3
   have hq':(q.toNat:Int)=q:=Int.toNat_of_nonneg hq.1
   have Tk:(List.replicate q.toNat zt).length=q.toNat:=by simp
   have hR:=yD (n:=q.toNat) (cap:=q.toNat) YG (by omega) hzR (ajz _)
   have hnn:((List.range (q.toNat*i.size)).map fun k=>z.cells[k%z.cells.size]!)=(Builtin.zeroCells z.cells q.toNat).toList:=by simp[Builtin.zeroCells,Xr]
   refine⟨(List.range (q.toNat*i.size)).map fun k=>z.cells[k%z.cells.size]!,by simp,fun v hv=>?_,hR,fun ad n cap Tw WT TP TT Z5 hb=>?_⟩
   .have:=hR.one (by omega) q.toNat (by simp) v (by rw[aju (by simp)];exact hv)
    exact this
   .rw[Tk]at TT Z5 hb⊢
    have:=uv (P:=P) w t u tt e i z ku ht hu hi X5 ad n cap κ q.toNat (by rw[Tk]at hl;exact hl) Tw _ WT Xr Xd hnn TP TT Z5 hb
    rw[(hy.v_inv).1,<-hq']
    exact this
  .simp at hr
 .simp at hr
def Hc{t e tt:TypeId}{us:List TypeId}{m:Nat}{x y:Operand}{ts:Array TypeId}(V9:ts=(t::us).toArray)(ht:P.underlying t=some (.slice e))(hm:∃i,P.info? e=some i/\i.size=m)(h0:m≠0)
  (hr:(al.copy m x y).den P E dst=some r):bc P c E a w ⟨dst,.call ⟨.builtin .copy,#[x,y],ts⟩,tt,pos,after,g⟩ r:=by
 subst V9
 have hx:=h.ev x
 have hy:=h.ev y
 have h0:0<m:=by omega
 obtain⟨i,hi,Vl⟩:=hm
 simp only[al.den]at hr
 unfold oS at hr
 split at hr
 .rename_i s n he
  rw[he]at hx
  obtain⟨ad,hv,hU,Ve,V2⟩:=hx.osl_inv
  split at hr
  .rename_i e' m' l0 l rd Tj T3
   split at hr
   .rename_i UB
    obtain⟨Vu,hnl,ahp,Z2⟩:=UB
    simp only[ajr]at hr
    subst hr Vu
    obtain⟨Th,h1,h2,h3,h4,h5⟩:=uk (P:=P) h h0 hy T3
    obtain⟨hUs,hB,_⟩:=h.row s _ Tj
    have Zy:Nat.min l.length n=l.length:=Nat.min_eq_left Z2
    rcases hB with⟨Ws,Uy,Vj,_⟩|⟨cs,hcap,hg,Vj,_,hcs,XB,V0,hmz,hR⟩
    .have hn0:n=0:=by omega
     subst hn0
     have hl:l=[]:=ajO (by omega)
     subst hl Uy
     have Ux:Th=[]:=ajO (by rw[h3];simp)
     subst Ux
     have Zd:E.upd [(s,some (.rows e' m' ([]++List.drop ([]:List ab).length []) false))]=E:=by
      refine aa.ext' rfl (funext fun z=>?_) (funext fun z=>?_)
      .rw[bM,dV]
       by_cases hz:z=s
       .subst hz;simp[Tj]
       .simp[hz]
      .rw[bJ,dV]
       by_cases hz:z=s
       .subst hz;simp[hU]
       .simp[hz]
     refine⟨.int .i64 0,w,.inl ?_,Z,?_⟩
     .have Y4:=h2 w rfl
      simp only[List.length_nil]at Y4 h1
      cases ad<;>simp[execOp,resolve,invoke,builtin,Builtin.copy_,ajD ht,hv,h1,sizeOf,typeInfo,hi,Vl,Y4,storeCells,goInt]
     .unfold aq.apply
      rw[Zd]
      exact h.put hd (.t (.v rfl))
    .have ZP:=V2 hcap
     subst ZP
     have VC:0+0+Th.length<=cs.toArray.size:=by
      simp only[List.size_toArray,hcs,h3,ajX]
      exact ajZ _ (by omega)
     have TT:=run_storeCells_at P (Z s).blk 0 e' Th 0 cs.toArray w hg VC (fun v hv=>by rw[<-mq];exact h4 v hv)
     simp only[Nat.add_zero,List.take_zero,List.nil_append,ajX]at TT
     have acG:aV w (ae c Z E.slots) m' (Th++cs.drop Th.length) (l++l0.drop l.length):=by
      refine⟨fun t ht=>?_,fun k t j cc hk hj=>?_⟩
      .rcases ajG.1 ht with ht|ht
       .exact h5.1 t ht
       .exact hmz t (akn ht)
      .rw[akz]at hk
       by_cases U6:k<l.length
       .rw[if_pos U6]at hk
        obtain⟨h6,v,h7,h8⟩:=h5.2 k t j cc hk hj
        refine⟨h6,v,?_,h8⟩
        rw[akt (ajs.1 h7).1]
        exact h7
       .rw[if_neg U6,aka]at hk
        have e1:l.length+(k-l.length)=k:=by omega
        rw[e1]at hk
        obtain⟨h6,v,h7,h8⟩:=hR k t j cc hk hj
        refine⟨h6,v,?_,h8⟩
        have hge:l.length*m'<=k*m':=ajZ _ (by omega)
        rw[akw (by omega),aka]
        have e2:Th.length+(k*m'+j-Th.length)=k*m'+j:=by omega
        rw[e2];exact h7
     refine⟨.int .i64 l.length,w.setRow (Z s).blk (Th++cs.drop Th.length).toArray,.inl ?_,Z,?_⟩
     .have Y4:=h2 w rfl
      simp[execOp,resolve,invoke,builtin,Builtin.copy_,ajD ht,hv,h1,sizeOf,typeInfo,hi,Vl,Zy,Y4,TT,goInt]
     .refine ai.put ?_ hd (.t (.v rfl))
      refine h.set (w':=w.setRow (Z s).blk (Th++cs.drop Th.length).toArray) Tj rfl (by simpa[Row.real]using hcap) (by simp) rfl rfl rfl (fun b hb=>setRow_other w _ b _ hb) ?_
      intro M' US
      have ZD:=setRow_heap w (Z s).blk _ (Th++cs.drop Th.length).toArray e' _ hg
      have Xf:=acG.mono (w':=w.setRow (Z s).blk (Th++cs.drop Th.length).toArray) (M':=M') (by simp) (fun b hlt hM=>⟨setRow_other w _ b _ (fun e=>hM (.inr ⟨s,_,Tj,rfl,by simpa[Row.real]using hcap,e.symm⟩)),US b hlt hM⟩)
      refine .inr ⟨_,hcap,ZD,Vj,h0,?_,?_,V0,Xf.1,Xf.2⟩
      .have:Th.length<=cs.length:=by simpa using VC
       simp only[ajB,aj9]
       omega
      .simp only[ajB,aj9];omega
   .simp at hr
  .simp at hr
 .simp at hr
def He{t:TypeId}{x:Operand}(ht:P.underlying t=some .string)(hr:(al.rng x).den P E dst=some r):bc P c E a w ⟨dst,.range t x,ty,pos,after,g⟩ r:=by
 have hx:=h.ev x
 simp only[al.den]at hr
 unfold oT at hr
 split at hr
 .rename_i str he
  rw[he]at hx
  split at hr
  .rename_i hf
   simp only[ajr]at hr
   subst hr
   have hu:E.used (bg dst)=false:=by simpa[aa.fresh]using hf
   have Ti:(execOp a.eval ⟨dst,.range t x,ty,pos,after,g⟩).run P w= .ok (.value (.pointer (some ⟨w.heap.size,0,none⟩))) (w.alloc (.stringIter str 0)):=by
    simp[execOp,Instr.range,ajD ht,(hx.v_inv).1,newObj,Sem.run]
   have Ub:(w.alloc (.stringIter str 0)).heap[w.heap.size]?=some (.stringIter str 0):=heap_alloc_new w _
   have TP:∀b,b<w.heap.size->(w.alloc (.stringIter str 0)).heap[b]?=w.heap[b]?:=fun b hb=>ako w _ hb
   obtain⟨Z',h2,h3,h4⟩:=h.new (w':=w.alloc (.stringIter str 0)) (s:=bg dst) (r:= .obj (.it str 0) false) (pl:=⟨w.heap.size,0,0⟩) hu (iC dst) (by simp) rfl rfl rfl TP (fun _=>ajz _) (by
    intro Z' U' M' hU hM
    exact Ub)
   refine⟨_,_,.inl Ti,Z',h4.put hd ?_⟩
   have:=ah.ptr (Z:=Z') (U:=(E.upd [(bg dst,some (.obj (.it str 0) false))]).used) (w:=w.alloc (.stringIter str 0)) (M:=ae c Z' (E.upd [(bg dst,some (.obj (.it str 0) false))]).slots) (s:=bg dst) (k:=0) (j:=0) (by
    rw[bJ];simp[List.lookup])
   rw[h3]at this
   simpa using this
  .simp at hr
 .simp at hr
def Hf{x:Operand}(hr:(al.nxt x).den P E dst=some r):bc P c E a w ⟨dst,.next x true,ty,pos,after,g⟩ r:=by
 have hx:=h.ev x
 simp only[al.den]at hr
 unfold kj at hr
 split at hr
 .rename_i s he
  rw[he]at hx
  obtain⟨hv,_⟩:=hx.ptr_inv
  simp only[Nat.zero_mul,ajX]at hv
  split at hr
  .rename_i str p Tj
   have hg:w.heap[(Z s).blk]?=some (.stringIter str p):=(h.row s _ Tj).2.1
   have Ut:(getObj (Z s).blk).run P w= .ok (.stringIter str p) w:=by simp[getObj,Sem.run,hg]
   have hlt:=(ajy.1 hg).1
   split at hr
   .rename_i hp
    simp only[ajr]at hr
    subst hr
    have hso:∀o,(setObj (Z s).blk o).run P w= .ok () {w with heap:=w.heap.setIfInBounds (Z s).blk o}:=by intro o;simp[setObj,Sem.run,hg]
    have VJ:∀o b,b≠(Z s).blk->(w.heap.setIfInBounds (Z s).blk o)[b]?=w.heap[b]?:=by
     intro o b hb
     rw[akj]
     simp[Ne.symm hb]
    refine⟨.tuple #[.bool true,goInt p,.int .i32 (Utf8.decode str p).1],{w with heap:=w.heap.setIfInBounds (Z s).blk (.stringIter str (p+(Utf8.decode str p).2))},.inl ?_,Z,ai.put ?_ hd ?_⟩
    .simp[execOp,Instr.next,hv,Ut,hp,hso]
    .refine h.set (w':={w with heap:=w.heap.setIfInBounds (Z s).blk (.stringIter str (p+(Utf8.decode str p).2))}) Tj rfl rfl (by simp) rfl rfl rfl (VJ _) ?_
     intro M' US
     show(w.heap.setIfInBounds (Z s).blk _)[(Z s).blk]?=_
     simp[akj,hlt]
    .refine .tup (vs:=[.bool true,goInt p,.int .i32 (Utf8.decode str p).1]) rfl fun i u x hu hx=>?_
     match i with
     |0=>simp at hu hx;subst hu hx;exact .t (.v rfl)
     |1=>simp at hu hx;subst hu hx;exact .t (.v rfl)
     |2=>simp at hu hx;subst hu hx;exact .t (.v rfl)
     |n+3=>simp at hu
   .rename_i hp
    simp only[ajr]at hr
    subst hr
    refine be h hd (v:= .tuple #[.bool false]) ?_ (.tup (vs:=[.bool false]) rfl fun i u x hu hx=>?_)
    .simp[execOp,Instr.next,hv,Ut,hp]
    .match i with
     |0=>simp at hu hx;subst hu hx;exact .t (.v rfl)
     |n+1=>simp at hu
  .simp at hr
 .simp at hr
end ops
end
end Go.Wt
