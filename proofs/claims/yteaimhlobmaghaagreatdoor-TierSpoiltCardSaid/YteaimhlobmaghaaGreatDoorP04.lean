/- A part of the proof of a tier statement (the last text closes it): lemmas without condition. -/
import Derived.Test.YteaimhlobmaghaaGreatDoorP03
set_option linter.all false
set_option maxRecDepth 10000000
set_option maxHeartbeats 0
namespace Go.Wt
section
open Go.RowKit
variable{P:Program}{c:aA}{Z:Nm->Place}{E:aa}{a:Act}{w:World}{dst:Option Nat}{ty:TypeId}{pos:String}{after:Array Edge}{g:Option (Nat×Bool)}{r:aq}
def aV(w:World)(M:Nat->Prop)(m:Nat)(cs:List Value)(l:List ab):Prop:=
 (∀t∈l,t.cells.length=m)/\∀(k:Nat) (t:ab) (j:Nat) (cc:ab),l[k]?=some t->t.cells[j]?=some cc->cc.one=true/\∃v,cs[k*m+j]?=some v/\aM w M v cc
def aV.mono{w':World}{M M':Nat->Prop}{m:Nat}{cs:List Value}{l:List ab}(h:aV w M m cs l)(hs:w.heap.size<=w'.heap.size)
  (hw:∀b,b<w.heap.size->¬M b->w'.heap[b]?=w.heap[b]?/\¬M' b):aV w' M' m cs l:=
 ⟨h.1,fun k t j cc hk hj=>let⟨h1,v,h2,h3⟩:=h.2 k t j cc hk hj;⟨h1,v,h2,h3.mono hs hw⟩⟩
def aV.take{M:Nat->Prop}{m:Nat}{cs:List Value}{l:List ab}(h:aV w M m cs l)(n:Nat):aV w M m cs (l.take n):=by
 refine⟨fun t ht=>h.1 t (akm ht),fun k t j cc hk hj=>h.2 k t j cc ?_ hj⟩
 rw[ajN]at hk
 split at hk
 .exact hk
 .simp at hk
def aV.ext{M:Nat->Prop}{m:Nat}{cs cs':List Value}{l:List ab}(h:aV w M m cs l)(he:∀i,i<l.length*m->cs'[i]?=cs[i]?):aV w M m cs' l:=by
 refine⟨h.1,fun k t j cc hk hj=>?_⟩
 obtain⟨h1,v,h2,h3⟩:=h.2 k t j cc hk hj
 refine⟨h1,v,?_,h3⟩
 rw[he]
 .exact h2
 .have U6:k<l.length:=(ajs.1 hk).1
  have hjm:j<m:=by rw[<-h.1 t (ajx hk)];exact(ajs.1 hj).1
  have:(k+1)*m<=l.length*m:=ajZ _ U6
  rw[Nat.succ_mul]at this
  omega
def aV.append{M:Nat->Prop}{m:Nat}{cs ds rest:List Value}{l k:List ab}(h1:aV w M m cs l)(h2:aV w M m ds k)(hc:cs.length=l.length*m):aV w M m (cs++ds++rest) (l++k):=by
 refine⟨fun t ht=>(ajG.1 ht).elim (h1.1 t) (h2.1 t),fun i t j cc hi hj=>?_⟩
 rw[akz]at hi
 split at hi
 .obtain⟨h3,v,h4,h5⟩:=h1.2 i t j cc hi hj
  refine⟨h3,v,?_,h5⟩
  have hlt:=(ajs.1 h4).1
  rw[aj1,akt hlt]
  exact h4
 .rename_i hge
  obtain⟨h3,v,h4,h5⟩:=h2.2 (i-l.length) t j cc hi hj
  refine⟨h3,v,?_,h5⟩
  have hlt:=(ajs.1 h4).1
  have e:i*m+j-cs.length=(i-l.length)*m+j:=by
   rw[hc,Nat.sub_mul]
   have:l.length*m<=i*m:=ajZ _ (by omega)
   omega
  have:l.length*m<=i*m:=ajZ _ (by omega)
  rw[aj1,akw (by omega),e,akt hlt]
  exact h4
def nC{M:Nat->Prop}{m b o:Nat}{l:List ab}(h0:0<m)(hm:∀t∈l,t.cells.length=m)(u:Nat->Nat->Value)
  (hu:∀(k:Nat) (t:ab) (j:Nat) (cc:ab),l[k]?=some t->t.cells[j]?=some cc->w.cell? ⟨b,o+k*m+j,none⟩=some (u k j))
  (h1:∀(k:Nat) (t:ab) (j:Nat) (cc:ab),l[k]?=some t->t.cells[j]?=some cc->cc.one=true)
  (h:∀(k:Nat) (t:ab) (j:Nat) (cc:ab),l[k]?=some t->t.cells[j]?=some cc->aM w M (u k j) cc):
  ∃Th:List Value,Th.length=l.length*m/\(∀v∈Th,co v=true)/\(∀j v,Th[j]?=some v->w.cell? ⟨b,o+j,none⟩=some v)/\aV w M m Th l:=by
 have hq:∀q,q<l.length*m->∃t cc,l[q/m]?=some t/\t.cells[q%m]?=some cc/\q/m*m+q%m=q:=by
  intro q hq
  have hk:q/m<l.length:=by rw[Nat.div_lt_iff_lt_mul h0];exact hq
  have hj:q%m<m:=Nat.mod_lt _ h0
  have ht:=ajq hk
  have hl:(l[q/m]).cells.length=m:=hm _ (akA hk)
  exact⟨_,_,ht,ajq (by omega),by rw[Nat.mul_comm];exact Nat.div_add_mod q m⟩
 have Ty:∀q v,((List.range (l.length*m)).map fun q=>u (q/m) (q%m))[q]?=some v->q<l.length*m/\v=u (q/m) (q%m):=by
  intro q v hv
  simp only[ajw,ajt]at hv
  obtain⟨q',h2,rfl⟩:=hv
  obtain⟨h3,h4⟩:=ajs.1 h2
  simp at h3 h4
  subst h4
  exact⟨h3,rfl⟩
 refine⟨(List.range (l.length*m)).map fun q=>u (q/m) (q%m),by simp,fun v hv=>?_,fun q v hv=>?_,hm,fun k t j cc hk hj=>⟨h1 k t j cc hk hj,u k j,?_,h k t j cc hk hj⟩⟩
 .obtain⟨q,hql,rfl⟩:=ajL hv
  obtain⟨hlt,e⟩:=Ty q _ (ajq hql)
  obtain⟨t,cc,h2,h3,_⟩:=hq q hlt
  rw[e,(h _ _ _ _ h2 h3).one]
  exact h1 _ _ _ _ h2 h3
 .obtain⟨hlt,rfl⟩:=Ty q v hv
  obtain⟨t,cc,h2,h3,h4⟩:=hq q hlt
  have:=hu _ _ _ _ h2 h3
  rw[Nat.add_assoc,h4]at this
  exact this
 .have U6:k<l.length:=(ajs.1 hk).1
  have hjm:j<m:=by rw[<-hm t (ajx hk)];exact(ajs.1 hj).1
  have hlt:k*m+j<l.length*m:=by
   have:(k+1)*m<=l.length*m:=ajZ _ U6
   rw[Nat.succ_mul]at this
   omega
  simp only[ajw]
  rw[ajq (by simpa using hlt)]
  simp only[List.getElem_range,akq]
  rw[show(k*m+j)/m=k by rw[Nat.add_comm,Nat.add_mul_div_right _ _ h0,Nat.div_eq_of_lt hjm,ajX],
   show(k*m+j)%m=j by rw[Nat.add_comm,Nat.add_mul_mod_self_right,Nat.mod_eq_of_lt hjm]]
def nD{w2:World}(he:w2.heap=w.heap)(p:Addr):w2.cell? p=w.cell? p:=by unfold World.cell?;rw[he]
def oZ(h:ai c Z E a w){s:Nm}{e:TypeId}{m:Nat}{l:List ab}{fz:Bool}(Tj:E.slots s=some (.rows e m l fz)):(Z s).m=m/\0<m/\
  ((Z s).cap=0/\l=[]\/∃cs:List Value,0<(Z s).cap/\w.heap[(Z s).blk]?=some (.cells cs.toArray e (0,0))/\cs.length=(Z s).cap*m/\l.length<=(Z s).cap/\(Z s).cap<=maxLen/\aV w (ae c Z E.slots) m cs l):=by
 obtain⟨_,hB,_⟩:=h.row s _ Tj
 rcases hB with⟨h1,h2,h3,h4⟩|⟨cs,h1,h2,h3,h4,h5,h6,h7,h8,h9⟩
 .exact⟨h3,h4,.inl ⟨h1,h2⟩⟩
 .exact⟨h3,h4,.inr ⟨cs,h1,h2,h5,h6,h7,h8,h9⟩⟩
def aV.one{M:Nat->Prop}{m:Nat}{cs:List Value}{l:List ab}(h:aV w M m cs l)(h0:0<m)(n:Nat)(hn:n<=l.length):∀v∈cs.take (n*m),co v=true:=by
 intro v hv
 obtain⟨q,hq,rfl⟩:=ajL hv
 simp only[ajA]at hq
 have hk:q/m<l.length:=ajY (by rw[Nat.div_lt_iff_lt_mul h0];omega) hn
 have hj:q%m<m:=Nat.mod_lt _ h0
 have hl:(l[q/m]).cells.length=m:=h.1 _ (akA hk)
 obtain⟨h1,v,h2,h3⟩:=h.2 (q/m) _ (q%m) _ (ajq hk) (ajq (by omega))
 have e:q/m*m+q%m=q:=by rw[Nat.mul_comm];exact Nat.div_add_mod q m
 rw[e]at h2
 have:(cs.take (n*m))[q]'(by simp;omega)=v:=by
  rw[List.getElem_take]
  exact(ajs.1 h2).2
 rw[this,h3.one]
 exact h1
def jF(size len cap:Nat)(ad:Option Addr)(w:World):(Builtin.firstCells size 0 (.slice ad len cap)).run P w= .ok #[] w:=by
 cases ad<;>simp[Builtin.firstCells,loadCells,loadCellsFrom]
def uk(h:ai c Z E a w){m:Nat}{v:Value}{d:DV}{l:List ab}{rd:List Nm}(h0:0<m)(hv:ah Z E.used w (ae c Z E.slots) v d)(hm:E.more m d=some (l,rd)):
  ∃Th:List Value,(∀w2,(Builtin.lenOf v).run P w2= .ok l.length w2)/\(∀w2,w2.heap=w.heap->(Builtin.firstCells m l.length v).run P w2= .ok Th.toArray w2)/\
   Th.length=l.length*m/\(∀v∈Th,co v=true)/\aV w (ae c Z E.slots) m Th l:=by
 have Vd:∀ad,v= .slice ad 0 0->l=[]->∃Th:List Value,(∀w2,(Builtin.lenOf v).run P w2= .ok l.length w2)/\(∀w2,w2.heap=w.heap->(Builtin.firstCells m l.length v).run P w2= .ok Th.toArray w2)/\
   Th.length=l.length*m/\(∀v∈Th,co v=true)/\aV w (ae c Z E.slots) m Th l:=by
  rintro ad rfl rfl
  exact⟨[],fun w2=>by simp[Builtin.lenOf],fun w2 _=>jF _ _ _ _ _,by simp,by simp,by simp,fun k t j cc hk=>by simp at hk⟩
 have TQ:∀b o n cap (Th:List Value),v= .slice (some ⟨b,o,none⟩) n cap->n=l.length->Th.length=l.length*m->(∀v∈Th,co v=true)->(∀j v,Th[j]?=some v->w.cell? ⟨b,o+j,none⟩=some v)->aV w (ae c Z E.slots) m Th l->
   ∃Th:List Value,(∀w2,(Builtin.lenOf v).run P w2= .ok l.length w2)/\(∀w2,w2.heap=w.heap->(Builtin.firstCells m l.length v).run P w2= .ok Th.toArray w2)/\
   Th.length=l.length*m/\(∀v∈Th,co v=true)/\aV w (ae c Z E.slots) m Th l:=by
  rintro b o n cap Th rfl rfl h1 h2 h3 h4
  refine⟨Th,fun w2=>by simp[Builtin.lenOf],fun w2 Ui=>?_,h1,h2,h4⟩
  exact run_firstCells_some (P:=P) w2 m l.length ⟨b,o,none⟩ l.length cap Th h1 (fun j v hv=>by rw[i7,nD Ui];exact h3 j v hv)
 unfold aa.more at hm
 split at hm
 .rename_i s
  split at hm
  .rename_i hm1
   simp only[ajr,ajV]at hm
   obtain⟨rfl,rfl⟩:=hm
   subst hm1
   obtain⟨rfl,_⟩:=hv.v_inv
   refine⟨s.data.toList.map fun b=> .int .u8 b.toNat,fun w2=>by simp[Builtin.lenOf],fun w2 _=>?_,by simp,fun v hv=>?_,fun t ht=>?_,fun k t j cc hk hj=>?_⟩
   .have e:s.extract 0 s.data.size=s:=by
     have:s.data.size=s.size:=rfl
     rw[this];simp
    simp only[Builtin.firstCells,ajJ,Array.length_toList,e,aj0]
    congr 1
    apply akh
    simp
   .simp only[ajI]at hv
    obtain⟨b,_,rfl⟩:=hv
    rfl
   .simp only[ajI]at ht
    obtain⟨b,_,rfl⟩:=ht
    rfl
   .simp only[ajw,ajt]at hk
    obtain⟨b,hb,rfl⟩:=hk
    cases j with
    |succ j=>simp[ab.cells]at hj
    |zero=>
     simp only[ab.cells,List.getElem?_cons_zero,ajr]at hj
     subst hj
     exact⟨rfl,.int .u8 b.toNat,by simp[hb],.v rfl⟩
  .simp at hm
 .split at hm
  .rename_i rd' Tu
   simp only[ajr,ajV]at hm
   obtain⟨rfl,rfl⟩:=hm
   cases d with
   |t x=>
    simp only[aa.view,ajr,ajV]at Tu
    obtain⟨rfl,rfl⟩:=Tu
    obtain⟨ad,hv⟩:=hv.e0_inv
    exact Vd ad hv rfl
   |agg l=>simp[aa.view]at Tu
   |osl s n=>
    simp only[aa.view,aa.view1]at Tu
    split at Tu
    .split at Tu<;>simp at Tu
    .simp at Tu
   |_=>simp[aa.view,aa.view1]at Tu
  .rename_i m' l' rd' Tu
   split at hm
   .rename_i Vu
    simp only[ajr,ajV]at hm
    obtain⟨rfl,rfl⟩:=hm
    subst Vu
    cases d with
    |t x=>
     simp only[aa.view,ajr,ajV]at Tu
     obtain⟨rfl,rfl⟩:=Tu
     cases hv.t_inv with
     |sl0 hc=>exact⟨[],fun w2=>by simp[Builtin.lenOf],fun w2 _=>jF _ _ _ _ _,by simp,by simp,by simp,fun k t j cc hk=>by simp at hk⟩
     |sl u hM hb hn hc hm hu h1 h2=>
      obtain⟨Th,h3,h4,h5,h6⟩:=nC h0 hm u hu h1 h2
      exact TQ _ _ _ _ Th rfl rfl h3 h4 h5 h6
    |xs m2 l2=>
     simp only[aa.view,aa.view1,ajr,ajV,ab.sl.injEq]at Tu
     obtain⟨⟨rfl,rfl⟩,rfl⟩:=Tu
     obtain⟨ad,_,Tn,_⟩:=hv.xs_inv
     cases Tn with
     |sl0 hc=>exact⟨[],fun w2=>by simp[Builtin.lenOf],fun w2 _=>jF _ _ _ _ _,by simp,by simp,by simp,fun k t j cc hk=>by simp at hk⟩
     |sl u hM hb hn hc hm hu h1 h2=>
      obtain⟨Th,h3,h4,h5,h6⟩:=nC h0 hm u hu h1 h2
      exact TQ _ _ _ _ Th rfl rfl h3 h4 h5 h6
    |agg l=>simp[aa.view]at Tu
    |ls m2 l2=>
     simp only[aa.view,aa.view1,ajr,ajV,ab.sl.injEq]at Tu
     obtain⟨⟨rfl,rfl⟩,rfl⟩:=Tu
     obtain⟨ad,_,Tn,_⟩:=hv.ls_inv
     cases Tn with
     |sl0 hc=>exact⟨[],fun w2=>by simp[Builtin.lenOf],fun w2 _=>jF _ _ _ _ _,by simp,by simp,by simp,fun k t j cc hk=>by simp at hk⟩
     |sl u hM hb hn hc hm hu h1 h2=>
      obtain⟨Th,h3,h4,h5,h6⟩:=nC h0 hm u hu h1 h2
      exact TQ _ _ _ _ Th rfl rfl h3 h4 h5 h6
    |osl s n=>
     simp only[aa.view,aa.view1]at Tu
     split at Tu
     .rename_i e m2 l2 fz Tj
      split at Tu
      .rename_i hn
       simp only[ajr,ajV,ab.sl.injEq]at Tu
       obtain⟨⟨rfl,rfl⟩,rfl⟩:=Tu
       obtain⟨ad,rfl,_,Ve,V2⟩:=hv.osl_inv
       obtain⟨_,_,hB⟩:=oZ h Tj
       rcases hB with⟨Ws,rfl⟩|⟨cs,hcap,hg,hcs,XB,_,hR⟩
       .have:n=0:=by omega
        subst this
        rw[Ws]
        rw[Ws]at Vd
        exact Vd ad rfl (by simp)
       .rw[V2 hcap]
        rw[V2 hcap]at TQ
        have TK:n*m2<=cs.length:=by rw[hcs];exact ajZ _ Ve
        refine TQ (Z s).blk 0 n _ (cs.take (n*m2)) rfl (by simp;omega) (by simp;rw[Nat.min_eq_left hn,Nat.min_eq_left TK]) (hR.one h0 n hn) (fun j v hv=>?_) ((hR.take n).ext (fun i hi=>?_))
        .rw[gb hg,ajX]
         rw[ajN]at hv
         split at hv
         .exact hv
         .simp at hv
        .rw[ajN,if_pos]
         simp at hi
         rw[Nat.min_eq_left hn]at hi
         exact hi
      .simp at Tu
     .simp at Tu
    |_=>simp[aa.view,aa.view1]at Tu
   .simp at hm
  .simp at hm
end
section
open Go.RowKit
variable{P:Program}{c:aA}{Z:Nm->Place}{E:aa}{a:Act}{w:World}{dst:Option Nat}{ty:TypeId}{pos:String}{after:Array Edge}{g:Option (Nat×Bool)}{r:aq}
def GM{s s':Nm}{x y:Option Row}:(E.upd [(s,x)]).upd [(s,none),(s',y)]=E.upd [(s,none),(s',y)]:=by
 refine aa.ext' rfl (funext fun q=>?_) (funext fun q=>?_)
 .simp only[bM,dV,km]
  by_cases h1:q=s
  .subst h1;simp
  .by_cases h2:q=s'
   .subst h2;simp[h1]
   .simp[h1,h2]
 .simp only[bJ,dV,km]
  by_cases h1:q=s
  .subst h1;simp
  .by_cases h2:q=s'
   .subst h2;simp[h1]
   .simp[h1,h2]
def GN{s s':Nm}{y:Option Row}(TW:s≠s'):(E.upd [(s,none)]).upd [(s',y)]=E.upd [(s,none),(s',y)]:=by
 refine aa.ext' rfl (funext fun q=>?_) (funext fun q=>?_)
 .simp only[bM,dV,km]
  by_cases h1:q=s
  .subst h1;simp[TW]
  .by_cases h2:q=s'
   .subst h2;simp[h1]
   .simp[h1,h2]
 .simp only[bJ,dV,km]
  by_cases h1:q=s
  .subst h1;simp
  .by_cases h2:q=s'
   .subst h2;simp[h1]
   .simp[h1,h2]
section ops
variable(h:ai c Z E a w)(hd:dst.all (· <c.n)=true)
include h hd
def ai.newRow{e:TypeId}{m:Nat}{l:List ab}{n cap:Nat}{cs:List Value}{s':Nm}{w1:World}(hf:E.used s'=false)(hg:s'.fixed=false)(U5:w1.heap=w.heap)(X8:w1.os=w.os)(Uo:w1.tape=w.tape)(UE:w1.output=w.output)
  (h0:0<m) (hn:n=l.length) (hn0:0<cap) (TK:n<=cap) (hcap:cap<=maxLen) (hcs:cs.length=cap*m) (hR:aV w (ae c Z E.slots) m cs l):
  ∃Z',ai c Z' ((E.upd [(s',some (.rows e m l false))]).putO dst (.osl s' n)) (a.put dst (.slice (some ⟨w.heap.size,0,none⟩) n cap)) (w1.alloc (.cells cs.toArray e)):=by
 have hsz:(w1.alloc (.cells cs.toArray e)).heap.size=w.heap.size+1:=by simp[U5]
 have Ub:(w1.alloc (.cells cs.toArray e)).heap[w.heap.size]?=some (.cells cs.toArray e):=by rw[<-U5];exact heap_alloc_new w1 _
 have TP:∀b,b<w.heap.size->(w1.alloc (.cells cs.toArray e)).heap[b]?=w.heap[b]?:=fun b hb=>by rw[ako w1 _ (by rw[U5];exact hb),U5]
 obtain⟨Z',h2,h3,h4⟩:=h.new (w':=w1.alloc (.cells cs.toArray e)) (s:=s') (r:= .rows e m l false) (pl:=⟨w.heap.size,cap,m⟩) hf hg (by omega) X8 Uo UE TP (fun _=>ajz _) (by
  intro Z' U' M' hU hM
  have Xf:aV (w1.alloc (.cells cs.toArray e)) M' m cs l:=hR.mono (by omega) (fun b hlt hm=>⟨TP b hlt,hM b hlt hm⟩)
  exact .inr ⟨cs,by show 0<cap;omega,Ub,rfl,h0,hcs,by show l.length<=cap;omega,hcap,Xf.1,Xf.2⟩)
 refine⟨Z',h4.put hd ?_⟩
 have:=ah.osl (Z:=Z') (U:=(E.upd [(s',some (.rows e m l false))]).used) (w:=w1.alloc (.cells cs.toArray e)) (M:=ae c Z' (E.upd [(s',some (.rows e m l false))]).slots) (s:=s') (n:=n) (ad:=some ⟨w.heap.size,0,none⟩) (by
  rw[bJ,dV];simp) (by rw[h3];exact TK) (by rw[h3];intro _;rfl)
 rw[h3]at this
 exact this
def ai.newNil{e:TypeId}{m:Nat}{s':Nm}{ad:Option Addr}(hf:E.used s'=false)(hg:s'.fixed=false)(h0:0<m):
  ∃Z',ai c Z' ((E.upd [(s',some (.rows e m [] false))]).putO dst (.osl s' 0)) (a.put dst (.slice ad 0 0)) w:=by
 obtain⟨Z',h2,h3,h4⟩:=h.new (w':=w) (s:=s') (r:= .rows e m [] false) (pl:=⟨0,0,m⟩) hf hg (ajz _) rfl rfl rfl (fun _ _=>rfl) (fun hr=>by simp[Row.real]at hr) (by
  intro Z' U' M' hU hM
  exact .inl ⟨rfl,rfl,rfl,h0⟩)
 refine⟨Z',h4.put hd ?_⟩
 have:=ah.osl (Z:=Z') (U:=(E.upd [(s',some (.rows e m [] false))]).used) (w:=w) (M:=ae c Z' (E.upd [(s',some (.rows e m [] false))]).slots) (s:=s') (n:=0) (ad:=ad) (by
  rw[bJ,dV];simp) (by rw[h3];exact ajz _) (by rw[h3];intro hh;exact absurd hh (by simp))
 rw[h3]at this
 exact this
def yq{e:TypeId}{i:TypeInfo}{zt:ab}{x y:Operand}{yd:DV}{t u tt:TypeId}(hi:P.info? e=some i)(hz:cu P e=some zt)
  (YG:zt.cells.length=i.size) (Xd:i.bytes<=1000) (h0:i.size≠0)
  (Ys:∀(z:Value) (l:List ab) (rd:List Nm),i.zero=some z->z.cells.size=i.size->E.more i.size yd=some (l,rd)->l.length<=LIM->∃Th:List Value,Th.length=l.length*i.size/\(∀v∈Th,co v=true)/\aV w (ae c Z E.slots) i.size Th l/\
   ∀(ad:Option Addr) (n cap:Nat) (Tw:List Value),Tw.length=n*i.size->(∀w2,w2.heap=w.heap->(Builtin.firstCells i.size n (.slice ad n cap)).run P w2= .ok Tw.toArray w2)->(n+l.length<=cap->∃w',(fC ad (n*i.size) Th).run P w= .ok () w')->
    n+l.length<=maxLen->(n+l.length)*i.bytes<=140737488355328->
    (n+l.length<=cap/\∃w',(fC ad (n*i.size) Th).run P w= .ok () w'/\(Builtin.append_ #[t,u] tt #[.slice ad n cap,a.eval y]).run P w= .ok (.slice ad (n+l.length) cap) w')\/
    (cap<n+l.length/\n+l.length<=grownCap w (n+l.length) cap e/\grownCap w (n+l.length) cap e<=maxLen/\(Builtin.append_ #[t,u] tt #[.slice ad n cap,a.eval y]).run P w= .ok (.slice (some ⟨w.heap.size,0,none⟩) (n+l.length) (grownCap w (n+l.length) cap e))
     (w.drew.alloc (.cells (Tw++Th++(Builtin.zeroCells z.cells (grownCap w (n+l.length) cap e-(n+l.length))).toList).toArray e))))
  (hr:aB E e i.size (bg dst) yd (E.ev x)=some r):bc P c E a w ⟨dst,.call {callee:= .builtin .append,args:=#[x,y],argTypes:=#[t,u]},tt,pos,after,g⟩ r:=by
 have hx:=h.ev x
 have h0:0<i.size:=by omega
 unfold cu at hz
 obtain⟨z,X5,hzt⟩:=ajv.1 hz
 rw[hi]at X5
 simp only[ake]at X5
 clear hz
 have Xr:z.cells.size=i.size:=by
  have:=((ah.t (Z:=Z) (U:=E.used) (mo (w:=w) (M:=fun _=>False) hzt)).cells_inv rfl).1
  have e:(DV.t zt).cells.length=zt.cells.length:=by cases zt<;>simp[DV.cells,ab.cells]
  rw[e,YG]at this
  simpa using this
 have Wo:∀v w',(Builtin.append_ #[t,u] tt #[a.eval x,a.eval y]).run P w= .ok v w'->(execOp a.eval ⟨dst,.call {callee:= .builtin .append,args:=#[x,y],argTypes:=#[t,u]},tt,pos,after,g⟩).run P w= .ok (.value v) w':=by
  intro v w' Ti
  simp only[execOp,resolve,invoke,builtin,ajH,aj0,ajF,List.map_toArray,ajQ,aj4,Ti]
 have VV:∀n,(Builtin.zeroCells z.cells n).toList.length=n*i.size:=fun n=>by rw[Array.length_toList,size_zeroCells,Xr]
 unfold aB at hr
 split at hr
 ·
  rename_i he
  rw[he]at hx
  obtain⟨ad,hv⟩:=hx.e0_inv
  split at hr
  .rename_i l rd T3
   split at hr
   .rename_i hc
    obtain⟨hf,hlim⟩:=hc
    simp only[ajr]at hr
    subst hr
    have hf:E.used (bg dst)=false:=by simpa[aa.fresh]using hf
    obtain⟨Th,h3,h4,h5,Wj⟩:=Ys z l rd X5 Xr T3 (by omega)
    unfold LIM at hlim
    have Ti:=Wj ad 0 0 [] (by simp) (fun w2 _=>jF _ _ _ _ _) (fun TK=>by
     have:Th=[]:=ajO (by rw[h3];have:l.length=0:=(by omega);rw[this];simp)
     subst this
     cases ad<;>exact⟨w,by simp[fC,storeCells]⟩) (by simp only[maxLen];omega) (by
      have:(0+l.length)*i.bytes<=100000000*1000:=Nat.mul_le_mul (by omega) Xd
      omega)
    rcases Ti with⟨TK,w',TT,Ti⟩|⟨hlt,hge,V0,Ti⟩
    .have Uy:l=[]:=ajO (by omega)
     subst Uy
     have:Th=[]:=ajO (by rw[h3];simp)
     subst this
     have V8:w'=w:=by cases ad<;>simp[fC,storeCells]at TT<;>exact TT.symm
     subst V8
     obtain⟨Z',hZ⟩:=ai.newNil h hd (e:=e) (m:=i.size) (s':=bg dst) (ad:=ad) hf (iC dst) h0
     exact⟨_,_,.inl (Wo _ _ (by rw[hv];exact Ti)),Z',hZ⟩
    .simp only[ajX,List.nil_append]at Ti hge V0 hlt
     obtain⟨Z',hZ⟩:=ai.newRow h hd (e:=e) (m:=i.size) (l:=l) (n:=l.length) (cap:=grownCap w l.length 0 e) (cs:=Th++(Builtin.zeroCells z.cells (grownCap w l.length 0 e-l.length)).toList) (s':=bg dst) (w1:=w.drew) hf (iC dst) rfl rfl rfl rfl h0 rfl (by omega) hge V0 (by
       rw[ajB,h3,VV,<-Nat.add_mul];congr 1;omega) (h5.ext fun j hj=>by rw[akt (by omega)])
     exact⟨_,_,.inl (Wo _ _ (by rw[hv];exact Ti)),Z',hZ⟩
   .simp at hr
  .simp at hr
 ·
  rename_i s n he
  rw[he]at hx
  obtain⟨ad,hv,VI,Ve,V2⟩:=hx.osl_inv
  split at hr
  .rename_i e' m' l0 l rd Tj T3
   split at hr
   .rename_i hc
    obtain⟨hf,hnl,hlim,rfl,rfl,hsr⟩:=hc
    simp only[ajr]at hr
    subst hr
    have hf:E.used (bg dst)=false:=by simpa[aa.fresh]using hf
    have TW:s≠bg dst:=fun e=>by rw[<-e,VI]at hf;simp at hf
    obtain⟨Th,h3,h4,h5,Wj⟩:=Ys z l rd X5 Xr T3 (by omega)
    unfold LIM at hlim
    obtain⟨Vj,_,hB⟩:=oZ h Tj
    obtain⟨Tw,WT,YN,ho3⟩:∃Tw:List Value,Tw.length=n*i.size/\aV w (ae c Z E.slots) i.size Tw (l0.take n)/\(0<(Z s).cap->∃cs:List Value,w.heap[(Z s).blk]?=some (.cells cs.toArray e' (0,0))/\cs.length=(Z s).cap*i.size/\Tw=cs.take (n*i.size)/\(Z s).cap<=maxLen):=by
     rcases hB with⟨Ws,rfl⟩|⟨cs,hcap,hg,hcs,XB,V0,hR⟩
     .have:n=0:=by omega
      subst this
      exact⟨[],by simp,⟨by simp,fun k t j cc hk=>by simp at hk⟩,fun hh=>by omega⟩
     .have TK:n*i.size<=cs.length:=by rw[hcs];exact ajZ _ Ve
      refine⟨cs.take (n*i.size),by simp;omega,(hR.take n).ext (fun j hj=>?_),fun _=>⟨cs,hg,hcs,rfl,V0⟩⟩
      rw[ajN,if_pos]
      simp at hj
      rw[Nat.min_eq_left hnl]at hj
      exact hj
    have TP:∀w2,w2.heap=w.heap->(Builtin.firstCells i.size n (.slice ad n (Z s).cap)).run P w2= .ok Tw.toArray w2:=by
     intro w2 Ui
     by_cases hcap:0<(Z s).cap
     .obtain⟨cs,hg,hcs,Y1,_⟩:=ho3 hcap
      rw[V2 hcap]
      refine run_firstCells_some (P:=P) w2 i.size n ⟨(Z s).blk,0,none⟩ n _ Tw WT (fun j v hv=>?_)
      rw[i7,nD Ui,gb hg,ajX]
      rw[Y1,ajN]at hv
      split at hv
      .exact hv
      .simp at hv
     .have:n=0:=by omega
      subst this
      have:Tw=[]:=ajO (by rw[WT];simp)
      subst this
      exact jF _ _ _ _ _
    have U2:(l0.take n).length=n:=by simp;omega
    have agI:aV w (ae c Z E.slots) i.size (Tw++Th++[]) (l0.take n++l):=YN.append h5 (by rw[U2];exact WT)
    have hll:(l0.take n++l).length=n+l.length:=by rw[ajB,U2]
    have Zg:n+l.length<=(Z s).cap->∃w',(fC ad (n*i.size) Th).run P w= .ok () w'/\
      ((Z s).cap=0/\w'=w\/0<(Z s).cap/\∃cs:List Value,w.heap[(Z s).blk]?=some (.cells cs.toArray e' (0,0))/\cs.length=(Z s).cap*i.size/\(Z s).cap<=maxLen/\Tw=cs.take (n*i.size)/\
       w'=w.setRow (Z s).blk (Tw++Th++cs.drop (n*i.size+Th.length)).toArray):=by
     intro TK
     by_cases hcap:0<(Z s).cap
     .obtain⟨cs,hg,hcs,Y1,V0⟩:=ho3 hcap
      rw[V2 hcap]
      have VC:n*i.size+0+Th.length<=cs.toArray.size:=by
       simp only[List.size_toArray,hcs,h3,Nat.add_zero,<-Nat.add_mul]
       exact ajZ _ TK
      have TT:=run_storeCells_at P (Z s).blk (n*i.size) e' Th 0 cs.toArray w hg VC (fun v hv=>by rw[<-mq];exact h4 v hv)
      simp only[Nat.add_zero,<-Y1]at TT
      refine⟨_,by simp only[fC,i7,ajX];exact TT,.inr ⟨hcap,cs,hg,hcs,V0,Y1,rfl⟩⟩
     .have Ws:(Z s).cap=0:=by omega
      have Uy:l.length=0:=by omega
      have:Th=[]:=ajO (by rw[h3,Uy];simp)
      subst this
      refine⟨w,?_,.inl ⟨Ws,rfl⟩⟩
      cases ad<;>simp[fC,storeCells]
    have Ti:=Wj ad n (Z s).cap Tw WT TP (fun TK=>let⟨w',hs,_⟩:=Zg TK;⟨w',hs⟩) (by simp only[maxLen];omega) (by
      have:(n+l.length)*i.bytes<=100000000*1000:=Nat.mul_le_mul (by omega) Xd
      omega)
    rcases Ti with⟨TK,w',TT,Ti⟩|⟨hlt,hge,V0,Ti⟩
    .obtain⟨ZX,acz,UQ⟩:=Zg TK
     rw[TT]at acz
     cases acz
     rcases UQ with⟨Ws,hww⟩|⟨hcap,cs,hg,hcs,V0,Y1,rfl⟩
     ·
      rw[hww]at Ti
      have hn0:n=0:=by omega
      have Uy:l=[]:=ajO (by omega)
      subst hn0 Uy
      have afc:l0=[]:=by rcases hB with⟨_,h⟩|⟨cs,h,_⟩<;>first|exact h|omega
      subst afc
      obtain⟨Z',h6,h7,h8⟩:=h.rename Tj hf (iC dst)
      refine⟨_,_,.inl (Wo _ _ (by rw[hv];exact Ti)),Z',h8.put hd ?_⟩
      have:=ah.osl (Z:=Z') (U:=(E.upd [(s,none),(bg dst,some (.rows e' i.size [] false))]).used) (w:=w) (M:=ae c Z' (E.upd [(s,none),(bg dst,some (.rows e' i.size [] false))]).slots) (s:=bg dst) (n:=0) (ad:=ad) (by
       rw[bJ,km];simp[Ne.symm TW]) (Nat.zero_le _) (by rw[h7];intro hh;omega)
      rw[h7]at this
      exact this
     ·
      have VX:=h.set (w':=w.setRow (Z s).blk (Tw++Th++cs.drop (n*i.size+Th.length)).toArray) (r':= .rows e' i.size (l0.take n++l) false) Tj rfl (by simpa[Row.real]using hcap) (by simp) rfl rfl rfl (fun b hb=>setRow_other w _ b _ hb) (by
       intro M' US
       have ZD:=setRow_heap w (Z s).blk _ (Tw++Th++cs.drop (n*i.size+Th.length)).toArray e' _ hg
       have Xf:aV (w.setRow (Z s).blk (Tw++Th++cs.drop (n*i.size+Th.length)).toArray) M' i.size (Tw++Th++cs.drop (n*i.size+Th.length)) (l0.take n++l):=by
        refine((YN.append h5 (by rw[U2];exact WT)).mono (by simp) (fun b hlt hM=>⟨setRow_other w _ b _ (fun e=>hM (.inr ⟨s,_,Tj,rfl,by simpa[Row.real]using hcap,e.symm⟩)),US b hlt hM⟩))
       refine .inr ⟨_,hcap,ZD,Vj,h0,?_,by rw[hll];exact TK,V0,Xf.1,Xf.2⟩
       simp only[ajB,aj9,WT,h3,hcs]
       have:(n+l.length)*i.size<=(Z s).cap*i.size:=ajZ _ TK
       rw[Nat.add_mul]at this
       omega)
      have Wh:(E.upd [(s,some (.rows e' i.size (l0.take n++l) false))]).slots s=some (.rows e' i.size (l0.take n++l) false):=by rw[bM,dV];simp
      have hf':(E.upd [(s,some (.rows e' i.size (l0.take n++l) false))]).used (bg dst)=false:=by rw[bJ,dV,hf];simp[Ne.symm TW]
      obtain⟨Z',h6,h7,h8⟩:=VX.rename Wh hf' (iC dst)
      rw[GM]at h8
      refine⟨_,_,.inl (Wo _ _ (by rw[hv];exact Ti)),Z',h8.put hd ?_⟩
      have:=ah.osl (Z:=Z') (U:=(E.upd [(s,none),(bg dst,some (.rows e' i.size (l0.take n++l) false))]).used) (w:=w.setRow (Z s).blk (Tw++Th++cs.drop (n*i.size+Th.length)).toArray) (M:=ae c Z' (E.upd [(s,none),(bg dst,some (.rows e' i.size (l0.take n++l) false))]).slots) (s:=bg dst) (n:=n+l.length) (ad:=ad) (by
       rw[bJ,km];simp[Ne.symm TW]) (by rw[h7];exact TK) (by rw[h7];exact V2)
      rw[h7]at this
      exact this
    ·
     have ads:=h.drop VI
     have hf':(E.upd [(s,none)]).used (bg dst)=false:=by rw[bJ,dV,hf];simp[Ne.symm TW]
     have hM:∀b,ae c Z (E.upd [(s,none)]).slots b->ae c Z E.slots b:=by
      intro b hM
      rcases hM with hM|⟨x,y,h1,h2⟩
      .exact .inl hM
      .rw[bM,dV]at h1
       by_cases hx:x=s
       .simp[hx]at h1
       .simp[hx]at h1;exact .inr ⟨x,y,h1,h2⟩
     have hR:aV w (ae c Z (E.upd [(s,none)]).slots) i.size (Tw++Th++(Builtin.zeroCells z.cells (grownCap w (n+l.length) (Z s).cap e'-(n+l.length))).toList) (l0.take n++l):=
      (YN.append h5 (by rw[U2];exact WT)).mono (ajz _) (fun b _ hm=>⟨rfl,fun hm'=>hm (hM b hm')⟩)
     obtain⟨Z',hZ⟩:=ai.newRow ads hd (e:=e') (m:=i.size) (l:=l0.take n++l) (n:=n+l.length) (cap:=grownCap w (n+l.length) (Z s).cap e') (cs:=Tw++Th++(Builtin.zeroCells z.cells (grownCap w (n+l.length) (Z s).cap e'-(n+l.length))).toList) (s':=bg dst) (w1:=w.drew) hf' (iC dst) rfl rfl rfl rfl h0 hll.symm (by omega) hge V0 (by
       rw[ajB,ajB,WT,h3,VV,<-Nat.add_mul,<-Nat.add_mul];congr 1;omega) hR
     rw[GN TW]at hZ
     exact⟨_,_,.inl (Wo _ _ (by rw[hv];exact Ti)),Z',hZ⟩
   .simp at hr
  .simp at hr
 ·
  rename_i m' l0 he
  rw[he]at hx
  obtain⟨ad,hv,Tn,afv⟩:=hx.xs_inv
  split at hr
  .rename_i l rd T3
   split at hr
   .rename_i hc
    obtain⟨hf,hlim,rfl,TW⟩:=hc
    simp only[ajr]at hr
    subst hr
    have hf:E.used (bg dst)=false:=by simpa[aa.fresh]using hf
    obtain⟨Th,h3,h4,h5,Wj⟩:=Ys z l rd X5 Xr T3 (by omega)
    unfold LIM at hlim
    have ac1:0<l.length:=List.length_pos_iff.2 TW
    obtain⟨Tw,WT,YN,TP⟩:∃Tw:List Value,Tw.length=l0.length*i.size/\aV w (ae c Z E.slots) i.size Tw l0/\∀w2,w2.heap=w.heap->(Builtin.firstCells i.size l0.length (.slice ad l0.length l0.length)).run P w2= .ok Tw.toArray w2:=by
     rw[hv]at Tn
     generalize hvv:Value.slice ad l0.length l0.length=vv at Tn
     cases Tn with
     |sl0 Ws=>exact⟨[],by simp,⟨by simp,fun k t j cc hk=>by simp at hk⟩,fun w2 _=>by rw[<-hvv];exact jF _ _ _ _ _⟩
     |sl u hM hb hn hcap Vu hu WZ Xg=>
      cases hvv
      obtain⟨Tw,q1,q2,q3,q4⟩:=nC h0 Vu u hu WZ Xg
      exact⟨Tw,q1,q4,fun w2 Ui=>run_firstCells_some (P:=P) w2 i.size l0.length _ l0.length _ Tw q1 (fun j v hv=>by rw[i7,nD Ui];exact q3 j v hv)⟩
    have Ti:=Wj ad l0.length l0.length Tw WT TP (fun TK=>by exfalso;omega) (by simp only[maxLen];omega) (by
      have:(l0.length+l.length)*i.bytes<=100000000*1000:=Nat.mul_le_mul (by omega) Xd
      omega)
    rcases Ti with⟨TK,_⟩|⟨hlt,hge,V0,Ti⟩
    .omega
    .obtain⟨Z',hZ⟩:=ai.newRow h hd (e:=e) (m:=i.size) (l:=l0++l) (n:=l0.length+l.length) (cap:=grownCap w (l0.length+l.length) l0.length e) (cs:=Tw++Th++(Builtin.zeroCells z.cells (grownCap w (l0.length+l.length) l0.length e-(l0.length+l.length))).toList) (s':=bg dst) (w1:=w.drew) hf (iC dst) rfl rfl rfl rfl h0 (by simp) (by omega) hge V0 (by
       rw[ajB,ajB,WT,h3,VV,<-Nat.add_mul,<-Nat.add_mul];congr 1;omega) (YN.append h5 WT)
     exact⟨_,_,.inl (Wo _ _ (by rw[hv];exact Ti)),Z',hZ⟩
   .simp at hr
  .simp at hr
 ·
  rename_i m' l0 he
  rw[he]at hx
  obtain⟨ad,hv,Tn,afv⟩:=hx.ls_inv
  split at hr
  .rename_i l rd T3
   split at hr
   .rename_i hc
    obtain⟨hf,hlim,rfl,TW⟩:=hc
    simp only[ajr]at hr
    subst hr
    have hf:E.used (bg dst)=false:=by simpa[aa.fresh]using hf
    obtain⟨Th,h3,h4,h5,Wj⟩:=Ys z l rd X5 Xr T3 (by omega)
    unfold LIM at hlim
    have ac1:0<l.length:=List.length_pos_iff.2 TW
    obtain⟨Tw,WT,YN,TP⟩:∃Tw:List Value,Tw.length=l0.length*i.size/\aV w (ae c Z E.slots) i.size Tw l0/\∀w2,w2.heap=w.heap->(Builtin.firstCells i.size l0.length (.slice ad l0.length l0.length)).run P w2= .ok Tw.toArray w2:=by
     rw[hv]at Tn
     generalize hvv:Value.slice ad l0.length l0.length=vv at Tn
     cases Tn with
     |sl0 Ws=>exact⟨[],by simp,⟨by simp,fun k t j cc hk=>by simp at hk⟩,fun w2 _=>by rw[<-hvv];exact jF _ _ _ _ _⟩
     |sl u hM hb hn hcap Vu hu WZ Xg=>
      cases hvv
      obtain⟨Tw,q1,q2,q3,q4⟩:=nC h0 Vu u hu WZ Xg
      exact⟨Tw,q1,q4,fun w2 Ui=>run_firstCells_some (P:=P) w2 i.size l0.length _ l0.length _ Tw q1 (fun j v hv=>by rw[i7,nD Ui];exact q3 j v hv)⟩
    have Ti:=Wj ad l0.length l0.length Tw WT TP (fun TK=>by exfalso;omega) (by simp only[maxLen];omega) (by
      have:(l0.length+l.length)*i.bytes<=100000000*1000:=Nat.mul_le_mul (by omega) Xd
      omega)
    rcases Ti with⟨TK,_⟩|⟨hlt,hge,V0,Ti⟩
    .omega
    .obtain⟨Z',hZ⟩:=ai.newRow h hd (e:=e) (m:=i.size) (l:=l0++l) (n:=l0.length+l.length) (cap:=grownCap w (l0.length+l.length) l0.length e) (cs:=Tw++Th++(Builtin.zeroCells z.cells (grownCap w (l0.length+l.length) l0.length e-(l0.length+l.length))).toList) (s':=bg dst) (w1:=w.drew) hf (iC dst) rfl rfl rfl rfl h0 (by simp) (by omega) hge V0 (by
       rw[ajB,ajB,WT,h3,VV,<-Nat.add_mul,<-Nat.add_mul];congr 1;omega) (YN.append h5 WT)
     exact⟨_,_,.inl (Wo _ _ (by rw[hv];exact Ti)),Z',hZ⟩
   .simp at hr
  .simp at hr
 .simp at hr
def GO{t u e:TypeId}{i:TypeInfo}{zt:ab}{du:TypeDesc}{x y:Operand}{ts:Array TypeId}{tt:TypeId}(V9:ts=#[t,u])(ht:P.underlying t=some (.slice e))(hu:P.underlying u=some du)(hdu:∀k,du≠.int k)(hi:P.info? e=some i)(hz:cu P e=some zt)
  (YG:zt.cells.length=i.size) (Xd:i.bytes<=1000) (h0:i.size≠0)
  (hr:(al.app e i.size zt x y).den P E dst=some r):bc P c E a w ⟨dst,.call {callee:= .builtin .append,args:=#[x,y],argTypes:=ts},tt,pos,after,g⟩ r:=by
 subst V9
 refine yq h hd hi hz YG Xd h0 (fun z l rd X5 Xr T3 _=>?_) hr
 obtain⟨Th,h1,h2,h3,h4,h5⟩:=uk (P:=P) h (by omega) (h.ev y) T3
 exact⟨Th,h3,h4,h5,fun ad n cap Tw WT TP TT Z5 hb=>uj (P:=P) w t u tt e i z du ht hu hdu hi X5 ad n cap (a.eval y) l.length Tw Th WT h3 h1 h2 TP TT Z5 hb⟩
end ops
end
section
open Go.RowKit
variable{P:Program}{c:aA}{Z:Nm->Place}{E:aa}{a:Act}{w:World}{dst:Option Nat}{ty:TypeId}{pos:String}{after:Array Edge}{g:Option (Nat×Bool)}{r:aq}
def ul(h:ai c Z E a w){d0 l:Int}{x:Operand}(hb:dS d0 (some (E.ev x))=some l):∃κ,a.eval x= .int κ l:=by
 have hx:=h.ev x
 unfold dS at hb
 split at hb
 .rename_i he;simp at he
 .rename_i κ i he
  simp only[ajr]at he hb
  subst hb
  rw[he]at hx
  exact⟨κ,hx.v_inv.1⟩
 .simp at hb
def yr(h:ai c Z E a w){isS:Bool}{len cap:Nat}{lo hi:Option Operand}{l u:Int}(Tk:len<=cap)(hl:dS 0 (lo.map E.ev)=some l)(hu:dS len (hi.map E.ev)=some u)(h0:0<=l)(h1:l<=u)(h2:u<=len):
  (Instr.sliceBounds isS len cap (lo.map a.eval) (hi.map a.eval) none).run P w= .ok (l.toNat,u.toNat,cap) w:=by
 have Zk:∀(x:Operand) (q:Int) (κ:IntKind) (y:Nat) (b:BoundsCode),a.eval x= .int κ q->0<=q->q<=y->(Instr.sliceBound (a.eval x) y b).run P w= .ok q.toNat w:=by
  intro x q κ y b hv Zo Yr
  simp only[Instr.sliceBound,hv,asIntOf,ajH,aj0,ajF]
  rw[if_pos ⟨Zo,Yr⟩]
  rfl
 unfold Instr.sliceBounds
 cases hi with
 |none=>
  simp only[Option.map_none,dS,ajr]at hu
  subst hu
  cases lo with
  |none=>
   simp only[Option.map_none,dS,ajr]at hl
   subst hl
   simp only[Option.map_none,ajH,aj0,ajF]
   rfl
  |some x=>
   obtain⟨κ,hv⟩:=ul h hl
   simp only[Option.map_none,akq,ajH,aj0,ajF]
   rw[Zk x l κ len _ hv h0 (by omega)]
   rfl
 |some y=>
  obtain⟨κ',hv'⟩:=ul h hu
  cases lo with
  |none=>
   simp only[Option.map_none,dS,ajr]at hl
   subst hl
   simp only[Option.map_none,akq,ajH,aj0,ajF]
   rw[Zk y u κ' cap _ hv' (by omega) (by omega)]
   rfl
  |some x=>
   obtain⟨κ,hv⟩:=ul h hl
   simp only[akq,ajH,aj0,ajF]
   rw[Zk y u κ' cap _ hv' (by omega) (by omega)]
   simp only[ajH,ajF]
   rw[Zk x l κ u.toNat _ hv h0 (by omega)]
   rfl
section ops
variable(h:ai c Z E a w)(hd:dst.all (· <c.n)=true)
include h hd
def GQ{t:TypeId}{x:Operand}{lo hi:Option Operand}(ht:P.underlying t=some .string)(hr:(al.sstr x lo hi).den P E dst=some r):bc P c E a w ⟨dst,.slice t x lo hi none,ty,pos,after,g⟩ r:=by
 have hx:=h.ev x
 simp only[al.den]at hr
 unfold tP at hr
 split at hr
 .rename_i s he
  rw[he]at hx
  split at hr
  .rename_i l u hl hu
   split at hr
   .rename_i hc
    simp only[val,ajr]at hr
    subst hr
    have hb:=yr (P:=P) h (isS:=false) (len:=s.size) (cap:=s.size) (ajz _) hl hu hc.1 hc.2.1 hc.2.2
    refine be h hd (v:= .string (s.extract l.toNat u.toNat)) ?_ (.t (.v rfl))
    simp only[execOp,Instr.sliceAt,Instr.slice,hx.v_inv.1,ajH,ajD ht,ajF,Option.isSome_none,ajU,ajS,aj0,Option.map_none,hb]
   .simp at hr
  .simp at hr
 .simp at hr
def nE{t e:TypeId}{m:Nat}{x:Operand}{lo hi:Option Operand}{ad:Option Addr}{len cap:Nat}{l u:Int}(ht:P.underlying t=some (.slice e))(hm:bm P e=some m)(hv:a.eval x= .slice ad len cap)(Tk:len<=cap)
  (hl:dS 0 (lo.map E.ev)=some l) (hu:dS len (hi.map E.ev)=some u) (h0:0<=l) (h1:l<=u) (h2:u<=len):
  (execOp a.eval ⟨dst,.slice t x lo hi none,ty,pos,after,g⟩).run P w= .ok (.value (.slice (if cap=l.toNat then ad else ad.map (·.add (l.toNat*m))) (u.toNat-l.toNat) (cap-l.toNat))) w:=by
 have _:=hd
 have hb:=yr (P:=P) h (isS:=true) (len:=len) (cap:=cap) Tk hl hu h0 h1 h2
 simp only[execOp,Instr.sliceAt,Instr.slice,hv,ajH,ajD ht,ajF,aj0,Option.map_none,hb,ga hm]
def GR{t e:TypeId}{m:Nat}{x hi mx:Operand}(ht:P.underlying t=some (.slice e))(hm:bm P e=some m)(hr:(al.ssl3 x hi mx m).den P E dst=some r):bc P c E a w ⟨dst,.slice t x none (some hi) (some mx),ty,pos,after,g⟩ r:=by
 have hx:=h.ev x
 have hh:=h.ev hi
 have hmx:=h.ev mx
 simp only[al.den]at hr
 have Ti:∀{ad:Option Addr} {len cap:Nat} {κ κ':IntKind} {b:Int},a.eval x= .slice ad len cap->a.eval hi= .int κ b->a.eval mx= .int κ' b->0<=b->b<=cap->
   (execOp a.eval ⟨dst,.slice t x none (some hi) (some mx),ty,pos,after,g⟩).run P w= .ok (.value (.slice (if b.toNat=0 then ad else ad.map (·.add 0)) b.toNat b.toNat)) w:=by
  intro ad len cap κ κ' b hv h1 h2 h3 h4
  have _:=hd
  have h5:b.toNat<=cap:=by omega
  have Zk:∀(κ:IntKind) (y:Nat) (code:BoundsCode),b<=y->(Instr.sliceBound (.int κ b) y code).run P w= .ok b.toNat w:=by
   intro κ y code hy
   simp only[Instr.sliceBound,asIntOf,ajH,aj0,ajF]
   rw[if_pos ⟨h3,hy⟩]
   rfl
  simp[execOp,Instr.sliceAt,Instr.slice,hv,ajD ht,Instr.sliceBounds,h1,h2,ga hm,Zk κ' cap _ h4,Zk κ b.toNat _ (by omega)]
 unfold nl at hr
 split at hr
 .rename_i κ b κ' cc h1 h2
  rw[h1]at hh;rw[h2]at hmx
  split at hr
  .rename_i h3
   have h3:E.ev x= .t .e0:=by
    revert h3
    generalize E.ev x=d
    intro h3
    unfold DV.isE0 at h3
    split at h3
    .rfl
    .simp at h3
   rw[h3]at hx
   split at hr
   .rename_i hc
    obtain⟨rfl,rfl⟩:=hc
    simp only[val,ajr]at hr
    subst hr
    obtain⟨ad,hv⟩:=hx.e0_inv
    refine be h hd (Ti hv (hh.v_inv).1 (hmx.v_inv).1 (Int.le_refl _) (Int.le_refl _)) ?_
    exact .t .e0
   .simp at hr
  split at hr
  .rename_i m' l rd Tu
   split at hr
   .rename_i hc
    obtain⟨h0,hcb,XJ,rfl⟩:=hc
    rw[hcb]at hmx
    simp only[ajr]at hr
    subst hr
    have hF:∀s∈rd,E.used s=true:=fun s hs=>by
     obtain⟨e,m,l,fz,Tj⟩:=nB Tu s hs
     exact(h.row s _ Tj).1
    have h':=h.freeze hF
    have hM:∀b,ae c Z (E.upd (am E rd)).slots b->ae c Z E.slots b:=by
     rintro b (hb|⟨s,r,h1,h2,h3,h4⟩)
     .exact .inl hb
     .obtain⟨r0,h5,h6⟩:=eL h1
      rcases h6 with rfl|rfl
      .exact .inr ⟨s,_,h5,h2,h3,h4⟩
      .rw[dU]at h2;simp at h2
    obtain⟨Tn,_⟩:=h.toSimW.view1 hM hx Tu fun s hs hcap=>by
     obtain⟨e,m,l,fz,Tj⟩:=nB Tu s hs
     have Wh:(E.upd (am E rd)).slots s=some (.rows e m l true):=by
      rw[bM,fB,if_pos hs,Tj];rfl
     exact h'.toSimW.frozen_nm Wh (by simp[Row.mut]) (by simpa[Row.real]using hcap)
    have Tk:(l.take b.toNat).length=b.toNat:=by simp;omega
    generalize hv:a.eval x=v at Tn
    have Tx:∀ad cap,v= .slice ad l.length cap->l.length<=cap->aM w (ae c Z (E.upd (am E rd)).slots) (.slice (if b.toNat=0 then ad else ad.map (·.add 0)) b.toNat b.toNat) (.sl m' (l.take b.toNat))->
      bc P c E a w ⟨dst,.slice t x none (some hi) (some mx),ty,pos,after,g⟩ ⟨.xs m' (l.take b.toNat),rd,am E rd⟩:=by
     intro ad cap hv2 hcap hR
     refine⟨_,w,.inl (Ti (hv.trans hv2) (hh.v_inv).1 (hmx.v_inv).1 h0 (by omega)),Z,?_⟩
     exact h'.put hd (.xs Tk.symm hR)
    cases Tn with
    |sl0 Ws=>
     refine Tx _ _ rfl (Nat.zero_le _) ?_
     have e0:b.toNat=0:=by simp at XJ;omega
     rw[e0]
     exact .sl0 (by simp)
    |sl u hMb hb hn hcap Vu hu WZ Xg=>
     refine Tx _ _ rfl hn ?_
     by_cases hz:b.toNat=0
     .rw[if_pos hz,hz]
      exact .sl0 (by simp)
     .rw[if_neg hz]
      have Ty:∀(k:Nat) (t:ab),(l.take b.toNat)[k]?=some t->l[k]?=some t:=by
       intro k t hk
       rw[ajN]at hk
       split at hk
       .exact hk
       .simp at hk
      have:=aM.sl (w:=w) (M:=ae c Z (E.upd (am E rd)).slots) (ts:=l.take b.toNat) (m:=m') (cap:=b.toNat) u hMb hb (by omega) (by omega) (fun t ht=>Vu t (akm ht)) (fun k t j cc hk hj=>hu k t j cc (Ty k t hk) hj) (fun k t j cc hk hj=>WZ k t j cc (Ty k t hk) hj) (fun k t j cc hk hj=>Xg k t j cc (Ty k t hk) hj)
      rw[Tk]at this
      simpa[Addr.add]using this
   .simp at hr
  .simp at hr
 .simp at hr
def GS{t e:TypeId}{m:Nat}{x lo hi mx:Operand}(ht:P.underlying t=some (.slice e))(hm:bm P e=some m)(hr:(al.ssl3l x lo hi mx m).den P E dst=some r):bc P c E a w ⟨dst,.slice t x (some lo) (some hi) (some mx),ty,pos,after,g⟩ r:=by
 have hx:=h.ev x
 have hlo:=h.ev lo
 have hh:=h.ev hi
 have hmx:=h.ev mx
 simp only[al.den]at hr
 have Ti:∀{ad:Option Addr} {len cap:Nat} {κ κ' κ2:IntKind} {b d:Int},a.eval x= .slice ad len cap->a.eval lo= .int κ2 d->a.eval hi= .int κ b->a.eval mx= .int κ' b->0<=d->d<=b->b<=cap->
   (execOp a.eval ⟨dst,.slice t x (some lo) (some hi) (some mx),ty,pos,after,g⟩).run P w= .ok (.value (.slice (if b.toNat=d.toNat then ad else ad.map (·.add (d.toNat*m))) (b.toNat-d.toNat) (b.toNat-d.toNat))) w:=by
  intro ad len cap κ κ' κ2 b d hv h0 h1 h2 h3 h3' h4
  have _:=hd
  have Zk:∀(κ:IntKind) (b:Int) (y:Nat) (code:BoundsCode),0<=b->b<=y->(Instr.sliceBound (.int κ b) y code).run P w= .ok b.toNat w:=by
   intro κ b y code h3 hy
   simp only[Instr.sliceBound,asIntOf,ajH,aj0,ajF]
   rw[if_pos ⟨h3,hy⟩]
   rfl
  simp[execOp,Instr.sliceAt,Instr.slice,hv,ajD ht,Instr.sliceBounds,h0,h1,h2,ga hm,Zk κ' b cap _ (by omega) h4,Zk κ b b.toNat _ (by omega) (by omega),Zk κ2 d b.toNat _ h3 (by omega)]
 unfold np at hr
 split at hr
 .rename_i κ2 d κ b κ' cc h0 h1 h2
  rw[h0]at hlo;rw[h1]at hh;rw[h2]at hmx
  split at hr
  .rename_i m' l rd Tu
   split at hr
   .rename_i hc
    obtain⟨UU,hdb,hcb,XJ,rfl⟩:=hc
    rw[hcb]at hmx
    simp only[ajr]at hr
    subst hr
    have hF:∀s∈rd,E.used s=true:=fun s hs=>by
     obtain⟨e,m,l,fz,Tj⟩:=nB Tu s hs
     exact(h.row s _ Tj).1
    have h':=h.freeze hF
    have hM:∀b,ae c Z (E.upd (am E rd)).slots b->ae c Z E.slots b:=by
     rintro b (hb|⟨s,r,h1,h2,h3,h4⟩)
     .exact .inl hb
     .obtain⟨r0,h5,h6⟩:=eL h1
      rcases h6 with rfl|rfl
      .exact .inr ⟨s,_,h5,h2,h3,h4⟩
      .rw[dU]at h2;simp at h2
    obtain⟨Tn,_⟩:=h.toSimW.view1 hM hx Tu fun s hs hcap=>by
     obtain⟨e,m,l,fz,Tj⟩:=nB Tu s hs
     have Wh:(E.upd (am E rd)).slots s=some (.rows e m l true):=by
      rw[bM,fB,if_pos hs,Tj];rfl
     exact h'.toSimW.frozen_nm Wh (by simp[Row.mut]) (by simpa[Row.real]using hcap)
    have Tk:((l.take b.toNat).drop d.toNat).length=b.toNat-d.toNat:=by simp;omega
    generalize hv:a.eval x=v at Tn
    have Tx:∀ad cap,v= .slice ad l.length cap->l.length<=cap->aM w (ae c Z (E.upd (am E rd)).slots) (.slice (if b.toNat=d.toNat then ad else ad.map (·.add (d.toNat*m'))) (b.toNat-d.toNat) (b.toNat-d.toNat)) (.sl m' ((l.take b.toNat).drop d.toNat))->
      bc P c E a w ⟨dst,.slice t x (some lo) (some hi) (some mx),ty,pos,after,g⟩ ⟨.xs m' ((l.take b.toNat).drop d.toNat),rd,am E rd⟩:=by
     intro ad cap hv2 hcap hR
     refine⟨_,w,.inl (Ti (hv.trans hv2) (hlo.v_inv).1 (hh.v_inv).1 (hmx.v_inv).1 UU hdb (by omega)),Z,?_⟩
     exact h'.put hd (.xs Tk.symm hR)
    cases Tn with
    |sl0 Ws=>
     refine Tx _ _ rfl (Nat.zero_le _) ?_
     have e0:b.toNat=0:=by simp at XJ;omega
     rw[e0]
     simp only[Nat.zero_sub,List.take_zero,List.drop_nil]
     exact .sl0 (Nat.zero_le _)
    |sl u hMb hb hn hcap Vu hu WZ Xg=>
     refine Tx _ _ rfl hn ?_
     by_cases hz:b.toNat-d.toNat=0
     .have:(l.take b.toNat).drop d.toNat=[]:=ajO (by omega)
      rw[this,hz]
      exact .sl0 (Nat.zero_le _)
     .rw[if_neg (by omega)]
      have Ty:∀k t,((l.take b.toNat).drop d.toNat)[k]?=some t->l[d.toNat+k]?=some t:=by
       intro k t hk
       rw[aka,ajN]at hk
       split at hk
       .exact hk
       .simp at hk
      simp only[akq,i7]
      have:=aM.sl (w:=w) (M:=ae c Z (E.upd (am E rd)).slots) (ts:=(l.take b.toNat).drop d.toNat) (m:=m') (cap:=b.toNat-d.toNat) (fun k j=>u (d.toNat+k) j) hMb hb (by omega) (by omega) (fun t ht=>Vu t (akm (akn ht)))
       (o:=_+d.toNat*m') (fun k t j cc hk hj=>by
        have:=hu (d.toNat+k) t j cc (Ty k t hk) hj
        rw[Nat.add_mul,<-Nat.add_assoc]at this
        exact this) (fun k t j cc hk hj=>WZ _ t j cc (Ty k t hk) hj) (fun k t j cc hk hj=>Xg _ t j cc (Ty k t hk) hj)
      rw[Tk]at this
      exact this
   .simp at hr
  .simp at hr
 .simp at hr
def GT{t e:TypeId}{m:Nat}{x:Operand}{lo hi:Option Operand}(ht:P.underlying t=some (.slice e))(hm:bm P e=some m)(hr:(al.ssl x lo hi m).den P E dst=some r):bc P c E a w ⟨dst,.slice t x lo hi none,ty,pos,after,g⟩ r:=by
 have hx:=h.ev x
 simp only[al.den]at hr
 have Ym:∀{b o cap:Nat} {l:List ab} {l1 u1:Int} {M:Nat->Prop} {n:Nat} (u:Nat->Nat->Value),¬M b->b<w.heap.size->n<=l.length->n<=cap->cap<=maxLen->(∀t∈l,t.cells.length=m)->
   (∀(k:Nat) (t:ab) (j:Nat) (cc:ab),l[k]?=some t->t.cells[j]?=some cc->w.cell? ⟨b,o+k*m+j,none⟩=some (u k j))->
   (∀(k:Nat) (t:ab) (j:Nat) (cc:ab),l[k]?=some t->t.cells[j]?=some cc->cc.one=true)->
   (∀(k:Nat) (t:ab) (j:Nat) (cc:ab),l[k]?=some t->t.cells[j]?=some cc->aM w M (u k j) cc)->0<=l1->l1<=u1->u1<=n->
   aM w M (.slice (if cap=l1.toNat then some ⟨b,o,none⟩else(some (⟨b,o,none⟩:Addr)).map (·.add (l1.toNat*m))) (u1.toNat-l1.toNat) (cap-l1.toNat)) (.sl m ((l.take u1.toNat).drop l1.toNat)):=by
  intro b o cap l l1 u1 M n u hM hb hnl Ve hcap Vu hu h1 h2 Uy Xl Xa
  have Tk:((l.take u1.toNat).drop l1.toNat).length=u1.toNat-l1.toNat:=by simp;omega
  by_cases hz:u1.toNat-l1.toNat=0
  .have:(l.take u1.toNat).drop l1.toNat=[]:=ajO (by omega)
   rw[this,hz]
   exact .sl0 (by omega)
  .rw[if_neg (by omega),<-Tk]
   simp only[akq,i7]
   have Ty:∀k t,((l.take u1.toNat).drop l1.toNat)[k]?=some t->l[l1.toNat+k]?=some t:=by
    intro k t hk
    rw[aka,ajN]at hk
    split at hk
    .exact hk
    .simp at hk
   refine .sl (fun k j=>u (l1.toNat+k) j) hM hb (by omega) (by omega) (fun t ht=>Vu t (akm (akn ht))) (fun k t j cc hk hj=>?_) (fun k t j cc hk hj=>h1 _ t j cc (Ty k t hk) hj) (fun k t j cc hk hj=>h2 _ t j cc (Ty k t hk) hj)
   have:=hu (l1.toNat+k) t j cc (Ty k t hk) hj
   rw[Nat.add_mul,<-Nat.add_assoc]at this
   exact this
 unfold bt at hr
 split at hr
 .rename_i m' l he
  rw[he]at hx
  split at hr
  .rename_i l1 u1 hl hu
   split at hr
   .rename_i hc
    obtain⟨h0,h1,h2,rfl⟩:=hc
    simp only[val,ajr]at hr
    subst hr
    generalize hv:a.eval x=v at hx
    cases hx.t_inv with
    |sl0 hcap=>
     have Ti:=nE (P:=P) (ty:=ty) (pos:=pos) (after:=after) (g:=g) h hd ht hm hv (Nat.zero_le _) hl hu h0 h1 h2
     refine be h hd Ti ?_
     have e1:l1.toNat=0:=by simp at h2;omega
     have e2:u1.toNat=0:=by simp at h2;omega
     simp only[List.take_nil,List.drop_nil,e1,e2]
     exact .t (.sl0 (by omega))
    |sl u hM hb hn hcap Vu hu' WZ Xg=>
     have Ti:=nE (P:=P) (ty:=ty) (pos:=pos) (after:=after) (g:=g) h hd ht hm hv hn hl hu h0 h1 h2
     exact be h hd Ti (.t (Ym (n:=l.length) u hM hb (ajz _) hn hcap Vu hu' WZ Xg h0 h1 h2))
   .simp at hr
  .simp at hr
 .rename_i he
  rw[he]at hx
  obtain⟨ad,hv⟩:=hx.e0_inv
  split at hr
  .rename_i l1 u1 hl hu
   split at hr
   .rename_i hc
    obtain⟨rfl,rfl⟩:=hc
    simp only[val,ajr]at hr
    subst hr
    have Ti:=nE (P:=P) (ty:=ty) (pos:=pos) (after:=after) (g:=g) h hd ht hm hv (ajz _) hl hu (Int.le_refl _) (Int.le_refl _) (Int.le_refl _)
    exact be h hd Ti (.t .e0)
   .simp at hr
  .simp at hr
 .rename_i s n he
  rw[he]at hx
  obtain⟨ad,hv,VI,Ve,V2⟩:=hx.osl_inv
  split at hr
  .rename_i e' m' l fz Tj
   split at hr
   .rename_i l1 u1 hl hu
    split at hr
    .rename_i hc
     obtain⟨h0,h1,h2,h3,rfl⟩:=hc
     have Ti:=nE (P:=P) (ty:=ty) (pos:=pos) (after:=after) (g:=g) h hd ht hm hv Ve hl hu h0 h1 h2
     split at hr
     .rename_i hz
      subst hz
      simp only[ajr]at hr
      subst hr
      refine be h hd Ti ?_
      have e0:(0:Int).toNat=0:=rfl
      simp only[e0,Nat.zero_mul,Nat.sub_zero]
      have ea:(if(Z s).cap=0 then ad else ad.map (·.add 0))=ad:=by cases ad<;>simp[Addr.add]
      rw[ea]
      exact .osl VI (by omega) V2
     .rename_i hz
      split at hr
      .rename_i hz2
       subst hz2
       simp only[ajr]at hr
       subst hr
       refine be h hd Ti ?_
       obtain⟨_,_,hB⟩:=oZ h Tj
       have V0:(Z s).cap<=maxLen:=by
        rcases hB with⟨Ws,_⟩|⟨cs,_,_,_,_,V0,_⟩
        .omega
        .exact V0
       rw[Nat.sub_self]
       exact .t (.sl0 (by omega))
      simp only[ajr]at hr
      subst hr
      have hcap:0<(Z s).cap:=by omega
      obtain⟨Vj,h00,hB⟩:=oZ h Tj
      rcases hB with⟨Ws,_⟩|⟨cs,_,hg,hcs,XB,V0,hR⟩
      .omega
      have Zl:Row.real (.rows e' m' l fz) (Z s)=true:=by simpa[Row.real]using hcap
      have hlt:(Z s).blk<w.heap.size:=(ajy.1 hg).1
      have hE:∃E',E.upd (if fz=true then[]else[(s,some (.rows e' m' l true))])=E'/\ai c Z E' a w/\E'.slots s=some (.rows e' m' l true):=by
       cases fz with
       |true=>exact⟨_,rfl,h,Tj⟩
       |false=>
        refine⟨_,rfl,h.set (w':=w) Tj rfl Zl rfl rfl rfl rfl (fun _ _=>rfl) (fun M' US=>?_),?_⟩
        .have Xf:=hR.mono (M':=M') (ajz _) (fun b hb hM=>⟨rfl,US b hb hM⟩)
         exact .inr ⟨cs,hcap,hg,Vj,h00,hcs,XB,V0,Xf.1,Xf.2⟩
        .show(E.upd [(s,some (.rows e' m' l true))]).slots s=_
         rw[bM,dV];simp
      obtain⟨E',hE1,Yj,WY⟩:=hE
      obtain⟨_,_,hB'⟩:=oZ Yj WY
      rcases hB' with⟨Ws,_⟩|⟨cs',_,ZD,_,_,_,Xf⟩
      .omega
      have hnm:¬ae c Z E'.slots (Z s).blk:=by
       rintro(⟨VM,Zc⟩|⟨s2,r2,h5,h6,h7,h8⟩)
       .rcases((Yj.row s _ WY).2.2 (by simpa[Row.real]using hcap)).2 with h9|h9
        .exact Zc h9
        .exact h9 VM
       .have:=Yj.inj s2 s r2 _ h5 WY h6 h7 (by simpa[Row.real]using hcap) h8
        subst this
        rw[WY]at h5
        cases h5
        simp[Row.mut]at h6
      refine⟨_,w,.inl Ti,Z,?_⟩
      show ai c Z ((E.upd (if fz=true then[]else[(s,some (.rows e' m' l true))])).putO dst _) _ w
      rw[hE1]
      refine Yj.put hd (.t ?_)
      rw[V2 hcap]
      refine Ym (n:=n) (fun k j=>cs'.getD (k*m'+j) undef) hnm hlt h3 Ve V0 Xf.1 (fun k t j cc hk hj=>?_) (fun k t j cc hk hj=>(Xf.2 k t j cc hk hj).1) (fun k t j cc hk hj=>?_) h0 h1 h2
      .obtain⟨_,v,h5,_⟩:=Xf.2 k t j cc hk hj
       rw[gb ZD,ajX,h5]
       simp[List.getD,h5]
      .obtain⟨_,v,h5,h6⟩:=Xf.2 k t j cc hk hj
       simpa[List.getD,h5]using h6
    .simp at hr
   .simp at hr
  .simp at hr
 .simp at hr
end ops
end
section
open Go.RowKit
variable{P:Program}{c:aA}{Z:Nm->Place}{E:aa}{a:Act}{w:World}{dst:Option Nat}{ty:TypeId}{pos:String}{after:Array Edge}{g:Option (Nat×Bool)}{r:aq}
def yu(off:Nat):∀(us:List Value) (j0:Nat) (cs:Array Value),off+j0+us.length<=cs.size->
  ((us.zipIdx j0).foldl (fun cs (p:Value×Nat)=>cs.setIfInBounds (off+p.2) p.1) cs)=(ck cs.toList (off+j0) us).toArray
 |[],j0,cs,h=>by
  simp[ck,List.take_append_drop]
 |u::us,j0,cs,h=>by
  simp only[akx]at h
  rw[List.zipIdx_cons,List.foldl_cons,yu off us (j0+1) _ (by simp;omega)]
  congr 1
  apply List.ext_getElem?
  intro i
  rw[nA (by simp;omega),nA (by simp;omega)]
  simp only[akx,Array.toList_setIfInBounds,List.getElem?_set]
  by_cases h1:i=off+j0
  .subst h1
   rw[if_neg (by omega),if_pos rfl,if_pos (by simp;omega),if_pos (by omega)]
   simp
  .by_cases h2:off+(j0+1)<=i/\i<off+(j0+1)+us.length
   .rw[if_pos h2,if_pos (by omega)]
    have:i-(off+j0)=(i-(off+(j0+1)))+1:=by omega
    rw[this,List.getElem?_cons_succ]
   .rw[if_neg h2,if_neg (Ne.symm h1),if_neg (by omega)]
def GU(cs:List Value)(off:Nat)(v:Value)(h:off+v.cells.size<=cs.length):
  (v.cells.zipIdx.foldl (fun cs (p:Value×Nat)=>cs.setIfInBounds (off+p.2) p.1) cs.toArray)=(ck cs off v.cells.toList).toArray:=by
 rw[<-Array.foldl_toList]
 have:=yu off v.cells.toList 0 cs.toArray (by simp;omega)
 simp only[Array.toList_zipIdx,Nat.add_zero]at this⊢
 exact this
theorem GV{d y d':DV}{off:Nat}(hd:d.isAgg=true)(hy:y.ok1=true)(h:d.setPart off y=some d'):d'.isAgg=true:=by
 have T1:d.one=false:=by
  cases d with
  |t x=>cases x<;>first|rfl|simp[DV.isAgg]at hd
  |agg l=>rfl
  |_=>simp[DV.isAgg]at hd
 unfold DV.setPart at h
 split at h
 .split at h
  .rename_i h0
   simp at h
   subst h
   have:y.one=false:=by rw[<-h0.2.2];exact T1
   cases y with
   |t x=>cases x<;>first|rfl|simp[DV.one,ab.one]at this
   |agg l=>rfl
   |_=>simp_all[DV.one,DV.ok1]
  .rw[T1]at h
   simp at h
   subst h
   rfl
 .simp at h
def uo{U:Nm->Bool}{M:Nat->Prop}(F:Operand->DV)(U1:Nat->Option (Nat×Nat)):∀(ps:List (Nat×Nat×Nat×Operand)) (cs:List Value) (d d':DV),(∀p∈ps,ah Z U w M (a.eval p.2.2.2) (F p.2.2.2))->(∀p∈ps,U1 p.1=some (p.2.1,p.2.2.1))->d.isAgg=true->
  cs.length=d.cells.length->(∀v∈cs,co v=true)->(∀(i:Nat) (u:Value) (x:DV),cs[i]?=some u->d.cells[i]?=some x->ah Z U w M u x)->
  jw d (ps.map fun p=>(p.2.1,p.2.2.1,F p.2.2.2))=some d'->
  ∃cs':List Value,Instr.fill U1 cs.toArray (ps.map fun p=>(p.1,a.eval p.2.2.2))=some cs'.toArray/\d'.isAgg=true/\cs'.length=d'.cells.length/\d'.cells.length=d.cells.length/\(∀v∈cs',co v=true)/\
   ∀(i:Nat) (u:Value) (x:DV),cs'[i]?=some u->d'.cells[i]?=some x->ah Z U w M u x
 |[],cs,d,d',_,_,Vp,hl,h1,hp,hf=>by
  simp only[aj4,jw,ajr]at hf
  subst hf
  exact⟨cs,rfl,Vp,hl,rfl,h1,hp⟩
 |p::ps,cs,d,d',TL,Wy,Vp,hl,h1,hp,hf=>by
  simp only[ajQ,jw]at hf
  split at hf
  .rename_i hc
   obtain⟨hcn,Uf⟩:=hc
   split at hf
   .rename_i d1 hd1
    obtain⟨XV,hu1,Zd⟩:=(TL p ajK).cells_inv Uf
    obtain⟨TK,TQ⟩:=ui hd1
    obtain⟨h3,h4⟩:=yi TK hl XV hp Zd
    have ac2:d1.cells.length=d.cells.length:=by rw[TQ,oY TK]
    obtain⟨cs',h5,h6,h7,h8,h9,UI⟩:=uo F U1 ps (ck cs p.2.1 (a.eval p.2.2.2).cells.toList) d1 d' (fun q hq=>TL q (ajW _ hq)) (fun q hq=>Wy q (ajW _ hq)) (GV Vp Uf hd1) (by rw[TQ];exact h3)
     (fun v hv=>(yj hv).elim (h1 v) (hu1 v)) (fun i u x hu hx=>h4 i u x hu (by rw[<-TQ];exact hx)) hf
    refine⟨cs',?_,h6,h7,h8.trans ac2,h9,UI⟩
    have hsz:(a.eval p.2.2.2).cells.size=p.2.2.1:=by
     have:(a.eval p.2.2.2).cells.toList.length=p.2.2.1:=XV.trans hcn
     simpa using this
    simp only[ajQ,Instr.fill,Wy p ajK]
    have UB:((a.eval p.2.2.2).cells.size≠p.2.2.1||p.2.1+(a.eval p.2.2.2).cells.size>cs.toArray.size)=false:=by
     simp[hsz]
     omega
    rw[UB]
    simp only[ajU,ajS]
    have:=GU cs p.2.1 (a.eval p.2.2.2) (by rw[hsz];omega)
    rw[this]
    exact h5
   .simp at hf
  .simp at hf
def GW(h:ai c Z E a w)(U1:Nat->Option (Nat×Nat)):∀(ps:List (Nat×Nat×Nat×Operand)) (cs:List Value) (d d':DV),(∀p∈ps,U1 p.1=some (p.2.1,p.2.2.1))->d.isAgg=true->
  cs.length=d.cells.length->(∀v∈cs,co v=true)->(∀(i:Nat) (u:Value) (x:DV),cs[i]?=some u->d.cells[i]?=some x->ah Z E.used w (ae c Z E.slots) u x)->
  jw d (ps.map fun p=>(p.2.1,p.2.2.1,E.ev p.2.2.2))=some d'->
  ∃cs':List Value,Instr.fill U1 cs.toArray (ps.map fun p=>(p.1,a.eval p.2.2.2))=some cs'.toArray/\d'.isAgg=true/\cs'.length=d'.cells.length/\d'.cells.length=d.cells.length/\(∀v∈cs',co v=true)/\
   ∀(i:Nat) (u:Value) (x:DV),cs'[i]?=some u->d'.cells[i]?=some x->ah Z E.used w (ae c Z E.slots) u x:=
 fun ps cs d d'=>uo (E.ev) U1 ps cs d d' (fun p _=>h.ev p.2.2.2)
def nF{M:Nat->Prop}{U:Nm->Bool}{t:TypeId}{z:ab}(hz:cu P t=some z):∃i v,P.info? t=some i/\i.zero=some v/\aM w M v z/\ah Z U w M v (.t z):=by
 unfold cu at hz
 obtain⟨v,hv,hz⟩:=ajv.1 hz
 obtain⟨i,hi,hv⟩:=ajv.1 hv
 exact⟨i,v,hi,hv,mo hz,.t (mo hz)⟩
section ops
variable(h:ai c Z E a w)(hd:dst.all (· <c.n)=true)
include h hd
def GY{t:TypeId}{To:Array (Nat×Operand)}{zl:List ab}{ps:List (Nat×Nat×Operand)}(hz:cu P t=some (.agg zl))(WS:oU P t To.toList=some ps)(hr:(al.build zl ps).den P E dst=some r):
  bc P c E a w ⟨dst,.build t To,ty,pos,after,g⟩ r:=by
 simp only[al.den]at hr
 obtain⟨d',VO,rfl⟩:=mn hr
 obtain⟨it,z,hit,hzv,_,Tn⟩:=nF (Z:=Z) (U:=E.used) (M:=ae c Z E.slots) (w:=w) hz
 obtain⟨vs,rfl,hl,h1,hp⟩:=Tn.agg_inv rfl
 have aaj:∃(U1:Nat->Option (Nat×Nat)) (qs:List (Nat×Nat×Nat×Operand)),(∀q∈qs,U1 q.1=some (q.2.1,q.2.2.1))/\qs.map (fun q=>(q.2.1,q.2.2.1,q.2.2.2))=ps/\qs.map (fun q=>(q.1,q.2.2.2))=To.toList/\
   ∀pv,P.built t pv=Instr.fill U1 vs.toArray pv:=by
  unfold oU at WS
  split at WS
  .rename_i fs VZ
   split at WS
   .rename_i X2 Wy
    obtain⟨Tk,Ty⟩:=ec WS
    refine⟨(X2[·]?),(To.toList.zip ps).map fun q=>(q.1.1,q.2),?_,?_,?_,fun pv=>?_⟩
    .intro q hq
     simp only[ajI]at hq
     obtain⟨⟨q1,q2⟩,hq,rfl⟩:=hq
     obtain⟨i,hi,he⟩:=ajL hq
     simp only[List.length_zip]at hi
     rw[List.getElem_zip]at he
     simp only[ajV]at he
     have:=Ty i _ _ (ajq (by omega)) (ajq (by omega))
     rw[he.1,he.2]at this
     simp only[ajt]at this
     obtain⟨pq,h5,rfl⟩:=this
     simpa using h5
    .rw[aj8]
     have:((fun q:Nat×Nat×Nat×Operand=>(q.2.1,q.2.2.1,q.2.2.2))∘fun q:(Nat×Operand)×(Nat×Nat×Operand)=>(q.1.1,q.2))=Prod.snd:=by funext q;rfl
     rw[this,List.map_snd_zip (by omega)]
    .rw[aj8]
     have hsz:To.size=ps.length:=by simpa using Tk
     apply List.ext_getElem (by simp[hsz])
     intro i hi TU
     simp only[List.getElem_map,Function.comp,List.getElem_zip]
     have Ya:i<ps.length:=by simp at hi;omega
     have:=Ty i _ _ (ajq TU) (ajq Ya)
     simp only[ajt]at this
     obtain⟨pq,h5,h6⟩:=this
     rw[<-h6]
    .unfold Program.built
     simp[hit,VZ,hzv,Wy,Value.cells]
   .simp at WS
  .rename_i n e VZ
   split at WS
   .rename_i ie hie
    simp only[ajr]at WS
    subst WS
    refine⟨fun i=>some (i*ie.size,ie.size),To.toList.map fun p=>(p.1,p.1*ie.size,ie.size,p.2),?_,by simp[aky],by simp[aky],fun pv=>?_⟩
    .intro q hq
     simp only[ajI]at hq
     obtain⟨p,_,rfl⟩:=hq
     rfl
    .unfold Program.built
     simp[hit,VZ,hzv,hie,Value.cells]
   .simp at WS
  .simp at WS
 obtain⟨U1,qs,Yr,rfl,Zn,hq4⟩:=aaj
 rw[aj8]at VO
 obtain⟨cs',h5,h6,h7,h8,h9,UI⟩:=GW h U1 qs vs (.t (.agg zl)) d' Yr rfl hl h1 hp VO
 refine be h hd (v:= .agg cs'.toArray) ?_ (.of_cells h6 h7 h9 UI)
 have hb:P.built t (To.map fun p=>(p.1,a.eval p.2)).toList=some cs'.toArray:=by
  rw[hq4,<-h5]
  congr 1
  simp only[Array.toList_map,<-Zn,aj8]
  rfl
 simp[execOp,run_build w t _ _ hb]
def GZ{src d e:TypeId}{x:Operand}(hs:P.underlying src=some (.slice e))(VO:P.underlying d=some .string)(he:P.underlying e=some (.int .u8))(hr:(al.b2s x).den P E dst=some r):
  bc P c E a w ⟨dst,.convert src d x,ty,pos,after,g⟩ r:=by
 have hx:=h.ev x
 simp only[al.den]at hr
 unfold oN at hr
 split at hr
 .simp at hr
 .rename_i hnv
  split at hr
  .rename_i l rd T3
   split at hr
   .rename_i bs Xn
    simp only[ajr]at hr
    subst hr
    obtain⟨Th,h1,h2,h3,h4,h5⟩:=uk (P:=P) h (by omega:0<1) hx T3
    have Tj:∃ad n cap,a.eval x= .slice ad n cap:=by
     generalize a.eval x=v at*
     generalize E.ev x=dd at*
     have h1w:=h1 w
     cases v<;>first|exact⟨_,_,_,rfl⟩|(simp[Builtin.lenOf]at h1w;done)|skip
     rename_i s
     cases dd with
     |t y=>cases hx.t_inv;rename_i hp;exact absurd rfl (hnv _)
     |_=>cases hx<;>simp[aa.more,aa.view,aa.view1]at T3
    obtain⟨ad,n,cap,hv⟩:=Tj
    rw[hv]at h1 h2
    have hn:n=l.length:=by have:=h1 w;simpa[Builtin.lenOf]using this
    subst hn
    obtain⟨XJ,hbg⟩:=ec Xn
    have hns:∃ns:List Int,Th=ns.map (Value.int .u8)/\bs=ns.map fun n=>UInt8.ofNat n.toNat:=by
     have Tt:∀i (hi:i<Th.length),∃n:Int,Th[i]= .int .u8 n/\bs[i]?=some (UInt8.ofNat n.toNat):=by
      intro i hi
      have TC:i<l.length:=by omega
      have Xb:i<bs.length:=by omega
      have hb:=hbg i _ _ (ajq TC) (ajq Xb)
      generalize U2:l[i]=tt at hb
      unfold ab.byte? at hb
      split at hb
      .rename_i n
       obtain⟨_,v,h6,h7⟩:=h5.2 i (.v (.int .u8 n)) 0 (.v (.int .u8 n)) (by rw[ajq TC,U2]) rfl
       cases h7
       simp only[Nat.mul_one,Nat.add_zero]at h6
       refine⟨n,(ajs.1 h6).2,?_⟩
       rw[ajq Xb]
       simpa using hb.symm
      .simp at hb
     refine⟨(List.range Th.length).map fun i=>if hi:i<Th.length then(Tt i hi).choose else 0,?_,?_⟩
     .apply List.ext_getElem (by simp)
      intro i hi TU
      simp only[List.getElem_map,List.getElem_range,hi,dif_pos]
      exact(Tt i hi).choose_spec.1
     .apply List.ext_getElem (by simp;omega)
      intro i hi TU
      have TE:i<Th.length:=by omega
      simp only[List.getElem_map,List.getElem_range,TE,dif_pos]
      exact Option.some.inj ((ajq hi).symm.trans (Tt i TE).choose_spec.2)
    obtain⟨ns,rfl,rfl⟩:=hns
    have Yz:∀(ns:List Int) (s:ByteArray),ns.foldl (fun r n=>r.push (UInt8.ofNat n.toNat)) s=⟨(s.data.toList++ns.map fun n=>UInt8.ofNat n.toNat).toArray⟩:=by
     intro ns
     induction ns with
     |nil=>intro s;cases s;simp
     |cons n ns ih=>intro s;rw[List.foldl_cons,ih];simp[ByteArray.push]
    refine be h hd (v:= .string ⟨(ns.map fun n=>UInt8.ofNat n.toNat).toArray⟩) ?_ (.t (.v rfl))
    have adu:=run_convert_bytes_string (P:=P) w src d e ad l.length cap hs he VO
    have hb:(Conv.bytesToString (.slice ad l.length cap)).run P w= .ok (.string ⟨(ns.map fun n=>UInt8.ofNat n.toNat).toArray⟩) w:=by
     cases ad with
     |none=>
      have h6:=h2 w rfl
      simp only[Builtin.firstCells,aj0,Result.ok.injEq]at h6
      have:ns=[]:=by
       have:=congrArg Array.size h6.1
       simp at this
       exact ajO this.symm
      subst this
      simp[Conv.bytesToString]
      rfl
     |some ad=>
      have h6:=h2 w rfl
      simp only[Builtin.firstCells,Nat.mul_one]at h6
      rw[run_bytesToString w ad l.length cap ns h6,Yz]
      rfl
    simp only[execOp,hv,ajH,adu,hb,ajF,aj0]
   .simp at hr
  .simp at hr
end ops
end
end Go.Wt
