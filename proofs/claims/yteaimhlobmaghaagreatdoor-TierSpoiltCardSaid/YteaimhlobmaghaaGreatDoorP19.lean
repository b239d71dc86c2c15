/- A part of the proof of a tier statement (the last text closes it): lemmas without condition. -/
import Derived.Test.YteaimhlobmaghaaGreatDoorP18
import Derived.Lib.AppendIntMem
import Derived.Lib.AtoiErrMem
import Derived.Lib.Bytealg
import Derived.Lib.ItoaLen
import Derived.Sort.OwnSorted
set_option linter.all false
set_option maxRecDepth 10000000
set_option maxHeartbeats 0
namespace Go.Wt
section
open Go.RowKit Go.Proofs Go.Lib Go.Wm
def wZ:Oper:={dst:=some 2,op:=Op.box 93 (Operand.tmp 0),type:=0,pos:= "tier.go:59",after:=#[],guard:=none}
def w6:Oper:={dst:=some 4,op:=Op.alloc 37,type:=0,pos:= "tier.go:59",after:=#[],guard:=none}
def im:Oper:={dst:=some 5,op:=Op.makeFunc (Fn.func 120) #[] #[Operand.tmp 4,Operand.tmp 2],type:=1,pos:= "tier.go:60",after:=#[],guard:=none}
def w7:Oper:={dst:=none,op:=Op.defer {callee:=Callee.value (Operand.tmp 5),args:=#[],argTypes:=#[]},type:=0,pos:= "tier.go:60",after:=#[{on:=0,ground:=Ground.data}],guard:=none}
def sS:Oper:={dst:=some 6,op:=Op.move (Operand.tmp 1),type:=1,pos:= "tier.go:67",after:=#[],guard:=none}
def j5:Oper:={dst:=some 7,op:=Op.call {callee:=Callee.value (Operand.tmp 6),args:=#[],argTypes:=#[]},type:=0,pos:= "tier.go:67",after:=#[{on:=0,ground:=Ground.data}],guard:=none}
def lT:Oper:={dst:=none,op:=Op.store 37 (Operand.tmp 4) (Operand.const (Value.int IntKind.i64 0)),type:=0,pos:= "tier.go:68",after:=#[],guard:=none}
theorem sU:Tryz.f46.body=some (.seq (.region 0 #[wZ,w6] false) (.seq (.region 1 #[im,w7] false) (.seq (.region 2 #[sS,j5] false) (.seq (.region 3 #[lT] false) .ret)))):=rfl
def w8:ac:= .region [⟨some 2,.box 93 (.tmp 0),none⟩,⟨some 4,.alloc 37 (.v (.int .i64 0)),none⟩]
def MD:aZ Tryz.prog Tryz.f46.ntmps true (.region 0 #[wZ,w6] false)=some w8:=by kernel_rfl
def ME{E:aa}(t0:E.tmps 0= .ptr (.arg 0) 0 0)(v2:E.used (.loc 2 0)=false)(v4:E.used (.loc 4 0)=false)(va:E.used (.arg 0)=true):
  aY Tryz.prog bu (fun ex E'=>ex= .normal/\E'.tmps 1=E.tmps 1/\E'.tmps 2= .ptr (.loc 2 0) 0 0/\E'.tmps 4= .ptr (.loc 4 0) 0 0/\E'.slots (.loc 2 0)=some (bq (.arg 0))/\E'.slots (.loc 4 0)=some (eR 0)/\(∀i,E'.slots (.arg i)=E.slots (.arg i))/\E'.used (.loc 2 0)=true/\E'.used (.loc 4 0)=true/\∀i,E'.used (.arg i)=E.used (.arg i)) [.code w8] E:=by
 simp[*,w8]
def D9:i8 Tryz.prog Tryz.f46=some [.cell 4 1 false]:=by kernel_rfl
structure MG(a:Act)(D:List Deferred)(p q:Value):Prop where
 d:a.defers={target:= .fn (.func 120) #[p,q],args:=#[]}::D
 p:a.tmps.getD 4 undef=p
 q:a.tmps.getD 2 undef=q
def Ea{g:FuncId}{caps:List DV}{rows:List Row}{n:Nat}(hn:rows.length=n)(h0:0<n){c:aA}{Z:Nm->Place}{w:World}{vs:List Value}{k:Ct}(ZC:k.gs=[])(hk2:k.ds=[.ptr (.arg 0) 0 0,.fn g caps])(hk3:k.rows=rows)(Wf:c.w0=w)(Tr:SimW c Z k.env w)(hl:vs.length=k.ds.length)
  (hv:∀(i:Nat) (v:Value) (d:DV),vs[i]?=some v->k.ds[i]?=some d->ah Z k.env.used w (ae c Z k.env.slots) v d) {Q:Exit->Act->World->Prop}
  (h:∀(a:Act) (w':World) (Z':Nm->Place) (E:aa) (D:List Deferred) (p q:Value),ai {c with n:=Tryz.f46.ntmps,dl:=some w.heap.size} Z' E (a.wd D) w'->MG a D p q->E.tmps 6= .fn g caps->E.tmps 2= .ptr (.loc 2 0) 0 0->E.tmps 4= .ptr (.loc 4 0) 0 0->E.slots (.loc 2 0)=some (bq (.arg 0))->E.slots (.loc 4 0)=some (eR 0)->
   (∀i,E.slots (.arg i)=rows[i]?)->E.used (.loc 2 0)=true->E.used (.loc 4 0)=true->(∀i,i<n->E.used (.arg i)=true)->
   j5.wpIn (FW none) 0 Tryz.prog a w' (fun a' ZX=>bV (FW none) 0 Tryz.prog (.seq (.region 3 #[lT] false) .ret) Q a' ZX) (Exit.then (bV (FW none) 0 Tryz.prog (.seq (.region 3 #[lT] false) .ret) Q) Q)):
  bV (FW none) 0 Tryz.prog (.seq (.region 0 #[wZ,w6] false) (.seq (.region 1 #[im,w7] false) (.seq (.region 2 #[sS,j5] false) (.seq (.region 3 #[lT] false) .ret)))) Q {tmps:=vs.toArray++Array.replicate (Tryz.f46.ntmps-vs.toArray.size) undef,defers:=[]} w:=by
 have k0:k.env.tmps 0= .ptr (.arg 0) 0 0:=by show k.ds.getD 0 .junk=_;rw[hk2];rfl
 have k1:k.env.tmps 1= .fn g caps:=by show k.ds.getD 1 .junk=_;rw[hk2];rfl
 have ku:∀i,i<n->k.env.used (.arg i)=true:=by
  intro i hi
  show decide (i<k.rows.length)=true
  rw[hk3,hn];simpa using hi
 have ks:∀i,k.env.slots (.arg i)=rows[i]?:=by
  intro i
  show((k.rows.map some)[i]?).join=_
  rw[hk3,ajw]
  cases rows[i]?<;>rfl
 refine nM (mz (b9 bC MD (ME k0 rfl rfl (ku 0 h0)) {c with n:=Tryz.f46.ntmps,dl:=some w.heap.size} Z _ w ⟨rfl,w.heap.size,rfl,by show w.heap.size<=c.w0.heap.size;rw[Wf];exact ajz _⟩ (Lq Tryz.f46.ntmps Wf Tr hl (by rw[hk2];exact aj6 rfl) hv)) fun e a1 w1 ⟨Z1,E1,hq,Uq⟩=>?_)
 obtain⟨rfl,q1,q2,q4,r2,r4,ra,u2,u4,ua⟩:=hq
 show bV _ _ _ _ _ _ _
 refine nM (fb (wpIn_region_list ?_))
 show wpListIn _ _ _ _ _ [im,w7] a1 w1
 refine gJ rfl (wv (D:=a1.defers) (E:=E1) (s:= .mkfn 120 [.tmp 4,.tmp 2]) Uq rfl (by kernel_rfl) (r:=⟨.fn 120 [E1.tmps 4,E1.tmps 2],[],[]⟩) rfl (by intro cl h;cases h) fun v2 w2 Z2 T8=>?_)
 generalize Yj:aq.apply _ _ E1=E2 at T8
 have t5:E2.tmps 5= .fn 120 [.ptr (.loc 4 0) 0 0,.ptr (.loc 2 0) 0 0]:=by rw[<-Yj];simp[aq.apply,im,q4,q2]
 have t1:E2.tmps 1= .fn g caps:=by rw[<-Yj];simp[aq.apply,im,q1,k1]
 have t2:E2.tmps 2= .ptr (.loc 2 0) 0 0:=by rw[<-Yj];simp[aq.apply,im,q2]
 have t4:E2.tmps 4= .ptr (.loc 4 0) 0 0:=by rw[<-Yj];simp[aq.apply,im,q4]
 have z2:E2.slots (.loc 2 0)=some (bq (.arg 0)):=by rw[<-Yj];simp[aq.apply,im,r2]
 have z4:E2.slots (.loc 4 0)=some (eR 0):=by rw[<-Yj];simp[aq.apply,im,r4]
 have za:∀i,E2.slots (.arg i)=rows[i]?:=by intro i;rw[<-Yj];simp[aq.apply,im,ra,ks]
 have y2:E2.used (.loc 2 0)=true:=by rw[<-Yj];simp[aq.apply,im,u2]
 have y4:E2.used (.loc 4 0)=true:=by rw[<-Yj];simp[aq.apply,im,u4]
 have ya:∀i,i<n->E2.used (.arg i)=true:=by intro i hi;rw[<-Yj];simp[aq.apply,im,ua,ku i hi]
 have ht5:=T8.tm 5
 rw[t5]at ht5
 obtain⟨us,cs,hv5,YP,XB,_,Uh⟩:=ht5.callee_inv (f:=120) (pre:=[]) (caps:=[.ptr (.loc 4 0) 0 0,.ptr (.loc 2 0) 0 0]) rfl
 obtain rfl:us=[]:=aj3.1 YP
 obtain⟨p,q,rfl⟩:∃p q,cs=[p,q]:=by
  match cs,XB with
  |[p,q],_=>exact⟨p,q,rfl⟩
 have hp:=(Uh 0 p _ rfl rfl).ptr_inv.1
 have hq:=(Uh 1 q _ rfl rfl).ptr_inv.1
 have h4:=T8.tm 4
 rw[t4]at h4
 have h4:=h4.ptr_inv.1
 have h2:=T8.tm 2
 rw[t2]at h2
 have h2:=h2.ptr_inv.1
 refine gJ rfl (Lm (x:= .tmp 5) (ts:=#[]) (f:=120) (cap:=#[p,q]) rfl rfl hv5 ?_)
 refine pK ?_
 show bV _ _ _ _ _ _ _
 refine nM (fb (wpIn_region_list ?_))
 show wpListIn _ _ _ _ _ [sS,j5] _ _
 refine gJ rfl (wv (D:=a1.defers) (E:=E2) (s:= .mv (.tmp 1)) T8 rfl (by kernel_rfl) (r:=⟨E2.tmps 1,[],[]⟩) rfl (by intro cl h;cases h) fun v3 w3 Z3 Ug=>?_)
 refine gJ rfl (h _ w3 Z3 _ a1.defers p q Ug ⟨?_,?_,?_⟩ ?_ ?_ ?_ ?_ ?_ ?_ ?_ ?_ ?_)
 .rfl
 .exact(Df (by decide)).trans (h4.trans hp.symm)
 .exact(Df (by decide)).trans (h2.trans hq.symm)
 all_goals simp[*,aq.apply,sS]
 exact ya
theorem sV{g:FuncId}{caps:List DV}{rows:List Row}{rows':List (Option Row)}{n:Nat}(h:ajk g ⟨[],caps,rows,.tup [],rows',[]⟩)(hn:rows.length=n)(hn':rows'.length=n)(h0:0<n)
  (hc:∀d∈caps,d.ren (bO n)=d) (hr:∀r∈rows,r.ren (bO n)=r) (VY:∀(i:Nat) (r:Row),rows'[i]?=some (some r)->r.ren (bO n)=r):
  ajk 46 ⟨[],[.ptr (.arg 0) 0 0,.fn g caps],rows,.t (int 0),rows',[]⟩:=by
 refine⟨⟨Tryz.f46,_,Tryz.func46,by kernel_rfl,sU⟩,fun c Z w vs Wf Tr hl hv=>?_⟩
 refine callsIn_wide (n:=0).1 (pn Tryz.func46 sU trivial ?_)
 refine Ea hn h0 rfl rfl rfl Wf Tr hl hv fun a w' Z' E D p q hs hd t6 t2 t4 z2 z4 za u2 u4 ua=>?_
 have hm:cL E caps ⟨[],caps,rows,.tup [],rows',[]⟩ (dg n) []:=Dd (k:=⟨[],caps,rows,.tup [],rows',[]⟩) rfl hn hc hr (fun i _=>za i) ua
 have Zd:bB (dg n) 7 ⟨[],caps,rows,.tup [],rows',[]⟩=(List.range n).map fun i=>(Nm.arg i,((rows'[i]?).join).map (Row.ren (bO n))):=Dc n 7 rfl
 have hra:∀i,i<n->((rows'[i]?).join).map (Row.ren (bO n))=(rows'[i]?).join:=by
  intro i _
  cases h2:rows'[i]? with
  |none=>rfl
  |some o=>
   cases o with
   |none=>rfl
   |some r=>exact congrArg some (VY i r h2)
 refine Lk (D:=D) (E:=E) (x:= .tmp 6) (ts:=#[]) hs rfl rfl t6 ⟨_,dg n,[],h,hm,.inr (.inl ⟨by simp,rfl⟩)⟩ fun v3 w3 Z3 Ug=>?_
 simp only[List.length_nil,am,aj4,akr,List.nil_append]at Ug
 rw[show(j5.dst.getD 0)=7 from rfl,Zd]at Ug
 generalize WY:aq.apply _ _ E=E3 at Ug
 have s4:E3.tmps 4= .ptr (.loc 4 0) 0 0:=by rw[<-WY];simp[aq.apply,j5,t4]
 have x4:E3.slots (.loc 4 0)=some (eR 0):=by
  rw[<-WY]
  simp[aq.apply,j5]
  rw[bM,lG _ (by intro i;simp)]
  exact z4
 have xa:∀i,i<n->E3.slots (.arg i)=(rows'[i]?).join:=by
  intro i hi
  rw[<-WY]
  simp[aq.apply,j5]
  rw[bM,pN _ i n,if_pos hi]
  exact hra i hi
 have w4:E3.used (.loc 4 0)=true:=by
  rw[<-WY]
  simp[aq.apply,j5]
  rw[bJ,u4]
  simp
 refine nM (fb (wpIn_region_list ?_))
 show wpListIn _ _ _ _ _ [lT] _ _
 have TT:∃r,al.den Tryz.prog E3 none (.store 1 (.tmp 4) (.const (.int .i64 0)))=some r/\(r.apply none E3).tmps 4= .ptr (.loc 4 0) 0 0/\(r.apply none E3).slots (.loc 4 0)=some (eR 0)/\∀i,(r.apply none E3).slots (.arg i)=E3.slots (.arg i):=by
  simp[al.den,mb,fX,s4,x4,w4]
 obtain⟨r,hr0,b4,c4,ca⟩:=TT
 refine gJ rfl (wv (D:=D) (E:=E3) (s:= .store 1 (.tmp 4) (.const (.int .i64 0))) Ug rfl (by kernel_rfl) hr0 (by intro cl h;cases h) fun v4 w4 Z4 YM=>?_)
 refine pK ?_
 show bV _ _ _ _ _ _ _
 refine fb (wpIn_ret ?_)
 show LeavesInM _ _ _ _ _ _ _ _ _
 have hdd:((a.put j5.dst v3).put lT.dst v4).defers={target:= .fn (.func 120) #[p,q],args:=#[]}::D:=by rw[C8,C8];exact hd.d
 rw[hdd]
 refine⟨by simp,.inr ⟨fun h=>by simp[Fence.wide]at h,.func 120,#[p,q],120,#[p,q],rfl,?_,fun _ _=>trivial,(My p q w4).mono ?_⟩⟩
 .exact kX ⟨Tryz.f120,_,Tryz.func120,by kernel_rfl,wY⟩ _ _
 rintro e um w5 ⟨rfl,rfl,rfl⟩
 show LeavesInM _ _ _ _ _ _ _ _ _
 refine De D9 Wf YM (d:= .t (int 0)) ?_ ?_
 .have b4':(r.apply lT.dst E3).tmps 4= .ptr (.loc 4 0) 0 0:=b4
  have c4':(r.apply lT.dst E3).slots (.loc 4 0)=some (eR 0):=c4
  simp[fZ,cy.val,b4',c4']
 .refine⟨bO n,ww n,wx hn' VY fun i hi=>(ca i).trans (xa i hi),?_⟩
  exact .rfl
theorem w9{g:FuncId}{caps:List DV}{rows:List Row}{rest:List (Option Row)}{n:Nat}{e:Int}{x0 x1 x2 x3 x4 x5 x6 x7 x8:ab}{d0:DV}(h:ajm g ⟨[],caps,rows,d0,some (il [x0,x1,x2,x3,x4,x5,x6,x7,x8])::rest,[]⟩ (j4 e))(hn:rows.length=n)(hn':rest.length+1=n)
  (hc:∀d∈caps,d.ren (bO n)=d) (hr:∀r∈rows,r.ren (bO n)=r) (VY:∀(i:Nat) (r:Row),rest[i]?=some (some r)->r.ren (bO n)=r):
  ajk 46 ⟨[],[.ptr (.arg 0) 0 0,.fn g caps],rows,.t (int e),some (if fT e=true then il [x0,x1,x2,x3,x4,x5,x6,x7,x8]else oy)::rest,[]⟩:=by
 have h0:0<n:=by omega
 refine⟨⟨Tryz.f46,_,Tryz.func46,by kernel_rfl,sU⟩,fun c Z w vs Wf Tr hl hv=>?_⟩
 refine callsIn_wide (n:=0).1 (pn Tryz.func46 sU trivial ?_)
 refine Ea hn h0 rfl rfl rfl Wf Tr hl hv fun a w' Z' E D p q hs hd t6 t2 t4 z2 z4 za u2 u4 ua=>?_
 have hm:cL E caps ⟨[],caps,rows,d0,some (il [x0,x1,x2,x3,x4,x5,x6,x7,x8])::rest,[]⟩ (dg n) []:=Dd (k:=⟨[],caps,rows,d0,some (il [x0,x1,x2,x3,x4,x5,x6,x7,x8])::rest,[]⟩) rfl hn hc hr (fun i _=>za i) ua
 have Zd:bB (dg n) 0 ⟨[],caps,rows,d0,some (il [x0,x1,x2,x3,x4,x5,x6,x7,x8])::rest,[]⟩=(List.range n).map fun i=>(Nm.arg i,(((some (il [x0,x1,x2,x3,x4,x5,x6,x7,x8])::rest)[i]?).join).map (Row.ren (bO n))):=Dc n 0 rfl
 refine Ll (D:=D) (E:=E) (x:= .tmp 6) (ts:=#[]) hs rfl t6 ⟨_,dg n,[],h,hm,rfl,rfl⟩ fun w3 Z3 Ug=>?_
 show LeavesInM _ _ _ _ _ _ _ _ _
 simp only[am,aj4,akr]at Ug
 rw[Zd]at Ug
 generalize WY:E.upd _=E3 at Ug
 have s4:E3.tmps 4= .ptr (.loc 4 0) 0 0:=by rw[<-WY];exact t4
 have s2:E3.tmps 2= .ptr (.loc 2 0) 0 0:=by rw[<-WY];exact t2
 have x4':E3.slots (.loc 4 0)=some (eR 0):=by
  rw[<-WY,bM,lG _ (by intro i;simp)]
  exact z4
 have x2':E3.slots (.loc 2 0)=some (bq (.arg 0)):=by
  rw[<-WY,bM,lG _ (by intro i;simp)]
  exact z2
 have xa0:E3.slots (.arg 0)=some (il [x0,x1,x2,x3,x4,x5,x6,x7,x8]):=by
  rw[<-WY,bM,pN _ 0 n,if_pos h0]
  rfl
 have xa:∀i,i+1<n->E3.slots (.arg (i+1))=(rest[i]?).join:=by
  intro i hi
  rw[<-WY,bM,pN _ (i+1) n,if_pos hi]
  show((rest[i]?).join).map _=_
  cases h2:rest[i]? with
  |none=>rfl
  |some o=>
   cases o with
   |none=>rfl
   |some r=>exact congrArg some (VY i r h2)
 have w4:E3.used (.loc 4 0)=true:=by
  rw[<-WY,bJ,u4]
  simp
 have w2:E3.used (.loc 2 0)=true:=by
  rw[<-WY,bJ,u2]
  simp
 have wa:E3.used (.arg 0)=true:=by
  rw[<-WY,bJ,ua 0 h0]
  simp
 clear WY Zd
 rw[hd.d]
 refine⟨by simp,.inr ⟨fun h=>by simp[Fence.wide]at h,.func 120,#[p,q],120,#[p,q],rfl,kX ⟨Tryz.f120,_,Tryz.func120,by kernel_rfl,wY⟩ _ _,fun _ _=>trivial,?_⟩⟩
 have hmc:cL E3 [.ptr (.loc 4 0) 0 0,.ptr (.loc 2 0) 0 0] (sR e x0 x1 x2 x3 x4 x5 x6 x7 x8) [.loc 4 0,.loc 2 0,.arg 0] []:=by
  refine gF rfl (by decide) rfl ?_ ?_ ?_ (by simp)
  .simp[*]
  .simp[*]
  .simp
 refine(Lj (vs:=[p,q]) (MC e x0 x1 x2 x3 x4 x5 x6 x7 x8) hmc rfl Ug rfl ?_).mono ?_
 .intro i v d UC Un
  match i with
  |0=>
   cases UC;cases Un
   have:=Ug.tm 4
   rw[s4]at this
   exact hd.p▸this
  |1=>
   cases UC;cases Un
   have:=Ug.tm 2
   rw[s2]at this
   exact hd.q▸this
  |i+2=>cases UC
 rintro e2 um w5 ⟨⟨v,rfl⟩,rfl,Z4,YM⟩
 show LeavesInM _ _ _ _ _ _ D .returning w5
 refine De D9 Wf YM (d:= .t (int e)) ?_ ?_
 .simp[fZ,cy.val,s4]
 .refine⟨bO n,ww n,wx (by simpa using hn') ?_ ?_,.rfl⟩
  .intro i r hi
   cases i with
   |zero=>
    simp only[List.getElem?_cons_zero,ajr]at hi
    subst hi
    split<;>rfl
   |succ i=>exact VY i r (by simpa using hi)
  .intro i hi
   cases i with
   |zero=>
    simp
    cases fT e<;>rfl
   |succ i=>
    have:=xa i hi
    simp[this]
def xb(a b:ByteArray):Bool:=Op.bytesLess a.toList b.toList||a.toList==b.toList
section
variable{P:Program}{t:TypeId}{x y:Operand}
@[simp] def Tg(a b:ByteArray):aX P .leq t x y (.t (.v (.string a))) (.t (.v (.string b)))=val (.t (.v (.bool (xb a b)))):=by
 simp[aX,dD,DV.asT,eqGuard,binOp,Op.stringOp,aQ,bU,b8,cB,Bind.bind,Sem.bind,Pure.pure,xb]
end
structure cE where
 call:Int
 kind:Int
abbrev bD(f:cE):ab:= .agg [int f.call,int f.kind]
structure oBj where
 name:ByteArray
 bytes:Bs
abbrev a0(o:oBj):ab:= .agg [str o.name,aS o.bytes]
structure aw where
 objs:List oBj
 calls:Int
 faults:List cE
abbrev bi(s:aw):ab:= .agg [.sl 2 (s.objs.map a0),int s.calls,.sl 2 (s.faults.map bD)]
def kI(f:cE):Bool:=decide (f.call<0)||decide (f.kind<1)||decide (3<f.kind)
def MH(f:cE):aji 118 [bD f] (tt (kI f)):=by
 unfold kI
 refine pu KI rfl ?_
 simp[Cq]
 repeat'(first|simp[*]|apply aj|(apply dL<;>intro h))
 all_goals exact au rfl
def MI(l:List cE)(hl:l.length<=1000000):ajk 183 ⟨[],[.t (.sl 2 (l.map bD)),.fn 118 []],[],.t (int (bf kI l)),[],[]⟩:=by
 refine aJ zY rfl ?_
 simp[vf]
 refine ba (fun E=>∃(i:Nat),i<=l.length/\E.tmps 8= .t (int i)/\E.tmps 7= .t (int l.length)/\E.tmps 0= .t (.sl 2 (l.map bD))/\E.tmps 1= .fn 118 []/\(∀(j:Nat) (x:cE),j<i->l[j]?=some x->kI x=false)) (fun E=>match E.tmps 8 with| .t (.v (.int _ i))=>l.length-i.toNat|_=>0) [] rfl ?_ ?_
 .refine⟨0,by omega,?_,?_,?_,?_,fun j x hj=>by omega⟩<;>simp
 rintro E1 ⟨i,hi,e8,e7,e0,e1,hb⟩ hU hS A hA
 simp[vd,e8,e7]
 refine aN (fun h=>?_) (fun h=>?_)
 .have hx:=ajq h
  obtain⟨x,Tm⟩:∃x,l[i]=x:=⟨_,rfl⟩
  rw[Tm]at hx
  have TN:=ajx hx
  have c1:=MH x
  cases TJ:kI x with
  |true=>
   rw[TJ]at c1
   repeat'(first|simp[*]|refine Up c1 rfl ?_)
   refine ug [] rfl (by simp[*]) ?_
   .rw[fE hx hb TJ]
    exact .rfl
  |false=>
   rw[TJ]at c1
   repeat'(first|simp[*]|refine Up c1 rfl ?_|simp(disch:=omega) only[wr])
   refine hA _ (aH [] rfl rfl ⟨i+1,by omega,?_,?_,?_,?_,fun j y hj hy=>?_⟩ ?_)
   .simp
   .simp[e7]
   .simp[e0]
   .simp[e1]
   .by_cases Uk:j=i
    .subst Uk
     rw[hx]at hy
     cases hy
     exact TJ
    .exact hb j y (by omega) hy
   .simp[e8]
    omega
 .repeat' simp[*]
  refine ug [] rfl (by simp[*]) ?_
  .rw[fP fun j x hx=>hb j x (by have:=(ajs.1 hx).1;omega) hx]
   exact .rfl
def MJ(l:List cE)(hl:l.length<=1000000):ajk 119 ⟨[],[.t (.sl 2 (l.map bD)),.fn 118 []],[],.t (bo (l.any kI)),[],[]⟩:=by
 have c1:=MI l hl
 refine aJ KJ rfl ?_
 rw[<-mI]
 generalize bf kI l=r at*
 simp[Cr]
 repeat'(first|simp[*]|refine UR (S:=[]) c1 ?_ ?_)
 exact ug [] rfl (by simp[*]) .rfl
def kJ(s:aw)(f:cE):Bool:=decide (f.call=s.calls)
abbrev bA(s:aw):Row:= .box 31 (.t (bi s)) false
def MK(s:aw)(f:cE):ajk 184 ⟨[],[.t (bD f),.ptr (.arg 0) 0 0],[bA s],.t (bo (kJ s f)),[some (bA s)],[]⟩:=by
 unfold kJ
 refine aJ IY rfl ?_
 simp[zZ]
 skip
 exact ug [(.arg 0,.arg 0)] rfl (by simp[*]) .rfl
def ML(s:aw)(l:List cE)(hl:l.length<=1000000):ajk 183 ⟨[],[.t (.sl 2 (l.map bD)),.fn 184 [.ptr (.arg 0) 0 0]],[bA s],.t (int (bf (kJ s) l)),[some (bA s)],[]⟩:=by
 refine aJ zY rfl ?_
 simp[vf]
 refine ba (fun E=>∃(i:Nat),i<=l.length/\E.tmps 8= .t (int i)/\E.tmps 7= .t (int l.length)/\E.tmps 0= .t (.sl 2 (l.map bD))/\E.tmps 1= .fn 184 [.ptr (.arg 0) 0 0]/\E.slots (.arg 0)=some (bA s)/\(∀(j:Nat) (x:cE),j<i->l[j]?=some x->(kJ s) x=false)) (fun E=>match E.tmps 8 with| .t (.v (.int _ i))=>l.length-i.toNat|_=>0) [(.arg 0,.arg 0)] rfl ?_ ?_
 .refine⟨0,by omega,?_,?_,?_,?_,?_,fun j x hj=>by omega⟩<;>simp
 rintro E1 ⟨i,hi,e8,e7,e0,e1,s0,hb⟩ hU hS A hA
 simp[vd,e8,e7]
 refine aN (fun h=>?_) (fun h=>?_)
 .have hx:=ajq h
  obtain⟨x,Tm⟩:∃x,l[i]=x:=⟨_,rfl⟩
  rw[Tm]at hx
  have TN:=ajx hx
  have c1:=MK s x
  cases TJ:(kJ s) x with
  |true=>
   rw[TJ]at c1
   repeat'(first|simp[*,s0,h]|refine UR (S:=[.arg 0]) c1 ?_ ?_)
   refine ug [(.arg 0,.arg 0)] rfl (by simp[*]) ?_
   .rw[fE hx hb TJ]
    exact .rfl
  |false=>
   rw[TJ]at c1
   repeat'(first|simp[*,s0,h]|refine UR (S:=[.arg 0]) c1 ?_ ?_|simp(disch:=omega) only[wr])
   refine hA _ (aH [(.arg 0,.arg 0)] rfl rfl ⟨i+1,by omega,?_,?_,?_,?_,?_,fun j y hj hy=>?_⟩ ?_)
   .simp
   .simp[e7]
   .simp[e0]
   .simp[e1]
   .simp[s0]
   .by_cases Uk:j=i
    .subst Uk
     rw[hx]at hy
     cases hy
     exact TJ
    .exact hb j y (by omega) hy
   .simp[e8]
    omega
 .repeat' simp[*,s0,h]
  refine ug [(.arg 0,.arg 0)] rfl (by simp[*]) ?_
  .rw[fP fun j x hx=>hb j x (by have:=(ajs.1 hx).1;omega) hx]
   exact .rfl
def oz(l:List oBj)(i:Nat):ByteArray:=if i=0 then es else(l.map (·.name)).getD (i-1) es
def io(l:List oBj)(i:Nat):Bool:=match l[i]? with
 |none=>true
 |some o=>dX o.name&&(!xb o.name (oz l i)&&decide (o.bytes.length<=8192))
def bP(s:aw):Int:=
 if 1024<s.objs.length then 2 else if 1024<s.faults.length then 2
 else if s.calls<0 then 1 else if 1099511627776<=s.calls then 1 else if s.faults.any kI=true then 1
 else if((List.range s.objs.length).all (io s.objs))=false then 1
 else 0
def Eb(s:aw)(h1:s.objs.length<=1000000)(h2:s.faults.length<=1000000):aji 45 [bi s] (.t (int (bP s))):=by
 have c1:=MJ s.faults h2
 have hv:bP s=bP s:=rfl
 conv at hv=>rhs;unfold bP
 generalize bP s=r at*
 obtain⟨l,calls,fl⟩:=s
 simp only at h1 h2 c1 hv
 by_cases k1:1024<l.length
 .have g1:(1024:Int)<l.length:=by omega
  rw[if_pos k1]at hv
  subst hv
  refine pu lC rfl ?_
  simp[kA]
  try simp[k1,g1]
  all_goals try(repeat'(first|(refine aj ?_<;>try simp[k1,g1])))
  all_goals exact au rfl
 have g1:¬(1024:Int)<l.length:=by omega
 have Xh:l.length<=1024:=by omega
 rw[if_neg k1]at hv
 by_cases k2:1024<fl.length
 .have g2:(1024:Int)<fl.length:=by omega
  rw[if_pos k2]at hv
  subst hv
  refine pu lC rfl ?_
  simp[kA]
  try simp[k1,k2,g1,g2,Xh]
  all_goals try(repeat'(first|(refine aj ?_<;>try simp[k1,k2,g1,g2,Xh])))
  all_goals exact au rfl
 have g2:¬(1024:Int)<fl.length:=by omega
 have Z6:fl.length<=1024:=by omega
 rw[if_neg k2]at hv
 by_cases k3:calls<0
 .rw[if_pos k3]at hv
  subst hv
  refine pu lC rfl ?_
  simp[kA]
  try simp[k1,k2,k3,g1,g2,Xh,Z6]
  all_goals try(repeat'(first|(refine aj ?_<;>try simp[k1,k2,k3,g1,g2,Xh,Z6])))
  all_goals exact au rfl
 rw[if_neg k3]at hv
 by_cases k4:1099511627776<=calls
 .rw[if_pos k4]at hv
  subst hv
  refine pu lC rfl ?_
  simp[kA]
  try simp[k1,k2,k3,k4,g1,g2,Xh,Z6]
  all_goals try(repeat'(first|(refine aj ?_<;>try simp[k1,k2,k3,k4,g1,g2,Xh,Z6])))
  all_goals exact au rfl
 rw[if_neg k4]at hv
 have g4:calls<1099511627776:=by omega
 generalize fl.any kI=b at*
 cases b with
 |true=>
  rw[if_pos rfl]at hv
  subst hv
  refine pu lC rfl ?_
  simp[kA]
  try simp[k1,k2,k3,k4,g4,g1,g2,Xh,Z6]
  all_goals try(repeat'(first|((first|refine aj ?_|(refine UR (S:=[]) c1 ?_ ?_;(· simp[k1,k2,k3,k4,g4,g1,g2,Xh,Z6])))<;>try simp[k1,k2,k3,k4,g4,g1,g2,Xh,Z6])))
  all_goals exact au rfl
 |false=>
  rw[if_neg (by simp)]at hv
  refine pu lC rfl ?_
  simp[kA]
  try simp[k1,k2,k3,k4,g4,g1,g2,Xh,Z6]
  all_goals try(repeat'(first|((first|refine aj ?_|(refine UR (S:=[]) c1 ?_ ?_;(· simp[k1,k2,k3,k4,g4,g1,g2,Xh,Z6])))<;>try simp[k1,k2,k3,k4,g4,g1,g2,Xh,Z6])))
  refine ba (fun E=>∃i,i<=l.length/\(∀j,j<i->io l j=true)/\E.tmps 1= .ptr (.head 1 0) 0 0/\E.tmps 32= .t (.sl 2 (l.map a0))/\E.tmps 33= .t (int l.length)/\E.tmps 34= .t (int i)/\E.tmps 4= .t (str (oz l i))/\E.slots (.head 1 0)=some (bA ⟨l,calls,fl⟩))
    (fun E=>match E.tmps 34 with| .t (.v (.int _ i))=>l.length-i.toNat|_=>0) [(.loc 1 0,.head 1 0)] rfl ?_ ?_
  .refine⟨0,by omega,by omega,?_,?_,?_,?_,?_,?_⟩<;>simp[oz]
  rintro E1 ⟨i,hi,Uf,e1,XT,Xo,Y8,e4,s1⟩ hU hS A hA
  simp[BK,Xo,Y8]
  refine aN (fun h=>?_) (fun h=>?_)
  .have hx:=ajq h
   obtain⟨x,Tm⟩:∃x,l[i]=x:=⟨_,rfl⟩
   rw[Tm]at hx
   have c2:=sO x.name
   have hb:io l i=io l i:=rfl
   conv at hb=>rhs;unfold io
   simp only[hx]at hb
   have WC:io l i=false->r=1:=fun hf=>by rw[hv,wO h hf];rfl
   have step:io l i=true->∀j,j<i+1->io l j=true:=fun ht j hj=>by
    by_cases Uk:j<i
    .exact Uf j Uk
    .rw[show j=i by omega];exact ht
   have hpn:oz l (i+1)=x.name:=by simp[oz,hx]
   generalize io l i=ok at*
   generalize dX x.name=nb at*
   generalize TK:xb x.name (oz l i)=le at*
   cases nb with
   |false=>
    simp only[Bool.false_and]at hb
    rw[WC hb]
    try simp[e1,XT,Xo,Y8,e4,s1,hU,h,Tm]
    all_goals try(repeat'(first|((first|refine aj ?_|refine Up c2 rfl ?_)<;>try simp[e1,XT,Xo,Y8,e4,s1,hU,h,Tm])))
    all_goals exact au rfl
   |true=>
    cases le with
    |true=>
     simp only[Bool.true_and,Bool.not_true,Bool.false_and]at hb
     rw[WC hb]
     try simp[e1,XT,Xo,Y8,e4,s1,hU,h,Tm,TK]
     all_goals try(repeat'(first|((first|refine aj ?_|refine Up c2 rfl ?_)<;>try simp[e1,XT,Xo,Y8,e4,s1,hU,h,Tm,TK])))
     all_goals exact au rfl
    |false=>
     simp only[Bool.true_and,Bool.not_false]at hb
     by_cases Tk:x.bytes.length<=8192
     .have Xa:¬(8192:Int)<x.bytes.length:=by omega
      simp only[Tk,decide_true]at hb
      try simp[e1,XT,Xo,Y8,e4,s1,hU,h,Tm,TK,Tk,Xa]
      all_goals try(repeat'(first|((first|refine aj ?_|refine Up c2 rfl ?_|simp(disch:=omega) only[wr])<;>try simp[e1,XT,Xo,Y8,e4,s1,hU,h,Tm,TK,Tk,Xa])))
      refine hA _ (aH [(.head 1 0,.head 1 0)] rfl rfl ⟨i+1,by omega,step hb,?_,?_,?_,?_,?_,?_⟩ ?_)<;>first|(simp[e1,XT,Xo,Y8,s1,hpn];done)|(simp[Y8];omega)
     .have Xa:(8192:Int)<x.bytes.length:=by omega
      have YQ:8192<x.bytes.length:=by omega
      simp only[Tk,decide_false]at hb
      rw[WC hb]
      try simp[e1,XT,Xo,Y8,e4,s1,hU,h,Tm,TK,Tk,Xa,YQ]
      all_goals try(repeat'(first|((first|refine aj ?_|refine Up c2 rfl ?_)<;>try simp[e1,XT,Xo,Y8,e4,s1,hU,h,Tm,TK,Tk,Xa,YQ])))
      all_goals exact au rfl
  .have:i=l.length:=by omega
   subst this
   rw[wP Uf,if_neg (by simp)]at hv
   subst hv
   try simp[e1,XT,Xo,Y8,s1,hU]
   skip
   all_goals exact au rfl
def MM{P:Program}{f:FuncId}(hc:jG P f)(xs:List Value)(y:Value)(hp:b8 y=true)(h:∀w,Calls P f xs.toArray w fun e w'=>e= .returned y/\w'=w):ao P f (xs.map .v) (.t (.v y)):=by
 refine⟨hc,fun c Z w vs hw hs hl hv=>?_⟩
 have hl:vs.length=((xs.map ab.v).map DV.t).length:=hl
 have hvs:vs=xs:=by
  refine List.ext_getElem (by simpa using hl) fun i h1 h2=>?_
  have:=hv i vs[i] (.t (.v xs[i])) (ajq h1) (by
   show((xs.map ab.v).map DV.t)[i]?=_
   rw[ajw,ajw,ajq h2];rfl)
  exact this.v_inv.1
 subst hvs
 refine(h w).mono fun e w' he=>?_
 obtain⟨rfl,rfl⟩:=he
 exact⟨y,rfl,Z,_,by funext s;cases s<;>rfl,hs,.t (.v hp)⟩
def MN(a b:ByteArray)(w:World):Calls Tryz.prog 282 #[.string a,.string b] w fun e w'=>e= .returned (.int .i64 (Lib.compareBytes a.data.toList b.data.toList))/\w'=w:=by
 go_enter Tryz.func282,Tryz.ntmps282
 go_wp2
 rw[run_callFunc_extern Tryz.func307 (by kernel_rfl) (by kernel_rfl) (by kernel_rfl) (e:=Extern.BytealgCompare.compare) (by kernel_rfl),Lib.run_compareString]
 simp only[Result.andThen]
 rw[Oper.upon_value]
 go_wp2
 go_ret
 exact⟨rfl,rfl⟩
def j6(a b:ByteArray):Int:=Lib.compareBytes a.data.toList b.data.toList
def MO(a b:ByteArray):aji 282 [str a,str b] (.t (int (j6 a b))):=by
 exact MM ⟨_,_,Tryz.func282,by kernel_rfl,rfl⟩ [.string a,.string b] (.int .i64 (j6 a b)) rfl (MN a b)
def MP(a b:ByteArray):aji 243 [str a,str b] (.t (int (j6 a b))):=by
 have c1:=MO a b
 generalize j6 a b=r at*
 refine pu Jv rfl ?_
 simp[AG]
 repeat'(first|simp[*]|refine Up c1 rfl ?_)
 all_goals exact au rfl
def MQ(o:oBj):aji 188 [a0 o] (.t (str o.name)):=by
 refine pu I4 rfl ?_
 simp[Ab]
 skip
 all_goals exact au rfl
abbrev qa:Row:= .box 230 (.fn 188 []) false
def Ec(o:oBj)(s:ByteArray):ajk 242 ⟨[],[.t (a0 o),.t (str s),.ptr (.arg 0) 0 0],[qa],.t (int (j6 o.name s)),[some qa],[]⟩:=by
 refine aJ Ju rfl ?_
 have c1:=MQ o
 have c2:=MP o.name s
 generalize j6 o.name s=r at*
 simp[AF]
 repeat'(first|simp[*]|refine Up c1 rfl ?_|refine Up c2 rfl ?_)
 exact ug [(.arg 0,.arg 0)] rfl (by simp[*]) .rfl
def kK(l:List oBj)(s:ByteArray):Nat->Nat->Nat->Nat
 |0,i,_=>i
 |k+1,i,j=>if i<j then(if j6 ((l.map (·.name)).getD ((i+j)/2) es) s<0 then kK l s k ((i+j)/2+1) j else kK l s k i ((i+j)/2))else i
def cA(l:List oBj)(s:ByteArray):Nat:=kK l s (l.length+1) 0 l.length
def dq(l:List oBj)(s:ByteArray):Bool:=match l[cA l s]? with|some o=>decide (j6 o.name s=0)|none=>false
theorem MR(l:List oBj)(s:ByteArray)(k i j:Nat)(h:¬i<j):kK l s k i j=i:=by
 cases k with
 |zero=>rfl
 |succ k=>rw[kK,if_neg h]
def MS(l:List oBj)(s:ByteArray)(hl:l.length<=1000000):ajk 241 ⟨[],[.t (.sl 2 (l.map a0)),.t (str s),.fn 242 [.ptr (.arg 0) 0 0]],[qa],.tup [.t (int (cA l s)),.t (bo (dq l s))],[some qa],[]⟩:=by
 refine aJ Jt rfl ?_
 simp[AE]
 refine ba (fun E=>∃(k i j:Nat),i<=j/\j<=l.length/\j-i<k/\kK l s k i j=cA l s/\E.tmps 9= .t (int i)/\E.tmps 10= .t (int j)/\E.tmps 8= .t (int l.length)/\E.tmps 0= .t (.sl 2 (l.map a0))/\E.tmps 1= .t (str s)/\E.tmps 2= .fn 242 [.ptr (.arg 0) 0 0]/\E.slots (.arg 0)=some qa)
  (fun E=>match E.tmps 9,E.tmps 10 with| .t (.v (.int _ i)),.t (.v (.int _ j))=>j.toNat-i.toNat|_,_=>0) [(.arg 0,.arg 0)] rfl ?_ ?_
 .refine⟨l.length+1,0,l.length,by omega,by omega,by omega,rfl,?_,?_,?_,?_,?_,?_,?_⟩<;>simp
 rintro E1 ⟨k,i,j,XE,hj,hk,Vm,e9,Vb,e8,e0,e1,e2,s0⟩ hU hS A hA
 by_cases h:i<j
 .obtain⟨k,rfl⟩:∃q,k=q+1:=⟨k-1,by omega⟩
  obtain⟨m,hmd⟩:∃m,m=(i+j)/2:=⟨_,rfl⟩
  have hm:m<l.length:=by omega
  have hw:IntKind.i64.wrap (((i:Int)+j).fdiv 2)=(m:Int):=by
   rw[jM (by omega),bx (by omega) (by omega)]
   omega
  have hx:=ajq hm
  obtain⟨x,Tm⟩:∃x,l[m]=x:=⟨_,rfl⟩
  rw[Tm]at hx
  have c1:=Ec x s
  rw[kK,if_pos h,<-hmd]at Vm
  simp only[aj5,ajw,hx,akq,Option.getD_some]at Vm
  generalize j6 x.name s=r at*
  simp[vq]
  by_cases hr:r<0
  .rw[if_pos hr]at Vm
   try simp[e9,Vb,e8,e0,e1,e2,s0,hU,h,Tm,hm,hw,hr]
   all_goals try(repeat'(first|((first|(refine UR (S:=[.arg 0]) c1 ?_ ?_;(· simp[e9,Vb,e8,e0,e1,e2,s0,hU,h,Tm,hm,hw,hr]))|simp(disch:=omega) only[wr])<;>try simp[e9,Vb,e8,e0,e1,e2,s0,hU,h,Tm,hm,hw,hr])))
   refine hA _ (aH [(.arg 0,.arg 0)] rfl rfl ⟨k,m+1,j,by omega,by omega,by omega,Vm,?_,?_,?_,?_,?_,?_,?_⟩ ?_)<;>first|(simp[e9,Vb,e8,e0,e1,e2,s0];done)|(simp[e9,Vb];omega)
  .rw[if_neg hr]at Vm
   try simp[e9,Vb,e8,e0,e1,e2,s0,hU,h,Tm,hm,hw,hr]
   all_goals try(repeat'(first|((first|(refine UR (S:=[.arg 0]) c1 ?_ ?_;(· simp[e9,Vb,e8,e0,e1,e2,s0,hU,h,Tm,hm,hw,hr]))|simp(disch:=omega) only[wr])<;>try simp[e9,Vb,e8,e0,e1,e2,s0,hU,h,Tm,hm,hw,hr])))
   refine hA _ (aH [(.arg 0,.arg 0)] rfl rfl ⟨k,i,m,by omega,by omega,by omega,Vm,?_,?_,?_,?_,?_,?_,?_⟩ ?_)<;>first|(simp[e9,Vb,e8,e0,e1,e2,s0];done)|(simp[e9,Vb];omega)
 .have:i=j:=by omega
  subst this
  rw[MR _ _ _ _ _ h]at Vm
  have hh:dq l s=dq l s:=rfl
  conv at hh=>rhs;unfold dq
  rw[<-Vm]at hh⊢
  generalize dq l s=hb at*
  simp[vq]
  by_cases TC:i<l.length
  .have hx:=ajq TC
   obtain⟨x,Tm⟩:∃x,l[i]=x:=⟨_,rfl⟩
   rw[Tm]at hx
   have c1:=Ec x s
   simp only[hx]at hh
   generalize j6 x.name s=r at*
   subst hh
   try simp[e9,Vb,e8,e0,e1,e2,s0,hU,h,Tm,TC]
   all_goals try(repeat'(first|((first|refine aj ?_|(refine UR (S:=[.arg 0]) c1 ?_ ?_;(· simp[e9,Vb,e8,e0,e1,e2,s0,hU,h,Tm,TC])))<;>try simp[e9,Vb,e8,e0,e1,e2,s0,hU,h,Tm,TC])))
   exact ug [(.arg 0,.arg 0)] rfl (by simp[*]) .rfl
  .have hx:l[i]?=none:=aj2 (by omega)
   simp only[hx]at hh
   subst hh
   try simp[e9,Vb,e8,e0,e1,e2,s0,hU,h,TC]
   all_goals try(repeat'(first|(refine aj ?_<;>try simp[e9,Vb,e8,e0,e1,e2,s0,hU,h,TC])))
   exact ug [(.arg 0,.arg 0)] rfl (by simp[*]) .rfl
def MT(l:List oBj)(s:ByteArray)(hl:l.length<=1000000):ajn 187 [.t (.sl 2 (l.map a0)),.t (str s),.fn 188 []] (.tup [.t (int (cA l s)),.t (bo (dq l s))]):=by
 have c1:=MS l s hl
 generalize cA l s=n at*
 generalize dq l s=b at*
 refine lH I3 rfl ?_
 simp[Aa,bR]
 repeat'(first|simp[*,bR]|refine UR (S:=[.loc 5 0]) c1 ?_ ?_)
 refine kx ?_
 simp
abbrev cF(n:Nat)(calls:Int)(k:Nat)(Tl:Int)(a b:Nm):Row:= .box 145 (.agg [.osl a n,.t (int calls),.osl b k,.t (int Tl)]) false
abbrev cG(l:List oBj):Row:= .rows 65 2 (l.map a0) false
abbrev cH(l:List cE):Row:= .rows 119 2 (l.map bD) false
def sW(l:List oBj)(fl:List cE)(calls Tl:Int)(s:ByteArray)(hl:l.length<=1000000):ajk 94 ⟨[],[.ptr (.arg 0) 0 0,.t (str s)],[cF l.length calls fl.length Tl (.arg 1) (.arg 2),cG l,cH fl],.tup [.t (int (cA l s)),.t (bo (dq l s))],
  [some (cF l.length calls fl.length Tl (.arg 1) (.arg 2)),some (cG l),some (cH fl)],[]⟩:=by
 have c1:=MT l s hl
 generalize cA l s=n at*
 generalize dq l s=b at*
 refine aJ Kq rfl ?_
 simp[B1]
 repeat'(first|simp[*]|refine UF (F:=[.arg 1]) c1 rfl ?_ ?_)
 exact ug [(.arg 0,.arg 0),(.arg 1,.arg 1),(.arg 2,.arg 2)] rfl (by simp[*]) .rfl
def MU(l:List oBj)(hl:l.length<=LIM):ajl 185 [.sl 2 (l.map a0)] (.osl (.loc 0 0) l.length) 65 2 (l.map a0):=by
 have:=nQ (P:=Tryz.prog) (f:=185) bC I0 (t:=28) (e:=65) (m:=2) (m':=2) rfl rfl (aj6 rfl) (by kernel_rfl) (by decide) (l:=l.map a0) (by simpa using hl)
 simpa using this
def MV(l:List cE)(hl:l.length<=LIM):ajl 186 [.sl 2 (l.map bD)] (.osl (.loc 0 0) l.length) 119 2 (l.map bD):=by
 have:=nQ (P:=Tryz.prog) (f:=186) bC I2 (t:=29) (e:=119) (m:=2) (m':=2) rfl rfl (aj6 rfl) (by kernel_rfl) (by decide) (l:=l.map bD) (by simpa using hl)
 simpa using this
def cV(s:aw):Int:=if 0<=bf (kJ s) s.faults then((s.faults[(bf (kJ s) s.faults).toNat]?).map (·.kind)).getD 0 else 0
def sX(s:aw)(h1:s.objs.length<=1000000)(h2:s.faults.length<=1000000)(h3:0<=s.calls)(h4:s.calls<1099511627776):ajk 93 ⟨[],[.t (bi s)],[],.ptr (.loc 0 0) 0 0,[],
  [cF s.objs.length (s.calls+1) s.faults.length (cV s) (.loc 0 1) (.loc 0 2),cG s.objs,cH s.faults]⟩:=by
 have c1:=ML s s.faults h2
 have c2:=MU s.objs (by simp only[LIM];omega)
 have c3:=MV s.faults (by simp only[LIM];omega)
 have UA:=lw (kJ s) s.faults
 have hv:cV s=cV s:=rfl
 conv at hv=>rhs;unfold cV
 generalize cV s=fa at*
 generalize bf (kJ s) s.faults=ix at*
 have Vv:∀E:aa,E.tmps 1= .ptr (.loc 1 0) 0 0->E.tmps 3= .ptr (.loc 7 0) 0 0->E.slots (.loc 1 0)=some (bA s)->(E.slots (.loc 7 0)=some (.box 145 (.agg [.t (.sl 2 (s.objs.map a0)),.t (int s.calls),.t (.sl 2 (s.faults.map bD)),.t (int fa)]) false))->E.used (.loc 27 0)=false->E.used (.loc 30 0)=false->
   aY Tryz.prog bu (Fin [.tmp 2] (Ends ⟨[],[.t (bi s)],[],.ptr (.loc 0 0) 0 0,[],[cF s.objs.length (s.calls+1) s.faults.length fa (.loc 0 1) (.loc 0 2),cG s.objs,cH s.faults]⟩)) [.code vW] E:=by
  intro E t1 t3 z1 z7 v1 v2
  simp[vW]
  try simp[t1,t3,z1,z7,v1,v2]
  all_goals try(repeat'(first|((first|(refine UN (F:=[]) c2 ?_ ?_;(· simp[t1,t3,z1,z7,v1,v2]))|(refine UN (F:=[]) c3 ?_ ?_;(· simp[t1,t3,z1,z7,v1,v2]))|simp(disch:=omega) only[wr])<;>try simp[t1,t3,z1,z7,v1,v2])))
  refine ug [(.loc 7 0,.loc 0 0),(.loc 27 0,.loc 0 1),(.loc 30 0,.loc 0 2)] rfl (by simp[*]) ?_
  .simp
   exact .rfl
 refine aJ Kp rfl ?_
 by_cases hi:0<=ix
 .rw[if_pos hi]at hv
  obtain⟨i,rfl⟩:=akp hi
  have TC:i<s.faults.length:=by omega
  have hx:=ajq TC
  obtain⟨x,Tm⟩:∃x,s.faults[i]=x:=⟨_,rfl⟩
  rw[Tm]at hx
  simp only[akl,hx,akq,Option.getD_some]at hv
  subst hv
  simp[vX]
  try simp[TC,Tm]
  all_goals try(repeat'(first|((refine UR (S:=[.loc 1 0]) c1 ?_ ?_;(· simp[TC,Tm]))<;>try simp[TC,Tm])))
  refine Vv _ ?_ ?_ ?_ ?_ ?_ ?_<;>simp
 .rw[if_neg hi]at hv
  subst hv
  simp[vX]
  try simp[hi]
  all_goals try(repeat'(first|((refine UR (S:=[.loc 1 0]) c1 ?_ ?_;(· simp[hi]))<;>try simp[hi])))
  refine Vv _ ?_ ?_ ?_ ?_ ?_ ?_<;>simp
def eT(n:Int)(p:Pc):Bool:=decide (p.id=n)
def MW(n:Int)(p:Pc):ajk 211 ⟨[],[.t (aW p),.ptr (.arg 0) 0 0],[av n],.t (bo (eT n p)),[some (av n)],[]⟩:=by
 unfold eT
 refine aJ Jj rfl ?_
 simp[Au]
 skip
 exact ug [(.arg 0,.arg 0)] rfl (by simp[*]) .rfl
def MX(n:Int)(l:List Pc)(hl:l.length<=1000000):ajk 98 ⟨[],[.t (.sl 6 (l.map aW)),.fn 211 [.ptr (.arg 0) 0 0]],[av n],.t (int (bf (eT n) l)),[some (av n)],[]⟩:=by
 refine aJ nX rfl ?_
 simp[mS]
 refine ba (fun E=>∃(i:Nat),i<=l.length/\E.tmps 8= .t (int i)/\E.tmps 7= .t (int l.length)/\E.tmps 0= .t (.sl 6 (l.map aW))/\E.tmps 1= .fn 211 [.ptr (.arg 0) 0 0]/\E.slots (.arg 0)=some (av n)/\(∀(j:Nat) (x:Pc),j<i->l[j]?=some x->(eT n) x=false)) (fun E=>match E.tmps 8 with| .t (.v (.int _ i))=>l.length-i.toNat|_=>0) [(.arg 0,.arg 0)] rfl ?_ ?_
 .refine⟨0,by omega,?_,?_,?_,?_,?_,fun j x hj=>by omega⟩<;>simp
 rintro E1 ⟨i,hi,e8,e7,e0,e1,s0,hb⟩ hU hS A hA
 simp[mR,e8,e7]
 refine aN (fun h=>?_) (fun h=>?_)
 .have hx:=ajq h
  obtain⟨x,Tm⟩:∃x,l[i]=x:=⟨_,rfl⟩
  rw[Tm]at hx
  have TN:=ajx hx
  have c1:=MW n x
  cases TJ:(eT n) x with
  |true=>
   rw[TJ]at c1
   repeat'(first|simp[*,s0,h]|refine UR (S:=[.arg 0]) c1 ?_ ?_)
   refine ug [(.arg 0,.arg 0)] rfl (by simp[*]) ?_
   .rw[fE hx hb TJ]
    exact .rfl
  |false=>
   rw[TJ]at c1
   repeat'(first|simp[*,s0,h]|refine UR (S:=[.arg 0]) c1 ?_ ?_|simp(disch:=omega) only[wr])
   refine hA _ (aH [(.arg 0,.arg 0)] rfl rfl ⟨i+1,by omega,?_,?_,?_,?_,?_,fun j y hj hy=>?_⟩ ?_)
   .simp
   .simp[e7]
   .simp[e0]
   .simp[e1]
   .simp[s0]
   .by_cases Uk:j=i
    .subst Uk
     rw[hx]at hy
     cases hy
     exact TJ
    .exact hb j y (by omega) hy
   .simp[e8]
    omega
 .repeat' simp[*,s0,h]
  refine ug [(.arg 0,.arg 0)] rfl (by simp[*]) ?_
  .rw[fP fun j x hx=>hb j x (by have:=(ajs.1 hx).1;omega) hx]
   exact .rfl
def Ed(l:List Pc)(hl:l.length<=LIM):ajl 206 [.sl 6 (l.map aW)] (.osl (.loc 0 0) l.length) 58 6 (l.map aW):=by
 have:=nQ (P:=Tryz.prog) (f:=206) bC Jg (t:=25) (e:=58) (m:=6) (m':=6) rfl rfl (aj6 rfl) (by kernel_rfl) (by decide) (l:=l.map aW) (by simpa using hl)
 simpa using this
abbrev jn(s:Nm):Row:= .box 114 (.fn 208 [.ptr s 0 0]) false
def m4(p:Pc):Bool:=!fR 2 p
def Ee(p:Pc):ajk 207 ⟨[],[.t (aW p),.ptr (.arg 0) 0 0],[jn (.arg 1),av 2],.t (bo (m4 p)),[some (jn (.arg 1)),some (av 2)],[]⟩:=by
 have c1:=DY 2 p
 unfold m4
 generalize fR 2 p=b at*
 refine aJ Jh rfl ?_
 simp[As]
 repeat'(first|simp[*]|refine UR (S:=[.arg 1]) c1 ?_ ?_)
 exact ug [(.arg 0,.arg 0),(.arg 1,.arg 1)] rfl (by simp[*]) .rfl
def MY(l:List Pc)(hl:l.length<=1000000):ajk 98 ⟨[],[.osl (.arg 0) l.length,.fn 207 [.ptr (.arg 1) 0 0]],[.rows 58 6 (l.map aW) false,jn (.arg 2),av 2],.t (int (bf m4 l)),[some (.rows 58 6 (l.map aW) false),some (jn (.arg 2)),some (av 2)],[]⟩:=by
 refine aJ nX rfl ?_
 simp[mS]
 refine ba (fun E=>∃(i:Nat),i<=l.length/\E.tmps 8= .t (int i)/\E.tmps 7= .t (int l.length)/\E.tmps 0= .osl (.arg 0) l.length/\E.tmps 1= .fn 207 [.ptr (.arg 1) 0 0]/\E.slots (.arg 0)=some (.rows 58 6 (l.map aW) false)/\E.slots (.arg 1)=some (jn (.arg 2))/\E.slots (.arg 2)=some (av 2)/\(∀(j:Nat) (x:Pc),j<i->l[j]?=some x->m4 x=false)) (fun E=>match E.tmps 8 with| .t (.v (.int _ i))=>l.length-i.toNat|_=>0) [(.arg 0,.arg 0),(.arg 1,.arg 1),(.arg 2,.arg 2)] rfl ?_ ?_
 .refine⟨0,by omega,?_,?_,?_,?_,?_,?_,?_,fun j x hj=>by omega⟩<;>simp
 rintro E1 ⟨i,hi,e8,e7,e0,e1,s0,s1,s2,hb⟩ hU hS A hA
 simp[mR,e8,e7]
 refine aN (fun h=>?_) (fun h=>?_)
 .have hx:=ajq h
  obtain⟨x,Tm⟩:∃x,l[i]=x:=⟨_,rfl⟩
  rw[Tm]at hx
  have TN:=ajx hx
  have c1:=Ee x
  cases TJ:m4 x with
  |true=>
   rw[TJ]at c1
   repeat'(first|simp[*,s0,s1,s2,h]|refine UR (S:=[.arg 1,.arg 2]) c1 ?_ ?_)
   refine ug [(.arg 0,.arg 0),(.arg 1,.arg 1),(.arg 2,.arg 2)] rfl (by simp[*]) ?_
   .rw[fE hx hb TJ]
    exact .rfl
  |false=>
   rw[TJ]at c1
   repeat'(first|simp[*,s0,s1,s2,h]|refine UR (S:=[.arg 1,.arg 2]) c1 ?_ ?_|simp(disch:=omega) only[wr])
   refine hA _ (aH [(.arg 0,.arg 0),(.arg 1,.arg 1),(.arg 2,.arg 2)] rfl rfl ⟨i+1,by omega,?_,?_,?_,?_,?_,?_,?_,fun j y hj hy=>?_⟩ ?_)
   .simp
   .simp[e7]
   .simp[e0]
   .simp[e1]
   .simp[s0]
   .simp[s1]
   .simp[s2]
   .by_cases Uk:j=i
    .subst Uk
     rw[hx]at hy
     cases hy
     exact TJ
    .exact hb j y (by omega) hy
   .simp[e8]
    omega
 .repeat' simp[*,s0,s1,s2,h]
  refine ug [(.arg 0,.arg 0),(.arg 1,.arg 1),(.arg 2,.arg 2)] rfl (by simp[*]) ?_
  .rw[fP fun j x hx=>hb j x (by have:=(ajs.1 hx).1;omega) hx]
   exact .rfl
noncomputable def ei:Code:=Tryz.f205.body.getD .skip
def Ef:ei= .seq (c1 ei) (.seq (c1 (c2 ei)) (.seq (c1 (c2 (c2 ei))) (.seq (c1 (c2 (c2 (c2 ei)))) (.seq (c1 (c2 (c2 (c2 (c2 ei))))) (.seq (c1 (c2 (c2 (c2 (c2 (c2 ei)))))) .ret))))):=by kernel_rfl
noncomputable def MZ:Array Oper:=match c1 (c2 (c2 (c2 (c2 ei))))with| .region _ ops _=>ops|_=>#[]
noncomputable def M5:Nat:=match c1 (c2 (c2 (c2 (c2 ei))))with| .region i _ _=>i|_=>0
noncomputable def M6:Array Oper:=match c1 (c2 (c2 (c2 (c2 (c2 ei)))))with| .region _ ops _=>ops|_=>#[]
noncomputable def M7:Nat:=match c1 (c2 (c2 (c2 (c2 (c2 ei)))))with| .region i _ _=>i|_=>0
def M8:c1 (c2 (c2 (c2 (c2 ei))))= .region M5 MZ false:=by kernel_rfl
def M9:c1 (c2 (c2 (c2 (c2 (c2 ei)))))= .region M7 M6 false:=by kernel_rfl
def Eg:aZ Tryz.prog Tryz.f205.ntmps true (c1 ei)=some (d1 je):=by kernel_rfl
def Eh:aZ Tryz.prog Tryz.f205.ntmps true (c1 (c2 ei))=some (d1 (d2 je)):=by kernel_rfl
def Ei:aZ Tryz.prog Tryz.f205.ntmps true (c1 (c2 (c2 ei)))=some (d1 (d2 (d2 je))):=by kernel_rfl
def Na:aZ Tryz.prog Tryz.f205.ntmps true (c1 (c2 (c2 (c2 ei))))=some (d1 (d2 (d2 (d2 je)))):=by kernel_rfl
def Nb(l:List Pc)(hl:l.length<=1000000):ajk 205 ⟨[],[.osl (.arg 0) l.length,.fn 207 [.ptr (.arg 1) 0 0]],[.rows 58 6 (l.map aW) false,jn (.arg 2),av 2],.osl (.arg 0) (l.filter (fun x=>!m4 x)).length,[some (.rows 58 6 ((l.filter (fun x=>!m4 x)).map aW) false),some (jn (.arg 2)),some (av 2)],[]⟩:=by
 have YD:=MY l hl
 rcases pM (m4) l with⟨YR,Tt⟩|⟨i0,YR,UL,hat,ZM⟩
 .have XG:l.filter (fun x=>!m4 x)=l:=List.filter_eq_self.2 fun x hx=>by simp[Tt x hx]
  rw[YR]at YD
  rw[XG]
  refine oe (fn:=Tryz.f205) (code:=ei) (rs:=[.tmp 4]) Tryz.func205 (by kernel_rfl) (by kernel_rfl) (by kernel_rfl) rfl (aj6 rfl) ?_
  rw[Ef]
  refine bN (b9 bC Eg ?_)
  simp[d1,d2,je]
  refine bN (b9 bC Eh ?_)
  simp[d1,d2,je]
  try simp
  all_goals try(repeat'(first|((refine UR (S:=[.arg 0,.arg 1,.arg 2]) YD ?_ ?_;(· simp))<;>try simp)))
  refine bN (b9 bC Ei ?_)
  simp[d1,d2,je]
  try simp
  skip
  refine ug [(.arg 0,.arg 0),(.arg 1,.arg 1),(.arg 2,.arg 2)] rfl (by simp[*]) ?_
  .simp
   exact .rfl
 rw[YR]at YD
 refine oe (fn:=Tryz.f205) (code:=ei) (rs:=[.tmp 4]) Tryz.func205 (by kernel_rfl) (by kernel_rfl) (by kernel_rfl) rfl (aj6 rfl) ?_
 rw[Ef]
 refine bN (b9 bC Eg ?_)
 simp[d1,d2,je]
 refine bN (b9 bC Eh ?_)
 simp[d1,d2,je]
 try simp
 all_goals try(repeat'(first|((refine UR (S:=[.arg 0,.arg 1,.arg 2]) YD ?_ ?_;(· simp))<;>try simp)))
 refine bN (b9 bC Ei ?_)
 simp[d1,d2,je]
 try simp
 skip
 refine bN (b9 bC Na ?_)
 simp[d1,d2,je]
 try simp
 all_goals try(repeat'(first|(simp(disch:=omega) only[wr]<;>try simp)))
 have Tx:∀(E:aa),E.tmps 0= .osl (.arg 0) l.length->E.tmps 5= .t (int (l.filter (fun x=>!m4 x)).length)->(∃T6:List Pc,T6.length=l.length/\T6.take (l.filter (fun x=>!m4 x)).length=l.filter (fun x=>!m4 x)/\E.slots (.arg 0)=some (.rows 58 6 (T6.map aW) false))->E.slots (.arg 1)=some (jn (.arg 2))->E.slots (.arg 2)=some (av 2)->
   cM Tryz.prog Tryz.f205.ntmps (.seq (c1 (c2 (c2 (c2 (c2 ei))))) (.seq (c1 (c2 (c2 (c2 (c2 (c2 ei)))))) .ret)) E (Fin [.tmp 4] (Ends ⟨[],[.osl (.arg 0) l.length,.fn 207 [.ptr (.arg 1) 0 0]],[.rows 58 6 (l.map aW) false,jn (.arg 2),av 2],.osl (.arg 0) (l.filter (fun x=>!m4 x)).length,[some (.rows 58 6 ((l.filter (fun x=>!m4 x)).map aW) false),some (jn (.arg 2)),some (av 2)],[]⟩)):=by
  rintro E e0 e5 ⟨T6,TA,Uj,s0⟩ s1 s2
  have UA:(l.filter (fun x=>!m4 x)).length<=l.length:=aks _ _
  generalize XG:l.filter (fun x=>!m4 x)=fl at*
  rw[M8,M9]
  refine bN (wt (x:=0) (y:=5) (d1:=36) (d2:=37) (d3:=38) (t:=25) (e:=58) (m:=6) (zt:=(.agg [int 0,int 0,int 0,int 0,eN 0,int 0])) (s:= .arg 0) (l:=T6.map aW) (i:=fl.length) (by kernel_rfl) (by kernel_rfl) (by kernel_rfl) (by kernel_rfl) rfl (by decide) (by decide) (by decide) (by decide) (by decide) (by rw[e0,ajJ,TA]) e5 s0 (by rw[ajJ,TA];exact UA) ?_)
  simp only[n9]
  refine bN (wu (x:=0) (y:=5) (d1:=39) (d2:=40) (d3:=41) (d4:=4) (t:=25) (e:=58) (m:=6) (s:= .arg 0) (k:=l.length) (i:=fl.length) (.inr (by kernel_rfl)) (by kernel_rfl) (by kernel_rfl) (by decide) (by decide) (by decide) (by decide) (by decide) (by decide) (by simp[e0]) (by simp[e5]) UA ?_)
  simp only[n9]
  refine wo ?_
  have TD:List.take fl.length (T6.map aW)=fl.map aW:=by rw[<-List.map_take,Uj]
  simp only[tY]
  simp[fZ,cy.val]
  refine ug [(.arg 0,.arg 0),(.arg 1,.arg 1),(.arg 2,.arg 2)] rfl (by simp[*]) ?_
  .simp[TD]
   exact .rfl
 have U5:IntKind.i64.wrap ((i0:Int)+1)=((i0+1:Nat):Int):=by rw[bx (by omega) (by omega)];omega
 try simp[U5]
 refine ba (fun E=>∃(j i:Nat) (T6:List Pc),i<j/\j<=l.length/\i=((l.take j).filter (fun x=>!m4 x)).length/\T6.length=l.length/\T6.take i=(l.take j).filter (fun x=>!m4 x)/\(∀k,j<=k->T6[k]?=l[k]?)/\E.tmps 0= .osl (.arg 0) l.length/\E.tmps 1= .fn 207 [.ptr (.arg 1) 0 0]/\E.tmps 5= .t (int i)/\E.tmps 6= .t (int j)/\E.slots (.arg 0)=some (.rows 58 6 (T6.map aW) false)/\E.slots (.arg 1)=some (jn (.arg 2))/\E.slots (.arg 2)=some (av 2)) (fun E=>match E.tmps 6 with| .t (.v (.int _ i))=>l.length-i.toNat|_=>0) [(.arg 0,.arg 0),(.arg 1,.arg 1),(.arg 2,.arg 2)] rfl ?_ ?_
 .have hx:=ajq UL
  have TD:(l.take i0).filter (fun x=>!m4 x)=l.take i0:=List.filter_eq_self.2 fun x hx=>by simp[ZM x hx]
  have W9:(l.take (i0+1)).filter (fun x=>!m4 x)=l.take i0:=by rw[og hx,TD,hat _ hx];simp
  refine⟨i0+1,i0,l,by omega,by omega,by rw[W9,ajA];omega,rfl,by rw[W9],fun _ _=>rfl,?_,?_,?_,?_,?_,?_,?_⟩<;>simp
 rintro E1 ⟨j,i,T6,XE,hj,hi,TA,Uj,YB,e0,e1,e5,e6,s0,s1,s2⟩ hU hS A hA
 simp[Ar]
 have UT:IntKind.i64.wrap ((i:Int)+1)=((i+1:Nat):Int):=by rw[bx (by omega) (by omega)];omega
 have Vs:IntKind.i64.wrap ((j:Int)+1)=((j+1:Nat):Int):=by rw[bx (by omega) (by omega)];omega
 have TC:i<T6.length:=by omega
 by_cases h:j<l.length
 .have hx:=ajq h
  obtain⟨x,Tm⟩:∃x,l[j]=x:=⟨_,rfl⟩
  rw[Tm]at hx
  have TN:=ajx hx
  have VP:=YB j (ajz _)
  rw[hx]at VP
  have hjc:j<T6.length:=by omega
  have UP:i<l.length:=by omega
  have WV:T6[j]=x:=(ajs.1 VP).2
  have c1:=Ee x
  have WU:=og (q:=fun x=>!m4 x) hx
  cases TJ:m4 x with
  |true=>
   rw[TJ]at c1
   simp only[TJ,Bool.not_true,ajU,ajS,akr]at WU
   try simp[e0,e1,e5,e6,s0,hU,h,TA,VP,WV,UP,TC,UT,Vs,s1,s2]
   all_goals try(repeat'(first|((refine UR (S:=[.arg 1,.arg 2]) c1 ?_ ?_;(· simp[e0,e1,e5,e6,s0,hU,h,TA,VP,WV,UP,TC,UT,Vs,s1,s2]))<;>try simp[e0,e1,e5,e6,s0,hU,h,TA,VP,WV,UP,TC,UT,Vs,s1,s2])))
   refine hA _ (aH [(.arg 0,.arg 0),(.arg 1,.arg 1),(.arg 2,.arg 2)] rfl rfl ⟨j+1,i,T6,by omega,by omega,by rw[WU];exact hi,TA,by rw[WU];exact Uj,fun k hk=>YB k (by omega),?_,?_,?_,?_,?_,?_,?_⟩ ?_)
   all_goals first|(simp[e0,e1,e5,e6,s0,Vs,s1,s2];done)|(simp[e6,Vs];omega)
  |false=>
   rw[TJ]at c1
   simp only[TJ,Bool.not_false,if_true]at WU
   try simp[e0,e1,e5,e6,s0,hU,h,TA,VP,WV,UP,TC,UT,Vs,s1,s2]
   all_goals try(repeat'(first|((refine UR (S:=[.arg 1,.arg 2]) c1 ?_ ?_;(· simp[e0,e1,e5,e6,s0,hU,h,TA,VP,WV,UP,TC,UT,Vs,s1,s2]))<;>try simp[e0,e1,e5,e6,s0,hU,h,TA,VP,WV,UP,TC,UT,Vs,s1,s2])))
   refine hA _ (aH [(.arg 0,.arg 0),(.arg 1,.arg 1),(.arg 2,.arg 2)] rfl rfl ⟨j+1,i+1,T6.set i x,by omega,by omega,by rw[WU,ajB];simp;omega,by simp[TA],?_,fun k hk=>by rw[List.getElem?_set_ne (by omega)];exact YB k (by omega),?_,?_,?_,?_,?_,?_,?_⟩ ?_)
   .rw[WU,<-Uj,List.take_add_one,List.take_set_of_le (ajz _),List.getElem?_set_self TC]
    rfl
   all_goals first|(simp[e0,e1,e5,e6,s0,UT,Vs,List.map_set,s1,s2];done)|(simp[e6,Vs];omega)
 .have:j=l.length:=by omega
  subst this
  rw[akg]at hi Uj
  try simp[e0,e1,e5,e6,s0,hU,h,s1,s2]
  skip
  refine Tx _ ?_ ?_ ⟨T6,TA,by rw[<-hi];exact Uj,?_⟩ ?_ ?_
  all_goals simp[e0,e1,e5,e6,s0,hi,s1,s2]
def gp(l:List Pc):List Pc:=l.filter fun p=>!m4 p
def Ej(m:Mn)(hl:m.l.length<=1000000):ajl 122 [bh m] (.osl (.loc 0 0) (gp m.l).length) 58 6 ((gp m.l).map aW):=by
 have c1:=DX 2
 have c2:=Ed m.l (by simp only[LIM];omega)
 have c3:=Nb m.l hl
 unfold gp
 generalize m.l.filter (fun p=>!m4 p)=fl at*
 refine iN KM rfl ?_
 simp[Cu]
 refine jO (ts:=[int 2]) (F:=[]) c1 (fun _=>rfl) (by simp) (by simp) ?_
 simp
 repeat'(first|simp[*]|refine UN (F:=[]) c2 ?_ ?_|refine UR (S:=[.loc 7 0,.loc 3 0,.loc 4 0]) c3 ?_ ?_)
 refine gE (.loc 7 0) rfl ?_ ?_
 .simp
 .simp
def lU(l:List Pc):Int×Int:=match(gp l)[0]?,(gp l)[(gp l).length-1]? with
 |some a,some b=>(a.base,b.fin)
 |_,_=>(0,0)
def qb(m:Mn)(hl:m.l.length<=1000000):aji 48 [bh m] (.tup [.t (int (lU m.l).1),.t (int (lU m.l).2)]):=by
 have c1:=Ej m hl
 have UA:(gp m.l).length<=m.l.length:=aks _ _
 unfold lU
 generalize gp m.l=fl at*
 cases Y4:fl with
 |nil=>
  subst Y4
  refine pu BM rfl ?_
  simp[vJ]
  repeat'(first|simp[*]|refine UN (F:=[]) c1 ?_ ?_)
  all_goals exact kr rfl rfl
 |cons a l=>
  have h0:0<fl.length:=by rw[Y4];simp
  have Zc:fl[0]=a:=by simp[Y4]
  rw[<-Y4]
  obtain⟨b,hb⟩:∃b,fl[fl.length-1]'(by omega)=b:=⟨_,rfl⟩
  have h1:fl[0]?=some a:=by rw[ajq h0,Zc]
  have h2:fl[fl.length-1]?=some b:=by rw[ajq (by omega),hb]
  have hlt:fl.length-1<fl.length:=by omega
  simp only[h1,h2]
  have hw:IntKind.i64.wrap ((fl.length:Int)-1)=((fl.length-1:Nat):Int):=by rw[bx (by omega) (by omega)];omega
  have g0:(0:Int)<fl.length:=by omega
  clear Y4
  refine pu BM rfl ?_
  simp[vJ]
  repeat'(first|simp[*]|refine UN (F:=[]) c1 ?_ ?_)
  all_goals exact kr rfl rfl
section
variable{P:Program}
def sY{f:FuncId}(hc:jG P f)(xs:List Value)(d:DV)(h:∀(w:World),oX w (fun _=>False)->Calls P f xs.toArray w fun e w'=>∃y,e= .returned y/\(∀(Z:Nm->Place) (U:Nm->Bool) (M:Nat->Prop),ah Z U w' M y d)/\Below w.heap.size w w'):ao P f (xs.map .v) d:=by
 refine⟨hc,fun c Z w vs hw hs hl hv=>?_⟩
 have hl:vs.length=((xs.map ab.v).map DV.t).length:=hl
 have hvs:vs=xs:=by
  refine List.ext_getElem (by simpa using hl) fun i h1 h2=>?_
  have:=hv i vs[i] (.t (.v xs[i])) (ajq h1) (by
   show((xs.map ab.v).map DV.t)[i]?=_
   rw[ajw,ajw,ajq h2];rfl)
  exact this.v_inv.1
 subst hvs
 refine(h w (hs.layW fun b _ _=>⟨rfl,fun h=>h⟩)).mono fun e w' he=>?_
 obtain⟨y,rfl,hy,hb⟩:=he
 refine⟨y,rfl,Z,⟨fun _=> .junk,fun _=>none,fun _=>false⟩,by funext s;cases s<;>simp[Ct.out,aU],⟨?_,?_,?_,?_,?_,hs.m0,fun s r hr=>(by cases hr),fun s s' r r' hr=>(by cases hr),fun s _ hu=>(by cases hu),hs.gl⟩,hy _ _ _⟩
 .rw[hw];exact hb.size
 .rw[hw];exact hb.os
 .rw[hw];exact hb.tape
 .rw[hw];exact hb.output
 .intro b hlt _
  rw[hw]at hlt⊢
  exact hb.block b hlt
end
def xc{w:World}{M:Nat->Prop}(hL:oX w M){g:Nat}{Q:Array Value->Prop}(hq:(g,Q)∈i3){n:String}(hn:Tryz.prog.globalNamed n=some g):∃cs,w.var? Tryz.prog n=some cs/\Q cs:=by
 obtain⟨cs,e,fr,h1,h2,_⟩:=hL _ hq
 refine⟨cs,?_,h2⟩
 unfold World.var?
 simp only[hn,ake]
 have h1:w.heap[g]?=some (.cells cs e fr):=h1
 rw[h1]
def Nc{w:World}{M:Nat->Prop}(hL:oX w M):Lib.TabIs Tryz.prog w "internal/strconv.uint64pow10" .u64 Lib.pow10Tab:=by
 obtain⟨cs,h1,h2⟩:=xc hL (g:=4) (Q:=fun cs:Array Value=>cs.toList=(List.range 20).map fun i=> .int .u64 (10^i:Nat)) (by simp[i3,l9]) (n:= "internal/strconv.uint64pow10") (by kernel_rfl)
 unfold Lib.TabIs
 rw[h1]
 congr 1
 apply akh
 rw[h2,Lib.pow10Tab,aj8]
 rfl
def oA(n:Int):ByteArray:=⟨(Lib.itoa n).toArray⟩
def Nd(n:Int)(h0: -9223372036854775808<=n)(h1:n<=9223372036854775807):aji 96 [int n] (.t (str (oA n))):=by
 refine sY ⟨_,_,Tryz.func96,by kernel_rfl,rfl⟩ [.int .i64 n] _ fun w hL=>?_
 refine(Tryz.strconv_Itoa n h0 h1 w (Nc hL)).mono ?_
 rintro e w' ⟨rfl,k,os,rfl⟩
 exact⟨_,rfl,fun _ _ _=> .t (.v rfl),Lib.below_grow _ w (ajz _) k os⟩
def jo(s:ByteArray):Int:=match Lib.atoiAll s.data.toList with
 | .ok v=>v
 | .range=>Lib.atoiSat s.data.toList
 |_=>0
def sZ(s:ByteArray):Bool:=match Lib.atoiAll s.data.toList with
 | .ok _=>true
 |_=>false
def Nf(s:ByteArray)(hs:s.size<=281474976710656):aji 169 [str s] (.tup [.t (int (jo s)),if sZ s=true then .t (.v .nilIface)else .er]):=by
 refine sY ⟨_,_,Tryz.func169,by kernel_rfl,rfl⟩ [.string s] _ fun w hL=>?_
 have tup2:∀(v:Int) (x:Value) (d:DV),(∀(Z:Nm->Place) (U:Nm->Bool) (w':World) (M:Nat->Prop),ah Z U w' M x d)->∀(Z:Nm->Place) (U:Nm->Bool) (w':World) (M:Nat->Prop),ah Z U w' M (.tuple #[.int .i64 v,x]) (.tup [.t (int v),d]):=by
  intro v x d hx Z U w' M
  refine ah.tup (vs:=[.int .i64 v,x]) rfl fun i y z hy hz=>?_
  match i with
  |0=>simp at hy hz;subst hy hz;exact .t (.v rfl)
  |1=>simp at hy hz;subst hy hz;exact hx _ _ _ _
  |i+2=>simp at hy
 unfold jo sZ
 cases ha:Lib.atoiAll s.data.toList with
 |ok x=>
  refine(Tryz.strconv_Atoi_ok s (by omega) x ha w).mono ?_
  rintro e w' ⟨rfl,hw⟩
  refine⟨_,rfl,fun Z U M=>tup2 x _ _ (fun _ _ _ _=> .t (.v rfl)) Z U w' M,?_⟩
  rcases hw with rfl|⟨t,rfl⟩
  .exact Below.refl _ _
  .exact Lib.bytesWorld_below _ _ _
 |range=>
  obtain⟨cs,h1,tp,p,rfl⟩:=xc hL (g:=2) (Q:=fun cs=>∃tp p,cs=#[.iface tp p]) (by simp[i3,l9]) (n:= "strconv.ErrRange") (by kernel_rfl)
  refine(Tryz.strconv_Atoi_range_var s hs ha tp p w h1).mono ?_
  rintro e w' ⟨N,rfl,_,_,hb⟩
  exact⟨_,rfl,fun Z U M=>tup2 _ _ _ (fun _ _ _ _=> .er) Z U w' M,hb⟩
 |_=>
  obtain⟨cs,h1,tp,p,rfl⟩:=xc hL (g:=1) (Q:=fun cs=>∃tp p,cs=#[.iface tp p]) (by simp[i3,l9]) (n:= "strconv.ErrSyntax") (by kernel_rfl)
  have C:Calls Tryz.prog 169 #[.string s] w fun e w'=>∃N,e= .returned (.tuple #[.int .i64 0,.iface 300 (.pointer (some ⟨N,0,none⟩))])/\w.heap.size<=N/\w'.heap[N]?=some (.cells #[.string ⟨#[65,116,111,105]⟩,.string s,.iface tp p] 326 (0,0))/\Below w.heap.size w w':=Any.strconv_Atoi_syntax_var Tryz.laysC172 s hs ha tp p w h1
  refine C.mono ?_
  rintro e w' ⟨N,rfl,_,_,hb⟩
  exact⟨_,rfl,fun Z U M=>tup2 _ _ _ (fun _ _ _ _=> .er) Z U w' M,hb⟩
def gQ(s p:ByteArray):ByteArray:=⟨(Lib.trimPrefix s.data.toList p.data.toList).toArray⟩
def lV(s p:ByteArray):Bool:=Lib.hasPrefix s.data.toList p.data.toList
def Ng(s p:ByteArray):aji 168 [str s,str p] (.tup [.t (str (gQ s p)),.t (bo (lV s p))]):=by
 refine sY ⟨_,_,Tryz.func168,by kernel_rfl,rfl⟩ [.string s,.string p] _ fun w hL=>?_
 refine(Tryz.strings_CutPrefix s p w).mono ?_
 rintro e w' ⟨rfl,rfl⟩
 refine⟨_,rfl,fun Z U M=>?_,Below.refl _ _⟩
 refine ah.tup (vs:=[_,_]) rfl fun i y z hy hz=>?_
 match i with
 |0=>simp at hy hz;subst hy hz;exact .t (.v rfl)
 |1=>simp at hy hz;subst hy hz;exact .t (.v rfl)
 |i+2=>simp at hy
def Nh(s p:ByteArray):aji 166 [str s,str p] (.t (bo (lV s p))):=by
 refine sY ⟨_,_,Tryz.func166,by kernel_rfl,rfl⟩ [.string s,.string p] _ fun w hL=>?_
 refine(Tryz.strings_HasPrefix s p w).mono ?_
 rintro e w' ⟨rfl,rfl⟩
 exact⟨_,rfl,fun _ _ _=> .t (.v rfl),Below.refl _ _⟩
abbrev bl(s:ByteArray):List UInt8:=s.data.toList
def m5(l:List UInt8):ByteArray:=⟨l.toArray⟩
def Ni(s:ByteArray):m5 (bl s)=s:=by
 obtain⟨a⟩:=s
 rfl
def Nj(s:ByteArray):encStr (bl s)= .string s:=by
 show Value.string (m5 (bl s))=_
 rw[Ni]
def Ek{w:World}{M:Nat->Prop}{b cap:Nat}{cs:List Value}{l:List ByteArray}(h:jR w M 9 1 b cap cs (l.map str)):Sort.Holds encStr w b 0 (l.map bl).toArray:=by
 intro j hj
 have hj:j<l.length:=by simpa using hj
 obtain⟨_,v,h2,h3⟩:=h.hR.2 j (str l[j]) 0 (str l[j]) (by simp[hj]) rfl
 refine⟨?_,?_⟩
 .rw[gb h.hg]
  have h2:cs[j*1+0]?=some v:=h2
  rw[show 0+j=j*1+0 by omega,h2]
  cases h3
  have:((l.map bl).toArray)[j]! =bl l[j]:=by
   rw[getElem!_pos _ _ (by simpa using hj)]
   simp
  rw[this,Nj]
 .simp[World.frozen?,h.hg]
def Em{w w':World}{M M':Nat->Prop}{b cap:Nat}{cs:List Value}{l:List ByteArray}{l':List (List UInt8)}{q:Nat}{os:Array Obj}(h:jR w M 9 1 b cap cs (l.map str))(Tk:l'.length=l.length){k:Nat}(hk:k<=l'.length)(hw:w'=Sort.grow (Sort.putRow encStr (Sort.ahead w q) b 0 l'.toArray) os):
  w.heap.size<=w'.heap.size/\w'.os=w.os/\w'.tape=w.tape/\w'.output=w.output/\(∀b',b'<w.heap.size->b'≠b->w'.heap[b']?=w.heap[b']?)/\∃cs':List Value,w'.heap[b]?=some (.cells cs'.toArray 9 (0,0))/\cs'.length=cap*1/\aV w M' 1 cs' ((l'.take k).map fun x=>str (m5 x)):=by
 subst hw
 have hlt:b<w.heap.size:=(ajy.1 h.hg).1
 have hsz:(Sort.putRow encStr (Sort.ahead w q) b 0 l'.toArray).heap.size=w.heap.size:=by simp[Sort.ahead]
 have TP:∀b',b'<w.heap.size->(Sort.grow (Sort.putRow encStr (Sort.ahead w q) b 0 l'.toArray) os).heap[b']?=(Sort.putRow encStr (Sort.ahead w q) b 0 l'.toArray).heap[b']?:=by
  intro b' TR
  show((Sort.putRow encStr (Sort.ahead w q) b 0 l'.toArray).heap++os)[b']?=_
  rw[Array.getElem?_append_left (by rw[hsz];exact TR)]
 have hblk:(Sort.putRow encStr (Sort.ahead w q) b 0 l'.toArray).heap[b]?=some (.cells (Sort.putCells encStr 0 l'.toArray cs.toArray) 9 (0,0)):=by
  have hg:(Sort.ahead w q).heap[b]?=some (.cells cs.toArray 9 (0,0)):=h.hg
  unfold Sort.putRow Sort.mapBlock
  simp only[Array.getElem?_modify,if_true,hg,akq,Sort.onCells]
 refine⟨?_,rfl,rfl,rfl,fun b' TR TW=>?_,(Sort.putCells encStr 0 l'.toArray cs.toArray).toList,?_,?_,?_,?_⟩
 .show w.heap.size<=((Sort.putRow encStr (Sort.ahead w q) b 0 l'.toArray).heap++os).size
  rw[Array.size_append,hsz]
  omega
 .rw[TP b' TR]
  unfold Sort.putRow Sort.mapBlock
  simp only[Array.getElem?_modify,if_neg (Ne.symm TW)]
  rfl
 .rw[TP b hlt,hblk]
 .simp[Sort.putCells,h.hcs]
 .intro t ht
  obtain⟨x,_,rfl⟩:=ajI.1 ht
  rfl
 .intro i t j cc hi hj
  simp only[ajw,ajt]at hi
  obtain⟨x,hx,rfl⟩:=hi
  rw[ajN]at hx
  split at hx
  .rename_i hik
   cases j with
   |succ j=>simp[ab.cells]at hj
   |zero=>
    simp only[ab.cells,List.getElem?_cons_zero,ajr]at hj
    subst hj
    have TC:i<l'.length:=(ajs.1 hx).1
    have hic:i<cs.length:=by have:=h.hl;rw[h.hcs];simp at this;omega
    refine⟨rfl,.string (m5 x),?_,.v rfl⟩
    rw[Array.getElem?_toList]
    simp only[Sort.putCells,Array.getElem?_mapIdx]
    rw[show i*1+0=i by omega,List.getElem?_toArray,ajq hic]
    simp only[akq,Nat.zero_le,true_and,ajX,List.size_toArray,TC,if_true,Nat.sub_zero]
    have:l'.toArray[i]! =x:=by
     rw[getElem!_pos _ _ (by simpa using TC)]
     exact(ajs.1 hx).2
    rw[this]
    rfl
  .cases hx
def gR(l:List ByteArray):List ByteArray:=((l.map bl).mergeSort fun x y=>decide (x<=y)).map m5
def jp(l:List ByteArray):List ByteArray:=(Lib.compact (l.map bl)).map m5
def Nk(l:List ByteArray)(hl:l.length<=1000000):ajk 171 (ff [] (.tup []) 9 1 (l.map str) ((gR l).map str)):=by
 refine Lh ⟨_,_,Tryz.func171,by kernel_rfl,rfl⟩ (by decide) (fun h0=>?_) fun Z U w M Vc W6 hv=>?_
 .have:l=[]:=by simpa using h0
  subst this
  simp[gR]
 have:Vc=[]:=ajO W6
 subst this
 have hun:∀(Z:Nm->Place) (U:Nm->Bool) (w:World) (M:Nat->Prop),ah Z U w M (.tuple #[]) (.tup []):=fun Z U w M=>ah.tup (vs:=[]) rfl fun i v d h=>by simp at h
 refine⟨fun ad Uy=>?_,fun b cap cs h=>?_⟩
 .refine(Tryz.slices_Sort_string_none ad 0 w).mono ?_
  rintro e' w' ⟨rfl,rfl⟩
  exact⟨_,rfl,hun,Below.refl _ _⟩
 .have Tk:(l.map str).length=(l.map bl).length:=by simp
  rw[Tk]
  refine(Tryz.slices_Sort_string b 0 cap (l.map bl) w (Ek h) (ajy.1 h.hg).1 (by simp;omega)).mono ?_
  rintro e' w' ⟨rfl,n,os,hw⟩
  refine⟨_,rfl,hun,?_⟩
  have Tj:((l.map bl).mergeSort fun x y=>decide (x<=y)).length=l.length:=by rw[List.length_mergeSort,ajJ]
  obtain⟨q1,q2,q3,q4,q5,cs',q6,q7,q8⟩:=Em (M':=M) (k:=l.length) h Tj (by omega) hw
  refine⟨q1,q2,q3,q4,q5,cs',q6,q7,?_,?_⟩
  .have:=h.hl
   simp[gR,Tj]at this⊢
   omega
  .rw[aju (by omega)]at q8
   simpa[gR,aky]using q8
def Nl:aji 171 [.e0] (.tup []):=by
 refine⟨⟨_,_,Tryz.func171,by kernel_rfl,rfl⟩,fun c Z w vs hw hs hl hv=>?_⟩
 obtain⟨v,rfl⟩:∃v,vs=[v]:=by
  match vs,hl with
  |[v],_=>exact⟨v,rfl⟩
 obtain⟨ad,rfl⟩:=(hv 0 v _ rfl rfl).e0_inv
 refine(Tryz.slices_Sort_string_none ad 0 w).mono ?_
 rintro e' w' ⟨rfl,rfl⟩
 exact⟨_,rfl,Z,_,by funext s;cases s<;>simp[Ct.env],hs,ah.tup (vs:=[]) rfl fun i v d h=>by simp at h⟩
def Nn:aji 172 [.e0] (.t .e0):=by
 refine⟨⟨_,_,Tryz.func172,by kernel_rfl,rfl⟩,fun c Z w vs hw hs hl hv=>?_⟩
 obtain⟨v,rfl⟩:∃v,vs=[v]:=by
  match vs,hl with
  |[v],_=>exact⟨v,rfl⟩
 obtain⟨ad,rfl⟩:=(hv 0 v _ rfl rfl).e0_inv
 refine(Tryz.slices_Compact_string_empty ad 0 w).mono ?_
 rintro e' w' ⟨rfl,rfl⟩
 exact⟨_,rfl,Z,_,by funext s;cases s<;>simp[Ct.env],hs,.t .e0⟩
def No(l:List (List UInt8)):(Lib.compact l).length<=l.length:=by
 unfold Lib.compact Lib.compactUpTo
 rw[ajJ]
 exact akf (aks _ _) (by simp)
def Np(l:List ByteArray)(hl:l.length<=1000000):ajk 172 (dM [] 9 1 (l.map str) ((jp l).map str)):=by
 refine pL ⟨_,_,Tryz.func172,by kernel_rfl,rfl⟩ (by decide) fun Z U w M Vc W6 hv=>?_
 have:Vc=[]:=ajO W6
 subst this
 refine⟨fun ad Uy=>?_,fun b cap cs h=>?_⟩
 .have:l=[]:=by simpa using Uy
  subst this
  refine(Tryz.slices_Compact_string_empty ad 0 w).mono ?_
  rintro e' w' ⟨rfl,rfl⟩
  exact⟨_,rfl,ajz _,rfl,rfl,rfl,fun _ _ _=>rfl,.inl ⟨ad,rfl,rfl⟩⟩
 .have Tk:(l.map str).length=(l.map bl).length:=by simp
  have TA:=No (l.map bl)
  have hhl:=h.hl
  rw[Tk]at hhl⊢
  refine(Tryz.slices_Compact_string b 0 cap (l.map bl) w (Ek h) (by simp;omega) hhl).mono ?_
  rintro e' w' ⟨rfl,q,hw⟩
  refine⟨_,rfl,?_⟩
  have Tj:(Lib.compact (l.map bl)++List.replicate ((l.map bl).length-(Lib.compact (l.map bl)).length) []).length=l.length:=by
   rw[ajB,List.length_replicate]
   simp at TA⊢
   omega
  obtain⟨q1,q2,q3,q4,q5,cs',q6,q7,q8⟩:=Em (M':=M) (k:=(Lib.compact (l.map bl)).length) (os:=#[]) h Tj (by rw[Tj];simpa using TA) (hw.trans (Sort.grow_empty _).symm)
  rw[List.take_left' rfl]at q8
  have hcb:(jp l).map str=(Lib.compact (l.map bl)).map fun x=>str (m5 x):=by simp[jp,aky]
  have adw:((jp l).map str).length=(Lib.compact (l.map bl)).length:=by rw[hcb,ajJ]
  refine⟨q1,q2,q3,q4,fun b' TR TW=>q5 b' TR (fun he=>TW (by rw[he])),.inr ⟨b,cap,cs',by rw[adw],h.h0,q6,q7,by rw[adw];omega,h.hcap,by rw[hcb];exact q8,.inl rfl⟩⟩
end
end Go.Wt
