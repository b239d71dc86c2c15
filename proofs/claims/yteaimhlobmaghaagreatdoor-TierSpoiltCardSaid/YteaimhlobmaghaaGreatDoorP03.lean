/- A part of the proof of a tier statement (the last text closes it): lemmas without condition. -/
import Derived.Test.YteaimhlobmaghaaGreatDoorP02
set_option linter.all false
set_option maxRecDepth 10000000
set_option maxHeartbeats 0
namespace Go.Wt
section
open Go.RowKit
variable{P:Program}{c:aA}{Z:Nm->Place}{E:aa}{a:Act}{w:World}{dst:Option Nat}{ty:TypeId}{pos:String}{after:Array Edge}{g:Option (Nat×Bool)}{r:aq}
def ud{t:TypeId}{n:Nat}(h:bm P t=some n):∃i d,P.info? t=some i/\i.size=n/\P.underlying t=some d:=by
 unfold bm at h
 split at h
 .rename_i hu
  obtain⟨d,hd⟩:=akb.1 hu
  cases hi:P.info? t with
  |none=>simp[hi]at h
  |some i=>simp[hi]at h;exact⟨i,d,rfl,h,hd⟩
 .simp at h
def ga{t:TypeId}{n:Nat}(h:bm P t=some n)(w:World):(sizeOf t).run P w= .ok n w:=by
 obtain⟨i,d,h1,h2,_⟩:=ud h
 simp[sizeOf,typeInfo,h1,h2]
def ue{t:TypeId}{n:Nat}(h:bm P t=some n)(w:World):(isAgg t).run P w= .ok (bI P t) w:=by
 obtain⟨i,d,_,_,h3⟩:=ud h
 simp only[isAgg,bI,h3,ajH,ajD h3,ajF]
 cases d<;>rfl
def Gi(vs:List Value)(off n:Nat):vs.toArray.extract off (off+n)=((vs.drop off).take n).toArray:=by
 apply akh
 simp[List.extract_eq_take_drop]
def xX{t:TypeId}{n:Nat}(h:bm P t=some n)(vs:List Value)(off:Nat){u:Value}(w:World)
  (hu:if bI P t=true then u= .agg ((vs.drop off).take n).toArray else vs[off]?=some u):(part t vs.toArray off).run P w= .ok u w:=by
 unfold part
 simp only[ajH,ue h,ajF]
 by_cases ha:bI P t=true
 .rw[if_pos ha]at hu
  simp only[ha,if_true,ajH,ga h,ajF,aj0,Gi,hu]
 .rw[if_neg ha]at hu
  simp[ha,hu]
def xY{t:TypeId}{f:Nat}{fd:Field}(h:nr P t f=some fd):∃fs,P.underlying t=some (.struct fs)/\fs[f]?=some fd:=by
 unfold nr at h
 split at h
 .rename_i fs VZ;exact⟨fs,VZ,h⟩
 .simp at h
def Gj{b:Bool}{x y:DV}{v:Value}{U:Nm->Bool}{M:Nat->Prop}(hm:ah Z U w M v (bif b then x else y)):ah Z U w M v (kS b x y):=by
 unfold kS
 split
 .cases b<;>simpa using hm
 .split
  .rename_i hk
   cases hk
   cases b<;>simpa using hm
  .exact hm
 .exact hm
def ah.flat_inv{U:Nm->Bool}{M:Nat->Prop}{v u:Value}{d:DV}(hv:ah Z U w M v d)(hd:d.flat?=some u):v=u:=by
 unfold DV.flat? at hd
 split at hd
 .simp at hd;rw[<-hd];exact hv.v_inv.1
 .rename_i l
  simp only[ajt]at hd
  obtain⟨us,h1,rfl⟩:=hd
  obtain⟨h2,h3⟩:=ec h1
  cases hv with
  |t hv=>
   cases hv with
   |agg hl ho hp=>
    rename_i vs
    congr 2
    refine List.ext_getElem (by omega) fun i h4 h5=>?_
    have h6:=h3 i l[i] us[i] (ajq (by omega)) (ajq h5)
    have h7:=hp i vs[i] l[i] (ajq h4) (ajq (by omega))
    generalize l[i]=x at h6 h7
    cases x<;>simp[ab.val1?]at h6
    rw[<-h6]
    exact(ah.t (Z:=Z) (U:=U) h7).v_inv.1
 .rename_i l
  simp only[ajt]at hd
  obtain⟨us,h1,rfl⟩:=hd
  obtain⟨h2,h3⟩:=ec h1
  cases hv with
  |agg hl ho hp=>
   rename_i vs
   congr 2
   refine List.ext_getElem (by omega) fun i h4 h5=>?_
   have h6:=h3 i l[i] us[i] (ajq (by omega)) (ajq h5)
   have h7:=hp i vs[i] l[i] (ajq h4) (ajq (by omega))
   generalize l[i]=x at h6 h7
   cases x with
   |t y=>
    cases y with
    |v z=>simp[DV.val?]at h6;rw[<-h6];exact h7.v_inv.1
    |_=>simp[DV.val?]at h6
   |_=>simp[DV.val?]at h6
 .simp at hd
section ops
variable(h:ai c Z E a w)(hd:dst.all (· <c.n)=true)
include h hd
def xZ{x:Operand}{op:Op}(UY:op= .move x\/op= .assign x)(hr:(al.mv x).den P E dst=some r):bc P c E a w ⟨dst,op,ty,pos,after,g⟩ r:=by
 simp only[al.den,val,ajr]at hr
 subst hr
 refine be h hd (v:=a.eval x) ?_ (h.ev x)
 rcases UY with rfl|rfl<;>rfl
def Gk{x:Operand}(hr:(al.nilc x).den P E dst=some r):bc P c E a w ⟨dst,.nilCheck x,ty,pos,after,g⟩ r:=by
 have hx:=h.ev x
 simp only[al.den]at hr
 split at hr
 .rename_i s k j he
  simp only[val,ajr]at hr
  subst hr
  rw[he]at hx
  obtain⟨hv,_⟩:=hx.ptr_inv
  exact be h hd (v:=a.eval x) (by simp[execOp,hv]) hx
 .rename_i y j he
  simp only[val,ajr]at hr
  subst hr
  rw[he]at hx
  generalize hv:a.eval x=v at hx
  cases hx with
  |tp u hM hb hu h1 h2=>exact be h hd (by simp[execOp,hv]) (.tp u hM hb hu h1 h2)
 .rename_i f l he
  simp only[val,ajr]at hr
  subst hr
  rw[he]at hx
  generalize hv:a.eval x=v at hx
  cases hx with
  |fn hl h2=>exact be h hd (by simp[execOp,hv]) (.fn hl h2)
 .rename_i f p l he
  simp only[val,ajr]at hr
  subst hr
  rw[he]at hx
  generalize hv:a.eval x=v at hx
  cases hx with
  |mfn Uy hl h1 h2=>exact be h hd (by simp[execOp,hv]) (.mfn Uy hl h1 h2)
 .rename_i he
  simp only[val,ajr]at hr
  subst hr
  rw[he]at hx
  generalize hv:a.eval x=v at hx
  cases hx with
  |yl hu=>exact be h hd (by simp[execOp,hv]) (.yl hu)
 .simp at hr
def x9{b cc:Bool}{d x:DV}{v:Value}{U:Nm->Bool}{M:Nat->Prop}(hx:d.arm b cc=some x)(hb:b=cc)(hv:ah Z U w M v d):ah Z U w M v x:=by
 have _:=h;have _:=hd
 unfold DV.arm at hx
 split at hx
 .split at hx
  .rename_i hc
   simp at hx
   subst hx
   cases hv with|wh hw=>exact hw (by rw[hc.1,hb,hc.2])
  .simp at hx
 .simp at hx;subst hx;exact hv
def Gl{p x y:Operand}(hr:(al.pick p x y).den P E dst=some r):bc P c E a w ⟨dst,.pick p x y,ty,pos,after,g⟩ r:=by
 have hp:=h.ev p
 have hx:=h.ev x
 have hy:=h.ev y
 simp only[al.den]at hr
 unfold qt at hr
 split at hr
 .rename_i b he
  rw[he]at hp
  obtain⟨hv,_⟩:=hp.v_inv
  split at hr
  .rename_i x' y' hx' hy'
   simp only[val,ajr]at hr
   subst hr
   refine be h hd (v:=if b=true then a.eval x else a.eval y) (by simp[execOp,hv,asBool]) ?_
   have acY:ah Z E.used w (ae c Z E.slots) (if b=true then a.eval x else a.eval y) (bif b then x' else y'):=by
    cases b with
    |true=>simpa using x9 h hd hx' rfl hx
    |false=>simpa using x9 h hd hy' rfl hy
   exact Gj acY
  .simp at hr
 .simp at hr
def uf{x:Option Value}{s:Sem Value}{op:Op}(hx:x=aQ P s)(hc:bU x=some r)(UY:∀w,(execOp a.eval ⟨dst,op,ty,pos,after,g⟩).run P w=(s.run P w).andThen fun v w'=> .ok (.value v) w'):bc P c E a w ⟨dst,op,ty,pos,after,g⟩ r:=by
 unfold bU at hc
 split at hc
 .rename_i v
  split at hc
  .rename_i hp
   simp only[val,ajr]at hc
   subst hc
   refine be h hd (v:=v) ?_ (.t (.v hp))
   rw[UY,oL hx.symm w];rfl
  .simp at hc
 .simp at hc
omit h hd in
def yb{t e:TypeId}(hu:P.underlying t=some (.pointer e))(ad:Addr)(w:World):(Op.equal t (.pointer (some ad)) (.pointer none)).run P w= .ok false w:=by
 have key:∀n,(Op.equalIn (n+1) t (.pointer (some ad)) (.pointer none)).run P w= .ok false w:=by
  intro n
  unfold Op.equalIn
  simp only[ajH,ajD hu,ajF]
  rfl
 exact key (Op.maxDepth-1)
omit h hd in
def yc{t e:TypeId}{i:TypeInfo}(hi:P.info? e=some i)(hu:P.underlying t=some (.pointer e))(ad:Addr)(w:World):(Op.equal t (.pointer (some ad)) (.pointer (some ad))).run P w= .ok true w:=by
 have key:∀n,(Op.equalIn (n+1) t (.pointer (some ad)) (.pointer (some ad))).run P w= .ok true w:=by
  intro n
  unfold Op.equalIn
  simp only[ajH,ajD hu,ajF]
  simp[sizeOf,typeInfo,hi,sameAddr]
 exact key (Op.maxDepth-1)
def ye{op:BinOp}{t yt:TypeId}{x y:Operand}{ad:Addr}(hp:qu P t=true)(hx:a.eval x= .pointer (some ad))(hy:a.eval y= .pointer none)(hr:((eI op).bind fun b=>val (.t (.v (.bool b))))=some r):
  bc P c E a w ⟨dst,.binOp op t x y yt,ty,pos,after,g⟩ r:=by
 have hu:∃e,P.underlying t=some (.pointer e):=by
  unfold qu at hp
  split at hp
  .rename_i e he;exact⟨e,he⟩
  .simp at hp
 obtain⟨e,hu⟩:=hu
 cases op<;>simp[eI,val]at hr
 .subst hr
  refine be h hd (v:= .bool false) ?_ (.t (.v rfl))
  have:=yb hu ad w
  simp only[execOp,hx,hy,eqGuard,binOp,ajH]
  have e:∀(b:Bool),(Sem.run P (if b=true then(pure ():Sem Unit)else pure ()) w)= .ok () w:=by intro b;cases b<;>rfl
  simp[e,this]
 .subst hr
  refine be h hd (v:= .bool true) ?_ (.t (.v rfl))
  have:=yb hu ad w
  simp only[execOp,hx,hy,eqGuard,binOp,ajH]
  have e:∀(b:Bool),(Sem.run P (if b=true then(pure ():Sem Unit)else pure ()) w)= .ok () w:=by intro b;cases b<;>rfl
  simp[e,this]
def Gm{op:BinOp}{t yt:TypeId}{x y:Operand}{ad:Addr}(hp:tN P t=true)(hx:a.eval x= .pointer (some ad))(hy:a.eval y= .pointer (some ad))(hr:((eI op).bind fun b=>val (.t (.v (.bool !b))))=some r):
  bc P c E a w ⟨dst,.binOp op t x y yt,ty,pos,after,g⟩ r:=by
 have hu:∃e i,P.underlying t=some (.pointer e)/\P.info? e=some i:=by
  unfold tN at hp
  split at hp
  .rename_i e he
   obtain⟨i,hi⟩:=akb.1 hp
   exact⟨e,i,he,hi⟩
  .simp at hp
 obtain⟨e,i,hu,hi⟩:=hu
 cases op<;>simp[eI,val]at hr
 .subst hr
  refine be h hd (v:= .bool true) ?_ (.t (.v rfl))
  have:=yc hi hu ad w
  simp only[execOp,hx,hy,eqGuard,binOp,ajH]
  have e:∀(b:Bool),(Sem.run P (if b=true then(pure ():Sem Unit)else pure ()) w)= .ok () w:=by intro b;cases b<;>rfl
  simp[e,this]
 .subst hr
  refine be h hd (v:= .bool false) ?_ (.t (.v rfl))
  have:=yc hi hu ad w
  simp only[execOp,hx,hy,eqGuard,binOp,ajH]
  have e:∀(b:Bool),(Sem.run P (if b=true then(pure ():Sem Unit)else pure ()) w)= .ok () w:=by intro b;cases b<;>rfl
  simp[e,this]
def Gn{op:BinOp}{t yt t0:TypeId}{x y:Operand}{u:Value}(hp:qv P t=true)(hx:a.eval x= .iface t0 u)(hy:a.eval y= .nilIface)(hr:((eI op).bind fun b=>val (.t (.v (.bool b))))=some r):
  bc P c E a w ⟨dst,.binOp op t x y yt,ty,pos,after,g⟩ r:=by
 have hu:∃ms,P.underlying t=some (.interface ms):=by
  unfold qv at hp
  split at hp
  .rename_i e he;exact⟨e,he⟩
  .simp at hp
 obtain⟨ms,hu⟩:=hu
 have Ti:(Op.equal t (.iface t0 u) .nilIface).run P w= .ok false w:=by
  have key:∀n,(Op.equalIn (n+1) t (.iface t0 u) .nilIface).run P w= .ok false w:=by
   intro n
   unfold Op.equalIn
   simp only[ajH,ajD hu,ajF]
   rfl
  exact key (Op.maxDepth-1)
 cases op<;>simp[eI,val]at hr
 .subst hr
  refine be h hd (v:= .bool false) ?_ (.t (.v rfl))
  simp only[execOp,hx,hy,eqGuard,binOp,ajH]
  have e:∀(b:Bool),(Sem.run P (if b=true then(pure ():Sem Unit)else pure ()) w)= .ok () w:=by intro b;cases b<;>rfl
  simp[e,Ti]
 .subst hr
  refine be h hd (v:= .bool true) ?_ (.t (.v rfl))
  simp only[execOp,hx,hy,eqGuard,binOp,ajH]
  have e:∀(b:Bool),(Sem.run P (if b=true then(pure ():Sem Unit)else pure ()) w)= .ok () w:=by intro b;cases b<;>rfl
  simp[e,Ti]
def Gq{op:BinOp}{t yt:TypeId}{x y:Operand}(hr:(al.bin op t x y).den P E dst=some r):bc P c E a w ⟨dst,.binOp op t x y yt,ty,pos,after,g⟩ r:=by
 have hx:=(h.ev x).asT
 have hy:=(h.ev y).asT
 simp only[al.den]at hr
 unfold aX dD at hr
 split at hr
 .rename_i u v hu hv
  rw[hu]at hx
  rw[hv]at hy
  refine uf h hd rfl hr fun w=>?_
  simp only[execOp,(hx.v_inv).1,(hy.v_inv).1,ajH]
  cases h1:(eqGuard op t x y u v).run P w<;>simp[Result.andThen]
 .rename_i l l' hu hv
  rw[hu]at hx
  rw[hv]at hy
  split at hr
  .rename_i u v Wn hfv
   refine uf h hd rfl hr fun w=>?_
   simp only[execOp,hx.flat_inv Wn,hy.flat_inv hfv,ajH]
   cases h1:(eqGuard op t x y u v).run P w<;>simp[Result.andThen]
  .simp at hr
 .rename_i s k j s' k' j' hu hv
  rw[hu]at hx
  rw[hv]at hy
  obtain⟨h1,_⟩:=hx.ptr_inv
  obtain⟨h2,_⟩:=hy.ptr_inv
  split at hr
  .rename_i hp
   obtain⟨rfl,rfl,rfl,hp⟩:=hp
   exact Gm h hd hp h1 h2 hr
  .simp at hr
 .rename_i s k j hu hv
  rw[hu]at hx
  rw[hv]at hy
  obtain⟨h1,_⟩:=hx.ptr_inv
  split at hr
  .rename_i hp
   exact ye h hd hp h1 hy.v_inv.1 hr
  .simp at hr
 .rename_i z j hu hv
  rw[hu]at hx
  rw[hv]at hy
  generalize hxv:a.eval x=xv at hx
  cases hx with
  |tp u hM hb hu h1 h2=>
   split at hr
   .rename_i hp
    exact ye h hd hp hxv hy.v_inv.1 hr
   .simp at hr
 .rename_i hu hv
  rw[hu]at hx
  rw[hv]at hy
  generalize hxv:a.eval x=xv at hx
  cases hx with
  |er=>
   split at hr
   .rename_i hp
    exact Gn h hd hp hxv hy.v_inv.1 hr
   .simp at hr
 .simp at hr
def Gr{op:UnOp}{t:TypeId}{x:Operand}(hr:(al.un op x).den P E dst=some r):bc P c E a w ⟨dst,.unOp op t x,ty,pos,after,g⟩ r:=by
 have hx:=h.ev x
 simp only[al.den]at hr
 unfold kg at hr
 split at hr
 .rename_i u hu
  rw[hu]at hx
  refine uf h hd rfl hr fun w=>?_
  simp only[execOp,(hx.v_inv).1,ajH]
  cases h1:(Op.unary op u).run P w<;>simp[Result.andThen]
 .simp at hr
def Gs{src d:TypeId}{k k0:IntKind}{x:Operand}(hs:P.underlying src=some (.int k0))(hk:P.underlying d=some (.int k))(hr:(al.conv k x).den P E dst=some r):bc P c E a w ⟨dst,.convert src d x,ty,pos,after,g⟩ r:=by
 have hx:=h.ev x
 simp only[al.den]at hr
 unfold qw at hr
 split at hr
 .rename_i k1 n hu
  simp only[val,ajr]at hr
  subst hr
  rw[hu]at hx
  refine be h hd (v:= .int k (k.wrap n)) ?_ (.t (.v rfl))
  simp[execOp,(hx.v_inv).1,convert,ajD hs,ajD hk,Conv.intToInt]
 .simp at hr
def Gt{t:TypeId}{f n:Nat}{fd:Field}{x:Operand}(hf:nr P t f=some fd)(hn:bm P fd.type=some n)(hr:(al.part x fd.offset n (bI P fd.type)).den P E dst=some r):
  bc P c E a w ⟨dst,.field t x f,ty,pos,after,g⟩ r:=by
 have hx:=h.ev x
 simp only[al.den]at hr
 split at hr
 .rename_i Vp
  obtain⟨y,hy,rfl⟩:=mn hr
  obtain⟨vs,hv,hl,h1,h2⟩:=hx.agg_inv Vp
  obtain⟨fs,VZ,hfd⟩:=xY hf
  have Ti:∀u,(if bI P fd.type=true then u= .agg ((vs.drop fd.offset).take n).toArray else vs[fd.offset]?=some u)->(execOp a.eval ⟨dst,.field t x f,ty,pos,after,g⟩).run P w= .ok (.value u) w:=by
   intro u hu
   simp[execOp,hv,Instr.field,ajD VZ,hfd,asAgg,xX hn vs fd.offset w hu]
  by_cases ha:bI P fd.type=true
  .rw[ha]at hy
   obtain⟨_,Tn⟩:=ub hl h1 h2 hy
   exact be h hd (Ti _ (by rw[if_pos ha])) Tn
  .have ha':bI P fd.type=false:=by simpa using ha
   rw[ha']at hy
   obtain⟨u,hu,Tn⟩:=uc hl h2 hy
   exact be h hd (Ti u (by rw[if_neg ha];exact hu)) Tn
 .simp at hr
def Gu{t e:TypeId}{len m:Nat}{x i:Operand}(ht:P.underlying t=some (.array len e))(hm:bm P e=some m)(hr:(al.aidx x i len m (bI P e)).den P E dst=some r):
  bc P c E a w ⟨dst,.index t x i,ty,pos,after,g⟩ r:=by
 have hx:=h.ev x
 have hi:=h.ev i
 simp only[al.den]at hr
 unfold qx at hr
 split at hr
 .rename_i k n TE
  rw[TE]at hi
  split at hr
  .rename_i hc
   obtain⟨Vg,Vo,Vp⟩:=hc
   obtain⟨y,hy,rfl⟩:=mn hr
   obtain⟨vs,hv,hl,h1,h2⟩:=hx.agg_inv Vp
   have Ti:∀u,(if bI P e=true then u= .agg ((vs.drop (n.toNat*m)).take m).toArray else vs[n.toNat*m]?=some u)->(execOp a.eval ⟨dst,.index t x i,ty,pos,after,g⟩).run P w= .ok (.value u) w:=by
    intro u hu
    simp[execOp,hv,(hi.v_inv).1,Instr.index,asIntOf,ajD ht,Vg,Vo,ga hm,xX hm vs _ w hu]
   by_cases ha:bI P e=true
   .rw[ha]at hy
    obtain⟨_,Tn⟩:=ub hl h1 h2 hy
    exact be h hd (Ti _ (by rw[if_pos ha])) Tn
   .have ha':bI P e=false:=by simpa using ha
    rw[ha']at hy
    obtain⟨u,hu,Tn⟩:=uc hl h2 hy
    exact be h hd (Ti u (by rw[if_neg ha];exact hu)) Tn
  .simp at hr
 .simp at hr
def Gv{t:TypeId}{x i:Operand}(ht:P.underlying t=some .string)(hr:(al.sidx x i).den P E dst=some r):
  bc P c E a w ⟨dst,.index t x i,ty,pos,after,g⟩ r:=by
 have hx:=h.ev x
 have hi:=h.ev i
 simp only[al.den]at hr
 unfold qy at hr
 split at hr
 .rename_i s k n hs TE
  rw[TE]at hi
  rw[hs]at hx
  split at hr
  .rename_i hn
   split at hr
   .rename_i b hb
    simp only[val,ajr]at hr
    subst hr
    refine be h hd (v:= .int .u8 b.toNat) ?_ (.t (.v rfl))
    simp only[execOp,(hx.v_inv).1,(hi.v_inv).1,Instr.index,asIntOf,ajH,aj0,ajF,ajD ht]
    simp[hn,hb]
   .simp at hr
  .simp at hr
 .simp at hr
def Gw{x:Operand}{i:Nat}(hr:(al.ext x i).den P E dst=some r):bc P c E a w ⟨dst,.extract x i,ty,pos,after,g⟩ r:=by
 have hx:=h.ev x
 simp only[al.den]at hr
 unfold qz at hr
 split at hr
 .rename_i l hl
  rw[hl]at hx
  obtain⟨y,hy,rfl⟩:=mn hr
  obtain⟨vs,hv,Tk,h2⟩:=hx.tup_inv
  have hlt:i<l.length:=(ajs.1 hy).1
  have hu:vs[i]?=some (vs[i]'(by omega)):=ajq (by omega)
  exact be h hd (v:=vs[i]'(by omega)) (by simp[execOp,hv,Instr.extract,hu]) (h2 i _ y hu hy)
 .simp at hr
end ops
end
section
open Go.RowKit
variable{P:Program}{c:aA}{Z:Nm->Place}{E:aa}{a:Act}{w:World}{dst:Option Nat}{ty:TypeId}{pos:String}{after:Array Edge}{g:Option (Nat×Bool)}{r:aq}
def i7(b o j:Nat):(⟨b,o,none⟩:Addr).add j=⟨b,o+j,none⟩:=by simp only[Addr.add];split<;>simp_all
section ops
variable(h:ai c Z E a w)(hd:dst.all (· <c.n)=true)
include h hd
def Gx{t:TypeId}{f n:Nat}{fd:Field}{x:Operand}(hf:nr P t f=some fd)(hn:bm P fd.type=some n)(h0:n≠0)(hr:(al.fld x fd.offset).den P E dst=some r):
  bc P c E a w ⟨dst,.fieldAddr t x f,ty,pos,after,g⟩ r:=by
 have hx:=h.ev x
 simp only[al.den]at hr
 obtain⟨fs,VZ,hfd⟩:=xY hf
 have Ti:∀b o,a.eval x= .pointer (some ⟨b,o,none⟩)->(execOp a.eval ⟨dst,.fieldAddr t x f,ty,pos,after,g⟩).run P w= .ok (.value (.pointer (some ⟨b,o+fd.offset,none⟩))) w:=by
  intro b o hv
  simp[execOp,hv,Instr.fieldAt,ajD VZ,hfd,Instr.sureAddr,fieldPlace,ga hn,h0,i7]
 unfold qA at hr
 split at hr
 .rename_i s k j he
  simp only[val,ajr]at hr
  subst hr
  rw[he]at hx
  obtain⟨hv,hU⟩:=hx.ptr_inv
  exact be h hd (Ti _ _ hv) (by rw[Nat.add_assoc];exact .ptr hU)
 .rename_i y j he
  simp only[val,ajr]at hr
  subst hr
  rw[he]at hx
  generalize hv:a.eval x=v at hx
  cases hx with
  |tp u hM hb hu h1 h2=>exact be h hd (Ti _ _ hv) (by rw[Nat.add_assoc];exact .tp u hM hb hu h1 h2)
 .simp at hr
def Gy{t e:TypeId}{len m:Nat}{x i:Operand}(ht:P.underlying t=some (.array len e))(hm:bm P e=some m)(hr:(al.aadr x i len m).den P E dst=some r):
  bc P c E a w ⟨dst,.indexAddr t x i,ty,pos,after,g⟩ r:=by
 have hx:=h.ev x
 have hi:=h.ev i
 simp only[al.den]at hr
 unfold qC at hr
 split at hr
 .rename_i s k j κ n hs TE
  rw[TE]at hi
  rw[hs]at hx
  split at hr
  .rename_i hc
   obtain⟨Vg,Vo⟩:=hc
   simp only[val,ajr]at hr
   subst hr
   obtain⟨hv,hU⟩:=hx.ptr_inv
   refine be h hd (v:= .pointer (some ⟨(Z s).blk,k*(Z s).m+j+n.toNat*m,none⟩)) ?_ (by rw[Nat.add_assoc];exact .ptr hU)
   simp[execOp,hv,(hi.v_inv).1,Instr.indexAt,asIntOf,ajD ht,Instr.sureAddr,Vg,Vo,ga hm,i7]
  .simp at hr
 .simp at hr
def Gz{t e:TypeId}{m:Nat}{x i:Operand}(ht:P.underlying t=some (.slice e))(hm:bm P e=some m)(h0:m≠0)(hr:(al.eadr x i m).den P E dst=some r):
  bc P c E a w ⟨dst,.indexAddr t x i,ty,pos,after,g⟩ r:=by
 have hx:=h.ev x
 have hi:=h.ev i
 simp only[al.den]at hr
 have Ti:∀b o len cap n κ,a.eval x= .slice (some ⟨b,o,none⟩) len cap->a.eval i= .int κ n->0<=n->n<len->
   (execOp a.eval ⟨dst,.indexAddr t x i,ty,pos,after,g⟩).run P w= .ok (.value (.pointer (some ⟨b,o+n.toNat*m,none⟩))) w:=by
  intro b o len cap n κ hv hn h1 h2
  simp[execOp,hv,hn,Instr.indexAt,asIntOf,ajD ht,h1,h2,ga hm,i7]
 unfold qB at hr
 split at hr
 .rename_i s n κ iv hs TE
  rw[TE]at hi
  rw[hs]at hx
  split at hr
  .rename_i e' m' l fz Tj
   split at hr
   .rename_i hc
    obtain⟨Vg,Vo,rfl,hc4⟩:=hc
    simp only[ajr]at hr
    subst hr
    obtain⟨ad,hv,hU,Ve,V2⟩:=hx.osl_inv
    have hcap:0<(Z s).cap:=by omega
    rw[V2 hcap]at hv
    obtain⟨_,hB,_⟩:=h.row s _ Tj
    rcases hB with⟨hB,_⟩|⟨cs,_,_,Vj,_⟩
    .omega
    have Tn:ah Z E.used w (ae c Z E.slots) (.pointer (some ⟨(Z s).blk,iv.toNat*(Z s).m+0,none⟩)) (.ptr s iv.toNat 0):= .ptr hU
    refine be h hd (v:= .pointer (some ⟨(Z s).blk,iv.toNat*(Z s).m+0,none⟩)) ?_ Tn
    rw[Ti _ _ _ _ _ _ hv (hi.v_inv).1 Vg Vo,Vj]
    simp
   .simp at hr
  .simp at hr
 .rename_i m' l κ iv hs TE
  rw[TE]at hi
  rw[hs]at hx
  split at hr
  .rename_i hc
   obtain⟨Vg,Vo,rfl⟩:=hc
   split at hr
   .rename_i y hy
    simp only[val,ajr]at hr
    subst hr
    generalize hv:a.eval x=v at hx
    cases hx with|t hx=>
    cases hx with
    |sl0 _=>simp at hy
    |sl u hM hb hn hcap Vu hu h1 h2=>
     refine be h hd (Ti _ _ _ _ _ _ hv (hi.v_inv).1 Vg Vo) ?_
     have:=ah.tp (Z:=Z) (U:=E.used) (w:=w) (M:=ae c Z E.slots) (x:=y) (j:=0) (u iv.toNat) hM hb (fun j cc Uw=>hu iv.toNat y j cc hy Uw) (fun j cc Uw=>h1 iv.toNat y j cc hy Uw) (fun j cc Uw=>h2 iv.toNat y j cc hy Uw)
     simpa using this
   .simp at hr
  .simp at hr
 .rename_i m' l κ iv hs TE
  rw[TE]at hi
  rw[hs]at hx
  split at hr
  .rename_i hc
   obtain⟨Vg,Vo,rfl⟩:=hc
   split at hr
   .rename_i y hy
    simp only[val,ajr]at hr
    subst hr
    obtain⟨ad,W8,Tn,_⟩:=hx.xs_inv
    generalize hv:a.eval x=v at Tn W8
    cases Tn with
    |sl0 _=>simp at hy
    |sl u hM hb hn hcap Vu hu h1 h2=>
     refine be h hd (Ti _ _ _ _ _ _ hv (hi.v_inv).1 Vg Vo) ?_
     have:=ah.tp (Z:=Z) (U:=E.used) (w:=w) (M:=ae c Z E.slots) (x:=y) (j:=0) (u iv.toNat) hM hb (fun j cc Uw=>hu iv.toNat y j cc hy Uw) (fun j cc Uw=>h1 iv.toNat y j cc hy Uw) (fun j cc Uw=>h2 iv.toNat y j cc hy Uw)
     simpa using this
   .simp at hr
  .simp at hr
 .rename_i m' l κ iv hs TE
  rw[TE]at hi
  rw[hs]at hx
  split at hr
  .rename_i hc
   obtain⟨Vg,Vo,rfl⟩:=hc
   split at hr
   .rename_i y hy
    simp only[val,ajr]at hr
    subst hr
    obtain⟨ad,W8,Tn,_⟩:=hx.ls_inv
    generalize hv:a.eval x=v at Tn W8
    cases Tn with
    |sl0 _=>simp at hy
    |sl u hM hb hn hcap Vu hu h1 h2=>
     refine be h hd (Ti _ _ _ _ _ _ hv (hi.v_inv).1 Vg Vo) ?_
     have:=ah.tp (Z:=Z) (U:=E.used) (w:=w) (M:=ae c Z E.slots) (x:=y) (j:=0) (u iv.toNat) hM hb (fun j cc Uw=>hu iv.toNat y j cc hy Uw) (fun j cc Uw=>h1 iv.toNat y j cc hy Uw) (fun j cc Uw=>h2 iv.toNat y j cc hy Uw)
     simpa using this
   .simp at hr
  .simp at hr
 .rename_i l κ iv hs TE
  rw[TE]at hi
  rw[hs]at hx
  split at hr
  .rename_i hc
   obtain⟨Vg,Vo,rfl⟩:=hc
   split at hr
   .rename_i y hy
    simp only[val,ajr]at hr
    subst hr
    generalize hv:a.eval x=v at hx
    cases hx with
    |lst u hM hb hn hcap hu h2=>
     refine be h hd (Ti _ _ _ _ _ _ hv (hi.v_inv).1 Vg Vo) ?_
     refine .ep hM hb ?_ (h2 _ _ hy)
     have:=hu _ _ hy
     simpa using this
   .simp at hr
  .simp at hr
 .simp at hr
def yf{t tt:TypeId}{d:TypeDesc}{str:Bool}{x:Operand}(ht:P.underlying t=some d)(hs:if str=true then d= .string else∃e,d= .slice e)(hr:(al.len str x).den P E dst=some r):
  bc P c E a w ⟨dst,.call {callee:= .builtin .len,args:=#[x],argTypes:=#[t]},tt,pos,after,g⟩ r:=by
 have hx:=h.ev x
 simp only[al.den]at hr
 have Tj:∀b n cap,str=false->a.eval x= .slice b n cap->(execOp a.eval ⟨dst,.call {callee:= .builtin .len,args:=#[x],argTypes:=#[t]},tt,pos,after,g⟩).run P w= .ok (.value (.int .i64 n)) w:=by
  intro b n cap hf hv
  rw[hf]at hs
  obtain⟨e,rfl⟩:=by simpa using hs
  simp[execOp,resolve,invoke,builtin,Builtin.len_,hv,ajD ht,goInt]
 unfold dLen at hr
 split at hr
 .rename_i s he
  simp only[val,ajr]at hr
  subst hr
  rw[he]at hx
  have hs:d= .string:=by simpa using hs
  subst hs
  refine be h hd (v:= .int .i64 s.size) ?_ (.t (.v rfl))
  simp[execOp,resolve,invoke,builtin,Builtin.len_,(hx.v_inv).1,ajD ht,goInt]
 .rename_i m l he
  simp only[val,ajr]at hr
  subst hr
  rw[he]at hx
  obtain⟨b,cap,hv,_⟩:=hx.sl_inv
  exact be h hd (Tj _ _ _ rfl hv) (.t (.v rfl))
 .rename_i he
  simp only[val,ajr]at hr
  subst hr
  rw[he]at hx
  obtain⟨b,hv⟩:=hx.e0_inv
  exact be h hd (Tj _ _ _ rfl hv) (.t (.v rfl))
 .rename_i s n he
  simp only[val,ajr]at hr
  subst hr
  rw[he]at hx
  obtain⟨ad,hv,_⟩:=hx.osl_inv
  exact be h hd (Tj _ _ _ rfl hv) (.t (.v rfl))
 .rename_i m l he
  simp only[val,ajr]at hr
  subst hr
  rw[he]at hx
  obtain⟨ad,hv,_⟩:=hx.xs_inv
  exact be h hd (Tj _ _ _ rfl hv) (.t (.v rfl))
 .rename_i m l he
  simp only[val,ajr]at hr
  subst hr
  rw[he]at hx
  obtain⟨ad,hv,_⟩:=hx.ls_inv
  exact be h hd (Tj _ _ _ rfl hv) (.t (.v rfl))
 .rename_i l he
  simp only[val,ajr]at hr
  subst hr
  rw[he]at hx
  generalize hv:a.eval x=v at hx
  cases hx with
  |lst u hM hb hn hc hu h2=>exact be h hd (Tj _ _ _ rfl hv) (.t (.v rfl))
 .simp at hr
def GA{t tt e:TypeId}{x:Operand}(ht:P.underlying t=some (.slice e))(hr:(al.cap x).den P E dst=some r):
  bc P c E a w ⟨dst,.call {callee:= .builtin .cap,args:=#[x],argTypes:=#[t]},tt,pos,after,g⟩ r:=by
 have hx:=h.ev x
 simp only[al.den]at hr
 unfold dCap at hr
 split at hr
 .rename_i he
  simp only[val,ajr]at hr
  subst hr
  rw[he]at hx
  obtain⟨b,hv⟩:=hx.e0_inv
  refine be h hd (v:= .int .i64 0) ?_ (.t (.v rfl))
  simp[execOp,resolve,invoke,builtin,Builtin.cap_,hv,ajD ht,goInt]
 .simp at hr
def GB{f:FuncId}{caps:Array Operand}(hr:(al.mkfn f caps.toList).den P E dst=some r):bc P c E a w ⟨dst,.makeFunc (.func f) #[] caps,ty,pos,after,g⟩ r:=by
 simp only[al.den,val,ajr]at hr
 subst hr
 have e:caps.map a.eval=(caps.toList.map a.eval).toArray:=by apply akh;simp
 refine be h hd (v:= .func (.func f) #[] (caps.toList.map a.eval).toArray) ?_ ?_
 .simp only[execOp,Instr.makeFunc,e];simp
 .refine .fn (by simp) fun i v d hv VO=>?_
  simp only[ajw,ajt]at hv VO
  obtain⟨o1,h1,rfl⟩:=hv
  obtain⟨o2,h2,rfl⟩:=VO
  rw[h1]at h2
  cases h2
  exact h.ev o1
def GC{t:TypeId}{d:TypeDesc}{x:Operand}(ht:P.underlying t=some d)(hi:∀m,d≠.interface m)(hr:(al.mkif t x).den P E dst=some r):bc P c E a w ⟨dst,.makeInterface t x,ty,pos,after,g⟩ r:=by
 have hx:=h.ev x
 simp only[al.den]at hr
 unfold qD at hr
 split at hr
 .rename_i v he
  split at hr
  .rename_i hp
   simp only[val,ajr]at hr
   subst hr
   rw[he]at hx
   refine be h hd (v:= .iface t v) ?_ (.t (.v (by simpa[b8]using hp)))
   simp only[execOp,Instr.makeInterface,(hx.v_inv).1,ajH,ajD ht,ajF]
   cases d<;>first|rfl|(exact absurd rfl (hi _))
  .simp at hr
 .simp at hr
def yg{mx:Bool}{x y:Operand}{ts:Array TypeId}{tt:TypeId}(hr:(al.mm mx x y).den P E dst=some r):
  bc P c E a w ⟨dst,.call {callee:= .builtin (if mx then .max else .min),args:=#[x,y],argTypes:=ts},tt,pos,after,g⟩ r:=by
 have hx:=h.ev x
 have hy:=h.ev y
 simp only[al.den]at hr
 unfold jx at hr
 split at hr
 .rename_i k u k' v hu hv
  simp only[val,ajr]at hr
  subst hr
  rw[hu]at hx
  rw[hv]at hy
  cases mx
  .refine be h hd (v:= .int k (if v<u then v else u)) ?_ (.t (.v rfl))
   simp[execOp,resolve,invoke,builtin,Builtin.min_,(hx.v_inv).1,(hy.v_inv).1,Builtin.min2]
  .refine be h hd (v:= .int k (if u<v then v else u)) ?_ (.t (.v rfl))
   simp[execOp,resolve,invoke,builtin,Builtin.max_,(hx.v_inv).1,(hy.v_inv).1,Builtin.max2]
 .simp at hr
end ops
end
section
open Go.RowKit
variable{P:Program}{c:aA}{Z:Nm->Place}{E:aa}{a:Act}{w:World}{dst:Option Nat}{ty:TypeId}{pos:String}{after:Array Edge}{g:Option (Nat×Bool)}{r:aq}
def mq{v:Value}:co v=v.oneCell':=by cases v<;>rfl
def GD{v:Value}(h:co v=true):v.cells=#[v]:=by cases v<;>first|rfl|simp[co]at h
def GE{t:TypeId}{n:Nat}(hn:bm P t=some n)(ha:bI P t=true)(b o:Nat)(vs:List Value)(hl:vs.length=n)(hc:∀i v,vs[i]?=some v->w.cell? ⟨b,o+i,none⟩=some v):
  (Instr.loadAt t (.pointer (some ⟨b,o,none⟩))).run P w= .ok (.agg vs.toArray) w:=by
 have XB:=run_loadCells_list (P:=P) w ⟨b,o,none⟩ vs (fun j v hv=>by rw[i7];exact hc j v hv)
 simp only[Instr.loadAt,Instr.sureAddr,loadVar,ajH,aj0,ajF,ue hn,ha,if_true,ga hn]
 rw[<-hl,XB]
 rfl
def uh{t:TypeId}{n:Nat}(hn:bm P t=some n)(ha:bI P t=false)(b o:Nat){v:Value}(hc:w.cell? ⟨b,o,none⟩=some v):
  (Instr.loadAt t (.pointer (some ⟨b,o,none⟩))).run P w= .ok v w:=by
 simp[Instr.loadAt,Instr.sureAddr,loadVar,ue hn,ha,load,Sem.run,hc]
def gb{b o:Nat}{cs:List Value}{e:TypeId}{fr:Nat×Nat}(hg:w.heap[b]?=some (.cells cs.toArray e fr)):w.cell? ⟨b,o,none⟩=cs[o]?:=by
 simp[World.cell?,hg]
def nz{U:Nm->Bool}{M:Nat->Prop}{t:TypeId}{n:Nat}(hn:bm P t=some n)(b o:Nat)(vs:List Value)(hc:∀i v,vs[i]?=some v->w.cell? ⟨b,o+i,none⟩=some v)
  {d y:DV} {j:Nat} (hl:vs.length=d.cells.length) (h1:∀u∈vs,co u=true)
  (hp:∀(i:Nat) (u:Value) (x:DV),vs[i]?=some u->d.cells[i]?=some x->ah Z U w M u x) (hy:d.part j n (bI P t)=some y):
  ∃v,(Instr.loadAt t (.pointer (some ⟨b,o+j,none⟩))).run P w= .ok v w/\ah Z U w M v y:=by
 by_cases ha:bI P t=true
 .rw[ha]at hy
  obtain⟨TK,Tn⟩:=ub hl h1 hp hy
  refine⟨_,GE hn ha b (o+j) ((vs.drop j).take n) (by simp;omega) (fun i v hv=>?_),Tn⟩
  rw[ajN]at hv
  split at hv
  .rw[aka]at hv
   rw[Nat.add_assoc];exact hc _ _ hv
  .simp at hv
 .have ha':bI P t=false:=by simpa using ha
  rw[ha']at hy
  obtain⟨u,hu,Tn⟩:=uc hl hp hy
  exact⟨u,uh hn ha' b (o+j) (hc j u hu),Tn⟩
def yh{Z:Nm->Place}{U:Nm->Bool}{M:Nat->Prop}{pl:Place}{e:TypeId}{m:Nat}{l:List ab}{fz:Bool}(hB:eo Z U M w pl (.rows e m l fz)){k:Nat}{x:ab}(hk:l[k]?=some x):
  ∃vs:List Value,vs.length=x.cells.length/\(∀u∈vs,co u=true)/\(∀i v,vs[i]?=some v->w.cell? ⟨pl.blk,k*m+i,none⟩=some v)/\
   ∀(i:Nat) (u:Value) (y:DV),vs[i]?=some u->(DV.t x).cells[i]?=some y->ah Z U w M u y:=by
 rcases hB with⟨_,hB,_⟩|⟨cs,_,hg,_,_,hcs,XB,_,hm,hr⟩
 .rw[hB]at hk;simp at hk
 have hxm:x.cells.length=m:=hm x (ajx hk)
 have TA:(DV.t x).cells=x.cells.map .t:=by cases x<;>rfl
 have Ty:∀i u,((cs.drop (k*m)).take m)[i]?=some u->i<m/\cs[k*m+i]?=some u:=by
  intro i u hu
  rw[ajN]at hu
  split at hu
  .rename_i hi;rw[aka]at hu;exact⟨hi,hu⟩
  .simp at hu
 have Tn:∀(i:Nat) (u:Value),((cs.drop (k*m)).take m)[i]?=some u->∃cc,x.cells[i]?=some cc/\cc.one=true/\aM w M u cc:=by
  intro i u hu
  obtain⟨hi,hu⟩:=Ty i u hu
  have Uw:x.cells[i]?=some (x.cells[i]'(by omega)):=ajq (by omega)
  obtain⟨h1,v,hv,hR⟩:=hr k x i _ hk Uw
  rw[hu]at hv
  cases hv
  exact⟨_,Uw,h1,hR⟩
 have ac5:k<l.length:=(ajs.1 hk).1
 have VC:k*m+m<=cs.length:=by
  rw[hcs]
  calc k*m+m=(k+1)*m:=by rw[Nat.succ_mul]
   _<=pl.cap*m:=ajZ _ (by omega)
 refine⟨(cs.drop (k*m)).take m,by simp;omega,fun u hu=>?_,fun i v hv=>?_,fun i u y hu hy=>?_⟩
 .obtain⟨i,hi,rfl⟩:=ajL hu
  obtain⟨cc,_,h1,hR⟩:=Tn i _ (ajq hi)
  rw[hR.one];exact h1
 .rw[gb hg];exact(Ty i v hv).2
 .obtain⟨cc,Uw,h1,hR⟩:=Tn i u hu
  rw[TA,ajw,Uw]at hy
  simp at hy
  subst hy
  exact .t hR
section ops
variable(h:ai c Z E a w)(hd:dst.all (· <c.n)=true)
include h hd
def GF{t:TypeId}{n:Nat}{x:Operand}(hn:bm P t=some n)(hr:(al.load n (bI P t) x).den P E dst=some r):bc P c E a w ⟨dst,.load t x,ty,pos,after,g⟩ r:=by
 have hx:=h.ev x
 simp only[al.den]at hr
 have Tx:∀{b o:Nat} {v:Value} {y:DV} {rd:List Nm},a.eval x= .pointer (some ⟨b,o,none⟩)->(Instr.loadAt t (.pointer (some ⟨b,o,none⟩))).run P w= .ok v w->ah Z E.used w (ae c Z E.slots) v y->
   bc P c E a w ⟨dst,.load t x,ty,pos,after,g⟩ ⟨y,rd,[]⟩:=by
  intro b o v y rd hv Ti Tn
  exact be h hd (by simp[execOp,hv,Ti]) Tn
 unfold ma at hr
 split at hr
 .rename_i s k j he
  rw[he]at hx
  obtain⟨hv,hU⟩:=hx.ptr_inv
  split at hr
  .rename_i e d fz Tj
   split at hr
   .rename_i hk
    subst hk
    split at hr
    .rename_i y hy
     simp only[ajr]at hr
     subst hr
     obtain⟨_,⟨cs,hg,hl,h1,hp⟩,_⟩:=h.row s _ Tj
     obtain⟨v,Ti,Tn⟩:=nz (Z:=Z) (U:=E.used) (M:=ae c Z E.slots) hn (Z s).blk 0 cs (fun i v hv=>by rw[gb hg,ajX];exact hv) hl h1 hp hy
     simp only[Nat.zero_mul,ajX]at hv Ti
     exact Tx hv Ti Tn
    .simp at hr
   .simp at hr
  .rename_i e m l fz Tj
   split at hr
   .rename_i y0 hk
    split at hr
    .rename_i y hy
     simp only[ajr]at hr
     subst hr
     obtain⟨_,hB,_⟩:=h.row s _ Tj
     have Vj:(Z s).m=m:=by rcases hB with⟨_,_,Vj,_⟩|⟨cs,_,_,Vj,_⟩<;>exact Vj
     obtain⟨vs,hl,h1,hc,hp⟩:=yh hB hk
     have TA:(DV.t y0).cells.length=y0.cells.length:=by cases y0<;>simp[DV.cells,ab.cells]
     obtain⟨v,Ti,Tn⟩:=nz (Z:=Z) (U:=E.used) (M:=ae c Z E.slots) hn (Z s).blk (k*m) vs hc (by rw[TA];exact hl) h1 hp hy
     rw[Vj]at hv
     exact Tx hv Ti Tn
    .simp at hr
   .simp at hr
  .simp at hr
 .rename_i y0 j he
  rw[he]at hx
  obtain⟨y,hy,rfl⟩:=mn hr
  generalize hv:a.eval x=v at hx
  cases hx with
  |tp u hM hb hu h1 h2=>
   have TA:(DV.t y0).cells=y0.cells.map .t:=by cases y0<;>rfl
   have Ty:∀i v,((List.range y0.cells.length).map u)[i]?=some v->i<y0.cells.length/\v=u i:=by
    intro i v hv
    simp only[ajw,ajt]at hv
    obtain⟨i',h1,rfl⟩:=hv
    have:=ajs.1 h1
    obtain⟨h2,h3⟩:=this
    simp at h2 h3
    subst h3
    exact⟨h2,rfl⟩
   rename_i b o
   obtain⟨v,Ti,Tn⟩:=nz (Z:=Z) (U:=E.used) (M:=ae c Z E.slots) hn b o ((List.range y0.cells.length).map u) (fun i v hv=>by
     obtain⟨hi,rfl⟩:=Ty i v hv
     exact hu i _ (ajq hi)) (by rw[TA];simp) (fun v hv=>by
     obtain⟨i,hi,rfl⟩:=ajL hv
     obtain⟨TU,he⟩:=Ty i _ (ajq hi)
     rw[he,(h2 i _ (ajq TU)).one]
     exact h1 i _ (ajq TU)) (fun i v z hv hz=>by
     obtain⟨hi,rfl⟩:=Ty i v hv
     rw[TA,ajw,ajq hi]at hz
     simp at hz
     subst hz
     exact .t (h2 i _ (ajq hi))) hy
   exact Tx hv Ti Tn
 .rename_i d he
  rw[he]at hx
  split at hr
  .rename_i hc
   simp only[val,ajr]at hr
   subst hr
   generalize hv:a.eval x=v at hx
   cases hx with
   |ep hM hb hu h2=>exact Tx hv (uh hn hc.2 _ _ hu) h2
  .simp at hr
 .simp at hr
end ops
theorem ah.cells_inv{Z:Nm->Place}{U:Nm->Bool}{M:Nat->Prop}{v:Value}{d:DV}(h:ah Z U w M v d)(hd:d.ok1=true):
  v.cells.toList.length=d.cells.length/\(∀u∈v.cells.toList,co u=true)/\∀(i:Nat) (u:Value) (x:DV),v.cells.toList[i]?=some u->d.cells[i]?=some x->ah Z U w M u x:=by
 by_cases Vp:d.isAgg=true
 .obtain⟨vs,rfl,hl,h1,h2⟩:=h.agg_inv Vp
  exact⟨hl,h1,h2⟩
 .have T1:co v=true:=by
   cases d with
   |t x=>cases h with|t h=>rw[h.one];cases x<;>first|rfl|simp[DV.isAgg]at Vp
   |agg l=>simp[DV.isAgg]at Vp
   |_=>first|exact h.one (by simpa[DV.ok1]using hd)|simp[DV.ok1,DV.one]at hd
  have TA:d.cells=[d]:=by
   cases d with
   |t x=>cases x<;>first|rfl|simp[DV.isAgg]at Vp
   |agg l=>simp[DV.isAgg]at Vp
   |_=>rfl
  rw[GD T1,TA]
  refine⟨rfl,fun u hu=>?_,fun i u x hu hx=>?_⟩
  .simp at hu;subst hu;exact T1
  .cases i with
   |zero=>simp at hu hx;subst hu;subst hx;exact h
   |succ i=>simp at hu
def oY{α:Type}{l new:List α}{off:Nat}(h:off+new.length<=l.length):(ck l off new).length=l.length:=by
 simp[ck];omega
def nA{α:Type}{l new:List α}{off:Nat}(h:off+new.length<=l.length)(i:Nat):
  (ck l off new)[i]?=if off<=i/\i<off+new.length then new[i-off]? else l[i]?:=by
 unfold ck
 rw[aj1,akz]
 simp only[ajA]
 by_cases h1:i<off
 .rw[if_pos (by omega),if_neg (by omega),ajN,if_pos h1]
 .rw[if_neg (by omega),akz]
  have e:i-min off l.length=i-off:=by omega
  rw[e]
  by_cases h2:i<off+new.length
  .rw[if_pos (by omega),if_pos (by omega)]
  .rw[if_neg (by omega),if_neg (by omega),aka]
   congr 1
   omega
def ui{d y d':DV}{off:Nat}(hd:d.setPart off y=some d'):off+y.cells.length<=d.cells.length/\d'.cells=ck d.cells off y.cells:=by
 unfold DV.setPart at hd
 split at hd
 .rename_i TK
  refine⟨TK,?_⟩
  split at hd
  .rename_i h0
   simp at hd
   subst hd
   obtain⟨rfl,h1,_⟩:=h0
   simp[ck,h1]
  .split at hd
   .simp at hd
   .simp at hd
    subst hd
    rfl
 .simp at hd
def yi{Z:Nm->Place}{U:Nm->Bool}{M:Nat->Prop}{cs us:List Value}{ds es:List DV}{off:Nat}(TK:off+es.length<=ds.length)(hl:cs.length=ds.length)(Xa:us.length=es.length)
  (h1:∀(i:Nat) (u:Value) (x:DV),cs[i]?=some u->ds[i]?=some x->ah Z U w M u x) (h2:∀(i:Nat) (u:Value) (x:DV),us[i]?=some u->es[i]?=some x->ah Z U w M u x):
  (ck cs off us).length=(ck ds off es).length/\∀(i:Nat) (u:Value) (x:DV),(ck cs off us)[i]?=some u->(ck ds off es)[i]?=some x->ah Z U w M u x:=by
 refine⟨by rw[oY (by omega),oY TK];exact hl,fun i u x hu hx=>?_⟩
 rw[nA (by omega)]at hu
 rw[nA TK]at hx
 by_cases hc:off<=i/\i<off+es.length
 .rw[if_pos (by omega)]at hu
  rw[if_pos hc]at hx
  exact h2 _ _ _ hu hx
 .rw[if_neg (by omega)]at hu
  rw[if_neg hc]at hx
  exact h1 _ _ _ hu hx
def yj{α:Type}{l new:List α}{off:Nat}{x:α}(h:x∈ck l off new):x∈l\/x∈new:=by
 simp only[ck,ajG]at h
 rcases h with(h|h)|h
 .exact .inl (akm h)
 .exact .inr h
 .exact .inl (akn h)
def yk{t:TypeId}{n:Nat}(hn:bm P t=some n)(b o:Nat)(e:TypeId)(cs:List Value)(hg:w.heap[b]?=some (.cells cs.toArray e (0,0))){v:Value}(hv:v.cells.toList.length=n)
  (h1:∀u∈v.cells.toList,co u=true) (VC:o+n<=cs.length):
  (Instr.storeAt t (.pointer (some ⟨b,o,none⟩)) v).run P w= .ok () (w.setRow b (ck cs o v.cells.toList).toArray):=by
 have hs:=run_storeCells_at P b o e v.cells.toList 0 cs.toArray w hg (by simp at hv⊢;omega) (fun u hu=>by rw[<-mq];exact h1 u hu)
 simp only[Nat.add_zero]at hs
 have hsz:v.cells.size=n:=by simpa using hv
 simp only[Instr.storeAt,Instr.sureAddr,storeVar,ajH,aj0,ajF,ga hn,hsz,ne_eq,akB,ajS,hs]
 rfl
end
section
open Go.RowKit
variable{P:Program}{C:aD}{c:aA}
variable{Z:Nm->Place}{E:aa}{a:Act}{w:World}
def ah.t_inv{Z:Nm->Place}{U:Nm->Bool}{M:Nat->Prop}{v:Value}{x:ab}(h:ah Z U w M v (.t x)):aM w M v x:=by
 cases h with|t h=>exact h
def SimW.stable(h:SimW c Z E w){s:Nm}{e:TypeId}{m:Nat}{l:List ab}{fz:Bool}(Tj:E.slots s=some (.rows e m l fz)){M':Nat->Prop}(hM:∀b,M' b->ae c Z E.slots b)(hs:0<(Z s).cap->¬M' (Z s).blk){n:Nat}(hn:n<=l.length)(Xk:n<=(Z s).cap){ad:Option Addr}(V2:0<(Z s).cap->ad=some ⟨(Z s).blk,0,none⟩):
  aM w M' (.slice ad n (Z s).cap) (.sl m (l.take n)):=by
 obtain⟨_,hB,_⟩:=h.row s _ Tj
 rcases hB with⟨h1,h2,_⟩|⟨cs,h1,h2,h3,h4,h5,h6,h7,h8,h9⟩
 .have:n=0:=by omega
  subst this h2
  rw[h1]
  exact .sl0 (by simp[maxLen])
 .rw[V2 h1]
  have Tk:(l.take n).length=n:=by simp;omega
  have Ty:∀(k:Nat) (t:ab),(l.take n)[k]?=some t->l[k]?=some t:=by
   intro k t hk
   rw[ajN]at hk
   split at hk
   .exact hk
   .simp at hk
  have hlt:(Z s).blk<w.heap.size:=(ajy.1 h2).1
  have:aM w M' (.slice (some ⟨(Z s).blk,0,none⟩) (l.take n).length (Z s).cap) (.sl m (l.take n)):=by
   refine .sl (fun k j=>cs.getD (k*m+j) undef) (hs h1) hlt (by omega) h7 (fun t ht=>h8 t (akm ht)) (fun k t j cc hk hj=>?_) (fun k t j cc hk hj=>(h9 k t j cc (Ty k t hk) hj).1) (fun k t j cc hk hj=>?_)
   .obtain⟨_,v,UI,_⟩:=h9 k t j cc (Ty k t hk) hj
    rw[gb h2,ajX,UI]
    simp[List.getD,UI]
   .obtain⟨_,v,UI,bE⟩:=h9 k t j cc (Ty k t hk) hj
    simp only[List.getD,UI,Option.getD_some]
    exact bE.mono (ajz _) (fun b _ hb=>⟨rfl,fun TR=>hb (hM b TR)⟩)
  rw[Tk]at this
  exact this
def SimW.view1(h:SimW c Z E w){M':Nat->Prop}(hM:∀b,M' b->ae c Z E.slots b){v:Value}{d:DV}{x:ab}{rd:List Nm}(hv:ah Z E.used w (ae c Z E.slots) v d)(hx:E.view1 d=some (x,rd))(hs:∀s∈rd,0<(Z s).cap->¬M' (Z s).blk):
  aM w M' v x/\x.one=true:=by
 unfold aa.view1 at hx
 split at hx
 .simp only[ajr,ajV]at hx
  obtain⟨rfl,rfl⟩:=hx
  obtain⟨ad,_,Tn,_⟩:=hv.xs_inv
  exact⟨Tn.mono (ajz _) (fun b _ hb=>⟨rfl,fun TR=>hb (hM b TR)⟩),rfl⟩
 .simp only[ajr,ajV]at hx
  obtain⟨rfl,rfl⟩:=hx
  obtain⟨ad,_,Tn,_⟩:=hv.ls_inv
  exact⟨Tn.mono (ajz _) (fun b _ hb=>⟨rfl,fun TR=>hb (hM b TR)⟩),rfl⟩
 .split at hx
  .rename_i ho
   simp only[ajr,ajV]at hx
   obtain⟨rfl,rfl⟩:=hx
   exact⟨hv.t_inv.mono (ajz _) (fun b _ hb=>⟨rfl,fun TR=>hb (hM b TR)⟩),ho⟩
  .simp at hx
 .rename_i s n
  split at hx
  .rename_i e m l fz Tj
   split at hx
   .rename_i hn
    simp only[ajr,ajV]at hx
    obtain⟨rfl,rfl⟩:=hx
    obtain⟨ad,rfl,_,Xk,V2⟩:=hv.osl_inv
    exact⟨h.stable Tj hM (hs s ajK) hn Xk V2,rfl⟩
   .simp at hx
  .simp at hx
 .simp at hx
def SimW.view(h:SimW c Z E w){M':Nat->Prop}(hM:∀b,M' b->ae c Z E.slots b){v:Value}{d:DV}{x:ab}{rd:List Nm}(hv:ah Z E.used w (ae c Z E.slots) v d)(hx:E.view d=some (x,rd))(hs:∀s∈rd,0<(Z s).cap->¬M' (Z s).blk):
  aM w M' v x:=by
 cases d with
 |t y=>
  simp only[aa.view,ajr,ajV]at hx
  obtain⟨rfl,rfl⟩:=hx
  exact hv.t_inv.mono (ajz _) (fun b _ hb=>⟨rfl,fun TR=>hb (hM b TR)⟩)
 |agg l=>
  simp only[aa.view,ajt,ajV]at hx
  obtain⟨ps,h1,rfl,rfl⟩:=hx
  obtain⟨h2,h3⟩:=ec h1
  cases hv with
  |agg hl h4 h5=>
   rename_i vs
   have T1:∀(i:Nat) (v:Value) (t:ab),vs[i]?=some v->(ps.map (·.1))[i]?=some t->aM w M' v t/\t.one=true:=by
    intro i v t UC ht
    simp only[ajw,ajt]at ht
    obtain⟨p,hp,rfl⟩:=ht
    have TC:i<l.length:=by rw[h2];exact(ajs.1 hp).1
    have h6:=h3 i _ p (ajq TC) hp
    refine h.view1 hM (h5 i v _ UC (ajq TC)) (x:=p.1) (rd:=p.2) h6 (fun s TO=>hs s ?_)
    exact List.mem_flatMap.2 ⟨p,ajx hp,TO⟩
   refine .agg (by simp;omega) (fun t ht=>?_) (fun i v t UC ht=>(T1 i v t UC ht).1)
   obtain⟨i,hi,rfl⟩:=ajL ht
   have TU:i<vs.length:=by simp at hi;omega
   exact(T1 i _ _ (ajq TU) (ajq hi)).2
 |_=>simp only[aa.view]at hx;exact(h.view1 hM hv hx hs).1
end
section
open Go.RowKit
variable{P:Program}{C:aD}{c:aA}{Z:Nm->Place}{E:aa}{a:Act}{w:World}
def aa.ext'{E F:aa}(h1:E.tmps=F.tmps)(h2:E.slots=F.slots)(h3:E.used=F.used):E=F:=by cases E;cases F;simp_all
def SimW.frozen_nm(h:SimW c Z E w){s:Nm}{r:Row}(hs:E.slots s=some r)(hm:¬r.mut=true)(Tz:r.real (Z s)=true):¬ae c Z E.slots (Z s).blk:=by
 rintro(⟨h1,h2⟩|⟨s2,r2,h3,h4,h5,h6⟩)
 .rcases((h.row s r hs).2.2 Tz).2 with h3|h3
  .exact h2 h3
  .exact h3 h1
 .have:=h.inj s2 s r2 r h3 hs h4 h5 Tz h6
  subst this
  rw[h3]at hs
  cases hs
  exact hm h4
theorem jE(l1 l2:List (Nm×Option Row)):E.upd (l1++l2)=(E.upd l2).upd l1:=by
 have hl:∀s,(l1++l2).lookup s=match l1.lookup s with|some x=>some x|none=>l2.lookup s:=by
  intro s
  induction l1 with
  |nil=>rfl
  |cons p l1 ih=>
   obtain⟨u,x⟩:=p
   simp only[List.cons_append,List.lookup]
   split
   .rfl
   .exact ih
 refine aa.ext' rfl (funext fun s=>?_) (funext fun s=>?_)
 .rw[bM,bM,bM,hl]
  cases l1.lookup s<;>rfl
 .rw[bJ,bJ,bJ,hl]
  cases l1.lookup s<;>simp
def nB{d:DV}{x:ab}{rd:List Nm}(h:E.view1 d=some (x,rd)):∀s∈rd,∃e m l fz,E.slots s=some (.rows e m l fz):=by
 unfold aa.view1 at h
 split at h
 .simp at h
  obtain⟨_,rfl⟩:=h
  simp
 .simp at h
  obtain⟨_,rfl⟩:=h
  simp
 .split at h<;>simp at h
  obtain⟨_,rfl⟩:=h
  simp
 .split at h
  .rename_i e m l fz hs
   split at h<;>simp at h
   obtain⟨_,rfl⟩:=h
   intro s TO
   simp at TO
   subst TO
   exact⟨e,m,l,fz,hs⟩
  .simp at h
 .simp at h
def ia{d:DV}{x:ab}{rd:List Nm}(h:E.view d=some (x,rd)):∀s∈rd,∃e m l fz,E.slots s=some (.rows e m l fz):=by
 cases d with
 |t y=>
  simp only[aa.view,ajr,ajV]at h
  obtain⟨_,rfl⟩:=h
  simp
 |agg l=>
  simp only[aa.view,ajt,ajV]at h
  obtain⟨ps,h1,_,rfl⟩:=h
  obtain⟨h2,h3⟩:=ec h1
  intro s hs
  obtain⟨p,hp,hs⟩:=List.mem_flatMap.1 hs
  obtain⟨i,hi,rfl⟩:=ajL hp
  have TC:i<l.length:=by omega
  exact nB (h3 i _ ps[i] (ajq TC) (ajq hi)) s hs
 |_=>simp only[aa.view]at h;exact nB h
def dU(r:Row):r.frozen.mut=false:=by cases r<;>rfl
def ym(r:Row)(pl:Place):r.frozen.real pl=r.real pl:=by cases r<;>rfl
def GG{U:Nm->Bool}{M:Nat->Prop}{pl:Place}{r:Row}(h:eo Z U M w pl r):eo Z U M w pl r.frozen:=by
 cases r with
 |obj o fz=>cases o<;>exact h
 |_=>exact h
def fB(E:aa):∀(F:List Nm) (s:Nm),(am E F).lookup s=if s∈F then some ((E.slots s).map Row.frozen)else none
 |[],s=>by simp[am]
 |x::F,s=>by
  have ih:=fB E F s
  unfold am at ih⊢
  simp only[ajQ,List.lookup]
  by_cases hs:s=x
  .subst hs;simp
  .have hb:(s==x)=false:=by simpa using hs
   rw[hb]
   simp only[ih,akc,hs,false_or]
def eL{F:List Nm}{s:Nm}{r:Row}(h:(E.upd (am E F)).slots s=some r):∃r0,E.slots s=some r0/\(r=r0\/r=r0.frozen):=by
 rw[bM,fB]at h
 split at h
 .rename_i x hx
  split at hx
  .simp only[ajr]at hx
   subst hx
   rw[ajt]at h
   obtain⟨r0,h1,h2⟩:=h
   exact⟨r0,h1,.inr h2.symm⟩
  .simp at hx
 .exact⟨r,h,.inl rfl⟩
def ai.freeze(h:ai c Z E a w){F:List Nm}(hF:∀s∈F,E.used s=true):ai c Z (E.upd (am E F)) a w:=by
 have hm:∀(s:Nm) (r:Row),(E.upd (am E F)).slots s=some r->r.mut=true->E.slots s=some r:=by
  intro s r hr Us
  obtain⟨r0,h1,h2⟩:=eL hr
  rcases h2 with rfl|rfl
  .exact h1
  .rw[dU]at Us;simp at Us
 have hM:∀b,ae c Z (E.upd (am E F)).slots b->ae c Z E.slots b:=by
  rintro b (hb|⟨s,r,h1,h2,h3,h4⟩)
  .exact .inl hb
  .exact .inr ⟨s,r,hm s r h1 h2,h2,h3,h4⟩
 refine h.upd (ajz _) rfl rfl rfl (fun b _=> .inl rfl) (fun _ _=>rfl) ?_ ?_ (fun b _=>hM b) ?_
 .intro s r hl
  rw[fB]at hl
  split at hl
  .simp only[ajr,ajt]at hl
   obtain⟨r0,h1,rfl⟩:=hl
   obtain⟨h2,h3,h4⟩:=h.row s r0 h1
   refine⟨GG (h3.mono (ajz _) (fun b _ hb=>⟨rfl,fun TR=>hb (hM b TR)⟩) (fun s hu=>⟨by rw[bJ,hu,Bool.or_true],rfl⟩) (fun _=>rfl)),fun Tz=>⟨fun Us=>?_,?_⟩⟩
   .rw[dU]at Us;simp at Us
   .rw[ym]at Tz;exact(h4 Tz).2
  .simp at hl
 .intro s s' r r' h1 h2 Us hr1 hr2 he
  obtain⟨r0,h3,h4⟩:=eL h2
  have:r0.real (Z s')=true:=by
   rcases h4 with rfl|rfl
   .exact hr2
   .rw[ym]at hr2;exact hr2
  exact h.inj s s' r r0 (hm s r h1 Us) h3 Us hr1 this he
 .intro s _ hl
  rw[fB]at hl
  split at hl
  .rename_i hs;exact hF s hs
  .simp at hl
end
section
open Go.RowKit
variable{P:Program}{c:aA}{Z:Nm->Place}{E:aa}{a:Act}{w:World}{dst:Option Nat}{ty:TypeId}{pos:String}{after:Array Edge}{g:Option (Nat×Bool)}{r:aq}
def iC(d:Option Nat):(bg d).fixed=false:=by cases d<;>rfl
def yn{d:DV}{x:ab}(h:d.tree?=some x):d.cells=x.cells.map .t:=by
 cases d with
 |t y=>simp[DV.tree?]at h;subst h;cases y<;>rfl
 |agg l=>
  simp only[DV.tree?,ajt]at h
  obtain⟨ts,V9,rfl⟩:=h
  obtain⟨h1,h2⟩:=ec V9
  simp only[DV.cells,ab.cells]
  apply List.ext_getElem (by simp[h1])
  intro i hi TU
  have Ya:i<ts.length:=by simpa using TU
  have:=h2 i _ _ (ajq hi) (ajq Ya)
  simp only[List.getElem_map]
  generalize l[i]=z at this
  cases z<;>simp[DV.t1?]at this
  rw[this.2]
 |_=>simp[DV.tree?]at h
section ops
variable(h:ai c Z E a w)(hd:dst.all (· <c.n)=true)
include h hd
def yo{t:TypeId}{n:Nat}{x y:Operand}{E0:aa}{q:DV}(hx:ah Z E.used w (ae c Z E.slots) (a.eval x) (E0.ev x))(hy:ah Z E.used w (ae c Z E.slots) (a.eval y) q)(hn:bm P t=some n)(hr:fX E n (E0.ev x) q=some r):bc P c E a w ⟨dst,.store t x y,ty,pos,after,g⟩ r:=by
 unfold fX at hr
 split at hr
 .rename_i q _ _ s k j he
  rw[he]at hx
  obtain⟨hv,hU⟩:=hx.ptr_inv
  split at hr
  .rename_i hyn
   obtain⟨hyn,Uf⟩:=hyn
   obtain⟨XV,hu1,Zd⟩:=hy.cells_inv Uf
   split at hr
   .rename_i e d Tj
    split at hr
    .rename_i hk
     subst hk
     split at hr
     .rename_i d' VO
      simp only[ajr]at hr
      subst hr
      obtain⟨TK,TQ⟩:=ui VO
      obtain⟨_,⟨cs,hg,hl,h1,hp⟩,_⟩:=h.row s _ Tj
      have Ti:=yk (P:=P) hn (Z s).blk j e cs hg (XV.trans hyn) hu1 (by omega)
      simp only[Nat.zero_mul,ajX]at hv
      refine⟨undef,w.setRow (Z s).blk (ck cs j (a.eval y).cells.toList).toArray,.inr ⟨by simp[execOp,hv,Ti],rfl⟩,Z,?_⟩
      refine ai.put (h.set (w':=w.setRow (Z s).blk (ck cs j (a.eval y).cells.toList).toArray) Tj rfl rfl (by simp) rfl rfl rfl (fun b hb=>setRow_other w _ b _ hb) ?_) hd .junk
      intro M' US
      have ZD:=setRow_heap w (Z s).blk _ (ck cs j (a.eval y).cells.toList).toArray e _ hg
      have VL:∀v x,ah Z E.used w (ae c Z E.slots) v x->ah Z E.used (w.setRow (Z s).blk (ck cs j (a.eval y).cells.toList).toArray) M' v x:=fun v x hvx=>
       hvx.mono (by simp) (fun b hlt hM=>⟨setRow_other w _ b _ (fun e=>hM (.inr ⟨s,_,Tj,rfl,rfl,e.symm⟩)),US b hlt hM⟩) (fun _ hu=>⟨hu,rfl⟩)
      obtain⟨h3,h4⟩:=yi TK hl XV hp Zd
      refine⟨_,ZD,by rw[TQ];exact h3,fun v hv=>?_,fun i v z hv hz=>VL _ _ (h4 i v z hv (by rw[<-TQ];exact hz))⟩
      rcases yj hv with hv|hv
      .exact h1 v hv
      .exact hu1 v hv
     .simp at hr
    .simp at hr
   .rename_i e m l Tj
    split at hr
    .rename_i x0 hk
     split at hr
     .rename_i x' hx'
      simp only[ajr]at hr
      subst hr
      obtain⟨d',VO,ht'⟩:=ajv.1 hx'
      obtain⟨TK,TQ⟩:=ui VO
      have TA:(DV.t x0).cells=x0.cells.map .t:=by cases x0<;>rfl
      obtain⟨_,hB,_⟩:=h.row s _ Tj
      rcases hB with⟨_,hB,_⟩|⟨cs,ZJ,hg,Vj,VM,hcs,XB,hcap,hm,hR⟩
      .rw[hB]at hk;simp at hk
      have hxm:x0.cells.length=m:=hm x0 (ajx hk)
      have ac5:k<l.length:=(ajs.1 hk).1
      have VC:k*m+m<=cs.length:=by
       rw[hcs]
       calc k*m+m=(k+1)*m:=by rw[Nat.succ_mul]
        _<=(Z s).cap*m:=ajZ _ (by omega)
      rw[TA,ajJ,hxm]at TK
      rw[Vj]at hv
      have Ti:=yk (P:=P) hn (Z s).blk (k*m+j) e cs hg (XV.trans hyn) hu1 (by omega)
      refine⟨undef,w.setRow (Z s).blk (ck cs (k*m+j) (a.eval y).cells.toList).toArray,.inr ⟨by simp[execOp,hv,Ti],rfl⟩,Z,?_⟩
      refine ai.put (h.set (w':=w.setRow (Z s).blk (ck cs (k*m+j) (a.eval y).cells.toList).toArray) Tj rfl (by simpa[Row.real]using ZJ) (by simp) rfl rfl rfl (fun b hb=>setRow_other w _ b _ hb) ?_) hd .junk
      intro M' US
      have ZD:=setRow_heap w (Z s).blk _ (ck cs (k*m+j) (a.eval y).cells.toList).toArray e _ hg
      have VL:∀v x,aM w (ae c Z E.slots) v x->aM (w.setRow (Z s).blk (ck cs (k*m+j) (a.eval y).cells.toList).toArray) M' v x:=fun v x hvx=>
       hvx.mono (by simp) (fun b hlt hM=>⟨setRow_other w _ b _ (fun e=>hM (.inr ⟨s,_,Tj,rfl,by simpa[Row.real]using ZJ,e.symm⟩)),US b hlt hM⟩)
      have act:x'.cells.map DV.t=ck (x0.cells.map DV.t) j q.cells:=by rw[<-yn ht',TQ,TA]
      have acs:x'.cells.length=m:=by
       have:=congrArg List.length act
       rw[oY (by simp;omega)]at this
       simpa[hxm]using this
      have aaT:k*m+j+(a.eval y).cells.toList.length<=cs.length:=by omega
      refine .inr ⟨_,ZJ,ZD,Vj,VM,by rw[oY aaT];exact hcs,by simpa using XB,hcap,fun t ht=>?_,fun k' t j' cc Uz hj'=>?_⟩
      .rcases List.mem_or_eq_of_mem_set ht with ht|rfl
       .exact hm t ht
       .exact acs
      .rw[nA aaT]
       by_cases XD:k'=k
       .subst XD
        rw[List.getElem?_set_self ac5]at Uz
        simp at Uz
        subst Uz
        have afh:j'<m:=by rw[<-acs];exact(ajs.1 hj').1
        have hz:(x'.cells.map DV.t)[j']?=some (.t cc):=by simp[hj']
        rw[act,nA (by simp;omega)]at hz
        by_cases TE:j<=j'/\j'<j+q.cells.length
        .rw[if_pos TE]at hz
         rw[if_pos (by omega)]
         have e1:k'*m+j'-(k'*m+j)=j'-j:=by omega
         have hlt:j'-j<(a.eval y).cells.toList.length:=by omega
         rw[e1,ajq hlt]
         have Tn:=(Zd (j'-j) _ _ (ajq hlt) hz).t_inv
         refine⟨?_,_,rfl,VL _ _ Tn⟩
         rw[<-Tn.one];exact hu1 _ (akA hlt)
        .rw[if_neg TE]at hz
         rw[if_neg (by omega)]
         simp only[ajw,ajt]at hz
         obtain⟨cc',afA,hh⟩:=hz
         cases hh
         obtain⟨h5,v,h6,h7⟩:=hR k' x0 j' cc hk afA
         exact⟨h5,v,h6,VL _ _ h7⟩
       .rw[List.getElem?_set_ne (Ne.symm XD)]at Uz
        obtain⟨h5,v,h6,h7⟩:=hR k' t j' cc Uz hj'
        have afh:j'<m:=by rw[<-hm t (ajx Uz)];exact(ajs.1 hj').1
        refine⟨h5,v,?_,VL _ _ h7⟩
        rw[if_neg]
        .exact h6
        .intro hc
         rcases Nat.lt_or_ge k' k with hlt|hge
         .have:(k'+1)*m<=k*m:=ajZ _ hlt
          rw[Nat.succ_mul]at this
          omega
         .have:(k+1)*m<=k'*m:=ajZ _ (by omega)
          rw[Nat.succ_mul]at this
          omega
     .simp at hr
    .simp at hr
   .simp at hr
  .simp at hr
 .simp at hr
def GI{t:TypeId}{n:Nat}{x y:Operand}(hn:bm P t=some n)(hr:(al.store n x y).den P E dst=some r):bc P c E a w ⟨dst,.store t x y,ty,pos,after,g⟩ r:=by
 simp only[al.den]at hr
 unfold mb at hr
 split at hr
 .rename_i r0 h0
  simp only[ajr]at hr
  subst hr
  exact yo h hd (h.ev x) (h.ev y) hn h0
 .split at hr
  .rename_i tr ZY hv
   split at hr
   .rename_i r0 h0
    simp only[ajr]at hr
    subst hr
    have hF:∀s∈ZY,E.used s=true:=fun s hs=>by
     obtain⟨e,m,l,fz,Tj⟩:=ia hv s hs
     exact(h.row s _ Tj).1
    have h':=h.freeze hF
    have hM:∀b,ae c Z (E.upd (am E ZY)).slots b->ae c Z E.slots b:=by
     rintro b (hb|⟨s,r,h1,h2,h3,h4⟩)
     .exact .inl hb
     .obtain⟨r0,h5,h6⟩:=eL h1
      rcases h6 with rfl|rfl
      .exact .inr ⟨s,_,h5,h2,h3,h4⟩
      .rw[dU]at h2;simp at h2
    have VL:∀v d,ah Z E.used w (ae c Z E.slots) v d->ah Z (E.upd (am E ZY)).used w (ae c Z (E.upd (am E ZY)).slots) v d:=fun v d YH=>
     YH.mono (ajz _) (fun b _ hb=>⟨rfl,fun TR=>hb (hM b TR)⟩) (fun s hu=>⟨by rw[bJ,hu,Bool.or_true],rfl⟩)
    have hy:ah Z (E.upd (am E ZY)).used w (ae c Z (E.upd (am E ZY)).slots) (a.eval y) (.t tr):=by
     refine .t (h.toSimW.view hM (h.ev y) hv fun s hs hcap=>?_)
     obtain⟨e,m,l,fz,Tj⟩:=ia hv s hs
     have Wh:(E.upd (am E ZY)).slots s=some (.rows e m l true):=by
      rw[bM,fB,if_pos hs,Tj];rfl
     exact h'.toSimW.frozen_nm Wh (by simp[Row.mut]) (by simpa[Row.real]using hcap)
    obtain⟨v,w',Ti,Z',hs⟩:=yo (E0:=E) h' hd (VL _ _ (h.ev x)) hy hn h0
    refine⟨v,w',Ti,Z',?_⟩
    have:(aq.mk r0.d (ZY++r0.rd) (r0.ups++am E ZY)).apply dst E=r0.apply dst (E.upd (am E ZY)):=by
     unfold aq.apply
     rw[jE]
    rw[this]
    exact hs
   .simp at hr
  .simp at hr
def yp{e:TypeId}{v:Value}{d:DV}{op:Op}(Tn:ah Z E.used w (ae c Z E.slots) v d)(hr:mc E e (bg dst) d=some r)
  (Ti:(execOp a.eval ⟨dst,op,ty,pos,after,g⟩).run P w= .ok (.value (.pointer (some ⟨w.heap.size,0,none⟩))) (w.alloc (.cells v.cells e))):bc P c E a w ⟨dst,op,ty,pos,after,g⟩ r:=by
 unfold mc at hr
 split at hr
 .rename_i hf
  obtain⟨hf,Uf⟩:=hf
  simp only[ajr]at hr
  subst hr
  obtain⟨hl,h1,hp⟩:=Tn.cells_inv Uf
  have hu:E.used (bg dst)=false:=by simpa[aa.fresh]using hf
  have Ub:(w.alloc (.cells v.cells e)).heap[w.heap.size]?=some (.cells v.cells e):=heap_alloc_new w _
  have TP:∀b,b<w.heap.size->(w.alloc (.cells v.cells e)).heap[b]?=w.heap[b]?:=fun b hb=>ako w _ hb
  obtain⟨Z',h2,h3,h4⟩:=h.new (w':=w.alloc (.cells v.cells e)) (s:=bg dst) (r:= .box e d false) (pl:=⟨w.heap.size,0,0⟩) hu (iC dst) (by simp) rfl rfl rfl TP (fun _=>ajz _) (by
   intro Z' U' M' hU hM
   refine⟨v.cells.toList,by simpa using Ub,hl,h1,fun i u x hu hx=>?_⟩
   exact(hp i u x hu hx).mono (by simp) (fun b hlt hm=>⟨TP b hlt,hM b hlt hm⟩) hU)
  refine⟨_,_,.inl Ti,Z',h4.put hd ?_⟩
  have:=ah.ptr (Z:=Z') (U:=(E.upd [(bg dst,some (.box e d false))]).used) (w:=w.alloc (.cells v.cells e)) (M:=ae c Z' (E.upd [(bg dst,some (.box e d false))]).slots) (s:=bg dst) (k:=0) (j:=0) (by
   rw[bJ];simp[List.lookup])
  rw[h3]at this
  simpa using this
 .simp at hr
def GK{e:TypeId}{x:Operand}(hr:(al.box e x).den P E dst=some r):bc P c E a w ⟨dst,.box e x,ty,pos,after,g⟩ r:=by
 simp only[al.den]at hr
 exact yp h hd (h.ev x) hr (by simp[execOp,Instr.box,newVar,newRow,newObj,Sem.run])
def GL{e:TypeId}{z:ab}(hz:cu P e=some z)(hr:(al.alloc e z).den P E dst=some r):bc P c E a w ⟨dst,.alloc e,ty,pos,after,g⟩ r:=by
 simp only[al.den]at hr
 unfold cu at hz
 obtain⟨v,hv,hz⟩:=ajv.1 hz
 obtain⟨i,hi,hv⟩:=ajv.1 hv
 exact yp h hd (.t (mo hz)) hr (by simp[execOp,Instr.alloc,zeroValue,typeInfo,hi,hv,newVar,newRow,newObj,Sem.run])
end ops
end
section
open Go.RowKit
variable{P:Program}{c:aA}{Z:Nm->Place}{E:aa}{a:Act}{w:World}{dst:Option Nat}{ty:TypeId}{pos:String}{after:Array Edge}{g:Option (Nat×Bool)}{r:aq}
def km{s s' x:Nm}{r r':Option Row}:([(s,r),(s',r')]:List (Nm×Option Row)).lookup x=if x=s then some r else if x=s' then some r' else none:=by
 by_cases h:x=s
 .subst h;simp[List.lookup]
 .have hb:(x==s)=false:=by simpa using h
  by_cases h':x=s'
  .subst h';simp[List.lookup,hb,h]
  .have TR:(x==s')=false:=by simpa using h'
   simp[List.lookup,hb,TR,h,h']
def dV{s x:Nm}{r:Option Row}:([(s,r)]:List (Nm×Option Row)).lookup x=if x=s then some r else none:=by
 by_cases h:x=s
 .subst h;simp[List.lookup]
 .have hb:(x==s)=false:=by simpa using h
  simp[List.lookup,hb,h]
def ai.drop(h:ai c Z E a w){s:Nm}(hu:E.used s=true):ai c Z (E.upd [(s,none)]) a w:=by
 have Tj:∀x y,(E.upd [(s,none)]).slots x=some y->x≠s/\E.slots x=some y:=by
  intro x y hy
  rw[bM,dV]at hy
  by_cases hx:x=s
  .simp[hx]at hy
  .simp[hx]at hy;exact⟨hx,hy⟩
 refine h.upd (ajz _) rfl rfl rfl (fun _ _=> .inl rfl) (fun _ _=>rfl) ?_ ?_ ?_ ?_
 .intro x y WN
  rw[dV]at WN
  by_cases hx:x=s<;>simp[hx]at WN
 .intro x x' y y' h1 h2 hm hr1 hr2 he
  exact h.inj x x' y y' (Tj x y h1).2 (Tj x' y' h2).2 hm hr1 hr2 he
 .intro b _ hM
  rcases hM with hM|⟨x,y,h1,h2⟩
  .exact .inl hM
  .exact .inr ⟨x,y,(Tj x y h1).2,h2⟩
 .intro x _ hg
  rw[dV]at hg
  by_cases hx:x=s
  .rw[hx];exact hu
  .simp[hx]at hg
def ai.rename(h:ai c Z E a w){s s':Nm}{r:Row}(Wa:E.slots s=some r)(hu:E.used s'=false)(hg:s'.fixed=false):
  ∃Z',(∀x,E.used x=true->Z' x=Z x)/\Z' s'=Z s/\ai c Z' (E.upd [(s,none),(s',some r)]) a w:=by
 have VI:E.used s=true:=(h.row s r Wa).1
 have TW:s'≠s:=fun e=>by subst e;rw[hu]at VI;simp at VI
 let Z':Nm->Place:=fun x=>if x=s' then Z s else Z x
 have hZ:∀x,E.used x=true->Z' x=Z x:=by
  intro x hx
  have:x≠s':=fun e=>by subst e;rw[hu]at hx;simp at hx
  simp[Z',this]
 have hZs:Z' s'=Z s:=by simp[Z']
 have Tj:∀x y,(E.upd [(s,none),(s',some r)]).slots x=some y->∃x0,E.slots x0=some y/\Z' x=Z x0/\(x=s'/\x0=s\/x≠s'/\x≠s/\x0=x):=by
  intro x y hy
  rw[bM,km]at hy
  by_cases hx:x=s
  .simp[hx]at hy
  .by_cases hx':x=s'
   .subst hx'
    simp[TW]at hy
    subst hy
    exact⟨s,Wa,hZs,.inl ⟨rfl,rfl⟩⟩
   .simp[hx,hx']at hy
    exact⟨x,hy,hZ x (h.row x y hy).1,.inr ⟨hx',hx,rfl⟩⟩
 have VK:∀b,ae c Z' (E.upd [(s,none),(s',some r)]).slots b->ae c Z E.slots b:=by
  intro b hM
  rcases hM with hM|⟨x,y,h1,h2,h3,h4⟩
  .exact .inl hM
  .obtain⟨x0,h5,h6,_⟩:=Tj x y h1
   rw[h6]at h3 h4
   exact .inr ⟨x0,y,h5,h2,h3,h4⟩
 refine⟨Z',hZ,hZs,h.upd (ajz _) rfl rfl rfl (fun _ _=> .inl rfl) hZ ?_ ?_ (fun b _=>VK b) ?_⟩
 .intro x y WN
  rw[km]at WN
  by_cases hx:x=s
  .simp[hx]at WN
  .by_cases hx':x=s'
   .subst hx'
    simp[TW]at WN
    subst WN
    rw[hZs]
    obtain⟨_,h2,h3⟩:=h.row s r Wa
    exact⟨h2.mono (ajz _) (fun b _ hM=>⟨rfl,fun US=>hM (VK b US)⟩) (fun x hx=>⟨by rw[bJ,hx,Bool.or_true],hZ x hx⟩) (fun _=>rfl),h3⟩
   .simp[hx,hx']at WN
 .intro x x' y y' h1 h2 hm hr1 hr2 he
  obtain⟨x0,h3,h4,h5⟩:=Tj x y h1
  obtain⟨x0',h6,h7,h8⟩:=Tj x' y' h2
  rw[h4]at hr1 he
  rw[h7]at hr2 he
  have:=h.inj x0 x0' y y' h3 h6 hm hr1 hr2 he
  rcases h5 with⟨rfl,rfl⟩|⟨h5,h5',rfl⟩
  .rcases h8 with⟨rfl,rfl⟩|⟨h8,h8',rfl⟩
   .rfl
   .exact absurd this.symm h8'
  .rcases h8 with⟨rfl,rfl⟩|⟨h8,h8',rfl⟩
   .exact absurd this h5'
   .exact this
 .intro x hf Yb
  rw[km]at Yb
  by_cases hx:x=s
  .rw[hx];exact VI
  .by_cases hx':x=s'
   .rw[hx',hg]at hf;simp at hf
   .simp[hx,hx']at Yb
def fC(ad:Option Addr)(k:Nat)(Th:List Value):Sem Unit:=match ad with|some a=>storeCells (a.add k) Th|none=>pure ()
def uj(w:World)(t u ty e:TypeId)(i:TypeInfo)(z:Value)(du:TypeDesc)(ht:P.underlying t=some (.slice e))(hu:P.underlying u=some du)(hdu:∀k,du≠.int k)(hi:P.info? e=some i)(hz:i.zero=some z)
  (ad:Option Addr) (n cap:Nat) (x:Value) (m:Nat) (Tw Th:List Value) (hlo:Tw.length=n*i.size) (hl:Th.length=m*i.size)
  (Tk:∀w,(Builtin.lenOf x).run P w= .ok m w) (Ub:∀w2,w2.heap=w.heap->(Builtin.firstCells i.size m x).run P w2= .ok Th.toArray w2)
  (TP:∀w2,w2.heap=w.heap->(Builtin.firstCells i.size n (.slice ad n cap)).run P w2= .ok Tw.toArray w2)
  (TT:n+m<=cap->∃w',(fC ad (n*i.size) Th).run P w= .ok () w')
  (Z5:n+m<=maxLen) (Yf:(n+m)*i.bytes<=140737488355328):
  (n+m<=cap/\∃w',(fC ad (n*i.size) Th).run P w= .ok () w'/\(Builtin.append_ #[t,u] ty #[.slice ad n cap,x]).run P w= .ok (.slice ad (n+m) cap) w')\/
  (cap<n+m/\n+m<=grownCap w (n+m) cap e/\grownCap w (n+m) cap e<=maxLen/\(Builtin.append_ #[t,u] ty #[.slice ad n cap,x]).run P w= .ok (.slice (some ⟨w.heap.size,0,none⟩) (n+m) (grownCap w (n+m) cap e))
    (w.drew.alloc (.cells (Tw++Th++(Builtin.zeroCells z.cells (grownCap w (n+m) cap e-(n+m))).toList).toArray e))):=by
 have hz0:(match du with| .int _=>true|_=>false)=false:=by cases du<;>first|rfl|exact absurd rfl (hdu _)
 by_cases Tv:n+m<=cap
 .left
  obtain⟨w',V8⟩:=TT Tv
  refine⟨Tv,w',V8,?_⟩
  cases ad with
  |none=>
   simp only[fC,aj0,Result.ok.injEq,true_and]at V8
   subst V8
   simp[Builtin.append_,ajD ht,ajD hu,hz0,sizeOf,typeInfo,hi,Tk,Tv,Ub w rfl]
  |some ad=>
   simp only[fC]at V8
   simp[Builtin.append_,ajD ht,ajD hu,hz0,sizeOf,typeInfo,hi,Tk,Tv,Ub w rfl,V8]
 .right
  have aat:¬(9223372036854775807<((n:Int)+(m:Int))):=by simp only[maxLen]at Z5;omega
  have qb:=growslice_fits (need:=n+m) (old:=cap) (by omega) Yf
  have aau:¬(281474976710656<Builtin.nextslicecap (n+m) cap*i.bytes):=by omega
  refine⟨by omega,grownCap_ge w (n+m) cap e,grownCap_le_maxLen w (n+m) cap e Z5,?_⟩
  simp[Builtin.append_,ajD ht,ajD hu,hz0,sizeOf,typeInfo,zeroValue,hi,hz,Tk,Tv,aat,aau,Question.forced,Ub w.drew rfl,TP w.drew rfl,newRow,grownCap]
  congr 2
  apply akh
  simp[aj1]
end
end Go.Wt
