/- A part of the proof of a tier statement (the last text closes it): lemmas without condition. -/
import Derived.Test.YteaimhlobmaghaaGreatDoorP11
import Derived.ChangeSame
import Derived.Deep.Fields
import Derived.Deep.Slices
import Derived.ProofKit
import Derived.SevenTiedAt
import Derived.SizedLaws
import Derived.Test.YteaimhlobmaghaaGreatDoorRows
set_option linter.all false
set_option maxRecDepth 10000000
set_option maxHeartbeats 0
namespace Go.Wt
section
open Go.RowKit
variable{P:Program}{E:aa}
def mG(E:aa)(ρ:List (Nm×Nm)):List Nm->List Row->Prop
 |[],[]=>True
 |s::S,r::rs=>(∃r0,E.slots s=some r0/\r=r0.ren ρ)/\mG E ρ S rs
 |_,_=>False
def mH(E:aa)(F:List Nm)(ρ:List (Nm×Nm)):List DV->List DV->Prop
 |[],[]=>True
 |d::ds,d0::W0=>(d0=d.ren ρ\/∃x rd x',E.view d=some (x,rd)/\aE x x'/\d0= .t x'/\∀s∈rd,s∈F)/\mH E F ρ ds W0
 |_,_=>False
@[simp] theorem SR(ρ:List (Nm×Nm)):mG E ρ [] []=True:=rfl
@[simp] theorem SS(ρ:List (Nm×Nm))(s:Nm)(S:List Nm)(r:Row)(rs:List Row):mG E ρ (s::S) (r::rs)=((∃r0,E.slots s=some r0/\r=r0.ren ρ)/\mG E ρ S rs):=rfl
def zJ{ρ:List (Nm×Nm)}:∀{S:List Nm} {rs:List Row},mG E ρ S rs->rs.length=S.length/\∀(i:Nat) (s:Nm),S[i]?=some s->∃r,E.slots s=some r/\rs[i]?=some (r.ren ρ)
 |[],[],_=>⟨rfl,by simp⟩
 |[],_::_,h=>h.elim
 |_::_,[],h=>h.elim
 |s::S,r::rs,⟨⟨r0,h1,h2⟩,h⟩=>by
  obtain⟨h3,h4⟩:=zJ h
  refine⟨by simp[h3],fun i x hi=>?_⟩
  cases i with
  |zero=>simp at hi;subst hi;exact⟨r0,h1,by simp[h2]⟩
  |succ i=>exact h4 i x (by simpa using hi)
def zK{F:List Nm}{ρ:List (Nm×Nm)}:∀{ds W0:List DV},mH E F ρ ds W0->ds.length=W0.length/\∀(i:Nat) (d d0:DV),ds[i]?=some d->W0[i]?=some d0->d0=d.ren ρ\/∃x rd x',E.view d=some (x,rd)/\aE x x'/\d0= .t x'/\∀s∈rd,s∈F
 |[],[],_=>⟨rfl,by simp⟩
 |[],_::_,h=>h.elim
 |_::_,[],h=>h.elim
 |d::ds,d0::W0,⟨h1,h⟩=>by
  obtain⟨h3,h4⟩:=zK h
  refine⟨by simp[h3],fun i x y hx hy=>?_⟩
  cases i with
  |zero=>simp at hx hy;subst hx hy;exact h1
  |succ i=>exact h4 i x y (by simpa using hx) (by simpa using hy)
def gF{ds:List DV}{k:Ct}{S F:List Nm}(VU:k.gs=[])(nd:S.Nodup)(ng:S.all (fun s=>!s.isGlob&&!F.contains s&&s != .yl)=true)(hrw:mG E (aL S []) S k.rows)(su:∀s∈S,E.used s=true)(har:mH E F (aL S []) ds k.ds)(fu:∀s∈F,(E.slots s).isSome=true):cL E ds k S F:=by
 obtain⟨h1,h2⟩:=zJ hrw
 obtain⟨h3,h4⟩:=zK har
 simp only[ajR,ajT,Bool.not_eq_true',bne_iff_ne,ne_eq]at ng
 refine⟨nd,fun s hs=>⟨(ng s hs).1.1,fun hf=>?_⟩,fun s hs=>(ng s hs).2,by rw[VU];simp,by rw[VU];simp,by rw[VU];simp,h1,by rw[VU];exact h2,su,h3,by rw[VU];exact h4,fu⟩
 have:=(ng s hs).1.2
 rw[List.contains_iff_mem.2 hf]at this
 cases this
section
variable{q:Value->aa->Prop}{Q:Exit->aa->Prop}{kk:List Fr}{pr:List (Nat×Nat)}{ix:Nat}{Tq:List bG}{rest:List aT}{t:Option Nat}
def zL{f:FuncId}{ds:List DV}{k:Ct}{S F:List Nm}(h:ay P f k)(hm:cL E ds k S F)(hn:∀j,j<k.new.length->E.used (.loc (t.getD 0) j)=false)
  (hk:cx P (bj q) Q kk pr ix Tq t rest E none (some ⟨k.d.ren (dt S (t.getD 0) k.new.length),F++(S++k.gn),bB S (t.getD 0) k++am E F⟩)):cR P (bj q) Q kk pr ix Tq t rest E none f ds:=
 jK (E:=E) (g:=none) _ ⟨k,S,F,h,hm,.inr (.inl ⟨hn,rfl⟩)⟩ hk
def zM{α:Type}(q:Nm->Bool):∀(l:List (Nm×α)) (s:Nm),(l.filter fun p=>q p.1).lookup s=if q s=true then l.lookup s else none
 |[],s=>by simp
 |(a,b)::l,s=>by
  have ih:=zM q l s
  by_cases ha:q a=true
  .rw[List.filter_cons_of_pos (by simpa using ha),List.lookup_cons,List.lookup_cons,ih]
   by_cases hs:s=a
   .subst hs;simp[ha]
   .simp[beq_false_of_ne hs]
  .rw[List.filter_cons_of_neg (by simpa using ha),List.lookup_cons,ih]
   by_cases hs:s=a
   .subst hs;simp[ha]
   .simp[beq_false_of_ne hs]
def IJ{f:FuncId}{ds:List DV}{k:Ct}{S F keep:List Nm}(h:ay P f k)(hm:cL E ds k S F)(hn:∀j,j<k.new.length->E.used (.loc (t.getD 0) j)=false)
  (hkp:∀s∈keep,s∈F++S/\(bB S (t.getD 0) k++am E F).lookup s=some (E.slots s)/\E.used s=true)
  (hk:cx P (bj q) Q kk pr ix Tq t rest E none (some ⟨k.d.ren (dt S (t.getD 0) k.new.length),F++(S++k.gn),(bB S (t.getD 0) k++am E F).filter fun p=>!keep.contains p.1⟩)):cR P (bj q) Q kk pr ix Tq t rest E none f ds:=
 jK (E:=E) (g:=none) _ ⟨k,S,F,h,hm,.inr (.inr ⟨hn,_,rfl,fun s=>by
  rw[zM (fun s=>!keep.contains s)]
  by_cases hs:s∈keep
  .exact .inr ⟨by simp[hs],hkp s hs⟩
  .exact .inl (by simp[hs])⟩)⟩ hk
def IK{f:FuncId}{ds:List DV}{k:Ct}{u:Value}{S F:List Nm}(h:eZ P f k u)(hm:cL E ds k S F)(hn:k.new=[])(hq:q u (E.upd (bB S 0 k++am E F))):mi P (bj q) E f ds:=
 ⟨u,_,⟨k,S,F,h,hm,hn,rfl⟩,hq⟩
def IL{f:FuncId}{ts:List ab}{u:Value}(h:eZ P f ⟨[],ts.map .t,[],.junk,[],[]⟩ u)(hq:q u E):mi P (bj q) E f (ts.map .t):=by
 have:=rt E ts
 refine⟨u,_,⟨_,[],[],h,uI this,rfl,rfl⟩,?_⟩
 show q u _
 simpa[bB,am]using hq
end
def gi(ds:List DV)(rows:List Row):aa where
 tmps:=fun t=>ds.getD t .junk
 slots:=fun s=>match s with| .arg i=>rows[i]?|_=>none
 used:=fun s=>match s with| .arg i=>decide (i<rows.length)|_=>false
@[simp] theorem IM(ds:List DV)(rows:List Row)(i:Nat):(gi ds rows).slots (.arg i)=rows[i]?:=rfl
@[simp] theorem ST(ds:List DV)(rows:List Row)(a i:Nat):(gi ds rows).slots (.loc a i)=none:=rfl
@[simp] theorem zN(ds:List DV)(rows:List Row)(i:Nat):(gi ds rows).used (.arg i)=decide (i<rows.length):=rfl
@[simp] theorem SU(ds:List DV)(rows:List Row)(a i:Nat):(gi ds rows).used (.loc a i)=false:=rfl
@[simp] theorem SV(ds:List DV)(rows:List Row)(t:Nat):(gi ds rows).tmps t=ds.getD t .junk:=rfl
theorem pw{k:Ct}(VU:k.gs=[]):k.env=gi k.ds k.rows:=by
 refine aa.ext' rfl (funext fun s=>?_) (funext fun s=>?_)
 .cases s with
  |arg i=>
   show((k.rows.map some)[i]?).join=k.rows[i]?
   rw[ajw]
   cases k.rows[i]?<;>rfl
  |glob g=>show(k.gs.lookup g).map _=none;rw[VU];rfl
  |loc a j=>
   show(if a=0 then([]:List Row)[j]? else none)=none
   simp
  |_=>rfl
 .cases s with
  |glob g=>show(k.gs.lookup g).isSome=false;rw[VU];rfl
  |_=>rfl
def IN(hm:P.follows .mixedOrders=true){f:FuncId}{fn:dK}(hx:ak P f fn){k:Ct}(VU:k.gs=[])(hn:k.ds.length<=fn.nt)(hw:aY P bu (Fin fn.res (Ends k)) [.code fn.code] (gi k.ds k.rows)):ay P f k:=by
 rw[<-pw VU]at hw
 obtain⟨Fn,c,g1,g2,g3,g4,g6,g7⟩:=hx
 exact mC gD iI (fun _ _ _ h=>h) (fun _ _ _ h=>h) hm g1 g2 g3 g4 g6 k (by rw[<-g7];exact hn) hw
def IP(hm:P.follows .mixedOrders=true){f:FuncId}{fn:dK}(hx:ak P f fn){k:Ct}{u:Value}(VU:k.gs=[])(hn:k.ds.length<=fn.nt)(hw:aY P (bj (nO k u)) uR [.code fn.code] (gi k.ds k.rows)):eZ P f k u:=by
 rw[<-pw VU]at hw
 obtain⟨Fn,c,g1,g2,g3,g4,g6,g7⟩:=hx
 exact If hm g1 g2 g3 g4 k u (by rw[<-g7];exact hn) hw
theorem uZ{ρ:List (Nm×Nm)}{k:Ct}(h1:∀s∈ρ.map (·.2),(E.canon ρ).slots s=k.out s)(h2:∀i,i<k.rows'.length->Nm.arg i∈ρ.map (·.2))(h3:∀j,j<k.new.length->Nm.loc 0 j∈ρ.map (·.2)):(E.canon ρ).slots=k.out:=by
 funext s
 by_cases hs:s∈ρ.map (·.2)
 .exact h1 s hs
 .rw[(fA E ρ).2 s (by rw[Bool.eq_false_iff];intro h;exact hs (List.contains_iff_mem.1 h))]
  cases s with
  |arg i=>
   show none=(k.rows'[i]?).join
   by_cases hi:i<k.rows'.length
   .exact absurd (h2 i hi) hs
   .rw[aj2 (by omega)];rfl
  |loc a j=>
   show none=if a=0 then k.new[j]? else none
   by_cases ha:a=0
   .subst ha
    by_cases hj:j<k.new.length
    .exact absurd (h3 j hj) hs
    .rw[aj2 (by omega)];rfl
   .rw[if_neg ha]
  |_=>rfl
def px{k:Ct}{d:DV}(ρ:List (Nm×Nm))(hρ:bw ρ=true)(h1:∀s∈ρ.map (·.2),(E.canon ρ).slots s=k.out s)(h2:∀i,i<k.rows'.length->Nm.arg i∈ρ.map (·.2))(h3:∀j,j<k.new.length->Nm.loc 0 j∈ρ.map (·.2))(h4:bZ (E.outD ρ d) k.d):Ends k d E:= .inr (.inr ⟨ρ,hρ,uZ h1 h2 h3,h4⟩)
def py{k:Ct}{u:Value}(ρ:List (Nm×Nm))(hρ:bw ρ=true)(h1:∀s∈ρ.map (·.2),(E.canon ρ).slots s=k.out s)(h2:∀i,i<k.rows'.length->Nm.arg i∈ρ.map (·.2))(h3:∀j,j<k.new.length->Nm.loc 0 j∈ρ.map (·.2)):nO k u u E:=⟨rfl,ρ,hρ,uZ h1 h2 h3⟩
def kw:List ab->List ab->Prop
 |[],[]=>True
 |x::l,y::l'=>aE x y/\kw l l'
 |_,_=>False
def kw.spec:∀{l l':List ab},kw l l'->l.length=l'.length/\∀(i:Nat) (x y:ab),l[i]?=some x->l'[i]?=some y->aE x y
 |[],[],_=>⟨rfl,by simp⟩
 |[],_::_,h=>h.elim
 |_::_,[],h=>h.elim
 |x::l,y::l',⟨h1,h⟩=>by
  obtain⟨h3,h4⟩:=h.spec
  refine⟨by simp[h3],fun i a b ha hb=>?_⟩
  cases i with
  |zero=>simp at ha hb;subst ha hb;exact h1
  |succ i=>exact h4 i a b (by simpa using ha) (by simpa using hb)
def aE.aggL{l l':List ab}(h:kw l l'):aE (.agg l) (.agg l'):= .agg h.spec.1 h.spec.2
def aE.slL{m:Nat}{l l':List ab}(h:kw l l'):aE (.sl m l) (.sl m l'):= .sl h.spec.1 h.spec.2
def kw.refl:∀l:List ab,kw l l
 |[]=>trivial
 |_::l=>⟨.rfl,kw.refl l⟩
def nS{f:FuncId}{ts ts':List ab}{d:DV}(h:ao P f ts d)(TK:kw ts' ts):ao P f ts' d:=by
 refine⟨h.1,fun c Z w vs hw hs hl hv=>?_⟩
 obtain⟨h1,h2⟩:=TK.spec
 have hl:vs.length=(ts'.map DV.t).length:=hl
 refine(h.2 c Z w vs hw (hs.congr (funext fun s=>by cases s<;>rfl) (funext fun s=>by cases s<;>rfl)) (by show vs.length=(ts.map DV.t).length;rw[hl];simp[h1]) fun i v d UC Un=>?_).mono fun e w' h=>h
 have Un:(ts.map DV.t)[i]?=some d:=Un
 rw[ajw,ajt]at Un
 obtain⟨y,hy,rfl⟩:=Un
 have hi:=(ajs.1 hy).1
 have TU:i<ts'.length:=by omega
 have:=hv i v (.t ts'[i]) UC (by show(ts'.map DV.t)[i]?=_;rw[ajw,ajq TU];rfl)
 have hr:=this.t_inv.le (h2 i _ _ (ajq TU) hy)
 exact .t hr
def jP{ts:List ab}{d d':DV}(h:bZ (E.outD [] d') d):Ends (de ts d) d' E:= .inr (.inr ⟨[],rfl,by rw[rk,rl _ rfl rfl],h⟩)
def bZ.tup2{x x' y y':DV}(h1:bZ x x')(h2:bZ y y'):bZ (.tup [x,y]) (.tup [x',y']):= .tup (Eq.refl _) fun i a b ha hb=>by
 match i with
 |0=>simp at ha hb;subst ha hb;exact h1
 |1=>simp at ha hb;subst ha hb;exact h2
 |i+2=>simp at ha
def bZ.tup3{x x' y y' z z':DV}(h1:bZ x x')(h2:bZ y y')(h3:bZ z z'):bZ (.tup [x,y,z]) (.tup [x',y',z']):= .tup (Eq.refl _) fun i a b ha hb=>by
 match i with
 |0=>simp at ha hb;subst ha hb;exact h1
 |1=>simp at ha hb;subst ha hb;exact h2
 |2=>simp at ha hb;subst ha hb;exact h3
 |i+3=>simp at ha
end
section
open Go.RowKit Go.Proofs Go.Lib Go.Wm
variable{P:Program}{E:aa}
def IQ(hm:P.follows .mixedOrders=true){f:FuncId}{fn:dK}(hx:mE P f fn)(Ur:fn.res=[]){ts:List DV}{xs:List (List ab)}(hn:ts.length+1<=fn.nt)(hgh:fn.nt<=GH)(hw:aY P (kp (YL xs)) (uS xs.length) [.code fn.code] (i9 ts)):fD P f ts xs:=by
 obtain⟨Fn,c,g1,g2,g3,g5,g6,g7⟩:=hx
 rw[Ur]at g6
 exact Im hm g1 g2 g3 g5 g6 (by rw[<-g7];exact hn) (by rw[<-g7];exact hgh) hw
section
variable{yl:aa->List DV->(Bool->aa->Prop)->Prop}{Q:Exit->aa->Prop}{kk:List Fr}{pr:List (Nat×Nat)}{ix:Nat}{Tq:List bG}{dst:Option Nat}{rest:List aT}{t:Nat}
def u0{g:Option (Bool×Bool)}{f:FuncId}{ts:List ab}{d:DV}(h:ao P f ts d)(hd:d.ren []=d)(hk:cx P (kp yl) Q kk pr ix Tq dst rest E g (some ⟨d,[],[]⟩)):cR P (kp yl) Q kk pr ix Tq dst rest E g f (ts.map .t):=by
 have:=uJ (dst:=dst) (E:=E.und g) h (rt _ ts)
 rw[hd]at this
 exact jK (C:=kp yl) ⟨d,[],[]⟩ this hk
def rx{xs:List (List ab)}{ds:List DV}{K:Bool->aa->Prop}{i:Nat}{x:List ab}(rd:List Nm)(h1:E.tmps GH=cD (some i))(h2:xs[i]?=some x)(h3:E.views ds=some (x,rd))
  (h4:K true ((E.upd (am E rd)).put GH (cD (some (i+1))))) (h5:K false ((E.upd (am E rd)).put GH (cD none))):(kp (YL xs)).yl E ds K:=⟨i,x,rd,h1,h2,h3,h4,h5⟩
end
def gG{S F:List Nm}{d:Nat}{K:aa->Prop}{E3:aa}(k':Ct)(ρ:List (Nm×Nm))(hρ:bw ρ=true)(h1:∀s∈ρ.map (·.2),(E3.canon ρ).slots s=k'.out s)(h2:∀i,i<k'.rows'.length->Nm.arg i∈ρ.map (·.2))(h3:∀j,j<k'.new.length->Nm.loc 0 j∈ρ.map (·.2))
  (hd:∀j,j<k'.new.length->E.used (.loc d j)=false) (hK:K (E.upd (bB S d k'++am E F))):eb E S F d K E3:=⟨k',ρ,hρ,uZ h1 h2 h3,hd,hK⟩
def IR{q:Value->aa->Prop}{Q:Exit->aa->Prop}{kk:List Fr}{g:Operand}{ps:List Nat}{a b:ac}{f:FuncId}{caps ts:List DV}{F:List Nm}{xs:List (List ab)}(S:List Nm)(k:Ct)(d:Nat)(I:Nat->aa->Prop)
  (hit:fD P f ts xs) (hg:E.ev g= .fn f caps) (hv:E.viewps caps=some (ts,F)) (WS:∀x∈xs,x.length=ps.length) (VU:k.gs=[]) (hM:cL E [] k S F) (h0:I 0 (gi k.ds k.rows))
  (WP:∀(i:Nat) (x:List ab) (E1:aa),xs[i]?=some x->I i E1->iB k E1->
   aY P bu (fun e E2=>e= .normal/\aY P (bj fun v E3=>eb E S F d (q v) E3) (fun e E3=>match e with
      | .normal=>∃ρ,bw ρ=true/\iB k (E3.canon ρ)/\I (i+1) (E3.canon ρ)
      | .ret=>eb E S F d (jC P (bj q) Q kk) E3
      | .exit id=>eb E S F d (jB P (bj q) Q id kk) E3
      |_=>False) [.code b] E2) [.code a] (nv E S k ps x E1))
  (hend:∀E1,I xs.length E1->iB k E1->eb E S F d (aY P (bj q) Q kk) E1):tV P (bj q) Q kk g ps a b E:=by
 refine .inl ⟨f,caps,ts,F,xs,S,k,d,I,hg,hv,hit,WS,hM,?_,fun i x E1 hx hI hR=>?_,hend⟩
 .rw[pw VU]
  exact h0
 .exact uV _ _ zB _ _ _ (fun e E2 he=>⟨he.1,he.2⟩) (WP i x E1 hx hI hR)
def ry(A R:aa->Prop)(X:Nat->aa->Prop):Exit->aa->Prop
 | .normal,E=>A E
 | .ret,E=>R E
 | .exit id,E=>X id E
 |_,_=>False
@[simp] theorem SW(A R:aa->Prop)(X:Nat->aa->Prop):ry A R X .normal E=A E:=rfl
@[simp] theorem SX(A R:aa->Prop)(X:Nat->aa->Prop):ry A R X .ret E=R E:=rfl
@[simp] theorem SY(A R:aa->Prop)(X:Nat->aa->Prop)(id:Nat):ry A R X (.exit id) E=X id E:=rfl
def zO(P:Program)(C:aD)(K:Exit->aa->Prop)(b:ac):Exit->aa->Prop:=fun e E2=>e= .normal/\aY P C K [.code b] E2
@[simp] theorem S0(P:Program)(C:aD)(K:Exit->aa->Prop)(b:ac)(E:aa):zO P C K b .normal E=aY P C K [.code b] E:=propext ⟨fun h=>h.2,fun h=>⟨rfl,h⟩⟩
@[simp] theorem S4(p:Nat)(ps:List Nat)(x:ab)(xs:List ab)(f:Nat->DV)(t:Nat):oV (p::ps) (x::xs) f t=oV ps xs (fun t=>if t=p then .t x else f t) t:=rfl
@[simp] theorem S5(xs:List ab)(f:Nat->DV)(t:Nat):oV [] xs f t=f t:=rfl
@[simp] theorem S6(S:List Nm)(k:Ct)(ps:List Nat)(x:List ab)(E1:aa)(t:Nat):(nv E S k ps x E1).tmps t=oV ps x (fun t=>(E.tmps t).ren (aL S k.gs)) t:=rfl
@[simp] theorem S7(S:List Nm)(k:Ct)(ps:List Nat)(x:List ab)(E1:aa)(s:Nm):(nv E S k ps x E1).slots s=E1.slots s:=rfl
@[simp] theorem S8(S:List Nm)(k:Ct)(ps:List Nat)(x:List ab)(E1:aa)(s:Nm):(nv E S k ps x E1).used s=E1.used s:=rfl
def lr{q:Value->aa->Prop}{Q:Exit->aa->Prop}{kk:List Fr}{g:Operand}{ps:List Nat}{a b:ac}{f:FuncId}{caps ts:List DV}{F:List Nm}{xs:List (List ab)}(S:List Nm)(rows:List Row)(d:Nat)(I:Nat->List Nm->aa->Prop)
  (hit:fD P f ts xs) (hg:E.ev g= .fn f caps) (hv:E.viewps caps=some (ts,F)) (WS:∀x∈xs,x.length=ps.length) (hM:cL E [] ⟨[],[],rows,.junk,[],[]⟩ S F) (h0:I 0 ((List.range rows.length).map .arg) (gi [] rows))
  (WP:∀(i:Nat) (x:List ab) (ns:List Nm) (E1:aa),xs[i]?=some x->I i ns E1->E1.used=(fun s=>ns.contains s)->(∀s,ns.contains s=false->E1.slots s=none)->
   ∀A:aa->Prop,(∀E3 (ρ:List (Nm×Nm)),bw ρ=true->((List.range rows.length).all fun j=>(ρ.map (·.2)).contains (.arg j))=true->I (i+1) (ρ.map (·.2)) (E3.canon ρ)->A E3)->
   aY P bu (zO P (bj fun v E3=>eb E S F d (q v) E3) (ry A (eb E S F d (jC P (bj q) Q kk)) (fun id=>eb E S F d (jB P (bj q) Q id kk))) b) [.code a] (nv E S ⟨[],[],rows,.junk,[],[]⟩ ps x E1))
  (hend:∀ns E1,I xs.length ns E1->E1.used=(fun s=>ns.contains s)->(∀s,ns.contains s=false->E1.slots s=none)->eb E S F d (aY P (bj q) Q kk) E1):tV P (bj q) Q kk g ps a b E:=by
 have acw:∀ns:List Nm,((List.range rows.length).all fun j=>ns.contains (.arg j))=true->∀s,(Ct.mk [] [] rows .junk [] []).env.used s=true->ns.contains s=true:=by
  intro ns h s hs
  rw[pw rfl]at hs
  cases s with
  |arg i=>
   simp only[zN,akk]at hs
   exact ajR.1 h i (List.mem_range.2 hs)
  |_=>cases hs
 refine IR S ⟨[],[],rows,.junk,[],[]⟩ d (fun i E=>∃ns,I i ns E/\E.used=(fun s=>ns.contains s)/\∀s,ns.contains s=false->E.slots s=none) hit hg hv WS rfl hM ⟨_,h0,?_,?_⟩ ?_ ?_
 .funext s
  cases s with
  |arg i=>
   rw[zN,Bool.eq_iff_iff]
   simp
  |_=>simp[gi]
 .intro s hs
  cases s with
  |arg i=>
   rw[IM]
   have:¬i<rows.length:=fun h=>by
    rw[Bool.eq_false_iff]at hs
    exact hs (by simp;exact h)
   exact aj2 (Nat.le_of_not_lt this)
  |_=>simp[gi]
 .rintro i x E1 hx ⟨ns,h1,h2,h3⟩ _
  have h:=WP i x ns E1 hx h1 h2 h3 (fun E3=>∃ρ,bw ρ=true/\iB ⟨[],[],rows,.junk,[],[]⟩ (E3.canon ρ)/\∃ns,I (i+1) ns (E3.canon ρ)/\(E3.canon ρ).used=(fun s=>ns.contains s)/\∀s,ns.contains s=false->(E3.canon ρ).slots s=none)
   (fun E3 ρ q1 q2 q3=>⟨ρ,q1,fun s hs=>by rw[(fA E3 ρ).1];exact acw _ q2 s hs,_,q3,(fA E3 ρ).1,(fA E3 ρ).2⟩)
  refine uV _ _ zB _ _ _ (fun e E2 he=>⟨he.1,uV _ _ (Ip _) _ _ _ (fun e E3 he=>?_) he.2⟩) h
  cases e<;>exact he
 .rintro E1 ⟨ns,h1,h2,h3⟩ _
  exact hend ns E1 h1 h2 h3
end
section
open Go.RowKit Go.Proofs Go.Lib
section
variable{P:Program}{q:Value->aa->Prop}{Q:Exit->aa->Prop}{k:List Fr}{E:aa}{pr:List (Nat×Nat)}{ix:Nat}{Tq:List bG}{rest:List aT}{dst:Option Nat}
def jc(P:Program)(f:FuncId)(ds:List DV)(d:DV):Prop:=ay P f ⟨[],ds,[],d,[],[]⟩
def lu{g:Option (Bool×Bool)}{f:FuncId}{ds:List DV}{d:DV}(h:jc P f ds d)(hr:ds.map (DV.ren [])=ds)(hf:d.flat=true)(hk:cx P (bj q) Q k pr ix Tq dst rest E g (some ⟨d,[],[]⟩)):cR P (bj q) Q k pr ix Tq dst rest E g f ds:=by
 refine jK ⟨d,[]++[],[]⟩ ⟨_,[],[],h,⟨List.nodup_nil,by simp,by simp,by simp,by simp,List.nodup_nil,rfl,by simp,by simp,rfl,fun i d d0 h1 h2=> .inl ?_,by simp⟩,.inl ⟨rfl,rfl,hf,rfl⟩⟩ hk
 rw[h1]at h2
 have h3:(ds.map (DV.ren []))[i]?=some d:=by rw[hr];exact h1
 rw[ajw,h1]at h3
 simp only[akq,ajr]at h3 h2
 rw[<-h2]
 exact h3.symm
end
def bR(ds:List DV):aa where
 tmps:=fun t=>ds.getD t .junk
 slots:=fun _=>none
 used:=fun _=>false
def IS{P:Program}(hm:P.follows .mixedOrders=true){f:FuncId}{fn:dK}(hx:ak P f fn){ds:List DV}{d:DV}(hn:ds.length<=fn.nt)(hw:aY P bu (Fin fn.res (Ends ⟨[],ds,[],d,[],[]⟩)) [.code fn.code] (bR ds)):jc P f ds d:=by
 obtain⟨Fn,c,g1,g2,g3,g4,g6,g7⟩:=hx
 refine mC gD iI (fun _ _ _ h=>h) (fun _ _ _ h=>h) hm g1 g2 g3 g4 g6 _ (by rw[<-g7];exact hn) ?_
 have he:(Ct.mk [] ds [] d [] []).env=bR ds:=by
  refine aa.ext' rfl (funext fun s=>?_) (funext fun s=>?_)
  .cases s<;>simp[Ct.env,aU,bR]
  .cases s<;>simp[Ct.env,Ct.used0,bR]
 rw[he]
 exact hw
def kx{E:aa}{ds:List DV}{d d':DV}(h:E.outD [] d'=d):Ends ⟨[],ds,[],d,[],[]⟩ d' E:= .inl ⟨[],rfl,by rw[rk,rl _ rfl rfl],h⟩
def dE(b:UInt8):Bool:=decide (33<=b.toNat)&&decide (b.toNat<=126)
def rz{s:ByteArray}{i:Nat}(h:(s.get! i).toNat<128):Utf8.decode s i=((s.get! i).toNat,1):=by
 unfold Utf8.decode
 simp only[Nat.add_zero]
 rw[if_pos h]
def decode_high{s:ByteArray}{i:Nat}(h:¬(s.get! i).toNat<128):126<(Utf8.decode s i).1:=by
 unfold Utf8.decode
 simp only[Nat.add_zero]
 rw[if_neg h]
 (repeat' split)<;>first|(simp only[Utf8.runeError];omega)|(rename_i hc;simp only[ge_iff_le,ajT,akk]at hc;simp only;omega)
def ii:List UInt8->Int
 |[]=> -1
 |b::l=>if dE b=true then(if ii l<0 then-1 else ii l+1)else 0
theorem u5:∀l,l.all dE=true->ii l= -1
 |[],_=>rfl
 |b::l,h=>by
  simp only[List.all_cons,ajT]at h
  simp[ii,h.1,u5 l h.2]
def u6:∀(l:List UInt8) (i:Nat) (hi:i<l.length),(∀j,j<i->dE (l.getD j 0)=true)->dE l[i]=false->ii l=i
 |[],i,hi,_,_=>by simp at hi
 |b::l,0,_,_,h=>by simp at h;simp[ii,h]
 |b::l,i+1,hi,h1,h2=>by
  have h0:=h1 0 (by omega)
  simp at h0
  have ih:=u6 l i (by simpa using hi) (fun j hj=>by have:=h1 (j+1) (by omega);simpa using this) (by simpa using h2)
  have abg:¬(i:Int)<0:=by omega
  simp[ii,h0,ih,abg]
def zP(s:ByteArray)(i:Nat)(h:i<s.size):s.data.toList.getD i 0=s.get! i:=by
 have h1:i<s.data.size:=h
 rw[aj5,Array.getElem?_toList]
 show(s.data[i]?).getD 0=s.data[i]!
 rw[Array.getElem!_eq_getD,ajM]
 rfl
theorem u7:∀l,decide (0<=ii l)=!l.all dE
 |[]=>rfl
 |b::l=>by
  have ih:=u7 l
  simp only[ii,List.all_cons]
  by_cases hb:dE b=true
  .simp only[hb,if_true,Bool.true_and]
   rw[<-ih]
   split
   .exact decide_eq_decide.2 (by omega)
   .exact decide_eq_decide.2 (by omega)
  .simp[hb]
def bf{α:Type}(p:α->Bool):List α->Int
 |[]=> -1
 |b::l=>if p b=true then 0 else(if bf p l<0 then-1 else bf p l+1)
theorem fP{α:Type}{p:α->Bool}:∀{l:List α},(∀(i:Nat) (x:α),l[i]?=some x->p x=false)->bf p l= -1
 |[],_=>rfl
 |b::l,h=>by
  have h0:=h 0 b rfl
  have ih:=fP (l:=l) fun i x hx=>h (i+1) x (by simpa using hx)
  simp[bf,h0,ih]
def fE{α:Type}{p:α->Bool}:∀{l:List α} {i:Nat} {y:α},l[i]?=some y->(∀(j:Nat) (x:α),j<i->l[j]?=some x->p x=false)->p y=true->bf p l=i
 |[],i,y,hi,_,_=>by simp at hi
 |b::l,0,y,hi,_,h=>by simp at hi;subst hi;simp[bf,h]
 |b::l,i+1,y,hi,h1,h2=>by
  have h0:=h1 0 b (by omega) rfl
  have ih:=fE (l:=l) (i:=i) (y:=y) (by simpa using hi) (fun j x hj hx=>h1 (j+1) x (by omega) (by simpa using hx)) h2
  have abg:¬(i:Int)<0:=by omega
  simp[bf,h0,ih,abg]
theorem mI{α:Type}{p:α->Bool}:∀l:List α,decide (0<=bf p l)=l.any p
 |[]=>rfl
 |b::l=>by
  have ih:=mI (p:=p) l
  simp only[bf,List.any_cons]
  by_cases hb:p b=true
  .simp[hb]
  .have hb:p b=false:=by simpa using hb
   simp only[hb,ajU,ajS,Bool.false_or]
   rw[<-ih]
   split
   .exact decide_eq_decide.2 (by omega)
   .exact decide_eq_decide.2 (by omega)
def mJ(E:aa)(F:List Nm)(ρ:List (Nm×Nm)):List DV->List DV->Prop
 |[],[]=>True
 |d::ds,d0::W0=>(d0=d.ren ρ\/match E.view d with|some (x,rd)=>d0= .t x/\(rd.all fun s=>F.contains s)=true|none=>False)/\mJ E F ρ ds W0
 |_,_=>False
def rA{E:aa}{F:List Nm}{ρ:List (Nm×Nm)}:∀{ds W0:List DV},mJ E F ρ ds W0->mH E F ρ ds W0
 |[],[],_=>trivial
 |[],_::_,h=>h.elim
 |_::_,[],h=>h.elim
 |d::ds,d0::W0,⟨h1,h⟩=>by
  refine⟨?_,rA h⟩
  rcases h1 with h1|h1
  .exact .inl h1
  .cases hv:E.view d with
   |none=>rw[hv]at h1;exact h1.elim
   |some p=>
    rw[hv]at h1
    refine .inr ⟨p.1,p.2,p.1,rfl,.rfl,h1.1,fun s hs=>?_⟩
    simpa using ajR.1 h1.2 s hs
section
variable{P:Program}{q:Value->aa->Prop}{Q:Exit->aa->Prop}{kk:List Fr}{E:aa}{pr:List (Nat×Nat)}{ix:Nat}{Tq:List bG}{rest:List aT}{dst:Option Nat}
def IT{g:Option (Bool×Bool)}{f:FuncId}{ds:List DV}{k:Ct}{F:List Nm}(h:ay P f k)(hr:k.rows=[])(VU:k.gs=[])(hn:k.new=[])(hf:k.d.flat=true)(har:mJ (E.und g) F [] ds k.ds)(Wn:∀s∈F,((E.und g).slots s).isSome=true)
  (hk:cx P (bj q) Q kk pr ix Tq dst rest E g (some ⟨k.d,F++[],[]⟩)):cR P (bj q) Q kk pr ix Tq dst rest E g f ds:=by
 have hm:cL (E.und g) ds k [] F:=gF VU List.nodup_nil rfl (by rw[hr];trivial) (by simp) (rA har) Wn
 refine jK (C:=bj q) ⟨k.d,F++[],[]⟩ ⟨k,[],F,h,hm,.inl ⟨rfl,hn,hf,?_⟩⟩ hk
 rw[Ct.gn,VU]
 rfl
end
def lw{α:Type}(p:α->Bool):∀l:List α,-1<=bf p l/\bf p l<l.length
 |[]=>by simp[bf]
 |b::l=>by
  have:=lw p l
  simp only[bf,akx]
  (repeat' split)<;>omega
end
section
open Go.RowKit Go.ChangeShapes Go.WideShapes Go.Deep
inductive Sh where
 |int (k:IntKind)
 |str
 |bool
 |sl (agg:Bool) (l:List Sh)
def pz(f:TypeId->Option (List Sh)):List Field->Nat->Option (List Sh)
 |[],_=>some []
 |fd::fs,off=>if fd.offset=off then match f fd.type with|some l=>(pz f fs (off+l.length)).map (l++ ·)|none=>none else none
def zQ(P:Program)(f:TypeId->Option (List Sh))(t:TypeId):Option (List Sh):=match P.underlying t with
 |some (.int k)=>some [.int k]
 |some .string=>some [.str]
 |some .bool=>some [.bool]
 |some (.slice e)=>match f e with|some l=>if 0<l.length/\(bI P e=true\/l.length=1)then some [.sl (bI P e) l]else none|none=>none
 |some (.struct fs)=>pz f fs.toList 0
 |_=>none
def jd(P:Program):Nat->TypeId->Option (List Sh)
 |0,_=>none
 |n+1,t=>match zQ P (jd P n) t with|some l=>if P.cellsOf t=l.length then some l else none|none=>none
inductive cU:Sh->ab->Prop where
 |int {k:IntKind} {n:Int} (h:(Lit.int k n).wf=true):cU (.int k) (.v (.int k n))
 |str {s:ByteArray} (h:s.size<=maxLen):cU .str (.v (.string s))
 |bool {b:Bool}:cU .bool (.v (.bool b))
 |sl {agg:Bool} {l:List Sh} {ts:List ab} (h0:∀t∈ts,t.cells.length=l.length) (h1:∀t∈ts,if agg=true then∃cs,t= .agg cs else t.one=true)
   (h:∀t∈ts,∀(j:Nat) (s:Sh) (c:ab),l[j]?=some s->t.cells[j]?=some c->cU s c):cU (.sl agg l) (.sl l.length ts)
def ky(w:World)(cs:List Value)(shs:List Sh):Prop:=∃ts:List ab,cs.length=shs.length/\ts.length=shs.length/\
 ∀(i:Nat) (s:Sh),shs[i]?=some s->∃v t,cs[i]?=some v/\ts[i]?=some t/\aM w (fun _=>False) v t/\t.one=true/\cU s t
def ky.app{w:World}{a b:List Value}{s1 s2:List Sh}(h1:ky w a s1)(h2:ky w b s2):ky w (a++b) (s1++s2):=by
 obtain⟨t1,a1,b1,c1⟩:=h1
 obtain⟨t2,a2,b2,c2⟩:=h2
 refine⟨t1++t2,by simp[a1,a2],by simp[b1,b2],fun i s hi=>?_⟩
 by_cases hlt:i<s1.length
 .rw[akt hlt]at hi
  obtain⟨v,t,q1,q2,q3⟩:=c1 i s hi
  exact⟨v,t,by rw[akt (by omega)];exact q1,by rw[akt (by omega)];exact q2,q3⟩
 .rw[akw (by omega)]at hi
  obtain⟨v,t,q1,q2,q3⟩:=c2 _ s hi
  exact⟨v,t,by rw[akw (by omega),a1];exact q1,by rw[akw (by omega),b1];exact q2,q3⟩
def ky.single{w:World}{v:Value}{s:Sh}{t:ab}(h1:aM w (fun _=>False) v t)(h2:t.one=true)(h3:cU s t):ky w [v] [s]:=
 ⟨[t],rfl,rfl,fun i s' hi=>by
  cases i with
  |zero=>simp at hi;subst hi;exact⟨v,t,rfl,rfl,h1,h2,h3⟩
  |succ i=>simp at hi⟩
def zR{w:World}{cs:List Value}{f:TypeId->Option (List Sh)}:∀(fs:List Field) (off:Nat) (l:List Sh),pz f fs off=some l->(∀fd∈fs,∀l',f fd.type=some l'->ky w ((cs.drop fd.offset).take l'.length) l')->ky w ((cs.drop off).take l.length) l
 |[],off,l,h,_=>by
  simp only[pz,ajr]at h
  subst h
  exact⟨[],by simp,rfl,fun i s hi=>by simp at hi⟩
 |fd::fs,off,l,h,Tt=>by
  simp only[pz]at h
  split at h
  .rename_i ho
   split at h
   .rename_i l1 Xl
    obtain⟨l2,Xa,rfl⟩:=ajt.1 h
    have h1:=Tt fd ajK l1 Xl
    have h2:=zR fs (off+l1.length) l2 Xa fun fd' hf=>Tt fd' (ajW _ hf)
    rw[ho]at h1
    have:=h1.app h2
    have e:(cs.drop off).take (l1++l2).length=(cs.drop off).take l1.length++(cs.drop (off+l1.length)).take l2.length:=by
     rw[ajB,List.take_add,List.drop_drop]
    rw[e]
    exact this
   .simp at h
  .simp at h
def addr_add(b o j:Nat):(⟨b,o,none⟩:Addr).add j=⟨b,o+j,none⟩:=by
 simp only[Addr.add];split<;>simp_all
def IU{α:Type}{n:Nat}{R:Nat->α->Prop}(h:∀i,i<n->∃x,R i x):∃l:List α,l.length=n/\∀i x,l[i]?=some x->R i x:=by
 induction n with
 |zero=>exact⟨[],rfl,fun i x hx=>by simp at hx⟩
 |succ n ih=>
  obtain⟨l,hl,hr⟩:=ih fun i hi=>h i (by omega)
  obtain⟨x,hx⟩:=h n (by omega)
  refine⟨l++[x],by simp[hl],fun i y hy=>?_⟩
  by_cases hi:i<n
  .rw[akt (by omega)]at hy;exact hr i y hy
  .rw[akw (by omega)]at hy
   have:i=n:=by
    have:=(ajs.1 hy).1
    simp at this;omega
   subst this
   simp[hl]at hy
   subst hy;exact hx
section
variable{H:Type}{enc:TypeId×Value->H}{P:Program}{w:World}{base:Nat}{spare:Nat->Bool}{held:Bool}
def zS:∀(n:Nat) (t:TypeId) (shs:List Sh),jd P n t=some shs->∀(fuel:Nat) (cs:List Value) (x:DataW H×List MemPlace),DataW.trod enc P w base spare held fuel t cs=some x->ky w cs shs
 |0,t,shs,h,_,_,_,_=>by simp[jd]at h
 |n+1,t,shs,h,fuel,cs,x,hx=>by
  have ih:=zS n
  have WW:∀t' l',jd P n t'=some l'->P.cellsOf t'=l'.length:=by
   intro t' l' h'
   cases n with
   |zero=>simp[jd]at h'
   |succ n=>
    simp only[jd]at h'
    split at h'
    .split at h'
     .rename_i hc;simp only[ajr]at h';subst h';exact hc
     .simp at h'
    .simp at h'
  simp only[jd]at h
  split at h
  .rename_i l hl
   split at h
   .rename_i hc
    simp only[ajr]at h
    subst h
    unfold zQ at hl
    split at hl
    .rename_i k hu
     simp only[ajr]at hl
     subst hl
     obtain⟨m,rfl,_,hw⟩:=DataW.trod_int hu hx
     exact .single (.v rfl) rfl (.int hw)
    .rename_i hu
     simp only[ajr]at hl
     subst hl
     obtain⟨s,rfl,_,hw⟩:=DataW.trod_string hu hx
     exact .single (.v rfl) rfl (.str hw)
    .rename_i hu
     simp only[ajr]at hl
     subst hl
     obtain⟨b,rfl,_⟩:=DataW.trod_bool hu hx
     exact .single (.v rfl) rfl .bool
    .rename_i e hu
     split at hl
     .rename_i le TK
      split at hl
      .rename_i Zr
       simp only[ajr]at hl
       subst hl
       have VG:=WW e le TK
       rcases open_slice hu hx with⟨rfl,_⟩|⟨a,len,cap,m,n',D,Pl,rfl,hb,XB,V0,Vu,_,hi⟩
       .exact .single (.sl0 (by simp[maxLen])) rfl (.sl (by simp) (by simp) (by simp))
       .have hlm:len<=m:=by rw[Vu];split<;>omega
        have each:∀i,i<len->∃tr:ab,tr.cells.length=le.length/\(if bI P e=true then∃cs,tr= .agg cs else tr.one=true)/\∀(j:Nat) (s:Sh),le[j]?=some s->∃v c,w.cell? ((a.add (i*le.length)).add j)=some v/\tr.cells[j]?=some c/\aM w (fun _=>False) v c/\c.one=true/\cU s c:=by
         intro i TC
         obtain⟨cs',h1,h2⟩:=hi i (by omega)
         obtain⟨ts,q1,q2,q3⟩:=ih e le TK n' cs' _ h2
         obtain⟨_,h3,h4⟩:=World.cells?_some h1
         rw[VG]at h4
         have Tx:∀(j:Nat) (s:Sh),le[j]?=some s->∃v c,w.cell? ((a.add (i*le.length)).add j)=some v/\ts[j]?=some c/\aM w (fun _=>False) v c/\c.one=true/\cU s c:=by
          intro j s hj
          obtain⟨v,c,r1,r2,r3⟩:=q3 j s hj
          exact⟨v,c,by rw[h4 j (ajs.1 hj).1];exact r1,r2,r3⟩
         cases Vp:bI P e with
         |true=>exact⟨.agg ts,q2,⟨ts,rfl⟩,Tx⟩
         |false=>
          rcases Zr.2 with hp|hp
          .rw[Vp]at hp;cases hp
          .obtain⟨c,hcs⟩:=List.length_eq_one_iff.1 (q2.trans hp)
           subst hcs
           have h0:∃s,le[0]?=some s:=⟨_,ajq (by omega)⟩
           obtain⟨s,hs⟩:=h0
           obtain⟨v,c',_,hc',_,ho,_⟩:=Tx 0 s hs
           simp at hc'
           subst hc'
           have Uw:c.cells=[c]:=by cases c<;>first|rfl|simp[ab.one]at ho
           exact⟨c,by rw[Uw];exact hp.symm,ho,by rw[Uw];exact Tx⟩
        obtain⟨ts,U2,V9⟩:=IU each
        subst U2
        have TN:∀t∈ts,∃i,ts[i]?=some t:=fun t ht=>List.mem_iff_getElem?.1 ht
        have TQ:∀(k:Nat) (t:ab) (j:Nat) (c:ab),ts[k]?=some t->t.cells[j]?=some c->∃v s,w.cell? ((a.add (k*le.length)).add j)=some v/\le[j]?=some s/\aM w (fun _=>False) v c/\c.one=true/\cU s c:=by
         intro k t j c hk hj
         obtain⟨h1,_,h3⟩:=V9 k t hk
         have hjl:j<le.length:=by rw[<-h1];exact(ajs.1 hj).1
         obtain⟨v,c',r1,r2,r3⟩:=h3 j _ (ajq hjl)
         rw[hj]at r2
         cases r2
         exact⟨v,_,r1,ajq hjl,r3⟩
        have adb:cU (.sl (bI P e) le) (.sl le.length ts):=by
         refine .sl (fun t ht=>?_) (fun t ht=>?_) (fun t ht j s c hj hc=>?_)
         .obtain⟨i,TU⟩:=TN t ht;exact(V9 i t TU).1
         .obtain⟨i,TU⟩:=TN t ht;exact(V9 i t TU).2.1
         .obtain⟨i,TU⟩:=TN t ht
          obtain⟨v,s',_,q1,_,_,q2⟩:=TQ i t j c TU hc
          rw[hj]at q1
          cases q1
          exact q2
        cases UQ:ts with
        |nil=>subst UQ;exact .single (.sl0 V0) rfl adb
        |cons t0 ts0=>
         rw[<-UQ]
         have ht0:ts[0]?=some t0:=by rw[UQ];rfl
         have hj0:∃c0,t0.cells[0]?=some c0:=⟨_,ajq (by rw[(V9 0 t0 ht0).1];exact Zr.1)⟩
         obtain⟨c0,Ws⟩:=hj0
         obtain⟨v0,_,W8,_⟩:=TQ 0 t0 0 c0 ht0 Ws
         have aaD:a.spot=none:=by
          have:=World.cell?_spot W8
          simpa[Addr.add]using this
         obtain⟨b,o,sp⟩:=a
         simp only at aaD
         subst aaD
         have ZP:∀i j,((⟨b,o,none⟩:Addr).add i).add j=⟨b,o+i+j,none⟩:=by intro i j;rw[addr_add,addr_add]
         have afC:b<w.heap.size:=by
          rw[ZP]at W8
          unfold World.cell? at W8
          cases hg:w.heap[b]? with
          |none=>rw[hg]at W8;simp at W8
          |some ob=>exact(ajy.1 hg).1
         refine .single (.sl (fun k j=>(w.cell? ⟨b,o+k*le.length+j,none⟩).getD undef) (fun h=>h) afC XB V0 (fun t ht=>?_) (fun k t j c hk hj=>?_) (fun k t j c hk hj=>?_) (fun k t j c hk hj=>?_)) rfl adb
         .obtain⟨i,TU⟩:=TN t ht;exact(V9 i t TU).1
         .obtain⟨v,_,h1,_⟩:=TQ k t j c hk hj
          rw[ZP]at h1
          rw[h1];rfl
         .obtain⟨v,_,_,_,_,h1,_⟩:=TQ k t j c hk hj
          exact h1
         .obtain⟨v,_,h1,_,h2,_⟩:=TQ k t j c hk hj
          rw[ZP]at h1
          rw[h1];exact h2
      .simp at hl
     .simp at hl
    .rename_i fs hu
     obtain⟨xs,n',_,_,Tk,VR,hf⟩:=DataW.trod_struct hu hx
     have:=zR (w:=w) (cs:=cs) fs.toList 0 l hl fun fd hfd l' XX=>by
      obtain⟨i,hi⟩:=List.mem_iff_getElem?.1 hfd
      have hi:fs[i]?=some fd:=by simpa using hi
      have h1:=hf i fd hi
      have TC:i<xs.length:=by rw[VR];exact(ajy.1 hi).1
      rw[ajq TC,WW _ _ XX]at h1
      exact ih fd.type l' XX n' _ _ h1
     rw[List.drop_zero,<-hc,<-Tk,akg]at this
     exact this
    .simp at hl
   .simp at h
  .simp at h
end
end
end Go.Wt
namespace Go.Proofs.YteaimhlobmaghaaGreatDoor
open Go.ChangeShapes Go.WideShapes Go.ChangeAt Go.RowKit
def z_main:Tryz.pinned.checked.prog.mainIs=some (true, "2f5f6f0e45d0dc822afc7999807d6c879bedb5611b72a16918e454af4e0011be".toList):=by kernel_rfl
def z_looks:true=Tryz.prog.looks []:=by kernel_rfl
def z_w24:Tryz.prog.wantsStandIn 24=false:=by kernel_rfl
def z_w31:Tryz.prog.wantsStandIn 31=false:=by kernel_rfl
def z_w9:Tryz.prog.wantsStandIn 9=false:=by kernel_rfl
def z_w3:Tryz.prog.wantsStandIn 3=false:=by kernel_rfl
def z_w27:Tryz.prog.wantsStandIn 27=false:=by kernel_rfl
end Go.Proofs.YteaimhlobmaghaaGreatDoor
namespace Go.Wq
open Go.Wt
inductive El
 |oo (x:al)
 |gg (b:Nat) (t:Bool) (x:al)
 |xx (y:aT)
 |ee (d:Nat) (y:El)
@[simp] def El.at(d:Nat):El->aT
 | .oo x=>⟨some d,x,none⟩
 | .gg b t x=>⟨some d,x,some (b,t)⟩
 | .xx y=>y
 | .ee d y=>y.at d
@[simp] def nu:Nat->List El->List aT
 |_,[]=>[]
 |d,.oo x::l=>⟨some d,x,none⟩::nu (d+1) l
 |d,.gg b t x::l=>⟨some d,x,some (b,t)⟩::nu (d+1) l
 |d,.xx y::l=>y::nu d l
 |d,.ee n y::l=>y.at n::nu d l
@[simp] def e(d:Nat)(x:El):El:= .ee d x
@[simp] def t(n:Nat):Operand:= .tmp n
@[simp] def c(n:Int):Operand:= .const (.int .i64 n)
@[simp] def tr:Operand:= .const (.bool true)
@[simp] def fa:Operand:= .const (.bool false)
@[simp] def n:Operand:= .const (.slice none 0 0)
@[simp] def z(n:Int):ab:= .v (.int .i64 n)
@[simp] def I(x:al):El:= .oo x
@[simp] def v(x:Operand):El:= .oo (.mv x)
@[simp] def M(x:Nat):El:= .oo (.mv (.tmp x))
@[simp] def C(n:Int):El:= .oo (.mv (.const (.int .i64 n)))
@[simp] def L(n x:Nat):El:= .oo (.load n true (.tmp x))
@[simp] def l(x:Nat):El:= .oo (.load 1 false (.tmp x))
@[simp] def E(x i:Nat):El:= .oo (.ext (.tmp x) i)
@[simp] def F(x o:Nat):El:= .oo (.fld (.tmp x) o)
@[simp] def B(o:BinOp)(y a b:Nat):El:= .oo (.bin o y (.tmp a) (.tmp b))
@[simp] def N(o:BinOp)(y a:Nat)(b:Int):El:= .oo (.bin o y (.tmp a) (.const (.int .i64 b)))
@[simp] def P(a b:Nat):El:= .oo (.pick (.tmp a) (.const (.bool true)) (.tmp b))
@[simp] def Q(a b:Nat):El:= .oo (.pick (.tmp a) (.tmp b) (.const (.bool false)))
@[simp] def Y(f:Nat)(a:List Nat):El:= .oo (.call f (a.map .tmp))
@[simp] def H(x:Nat):El:= .oo (.len false (.tmp x))
@[simp] def X(t x:Nat):El:= .oo (.box t (.tmp x))
@[simp] def A(x i m:Nat):El:= .oo (.eadr (.tmp x) (.tmp i) m)
@[simp] def U(x:Nat):El:= .oo (.un .not (.tmp x))
@[simp] def G(x:Nat):El:= .oo (.nilc (.tmp x))
@[simp] def T(t:Nat)(z:ab):El:= .oo (.alloc t z)
@[simp] def S(n x y:Nat):El:= .xx ⟨none,.store n (.tmp x) (.tmp y),none⟩
@[simp] def J(g:Nat):El->El
 | .oo x=> .gg g true x
 |y=>y
@[simp] def j(g:Nat):El->El
 | .oo x=> .gg g false x
 |y=>y
@[simp] def R(d:Nat)(a:List El)(x:ac):ac:= .seq (.region (nu d a)) x
@[simp] def O(d:Nat)(a:List El):ac:= .region (nu d a)
@[simp] def zT:List Nat->List (Nat×Nat)
 |a::b::l=>(a,b)::zT l
 |_=>[]
@[simp] def Z(d:Nat)(a:List El)(l:List Nat):ac:= .drawn (nu d a) ((1000000,1000000)::zT l)
@[simp] def s(x y:ac):ac:= .seq x y
@[simp] def V(n:Nat)(x y:ac):ac:= .cond (.tmp n) x y
@[simp] def k:ac:= .skip
@[simp] def r:ac:= .ret
@[simp] def K(x:ac):ac:= .block 0 (.loop x)
@[simp] def D(x:ac):ac:= .block 1 x
@[simp] def x(n:Nat):ac:= .exit n
end Go.Wq
namespace Go.Wt
section
open Go.RowKit Go.Proofs Go.Wq
def mK:ac:=(s (R 90 [M 17,F 9 2,l 91,H 92,B .lss 3 90 93] (V 94 k (x 2))) (s (.block 3 (R 97 [F 9 2,l 97,M 17,A 98 99 6,L 6 100,e 18 (T 58 (.agg [(z 0),(z 0),(z 0),(z 0),(.v (.int .u32 0)),(z 0)])),S 6 18 101] (Z 102 [M 16,M 102,j 103 (F 18 5),j 103 (l 104),j 103 (N .eql 3 105 2),j 103 (M 106),J 107 (F 18 1),J 107 (l 108),J 107 (F 5 2),J 107 (l 110),J 107 (M 15),J 107 (A 111 112 2),J 107 (F 113 0),J 107 (l 114),J 107 (B .eql 3 109 115),j 103 (Q 107 116),j 103 (M 117),J 118 (F 18 2),J 118 (l 119),J 118 (F 5 2),J 118 (l 121),J 118 (M 15),J 118 (N .add 3 123 1),J 118 (A 122 124 2),J 118 (F 125 0),J 118 (l 126),J 118 (B .eql 3 120 127),j 103 (Q 118 128),j 103 (M 129),J 130 (F 18 4),J 130 (l 131),J 130 (F 5 2),J 130 (l 133),J 130 (M 15),J 130 (A 134 135 2),J 130 (F 136 1),J 130 (l 137),J 130 (Y 27 [138]),J 130 (B .eql 56 132 139),j 103 (Q 130 140),P 103 141,e 16 (M 142)] [7,9,7,11,7,13,18,20,18,23,18,25,30,32,30,34,30,36,30,37]))) (O 95 [M 17,N .add 3 95 1,e 17 (M 96)])))
def vc:ac:=(s (R 85 [M 15,M 14,B .lss 3 85 86] (V 87 k (x 0))) (s (D (R 16 [v fa] (s (R 17 [C 0] (.block 2 (.loop mK))) (R 143 [M 16,U 143] (V 144 (R 10 [v fa] r) k))))) (O 88 [M 15,N .add 3 88 1,e 15 (M 89)])))
def ly:ac:=(R 56 [L 3 5,L 3 9,Y 13 [56,57],e 55 (M 58),E 55 0,E 55 1,e 12 (T 24 (.agg [(z 0),(z 0),.e0])),S 3 12 59,e 13 (M 60)] (s (R 61 [M 13,N .neq 37 61 0] (V 62 (R 63 [M 11,M 63,J 64 (F 12 2),J 64 (l 65),J 64 (H 66),J 64 (N .eql 3 67 0),Q 64 68,e 10 (M 69)] r) k)) (R 70 [F 5 2,l 70,H 71,F 12 2,l 73,H 74,B .sub 3 72 75,e 14 (M 76)] (s (R 77 [M 14,N .lss 3 77 0,M 78,j 79 (F 12 2),j 79 (l 80),j 79 (H 81),j 79 (N .eql 3 82 0),P 79 83] (V 84 (R 10 [v fa] r) k)) (s (R 15 [C 0] (K vc)) (R 145 [L 3 5,e 19 (T 24 (.agg [(z 0),(z 0),.e0])),S 3 19 145] (R 146 [F 5 2,l 146,M 14,I (.ssl (t 147) (some (t 148)) none 2),F 19 2,S 1 150 149] (R 151 [F 12 1,l 151,F 19 1,S 1 153 152] (R 154 [L 3 19,L 3 12,Y 17 [154,155],e 20 (M 156)] (R 157 [M 11,M 157,J 158 (M 20),Q 158 159,M 160,J 161 (F 12 1),J 161 (l 162),J 161 (F 5 1),J 161 (l 164),J 161 (B .geq 3 163 165),Q 161 166,e 10 (M 167)] r))))))))))
def s5:ac:=(R 5 [X 24 0,X 31 1,e 9 (X 27 4),e 10 (v fa)] (R 21 [Y 9 [],e 11 (M 21)] (s (R 22 [M 11,U 22] (V 23 (R 10 [v fa] r) k)) (s (R 24 [L 3 5,L 3 9,L 3 6,I (.build [(z 0),.e0] []),M 2,Y 10 [24,25,26,27,28],U 29,M 30,j 31 (M 3),j 31 (N .lss 3 32 0),P 31 33,M 34,j 35 (M 3),j 35 (N .gtr 3 36 12),P 35 37,M 38,j 39 (F 6 1),j 39 (l 40),j 39 (N .gtr 3 41 1000),P 39 42] (V 43 (R 44 [M 11,e 10 (M 44)] r) k)) (s (R 45 [M 3,N .gtr 3 45 0] (V 46 (O 48 [L 3 5,L 3 6,M 2,M 3,Y 26 [48,49,50,51],e 47 (M 52),E 47 0,E 47 1,S 3 9 53,S 3 6 54]) k)) ly)))))
def o5:=xo 5 ⟨s5,168,[.tmp 10]⟩ Tryz.func5 (by kernel_rfl)
def s9:ac:=(R 0 [v fa] (R 25 [Y 36 [],e 24 (M 25),E 24 0,E 24 1,e 1 (T 24 (.agg [(z 0),(z 0),.e0])),S 3 1 26,e 2 (M 27)] (R 29 [L 3 1,I (.build [(z 0),(z 0),.e0] []),I (.build [.e0,(z 0),.e0] []),I (.call 11 [(t 29),(t 30),(t 31),(.const (.string ⟨#[112]⟩))]),e 28 (M 32),E 28 0,E 28 1,E 28 2,e 3 (T 27 (.agg [(z 0),(z 0),.e0])),e 4 (T 31 (.agg [.e0,(z 0),.e0])),S 3 3 33,S 3 4 34,e 5 (M 35)] (R 37 [L 3 1,L 3 3,L 3 4,I (.call 11 [(t 37),(t 38),(t 39),(.const (.string ⟨#[112]⟩))]),e 36 (M 40),E 36 0,E 36 1,E 36 2,e 6 (T 27 (.agg [(z 0),(z 0),.e0])),e 7 (T 31 (.agg [.e0,(z 0),.e0])),S 3 6 41,S 3 7 42,e 8 (M 43)] (R 45 [L 3 1,L 3 6,Y 13 [45,46],e 44 (M 47),E 44 0,E 44 1,e 9 (T 24 (.agg [(z 0),(z 0),.e0])),S 3 9 48,e 10 (M 49)] (R 51 [I (.call 28 [(c 4000)]),e 50 (M 51),E 50 0,E 50 1,e 11 (T 36 (.agg [(z 0),.e0])),S 2 11 52,e 12 (M 53)] (s (R 54 [M 2,U 54,M 55,j 56 (M 5),j 56 (N .neq 37 57 0),P 56 58,M 59,j 60 (M 8),j 60 (N .neq 37 61 0),P 60 62,M 63,j 64 (M 10),j 64 (N .neq 37 65 0),P 64 66,M 67,j 68 (M 12),j 68 (N .neq 37 69 0),P 68 70,M 71,j 72 (F 9 2),j 72 (l 73),j 72 (H 74),j 72 (F 1 2),j 72 (l 76),j 72 (H 77),j 72 (N .sub 3 78 2),j 72 (B .neq 3 75 79),P 72 80,M 81,j 82 (F 7 0),j 82 (l 83),j 82 (H 84),j 82 (N .neq 3 85 2),P 82 86] (V 87 (R 0 [v fa] r) k)) (R 89 [L 3 9,L 3 6,L 3 7,L 2 11,I (.call 37 [(t 89),(t 90),(t 91),(t 92),(.const (.string ⟨#[112]⟩)),(c 1),(c 1)]),e 88 (M 93),E 88 0,E 88 1,E 88 2,E 88 3,e 14 (T 31 (.agg [.e0,(z 0),.e0])),e 15 (T 36 (.agg [(z 0),.e0])),e 13 (M 94),S 3 14 95,S 2 15 96,e 16 (M 97)] (R 99 [L 3 6,L 3 7,L 2 11,I (.call 20 [(t 99),(t 100),(t 101),(.const (.string ⟨#[112]⟩)),(c 7)]),e 98 (M 102),E 98 0,E 98 1,E 98 2,E 98 3,e 18 (T 31 (.agg [.e0,(z 0),.e0])),e 19 (T 36 (.agg [(z 0),.e0])),e 17 (M 103),S 3 18 104,S 2 19 105,e 20 (M 106)] (R 108 [L 3 6,L 3 7,I (.call 22 [(t 108),(t 109),(.const (.string ⟨#[112]⟩))]),e 107 (M 110),E 107 0,E 107 1,E 107 2,e 21 (T 27 (.agg [(z 0),(z 0),.e0])),e 22 (T 31 (.agg [.e0,(z 0),.e0])),S 3 21 111,S 3 22 112,e 23 (M 113)] (s (Z 114 [L 3 9,L 3 6,Y 18 [114,115],N .eql 3 116 0,M 117,J 118 (L 3 9),J 118 (I (.build [(z 0),(z 0),.e0] [])),J 118 (Y 18 [119,120]),J 118 (F 9 1),J 118 (l 122),J 118 (B .eql 3 121 123),Q 118 124,M 125,J 126 (F 9 1),J 126 (l 127),J 126 (N .gtr 3 128 0),Q 126 129,M 130,J 131 (M 13),J 131 (H 132),J 131 (N .eql 3 133 1),Q 131 134,M 135,J 136 (M 13),J 136 (I (.eadr (t 137) (c 0) 10)),J 136 (F 138 0),J 136 (l 139),J 136 (N .eql 3 140 1),Q 136 141,M 142,J 143 (M 16),J 143 (N .eql 37 144 0),Q 143 145,M 146,J 147 (F 14 1),J 147 (l 148),J 147 (N .eql 3 149 3),Q 147 150,M 151,J 152 (M 20),J 152 (N .eql 37 153 90),Q 152 154,M 155,J 156 (M 23),J 156 (N .eql 37 157 0),Q 156 158,M 159,J 160 (F 22 0),J 160 (l 161),J 160 (H 162),J 160 (N .eql 3 163 2),Q 160 164,e 0 (M 165)] [0,1,5,9,7,9]) r)))))))))))
def o9:=xo 9 ⟨s9,166,[.tmp 0]⟩ Tryz.func9 (by kernel_rfl)
def zU:ac:=(R 4 [N .lss 3 3 4] (s (V 4 k (x 0)) (s (D (O 5 [M 0,I (.bin .shr 56 (t 5) (.const (.int .u64 1))),M 0,I (.bin .and 56 (t 7) (.const (.int .u32 1))),I (.un .neg (t 8)),I (.bin .and 56 (.const (.int .u32 3988292384)) (t 9)),B .xor 56 6 10,e 0 (M 11)])) (O 12 [N .add 3 3 1,e 3 (M 12)]))))
def zV:ac:=(R 2 [v (.const (.int .u32 0))] (s (R 3 [C 0] (K zU)) (R 13 [M 0,e 2 (M 13)] r)))
def IV:=xo 180 ⟨zV,14,[.tmp 2]⟩ Tryz.func180 (by kernel_rfl)
def zW:ac:=(R 5 [v (.const (.int .u32 0))] (R 6 [M 0,M 1,I (.conv .u32 (t 7)),B .xor 56 6 8,e 0 (M 9)] (R 10 [M 0,I (.bin .and 56 (t 10) (.const (.int .u32 15))),I (.aadr (t 2) (t 11) 16 1),l 12,M 0,I (.bin .shr 56 (t 14) (.const (.int .u64 4))),B .xor 56 13 15,e 0 (M 16)] (R 17 [M 0,I (.bin .and 56 (t 17) (.const (.int .u32 15))),I (.aadr (t 2) (t 18) 16 1),l 19,M 0,I (.bin .shr 56 (t 21) (.const (.int .u64 4))),B .xor 56 20 22,e 5 (M 23)] r))))
def IW:=xo 181 ⟨zW,24,[.tmp 5]⟩ Tryz.func181 (by kernel_rfl)
def zX:ac:=(R 2 [v fa] (R 3 [M 0,I (.bin .lss 21 (t 3) (.const (.int .i32 33))),M 4,j 5 (M 0),j 5 (I (.bin .gtr 21 (t 6) (.const (.int .i32 126)))),P 5 7,e 2 (M 8)] r))
def IX:=xo 182 ⟨zX,9,[.tmp 2]⟩ Tryz.func182 (by kernel_rfl)
def vd:ac:=(R 9 [B .lss 3 8 7] (s (V 9 k (x 0)) (s (D (R 10 [M 8,e 5 (M 10)] (R 11 [M 1,M 0,M 5,A 12 13 2,L 2 14,I (.callv (t 11) [(t 15)])] (V 16 (R 17 [M 5,e 4 (M 17)] r) k)))) (O 18 [N .add 3 8 1,e 8 (M 18)]))))
def vf:ac:=(R 4 [C 0] (s (R 6 [M 0,H 6,C 0] (K vd)) (R 4 [v (.const (.int .i64 (-1)))] r)))
def zY:=xo 183 ⟨vf,19,[.tmp 4]⟩ Tryz.func183 (by kernel_rfl)
def zZ:ac:=(R 2 [X 119 0,v fa] (R 4 [F 2 0,l 4,F 1 1,l 6,B .eql 3 5 7,e 3 (M 8)] r))
def IY:=xo 184 ⟨zZ,9,[.tmp 3]⟩ Tryz.func184 (by kernel_rfl)
def IZ:ac:=(R 2 [v n] (s (R 3 [M 0,I (.bin .eql 28 (t 3) n)] (V 4 (R 2 [v n] r) k)) (R 5 [I (.lits 65 true 2 0 [(.v (.string ⟨#[]⟩)),.e0] []),M 0,I (.app 65 2 (.agg [(.v (.string ⟨#[]⟩)),.e0]) (t 5) (t 6)),e 2 (M 7)] r)))
def I0:=xo 185 ⟨IZ,8,[.tmp 2]⟩ Tryz.func185 (by kernel_rfl)
def I1:ac:=(R 2 [v n] (s (R 3 [M 0,I (.bin .eql 29 (t 3) n)] (V 4 (R 2 [v n] r) k)) (R 5 [I (.lits 119 true 2 0 [(z 0),(z 0)] []),M 0,I (.app 119 2 (.agg [(z 0),(z 0)]) (t 5) (t 6)),e 2 (M 7)] r)))
def I2:=xo 186 ⟨I1,8,[.tmp 2]⟩ Tryz.func186 (by kernel_rfl)
def Aa:ac:=(R 5 [X 230 2,C 0,v fa] (R 8 [M 0,M 1,I (.mkfn 242 [(t 5)]),Y 241 [8,9,10],E 11 0,E 11 1,e 6 (M 12),e 7 (M 13)] r))
def I3:=xo 187 ⟨Aa,14,[.tmp 6,.tmp 7]⟩ Tryz.func187 (by kernel_rfl)
def Ab:ac:=(R 1 [X 65 0,v (.const (.string ⟨#[]⟩))] (R 3 [F 1 0,l 3,e 2 (M 4)] r))
def I4:=xo 188 ⟨Ab,5,[.tmp 2]⟩ Tryz.func188 (by kernel_rfl)
def vg:ac:=(R 93 [B .lss 3 92 91] (s (V 93 k (x 2)) (s (.block 3 (R 94 [A 90 92 5,L 5 94,e 6 (T 239 (.agg [(z 0),(.v (.string ⟨#[]⟩)),(.v (.string ⟨#[]⟩)),(.v (.bool false)),(z 0)])),S 5 6 95] (s (R 96 [L 5 6,Y 246 [96],N .neq 37 97 0,M 98,j 99 (F 6 0),j 99 (l 100),j 99 (M 4),j 99 (B .lss 3 101 102),P 99 103,M 104,j 105 (F 6 0),j 105 (l 106),j 105 (F 1 1),j 105 (l 108),j 105 (B .gtr 3 107 109),P 105 110] (V 111 (R 2 [v fa] r) k)) (O 112 [F 6 0,l 112,N .add 3 113 1,e 4 (M 114)])))) (O 115 [N .add 3 92 1,e 92 (M 115)]))))
def vh:ac:=(V 116 (R 119 [M 3,N .eql 3 119 0,M 120,J 121 (F 1 9),J 121 (l 122),J 121 (H 123),J 121 (N .eql 3 124 0),Q 121 125,M 126,J 127 (F 1 7),J 127 (l 128),Q 127 129,e 2 (M 130)] r) k)
def Ac:ac:=(R 1 [X 79 0,v fa] (s (R 7 [F 1 0,l 7,F 1 1,l 9,F 1 2,l 11,I (.lits 3 false 1 3 [(z 0)] [(0,1,(t 8)),(1,1,(t 10)),(2,1,(t 12))]),I (.call 245 [(c 1099511627776),(t 13)]),U 14,M 15,j 16 (F 1 3),j 16 (l 17),j 16 (F 1 5),j 16 (l 19),j 16 (F 1 6),j 16 (l 21),j 16 (I (.lits 3 false 1 3 [(z 0)] [(0,1,(t 18)),(1,1,(t 20)),(2,1,(t 22))])),j 16 (I (.call 245 [(c 1048576),(t 23)])),j 16 (U 24),P 16 25] (V 26 (R 2 [v fa] r) k)) (R 27 [F 1 1,l 27,F 1 0,l 29,B .sub 3 28 30,e 3 (M 31)] (s (.block 0 (R 33 [M 3,N .lss 3 33 0,M 34,j 35 (M 3),j 35 (N .geq 3 36 16),P 35 37,M 38,j 39 (F 1 2),j 39 (l 40),j 39 (M 3),j 39 (B .add 3 41 42),j 39 (N .gtr 3 43 1099511627776),P 39 44,M 45,j 46 (F 1 6),j 46 (l 47),j 46 (M 3),j 46 (B .add 3 48 49),j 46 (N .gtr 3 50 1048576),P 46 51,e 32 (M 52)] (V 32 (R 2 [v fa] r) (R 54 [F 1 4,l 54,I (.bin .lss 3 (t 55) (.const (.int .i64 (-1)))),M 56,j 57 (F 1 4),j 57 (l 58),j 57 (N .gtr 3 59 1099511627776),P 57 60,e 53 (M 61)] (V 53 (R 2 [v fa] r) (R 63 [F 1 4,l 63,I (.bin .eql 3 (t 64) (.const (.int .i64 (-1)))),M 65,J 66 (F 1 5),J 66 (l 67),J 66 (F 1 6),J 66 (l 69),J 66 (B .add 3 68 70),J 66 (N .neq 3 71 0),J 66 (M 72),j 73 (F 1 7),j 73 (l 74),J 66 (P 73 75),J 66 (M 76),j 77 (F 1 8),j 77 (l 78),j 77 (N .neq 3 79 0),J 66 (P 77 80),Q 66 81,e 62 (M 82)] (V 62 (R 2 [v fa] r) k))))))) (s (R 83 [F 1 8,l 83] (D (R 86 [N .eql 3 84 0,e 85 (M 86)] (V 85 (R 87 [F 1 0,l 87,e 4 (M 88)] (s (R 89 [F 1 9,l 89,H 90,C 0] (.block 2 (.loop vg))) (R 2 [v tr] r))) (s (R 117 [N .eql 3 84 1,e 116 (M 117)] (V 116 k (O 118 [N .eql 3 84 2,e 116 (M 118)]))) vh))))) (R 2 [v fa] r))))))
def I5:=xo 190 ⟨Ac,131,[.tmp 2]⟩ Tryz.func190 (by kernel_rfl)
def Ad:ac:=(R 31 [N .lss 3 30 7] (s (V 31 k (x 0)) (s (D (R 32 [I (.aidx (t 29) (t 30) 7 1 false),e 5 (M 32)] (O 33 [M 3,M 5,Y 247 [33,34],e 3 (M 35)]))) (O 36 [N .add 3 30 1,e 30 (M 36)]))))
def Ae:ac:=(R 68 [B .lss 3 67 66] (s (V 68 k (x 2)) (s (.block 3 (R 69 [A 65 67 5,L 5 69,e 9 (T 239 (.agg [(z 0),(.v (.string ⟨#[]⟩)),(.v (.string ⟨#[]⟩)),(.v (.bool false)),(z 0)])),S 5 9 70] (R 72 [L 5 9,F 1 0,l 73,M 7,Y 248 [72,74,75],e 71 (M 76),E 71 0,E 71 1,e 10 (M 77),e 11 (M 78)] (O 79 [M 3,M 10,I (.app 5 1 (.v (.int .u8 0)) (t 79) (t 80)),e 3 (M 81)])))) (O 82 [N .add 3 67 1,e 67 (M 82)]))))
def vi:ac:=(R 83 [M 3,Y 54 [83],e 3 (M 84)] (R 85 [M 3,H 85,I (.conv .u64 (t 86)),I (.call 130 [n,(t 87),(c 4)]),M 3,I (.app 5 1 (.v (.int .u8 0)) (t 88) (t 89)),e 2 (M 90)] r))
def vj:ac:=(s (Z 44 [M 3,M 6,I (.lits 5 false 1 1 [(.v (.int .u8 0))] [(0,1,(t 45))]),I (.app 5 1 (.v (.int .u8 0)) (t 44) (t 46)),F 1 9,l 48,H 49,Y 247 [47,50],e 3 (M 51)] [2,5,3,5]) (s (R 52 [F 1 9,l 52,H 53,N .gtr 3 54 0] (V 55 (R 56 [F 1 9,l 56,I (.eadr (t 57) (c 0) 5),F 58 4,l 59,e 7 (M 60)] (R 61 [M 3,M 7,Y 247 [61,62],e 3 (M 63)] (R 64 [F 1 9,l 64,H 65,C 0] (.block 2 (.loop Ae))))) k)) vi))
def Af:ac:=(R 1 [X 79 0,v n] (R 3 [v n] (s (R 12 [F 1 0,l 12,F 1 1,l 14,F 1 0,l 16,B .sub 3 15 17,F 1 2,l 19,F 1 3,l 21,F 1 4,l 23,F 1 5,l 25,F 1 6,l 27,I (.build [(z 0),(z 0),(z 0),(z 0),(z 0),(z 0),(z 0)] [(0,1,(t 13)),(1,1,(t 18)),(2,1,(t 20)),(3,1,(t 22)),(4,1,(t 24)),(5,1,(t 26)),(6,1,(t 28))]),C 0] (K Ad)) (R 37 [F 1 8,l 37,I (.conv .u8 (t 38)),e 6 (M 39)] (s (R 40 [F 1 7,l 40] (V 41 (O 42 [M 6,I (.bin .or 5 (t 42) (.const (.int .u8 4))),e 6 (M 43)]) k)) vj)))))
def I6:=xo 191 ⟨Af,91,[.tmp 2]⟩ Tryz.func191 (by kernel_rfl)
def Ag:ac:=(R 1 [X 24 0,C 0] (s (Z 3 [F 1 1,l 3,F 1 2,l 5,L 3 1,Y 194 [7],A 6 8 2,L 2 9,Y 204 [10],I (.mm true (t 4) (t 11)),e 2 (M 12)] [1,3,1,4,3,4,1,5,3,5,1,6,1,7,1,8]) r))
def I7:=xo 192 ⟨Ag,13,[.tmp 2]⟩ Tryz.func192 (by kernel_rfl)
def Ah:ac:=(R 1 [X 79 0,C 0] (R 6 [L 10 1,Y 100 [6],e 5 (M 7),E 5 0,E 5 1,e 3 (M 8),e 4 (M 9)] (R 10 [M 3,H 10,e 2 (M 11)] r)))
def I8:=xo 193 ⟨Ah,12,[.tmp 2]⟩ Tryz.func193 (by kernel_rfl)
def Ai:ac:=(R 1 [X 24 0,C 0] (R 3 [F 1 2,l 3,H 4,N .sub 3 5 1,e 2 (M 6)] r))
def I9:=xo 194 ⟨Ai,7,[.tmp 2]⟩ Tryz.func194 (by kernel_rfl)
def vk:ac:=(R 3 [X 61 0,X 79 1,e 6 (T 61 (.agg [(z 0),.e0])),e 7 (C 0)] (s (R 13 [L 2 3,Y 153 [13],e 12 (M 14),E 12 0,E 12 1,e 8 (M 15),e 9 (M 16)] (R 17 [M 9,F 3 1,l 18,H 19,B .neq 3 17 20,M 21,j 22 (F 3 0),j 22 (l 23),j 22 (Y 249 [24]),j 22 (U 25),P 22 26,M 27,j 28 (M 2),j 28 (Y 250 [29]),j 28 (U 30),P 28 31] (V 32 (R 33 [I (.build [(z 0),.e0] []),S 2 6 33,e 7 (C 1)] r) k))) (R 35 [L 10 4,Y 100 [35],e 34 (M 36),E 34 0,E 34 1,e 10 (M 37),e 11 (M 38)] (s (.block 0 (R 40 [M 11,N .neq 37 40 0,e 39 (M 41)] (V 39 (R 42 [I (.build [(z 0),.e0] []),M 11,S 2 6 42,e 7 (M 43)] r) (s (Z 45 [F 4 0,l 45,L 2 3,Y 204 [47],B .lss 3 46 48,e 44 (M 49)] [1,2,1,3]) (V 44 (R 50 [I (.build [(z 0),.e0] []),S 2 6 50,e 7 (C 71)] r) (R 52 [F 3 1,l 52,H 53,M 10,H 55,B .add 3 54 56,M 2,B .gtr 3 57 58,e 51 (M 59)] (V 51 (R 60 [I (.build [(z 0),.e0] []),S 2 6 60,e 7 (C 70)] r) k))))))) (s (Z 61 [F 3 0,l 61,F 3 1,l 63,M 10,I (.lits 59 false 1 2 [.e0] [(0,1,(t 64)),(1,1,(t 65))]),Y 251 [66],I (.build [(z 0),.e0] [(0,1,(t 62)),(1,1,(t 67))]),S 2 6 68,e 7 (C 0)] [1,3,1,5,1,6]) r)))))
def Aj:=xo 195 ⟨vk,69,[.cell 6 2 true,.tmp 7]⟩ Tryz.func195 (by kernel_rfl)
def Ak:ac:=(R 2 [X 24 0,e 4 (T 24 (.agg [(z 0),(z 0),.e0]))] (R 5 [F 2 0,l 5,F 2 1,l 7,M 1,I (.build [(z 0),(z 0),.e0] [(0,1,(t 6)),(1,1,(t 8)),(2,1,(t 9))]),S 3 4 10] r))
def Ja:=xo 196 ⟨Ak,11,[.cell 4 3 true]⟩ Tryz.func196 (by kernel_rfl)
def Al:ac:=(R 28 [B .lss 3 27 26] (s (V 28 k (x 0)) (s (D (R 29 [A 25 27 10,L 10 29,e 11 (T 79 (.agg [(z 0),(z 0),(z 0),(z 0),(z 0),(z 0),(z 0),(.v (.bool false)),(z 0),.e0])),S 10 11 30] (R 32 [L 2 8,L 10 11,M 2,Y 195 [32,33,34],e 31 (M 35),E 31 0,E 31 1,S 2 8 36,e 9 (M 37)] (R 38 [M 9,N .neq 37 38 0] (V 39 (R 40 [I (.build [(z 0),.e0] []),M 9,S 2 6 40,e 7 (M 41)] r) k))))) (O 42 [N .add 3 27 1,e 27 (M 42)]))))
def Am:ac:=(R 6 [T 61 (.agg [(z 0),.e0]),C 0] (R 13 [M 0,Y 252 [13],e 12 (M 14),E 12 0,E 12 1,e 8 (T 61 (.agg [(z 0),.e0])),S 2 8 15,e 9 (M 16)] (s (R 17 [M 9,N .neq 37 17 0,M 18,j 19 (M 2),j 19 (Y 250 [20]),j 19 (U 21),P 19 22] (V 23 (R 24 [I (.build [(z 0),.e0] []),S 2 6 24,e 7 (C 1)] r) k)) (s (R 25 [M 1,H 25,C 0] (K Al)) (R 43 [L 2 8,S 2 6 43,e 7 (C 0)] r)))))
def Jb:=xo 197 ⟨Am,44,[.cell 6 2 true,.tmp 7]⟩ Tryz.func197 (by kernel_rfl)
def pA:ac:=(R 9 [B .lss 3 8 7] (s (V 9 k (x 0)) (s (D (R 10 [M 8,e 5 (M 10)] (R 11 [M 1,M 0,M 5,A 12 13 10,L 10 14,I (.callv (t 11) [(t 15)])] (V 16 (R 17 [M 5,e 4 (M 17)] r) k)))) (O 18 [N .add 3 8 1,e 8 (M 18)]))))
def pB:ac:=(R 4 [C 0] (s (R 6 [M 0,H 6,C 0] (K pA)) (R 4 [v (.const (.int .i64 (-1)))] r)))
def rB:=xo 198 ⟨pB,19,[.tmp 4]⟩ Tryz.func198 (by kernel_rfl)
def An:ac:=(R 3 [X 79 0,v fa] (s (Z 5 [l 1,L 10 3,Y 193 [6],B .add 3 5 7,S 1 1 8] [0,1,0,2]) (R 9 [l 1,l 2,B .gtr 3 9 10,e 4 (M 11)] r)))
def Jc:=xo 199 ⟨An,12,[.tmp 4]⟩ Tryz.func199 (by kernel_rfl)
def vl:ac:=(R 4 [C 0] (R 5 [M 0,M 1,I (.call 254 [(t 5),(t 6),tr]),e 4 (M 7)] r))
def Ao:=xo 202 ⟨vl,8,[.tmp 4]⟩ Tryz.func202 (by kernel_rfl)
def Ap:ac:=(R 2 [v fa] (R 3 [M 0,N .geq 3 3 0,M 4,J 5 (M 0),J 5 (N .leq 3 6 1099511627776),Q 5 7,e 2 (M 8)] r))
def Jd:=xo 203 ⟨Ap,9,[.tmp 2]⟩ Tryz.func203 (by kernel_rfl)
def Aq:ac:=(R 1 [X 61 0,C 0] (R 5 [F 1 0,l 5,e 3 (T 3 (z 0)),S 1 3 6] (s (R 7 [L 2 1,Y 220 [7]] (.block 0 (.rangef (t 8) [9,10] (O 4 [T 79 (.agg [(z 0),(z 0),(z 0),(z 0),(z 0),(z 0),(z 0),(.v (.bool false)),(z 0),.e0]),S 10 4 9]) (D (O 11 [F 4 1,l 11,N .add 3 12 1,S 1 3 13]))))) (R 14 [l 3,e 2 (M 14)] r))))
def Je:=xo 204 ⟨Aq,15,[.tmp 2]⟩ Tryz.func204 (by kernel_rfl)
def Ar:ac:=(s (R 16 [M 6,M 0,H 17,B .lss 3 16 18] (V 19 k (x 0))) (s (D (R 22 [M 0,M 6,A 22 23 6,L 6 24,e 7 (T 58 (.agg [(z 0),(z 0),(z 0),(z 0),(.v (.int .u32 0)),(z 0)])),S 6 7 25] (R 26 [M 1,L 6 7,I (.callv (t 26) [(t 27)]),U 28] (V 29 (R 30 [M 0,M 5,L 6 7,A 30 31 6,S 6 33 32] (O 34 [M 5,N .add 3 34 1,e 5 (M 35)])) k)))) (O 20 [M 6,N .add 3 20 1,e 6 (M 21)])))
def je:ac:=(R 4 [v n] (R 8 [M 0,M 1,Y 98 [8,9],e 5 (M 10)] (s (R 11 [M 5,I (.bin .eql 3 (t 11) (.const (.int .i64 (-1))))] (V 12 (R 13 [M 0,e 4 (M 13)] r) k)) (s (R 14 [M 5,N .add 3 14 1,e 6 (M 15)] (K Ar)) (R 36 [M 0,M 5,I (.ssl (t 36) (some (t 37)) none 6),.xx ⟨none,.stuck,none⟩] (R 39 [M 0,M 5,I (.ssl (t 39) none (some (t 40)) 6),e 4 (M 41)] r))))))
def Jf:ac:=(R 2 [v n] (s (R 3 [M 0,I (.bin .eql 25 (t 3) n)] (V 4 (R 2 [v n] r) k)) (R 5 [I (.lits 58 true 6 0 [(z 0),(z 0),(z 0),(z 0),(.v (.int .u32 0)),(z 0)] []),M 0,I (.app 58 6 (.agg [(z 0),(z 0),(z 0),(z 0),(.v (.int .u32 0)),(z 0)]) (t 5) (t 6)),e 2 (M 7)] r)))
def Jg:=xo 206 ⟨Jf,8,[.tmp 2]⟩ Tryz.func206 (by kernel_rfl)
def As:ac:=(R 2 [X 58 0,v fa] (R 4 [l 1,L 6 2,I (.callv (t 4) [(t 5)]),U 6,e 3 (M 7)] r))
def Jh:=xo 207 ⟨As,8,[.tmp 3]⟩ Tryz.func207 (by kernel_rfl)
def At:ac:=(R 2 [X 58 0,v fa] (R 4 [F 2 5,l 4,l 1,B .eql 3 5 6,e 3 (M 7)] r))
def Ji:=xo 208 ⟨At,8,[.tmp 3]⟩ Tryz.func208 (by kernel_rfl)
def Au:ac:=(R 2 [X 58 0,v fa] (R 4 [F 2 0,l 4,l 1,B .eql 3 5 6,e 3 (M 7)] r))
def Jj:=xo 211 ⟨Au,8,[.tmp 3]⟩ Tryz.func211 (by kernel_rfl)
def Av:ac:=(R 3 [X 251 1,v fa] (R 5 [M 0,L 2 3,Y 256 [5,6],N .geq 3 7 0,e 4 (M 8)] r))
def Jk:=xo 212 ⟨Av,9,[.tmp 4]⟩ Tryz.func212 (by kernel_rfl)
end
end Go.Wt
