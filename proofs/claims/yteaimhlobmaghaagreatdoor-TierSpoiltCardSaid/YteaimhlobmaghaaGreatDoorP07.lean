/- A part of the proof of a tier statement (the last text closes it): lemmas without condition. -/
import Derived.Test.YteaimhlobmaghaaGreatDoorP06
set_option linter.all false
set_option maxRecDepth 10000000
set_option maxHeartbeats 0
namespace Go.Wt
section
open Go.RowKit
variable{P:Program}{C:aD}{E F:aa}{dst:Option Nat}{r:aq}
def al.operands:al->List Operand
 | .mv x| .nilc x| .un _ x| .conv _ x| .b2s x| .part x _ _ _| .ext x _| .fld x _| .load _ _ x| .box _ x| .len _ x| .cap x| .mkif _ x=>[x]
 | .pick p x y=>[p,x,y]
 | .bin _ _ x y| .aidx x y _ _ _| .sidx x y| .eadr x y _| .aadr x y _ _| .store _ x y| .app _ _ _ x y| .appz _ _ _ x y| .mm _ x y=>[x,y]
 | .build _ ps| .lits _ _ _ _ _ ps=>ps.map (·.2.2)
 | .alloc _ _=>[]
 | .sstr x lo hi| .ssl x lo hi _=>x::lo.toList++hi.toList
 | .ssl3 x y z _=>[x,y,z]
 | .ssl3l x y z u _=>[x,y,z,u]
 | .asl _ _ _ _=>[]
 | .mkfn _ caps=>caps
 | .mkfnb _ first caps=>first++caps
 | .mkmap r=>r.toList
 | .mlen x| .rng x| .nxt x=>[x]
 | .mget _ _ x k _| .ment _ _ x k=>[x,k]
 | .mset _ x k y| .mst x k y=>[x,k,y]
 | .mksl _ _ _ _ l c=>[l,c]
 | .copy _ x y=>[x,y]
 | .pan x=>[x]
 | .stuck=>[]
 | .call _ args=>args
 | .callv x args=>x::args
def dJ(E F:aa)(l:List Nm):Prop:=∀s∈l,F.slots s=E.slots s/\F.used s=E.used s
def qO{d:DV}{x:ab×List Nm}(h:E.view1 d=some x)(hs:dJ E F x.2):F.view1 d=some x:=by
 unfold aa.view1 at*
 split at h
 .exact h
 .exact h
 .exact h
 .rename_i s n
  split at h
  .rename_i e m l fz Tj
   split at h
   .rename_i hn
    simp only[ajr]at h
    subst h
    rw[(hs s ajK).1,Tj]
    simp[hn]
   .simp at h
  .simp at h
 .simp at h
def pa{d:DV}{x:ab×List Nm}(h:E.view d=some x)(hs:dJ E F x.2):F.view d=some x:=by
 cases d with
 |agg l=>
  simp only[aa.view,ajt]at h⊢
  obtain⟨ps,h1,rfl⟩:=h
  refine⟨ps,?_,rfl⟩
  induction l generalizing ps with
  |nil=>simpa using h1
  |cons d l ih=>
   simp only[List.mapM_cons,ajP,ajE,ajv,ajr]at h1⊢
   obtain⟨p,h2,ps',h3,rfl⟩:=h1
   refine⟨p,qO h2 (fun s TO=>hs s ?_),ps',ih ps' h3 (fun s TO=>hs s ?_),rfl⟩
   .simp only[List.flatMap_cons,ajG];exact .inl TO
   .simp only[List.flatMap_cons,ajG];exact .inr TO
 |t y=>exact h
 |_=>simp only[aa.view]at h⊢;exact qO h hs
def nI{m:Nat}{d:DV}{x:List ab×List Nm}(h:E.more m d=some x)(hs:dJ E F x.2):F.more m d=some x:=by
 unfold aa.more at*
 split at h
 .exact h
 .split at h
  .rename_i rd hv
   simp only[ajr]at h
   subst h
   rw[pa hv hs]
  .rename_i m' l rd hv
   split at h
   .rename_i hm
    simp only[ajr]at h
    subst h
    rw[pa hv hs]
    simp[hm]
   .simp at h
  .simp at h
def uy{s:Nm}(h:F.used s=E.used s):F.fresh s=E.fresh s:=by unfold aa.fresh;rw[h]
def Hn{kt:TypeId}{z:ab}{ok:Bool}{x k:DV}(hr:fy P E kt z ok x k=some r)(hs:dJ E F (r.rd++r.ups.map (·.1))):fy P F kt z ok x k=some r:=by
 unfold fy at*
 cases hk:k.flat? with
 |none=>rw[hk]at hr;simp at hr
 |some kv=>
  simp only[hk]at hr⊢
  cases x with
  |mp s=>
   simp only at hr⊢
   have TE:s∈r.rd:=by
    (repeat' split at hr)<;>first|(simp at hr;done)|(simp only[ajr]at hr;subst hr;simp)
   rw[(hs s (by simp[TE])).1]
   exact hr
  |_=>(repeat' split at hr)<;>simp_all
def Ho{kt:TypeId}{x k y:DV}(hr:oQ P E kt x k y=some r)(hs:dJ E F (r.rd++r.ups.map (·.1))):oQ P F kt x k y=some r:=by
 unfold oQ at*
 cases hk:k.flat? with
 |none=>rw[hk]at hr;simp at hr
 |some kv=>
  simp only[hk]at hr⊢
  cases x with
  |mp s=>
   simp only at hr⊢
   have TE:s∈r.rd:=by
    (repeat' split at hr)<;>first|(simp at hr;done)|(simp only[ajr]at hr;subst hr;simp)
   rw[(hs s (by simp[TE])).1]
   exact hr
  |_=>(repeat' split at hr)<;>simp_all
def Hp{kt:TypeId}{z:ab}{x k:DV}(hr:kh P E kt z x k=some r)(hs:dJ E F (r.rd++r.ups.map (·.1))):kh P F kt z x k=some r:=by
 unfold kh at*
 cases hk:k.flat? with
 |none=>rw[hk]at hr;simp at hr
 |some kv=>
  simp only[hk]at hr⊢
  cases x with
  |mp s=>
   simp only at hr⊢
   have TE:s∈r.rd:=by
    (repeat' split at hr)<;>first|(simp at hr;done)|(simp only[ajr]at hr;subst hr;simp)
   rw[(hs s (by simp[TE])).1]
   exact hr
  |_=>(repeat' split at hr)<;>simp_all
def Hq{x st y:DV}(hr:ki E x st y=some r)(hs:dJ E F (r.rd++r.ups.map (·.1))):ki F x st y=some r:=by
 unfold ki at*
 split at hr
 .rename_i s κ n
  have TE:s∈r.rd:=by
   (repeat' split at hr)<;>first|(simp at hr;done)|(simp only[ajr]at hr;subst hr;simp)
  rw[(hs s (by simp[TE])).1]
  exact hr
 .simp at hr
def Hr{x:DV}(hr:oR E x=some r)(hs:dJ E F (r.rd++r.ups.map (·.1))):oR F x=some r:=by
 unfold oR at*
 cases x with
 |mp s=>
  simp only at hr⊢
  have TE:s∈r.rd:=by
   (repeat' split at hr)<;>first|(simp at hr;done)|(simp only[ajr]at hr;subst hr;simp)
  rw[(hs s (by simp[TE])).1]
  exact hr
 |_=>(repeat' split at hr)<;>simp_all
def Hs{x:DV}(hr:kj E x=some r)(hs:dJ E F (r.rd++r.ups.map (·.1))):kj F x=some r:=by
 unfold kj at*
 split at hr
 .rename_i s
  have TE:s∈r.rd:=by
   (repeat' split at hr)<;>first|(simp at hr;done)|(simp only[ajr]at hr;subst hr;simp)
  rw[(hs s (by simp[TE])).1]
  exact hr
 .simp at hr
def Ht{m:Nat}{x y:DV}(hr:oS E m y x=some r)(hs:dJ E F (r.rd++r.ups.map (·.1))):oS F m y x=some r:=by
 unfold oS at*
 split at hr
 .rename_i s n
  split at hr
  .rename_i e m' l0 l rd Tj hm
   split at hr
   .rename_i hc
    simp only[ajr]at hr
    subst hr
    rw[nI hm (fun s TO=>hs s (by simp[TO])),(hs s (by simp)).1,Tj]
    simp only
    rw[if_pos hc]
   .simp at hr
  .simp at hr
 .simp at hr
def yK{n:Nat}{p q:DV}{r:aq}(hr:fX E n p q=some r)(hs:dJ E F (r.rd++r.ups.map (·.1))):fX F n p q=some r:=by
 unfold fX at*
 split at hr
 .rename_i s k j
  split at hr
  .rename_i hc
   split at hr
   .rename_i e d Tj
    split at hr
    .rename_i hk
     split at hr
     .rename_i d' VO
      simp only[ajr]at hr
      subst hr
      rw[(hs s (by simp)).1,Tj]
      simp[hc,hk,VO]
     .simp at hr
    .simp at hr
   .rename_i e m l Tj
    split at hr
    .rename_i x0 hk
     split at hr
     .rename_i x' hx'
      simp only[ajr]at hr
      subst hr
      rw[(hs s (by simp)).1,Tj]
      simp only[hc,and_self,if_true,hk,hx']
     .simp at hr
    .simp at hr
   .simp at hr
  .simp at hr
 .simp at hr
def Hu{n:Nat}{p q:DV}{r:aq}(hr:fX E n p q=some r):∃s k j,p= .ptr s k j/\s∈r.rd:=by
 unfold fX at hr
 split at hr
 .rename_i s k j
  refine⟨s,k,j,rfl,?_⟩
  (repeat' split at hr)<;>first|(simp only[ajr]at hr;subst hr;exact ajK)|(simp at hr;done)
 .simp at hr
def Hv{n:Nat}{s:Nm}{k j:Nat}{q:DV}(h:F.slots s=E.slots s):fX F n (.ptr s k j) q=fX E n (.ptr s k j) q:=by
 simp only[fX,h]
def qP{rd:List Nm}(h:∀s∈rd,F.slots s=E.slots s):am F rd=am E rd:=by
 unfold am
 exact List.map_congr_left fun s hs=>by rw[h s hs]
def Hw{To:List (Nat×Nat×DV)}{x:List (Nat×Nat×DV)×List Nm}(h:E.viewPs To=some x)(hs:dJ E F x.2):F.viewPs To=some x:=by
 simp only[aa.viewPs,ajt]at h⊢
 obtain⟨ps,h1,rfl⟩:=h
 refine⟨ps,?_,rfl⟩
 induction To generalizing ps with
 |nil=>simpa using h1
 |cons d l ih=>
  simp only[List.mapM_cons,ajP,ajE,ajv,ajr,ajt]at h1⊢
  obtain⟨p,⟨q,h2,rfl⟩,ps',h3,rfl⟩:=h1
  refine⟨_,⟨q,pa h2 (fun s TO=>hs s ?_),rfl⟩,ps',ih ps' h3 (fun s TO=>hs s ?_),rfl⟩
  .simp only[List.flatMap_cons,ajG];exact .inl TO
  .simp only[List.flatMap_cons,ajG];exact .inr TO
def Hx{agg:Bool}{m len:Nat}{zero:List ab}{To:List (Nat×Nat×DV)}{r:aq}(hr:md E agg m len zero To=some r)(hs:dJ E F (r.rd++r.ups.map (·.1))):md F agg m len zero To=some r:=by
 unfold md at*
 split at hr
 .exact hr
 .split at hr
  .rename_i hc;rw[if_pos hc];exact hr
  .rename_i hc
   rw[if_neg hc]
   split at hr
   .rename_i ps rd hv
    split at hr
    .rename_i r0 h0
     simp only[ajr]at hr
     subst hr
     have hvF:=Hw hv (F:=F) fun s hm=>hs s (by simp only[ajG];exact .inl (.inl hm))
     have hfz:am F rd=am E rd:=qP fun s hm=>(hs s (by simp only[ajG];exact .inl (.inl hm))).1
     rw[hvF]
     simp only[h0,hfz]
    .simp at hr
   .simp at hr
def Hy{m:Nat}{b c d:DV}{r:aq}(hr:nl E m b c d=some r)(hs:dJ E F (r.rd++r.ups.map (·.1))):nl F m b c d=some r:=by
 unfold nl at*
 split at hr
 .split at hr
  .rename_i hc;rw[if_pos hc];exact hr
  rename_i Ws
  rw[if_neg Ws]
  split at hr
  .rename_i m' l rd Tu
   split at hr
   .rename_i hc
    simp only[ajr]at hr
    subst hr
    have hvF:=qO Tu (F:=F) fun s hm=>hs s (by simp only[ajG];exact .inl hm)
    have hfz:am F rd=am E rd:=qP fun s hm=>(hs s (by simp only[ajG];exact .inl hm)).1
    rw[hvF]
    simp only[hc,and_self,if_true,hfz]
   .simp at hr
  .simp at hr
 .simp at hr
def Hz{m:Nat}{a b c d:DV}{r:aq}(hr:np E m a b c d=some r)(hs:dJ E F (r.rd++r.ups.map (·.1))):np F m a b c d=some r:=by
 unfold np at*
 split at hr
 .split at hr
  .rename_i m' l rd Tu
   split at hr
   .rename_i hc
    simp only[ajr]at hr
    subst hr
    have hvF:=qO Tu (F:=F) fun s hm=>hs s (by simp only[ajG];exact .inl hm)
    have hfz:am F rd=am E rd:=qP fun s hm=>(hs s (by simp only[ajG];exact .inl hm)).1
    rw[hvF]
    simp only[hc,and_self,if_true,hfz]
   .simp at hr
  .simp at hr
 .simp at hr
def yL{e:TypeId}{m:Nat}{s':Nm}{y x:DV}{r:aq}(hr:aB E e m s' y x=some r)(hs:dJ E F (r.rd++r.ups.map (·.1))):aB F e m s' y x=some r:=by
 unfold aB at*
 split at hr
 .split at hr
  .rename_i l rd hm
   split at hr
   .rename_i hc
    simp only[ajr]at hr
    subst hr
    have:F.fresh s'=E.fresh s':=by unfold aa.fresh;rw[(hs s' (by simp)).2]
    rw[nI hm (fun s TO=>hs s (by simp[TO])),this]
    simp[hc]
   .simp at hr
  .simp at hr
 .rename_i s n
  split at hr
  .rename_i e' m' l0 l rd Tj hm
   split at hr
   .rename_i hc
    simp only[ajr]at hr
    subst hr
    have:F.fresh s'=E.fresh s':=by unfold aa.fresh;rw[(hs s' (by simp)).2]
    rw[nI hm (fun s TO=>hs s (by simp[TO])),(hs s (by simp)).1,Tj]
    simp only[this]
    rw[if_pos hc]
   .simp at hr
  .simp at hr
 .split at hr
  .rename_i l rd hm
   split at hr
   .rename_i hc
    simp only[ajr]at hr
    subst hr
    have:F.fresh s'=E.fresh s':=by unfold aa.fresh;rw[(hs s' (by simp)).2]
    rw[nI hm (fun s TO=>hs s (by simp[TO]))]
    simp only[this]
    rw[if_pos hc]
   .simp at hr
  .simp at hr
 .split at hr
  .rename_i l rd hm
   split at hr
   .rename_i hc
    simp only[ajr]at hr
    subst hr
    have:F.fresh s'=E.fresh s':=by unfold aa.fresh;rw[(hs s' (by simp)).2]
    rw[nI hm (fun s TO=>hs s (by simp[TO]))]
    simp only[this]
    rw[if_pos hc]
   .simp at hr
  .simp at hr
 .simp at hr
def HA{e:TypeId}{m:Nat}{z:ab}{s':Nm}{y x:DV}{r:aq}(hr:nq E e m z s' y x=some r)(hs:dJ E F (r.rd++r.ups.map (·.1))):nq F e m z s' y x=some r:=by
 unfold nq at*
 split at hr
 .split at hr
  .rename_i hc;rw[if_pos hc];exact yL hr hs
  .simp at hr
 .simp at hr
def HB{n:Nat}{p q:DV}{r:aq}(hr:mb E n p q=some r)(hs:dJ E F (r.rd++r.ups.map (·.1))):mb F n p q=some r:=by
 unfold mb at*
 split at hr
 .rename_i r0 h0
  simp only[ajr]at hr
  subst hr
  rw[yK h0 hs]
 .rename_i acS
  split at hr
  .rename_i t rd hv
   split at hr
   .rename_i r0 h0
    simp only[ajr]at hr
    subst hr
    have Xv:∀s∈rd++(r0.rd++r0.ups.map (·.1)),F.slots s=E.slots s/\F.used s=E.used s:=fun s hm=>hs s (by
     simp only[ajG,aki]at hm⊢
     rcases hm with hm|hm|hm
     .exact .inl (.inl hm)
     .exact .inl (.inr hm)
     .exact .inr (.inl hm))
    have hvF:=pa hv (F:=F) fun s hm=>Xv s (ajG.2 (.inl hm))
    have hfz:am F rd=am E rd:=qP fun s hm=>(Xv s (ajG.2 (.inl hm))).1
    obtain⟨s,k,j,rfl,TE⟩:=Hu h0
    have Tj:F.slots s=E.slots s:=(Xv s (by simp[TE])).1
    rw[Hv Tj,acS]
    have WJ:fX (F.upd (am F rd)) n (.ptr s k j) (.t t)=some r0:=by
     refine yK h0 fun u hu=>?_
     obtain⟨q1,q2⟩:=Xv u (ajG.2 (.inr hu))
     rw[hfz]
     refine⟨?_,?_⟩
     .show(match(am E rd).lookup u with|some r=>r|none=>F.slots u)=match(am E rd).lookup u with|some r=>r|none=>E.slots u
      rw[q1]
     .show(((am E rd).lookup u).isSome||F.used u)=(((am E rd).lookup u).isSome||E.used u)
      rw[q2]
    rw[hfz]at WJ
    simp only[hvF,hfz,WJ]
   .simp at hr
  .simp at hr
def HC{op:al}(hr:op.den P E dst=some r)(TL:∀x∈op.operands,F.ev x=E.ev x)(hs:dJ E F (r.rd++r.ups.map (·.1))):op.den P F dst=some r:=by
 have Zs:∀ps:List (Nat×Nat×Operand),(∀x∈ps.map (·.2.2),F.ev x=E.ev x)->(ps.map fun p=>(p.1,p.2.1,F.ev p.2.2))=ps.map fun p=>(p.1,p.2.1,E.ev p.2.2):=by
  intro ps hp
  refine List.map_congr_left fun p hm=>?_
  rw[hp p.2.2 (ajI.2 ⟨p,hm,rfl⟩)]
 cases op<;>simp only[al.operands,akc,List.not_mem_nil,or_false,forall_eq,forall_eq_or_imp]at TL<;>simp only[al.den]at hr⊢
 case mv x=>rw[TL];exact hr
 case nilc x=>rw[TL];exact hr
 case pick p x y=>rw[TL.1,TL.2.1,TL.2.2];exact hr
 case bin op t x y=>rw[TL.1,TL.2];exact hr
 case un op x=>rw[TL];exact hr
 case conv k x=>rw[TL];exact hr
 case part x o n ag=>rw[TL];exact hr
 case aidx x i l m ag=>rw[TL.1,TL.2];exact hr
 case sidx x i=>rw[TL.1,TL.2];exact hr
 case build z ps=>rw[Zs ps TL];exact hr
 case ext x i=>rw[TL];exact hr
 case fld x o=>rw[TL];exact hr
 case aadr x i l m=>rw[TL.1,TL.2];exact hr
 case lits e ag m l z ps=>rw[Zs ps TL];exact Hx hr hs
 case cap x=>rw[TL];exact hr
 case ssl3 x y z m=>rw[TL.1,TL.2.1,TL.2.2];exact Hy hr hs
 case ssl3l x y z u m=>rw[TL.1,TL.2.1,TL.2.2.1,TL.2.2.2];exact Hz hr hs
 case len s x=>rw[TL];exact hr
 case asl x l m ag=>exact hr
 case mm mx x y=>rw[TL.1,TL.2];exact hr
 case mkif t x=>rw[TL];exact hr
 case mkfn f caps=>rw[List.map_congr_left TL];exact hr
 case sstr x lo hi=>
  have h1:lo.map F.ev=lo.map E.ev:=by cases lo<;>simp;exact TL _ (by simp)
  have h2:hi.map F.ev=hi.map E.ev:=by cases hi<;>simp;exact TL _ (by simp)
  rw[h1,h2,TL x (by simp)];exact hr
 case b2s x=>
  rw[TL]
  unfold oN at*
  split at hr
  .simp at hr
  .split at hr
   .rename_i l rd hm
    split at hr
    .rename_i bs hb
     simp only[ajr]at hr
     subst hr
     rw[nI hm (fun s TO=>hs s (by simpa using TO))]
     simp[hb]
    .simp at hr
   .simp at hr
 case eadr x i m=>
  rw[TL.1,TL.2]
  unfold qB at*
  split at hr
  .rename_i s n κ iv h1 h2
   split at hr
   .rename_i e m' l fz Tj
    split at hr
    .rename_i hc
     simp only[ajr]at hr
     subst hr
     rw[(hs s (by simp)).1,Tj]
     simp[hc]
    .simp at hr
   .simp at hr
  .exact hr
  .exact hr
  .exact hr
  .exact hr
  .exact hr
 case load n ag x=>
  rw[TL]
  unfold ma at*
  split at hr
  .rename_i s k j h1
   split at hr
   .rename_i e d fz Tj
    split at hr
    .rename_i hk
     split at hr
     .rename_i y hy
      simp only[ajr]at hr
      subst hr
      rw[(hs s (by simp)).1,Tj]
      simp[hk,hy]
     .simp at hr
    .simp at hr
   .rename_i e m l fz Tj
    split at hr
    .rename_i x0 hk
     split at hr
     .rename_i y hy
      simp only[ajr]at hr
      subst hr
      rw[(hs s (by simp)).1,Tj]
      simp[hk,hy]
     .simp at hr
    .simp at hr
   .simp at hr
  .exact hr
  .exact hr
  .exact hr
 case store n x y=>
  rw[TL.1,TL.2]
  exact HB hr hs
 case box e x=>
  rw[TL]
  unfold mc at*
  split at hr
  .rename_i hc
   simp only[ajr]at hr
   subst hr
   have:F.fresh (bg dst)=E.fresh (bg dst):=by unfold aa.fresh;rw[(hs (bg dst) (by simp)).2]
   rw[this]
   simp[hc]
  .simp at hr
 case alloc e z=>
  unfold mc at*
  split at hr
  .rename_i hc
   simp only[ajr]at hr
   subst hr
   have:F.fresh (bg dst)=E.fresh (bg dst):=by unfold aa.fresh;rw[(hs (bg dst) (by simp)).2]
   rw[this]
   simp[hc]
  .simp at hr
 case ssl x lo hi m=>
  have h1:lo.map F.ev=lo.map E.ev:=by cases lo<;>simp;exact TL _ (by simp)
  have h2:hi.map F.ev=hi.map E.ev:=by cases hi<;>simp;exact TL _ (by simp)
  rw[h1,h2,TL x (by simp)]
  unfold bt at*
  split at hr
  .exact hr
  .exact hr
  .rename_i s n h3
   split at hr
   .rename_i e m' l fz Tj
    split at hr
    .rename_i l1 u1 Xl hu1
     split at hr
     .rename_i hc
      have VT:F.slots s=E.slots s:=by
       refine(hs s ?_).1
       (repeat' split at hr)<;>(simp only[ajr]at hr;subst hr;simp)
      rw[VT,Tj]
      simp only[Xl,hu1,hc,and_self,if_true]
      exact hr
     .simp at hr
    .simp at hr
   .simp at hr
  .simp at hr
 case app e m z x y=>rw[TL.1,TL.2];exact yL hr hs
 case appz e m z x y=>rw[TL.1,TL.2];exact HA hr hs
 case mkfnb f first caps=>
  have h1:first.map F.ev=first.map E.ev:=List.map_congr_left fun x hx=>TL x (ajG.2 (.inl hx))
  have h2:caps.map F.ev=caps.map E.ev:=List.map_congr_left fun x hx=>TL x (ajG.2 (.inr hx))
  rw[h1,h2];exact hr
 case mkmap rr=>
  have h1:rr.map F.ev=rr.map E.ev:=by cases rr<;>simp;exact TL _ (by simp)
  rw[h1]
  unfold qE at*
  split at hr
  .rename_i hc
   simp only[ajr]at hr
   subst hr
   rw[uy (hs (bg dst) (by simp)).2,if_pos hc]
  .simp at hr
 case mget kt z x k ok=>rw[TL.1,TL.2];exact Hn hr hs
 case mset kt x k y=>rw[TL.1,TL.2.1,TL.2.2];exact Ho hr hs
 case ment kt z x k=>rw[TL.1,TL.2];exact Hp hr hs
 case mst x st y=>rw[TL.1,TL.2.1,TL.2.2];exact Hq hr hs
 case mlen x=>rw[TL];exact Hr hr hs
 case nxt x=>rw[TL];exact Hs hr hs
 case copy m x y=>rw[TL.1,TL.2];exact Ht hr hs
 case rng x=>
  rw[TL]
  unfold oT at*
  split at hr
  .split at hr
   .rename_i hc
    simp only[ajr]at hr
    subst hr
    rw[uy (hs (bg dst) (by simp)).2,if_pos hc]
   .simp at hr
  .simp at hr
 case mksl e b m z l cp=>
  rw[TL.1,TL.2]
  unfold tR at*
  split at hr
  .split at hr
   .rename_i hc
    simp only[ajr]at hr
    subst hr
    rw[uy (hs (bg dst) (by simp)).2,if_pos hc]
   .simp at hr
  .simp at hr
 case stuck=>simp at hr
 case pan x=>simp at hr
 case call f args=>simp at hr
 case callv x args=>simp at hr
end
section
open Go.RowKit
variable{P:Program}{C:aD}{ops:Array Oper}
def pd{x:Nat}:∀{l:List Nat},x∈dd l↔x∈l
 |[]=>by simp[dd]
 |y::l=>by
  simp only[dd]
  split
  .rename_i h
   rw[pd,akc]
   refine⟨.inr,fun hx=>hx.elim (fun e=>?_) id⟩
   subst e
   rw[List.contains_iff_mem]at h
   exact pd.1 h
  .simp only[akc,pd]
def uz:∀(os:List Oper) (TV:List (List Nat)),(eJ os TV).take TV.length=TV/\(eJ os TV).length=TV.length+os.length/\
  ∀(k:Nat) (o:Oper),os[k]?=some o->∀i,i∈(eJ os TV).getD (TV.length+k) []->∃e∈o.after,Region.binds .any e=true/\(i=e.on\/(e.on<TV.length+k/\i∈(eJ os TV).getD e.on []))
 |[],TV=>by simp[eJ]
 |o::os,TV=>by
  have Ua:=uz os (TV++[dd ((o.after.toList.filter (Region.binds .any)).flatMap fun e=>e.on::TV.getD e.on [])])
  simp only[eJ]
  have XC:∀i,i∈(TV++[dd ((o.after.toList.filter (Region.binds .any)).flatMap fun e=>e.on::TV.getD e.on [])]).getD TV.length []->∃e∈o.after,Region.binds .any e=true/\(i=e.on\/(e.on<TV.length/\i∈TV.getD e.on [])):=by
   intro i hi
   have e1:(TV++[dd ((o.after.toList.filter (Region.binds .any)).flatMap fun e=>e.on::TV.getD e.on [])]).getD TV.length []=dd ((o.after.toList.filter (Region.binds .any)).flatMap fun e=>e.on::TV.getD e.on []):=by simp
   rw[e1,pd,List.mem_flatMap]at hi
   obtain⟨e,he,hi⟩:=hi
   rw[List.mem_filter]at he
   refine⟨e,by simpa using he.1,he.2,?_⟩
   rcases akc.1 hi with hi|hi
   .exact .inl hi
   .refine .inr ⟨?_,hi⟩
    rcases Nat.lt_or_ge e.on TV.length with h|h
    .exact h
    .have:TV.getD e.on []=[]:=by simp[aj2 h]
     rw[this]at hi;simp at hi
  have abb:∀j,j<TV.length->(TV++[dd ((o.after.toList.filter (Region.binds .any)).flatMap fun e=>e.on::TV.getD e.on [])]).getD j []=TV.getD j []:=by
   intro j hj
   simp[akt hj]
  have hAl:(TV++[dd ((o.after.toList.filter (Region.binds .any)).flatMap fun e=>e.on::TV.getD e.on [])]).length=TV.length+1:=by simp
  have hAt:(TV++[dd ((o.after.toList.filter (Region.binds .any)).flatMap fun e=>e.on::TV.getD e.on [])]).take TV.length=TV:=by simp
  generalize(TV++[dd ((o.after.toList.filter (Region.binds .any)).flatMap fun e=>e.on::TV.getD e.on [])])=A at*
  obtain⟨h1,h2,h3⟩:=Ua
  generalize eJ os A=R at*
  have Ty:∀j,j<TV.length+1->R.getD j []=A.getD j []:=by
   intro j hj
   have:A[j]?=R[j]?:=by rw[<-h1,ajN,if_pos (by omega)]
   rw[aj5,aj5,this]
  refine⟨?_,by simp only[akx];omega,fun k o' hk i hi=>?_⟩
  .rw[<-h1,List.take_take,Nat.min_eq_left (by omega)]at hAt
   exact hAt
  .cases k with
   |zero=>
    simp only[List.getElem?_cons_zero,ajr]at hk
    subst hk
    rw[Nat.add_zero,Ty _ (by omega)]at hi
    obtain⟨e,h4,h5,h6⟩:=XC i hi
    refine⟨e,h4,h5,h6.imp id fun h=>⟨h.1,?_⟩⟩
    rw[Ty _ (by omega),abb _ h.1]
    exact h.2
   |succ k=>
    have TU:i∈R.getD (A.length+k) []:=by
     rw[hAl,show TV.length+1+k=TV.length+(k+1) by omega];exact hi
    obtain⟨e,h4,h5,h6⟩:=h3 k o' (by simpa using hk) i TU
    exact⟨e,h4,h5,h6.imp id fun h=>⟨by omega,h.2⟩⟩
def lc(ops:Array Oper)(Tp:Array Bool):Prop:=∀(m:Nat) (o:Oper),ops[m]?=some o->Tp.getD m false=true->∀e∈o.after,Region.binds .any e=true->Tp.getD e.on false=true
def uA{Tp:Array Bool}(TA:lc ops Tp):∀(j:Nat) (o:Oper),ops[j]?=some o->(∀e∈o.after,Region.binds .any e=true->Tp.getD e.on false=true)->∀i,i∈(eJ ops.toList []).getD j []->Tp.getD i false=true:=by
 intro j
 induction j using Nat.strongRecOn with
 |_ j ih=>
  intro o ho Tt i hi
  obtain⟨_,_,h3⟩:=uz ops.toList []
  simp only[List.length_nil,ajX]at h3
  obtain⟨e,h4,h5,h6⟩:=h3 j o (by simpa using ho) i hi
  rcases h6 with rfl|⟨h7,h8⟩
  .exact Tt e h4 h5
  .have hlt:e.on<ops.size:=by
    have:=(ajy.1 ho).1
    omega
   exact ih e.on h7 _ (aj7 hlt) (fun e' WH TR=>TA e.on _ (aj7 hlt) (Tt e h4 h5) e' WH TR) i h8
def lc.set{Tp:Array Bool}(TA:lc ops Tp){j:Nat}(hj:j∈Region.ready .any ops Tp):lc ops (Tp.setIfInBounds j true):=by
 intro m o hm hlm e he hb
 obtain⟨_,oj,hoj,Tt⟩:=mem_ready.1 hj
 by_cases hmj:m=j
 .subst hmj
  rw[hm]at hoj
  cases hoj
  exact getD_set_true (Tt e he hb)
 .rw[getD_set_ne false (Ne.symm hmj)]at hlm
  exact getD_set_true (TA m o hm hlm e he hb)
inductive Rc where
 |skip
 |run (r:aq)
 |und (b Ts:Bool) (r:aq)
 deriving Inhabited
def Rc.d:Rc->DV
 | .skip=> .tup []
 | .run r=>r.d
 | .und b Ts r=> .wh b Ts r.d
def Rc.ups:Rc->List (Nm×Option Row)
 | .run r=>r.ups
 |_=>[]
def Rc.rd:Rc->List Nm
 | .skip=>[]
 | .run r| .und _ _ r=>r.rd
def ap(dst:Option Nat)(ρ:Rc)(E:aa):aa:=(E.upd ρ.ups).putO dst ρ.d
def iF(P:Program)(C:aD)(E:aa)(dst:Option Nat)(r:aq):al->Prop
 | .call f args=>C P E f (args.map E.ev) dst r
 | .callv x args=>∃f pre caps,(E.ev x).callee=some (f,pre,caps)/\C P E f (pre++args.map E.ev++caps) dst r
 |op=>op.den P E dst=some r
def gB(P:Program)(C:aD)(so:aT)(E:aa):Rc->Prop
 | .skip=>∃t Ts,so.guard=some (t,Ts)/\(E.tmps t= .tup []\/∃b,E.tmps t= .t (.v (.bool b))/\b≠Ts)
 | .run r=>(so.guard=none\/∃t Ts,so.guard=some (t,Ts)/\E.tmps t= .t (.v (.bool Ts)))/\iF P C E so.dst r so.op
 | .und b Ts r=>∃t,so.guard=some (t,Ts)/\E.tmps t= .t (.v (.bool b))/\r.ups=[]/\iF P C (E.under b Ts) so.dst r so.op
def iG(ρ:Rc):Prop:=∀p∈ρ.ups,p.1.isGlob=false
def iH(C:aD):Prop:=∀P E F f ds dst r,C P E f ds dst r->dJ E F (r.rd++r.ups.map (·.1))->C P F f ds dst r
def yM(hC:iH C){E F:aa}{dst:Option Nat}{r:aq}{op:al}(h:iF P C E dst r op)(TL:∀x∈op.operands,F.ev x=E.ev x)(hs:dJ E F (r.rd++r.ups.map (·.1))):iF P C F dst r op:=by
 unfold iF at*
 split at h
 .rename_i f args
  have:args.map F.ev=args.map E.ev:=List.map_congr_left TL
  rw[this]
  exact hC _ _ _ _ _ _ _ h hs
 .rename_i x args
  obtain⟨f,pre,caps,h1,h2⟩:=h
  have e1:F.ev x=E.ev x:=TL x (by simp[al.operands])
  have e2:args.map F.ev=args.map E.ev:=List.map_congr_left fun y hy=>TL y (by simp[al.operands,hy])
  exact⟨f,pre,caps,by rw[e1];exact h1,by rw[e2];exact hC _ _ _ _ _ _ _ h2 hs⟩
 .exact HC h TL hs
def aT.looks(so:aT):List Nat:=(so.op.operands.filterMap fun| .tmp t=>some t|_=>none)++(match so.guard with|some (t,_)=>[t]|none=>[])
theorem yN{E F:aa}{x:Operand}(ht:∀t,x= .tmp t->F.tmps t=E.tmps t)(hg:∀g,F.used (.glob g)=E.used (.glob g)):F.ev x=E.ev x:=by
 cases x with
 |tmp t=>exact ht t rfl
 |const v=>rfl
 |func f=>rfl
 |global g=>simp only[aa.ev,hg]
def yO(hC:iH C){E F:aa}{so:aT}{ρ:Rc}(h:gB P C so E ρ)(ht:∀t∈so.looks,F.tmps t=E.tmps t)(hs:dJ E F (ρ.rd++ρ.ups.map (·.1)))(hg:∀g,F.used (.glob g)=E.used (.glob g)):gB P C so F ρ:=by
 have hgt:∀t Ts,so.guard=some (t,Ts)->F.tmps t=E.tmps t:=fun t Ts hgd=>ht t (by simp[aT.looks,hgd])
 have UY:∀x∈so.op.operands,∀t,x= .tmp t->F.tmps t=E.tmps t:=fun x hx t he=>ht t (by
  subst he
  simp only[aT.looks,ajG,List.mem_filterMap]
  exact .inl ⟨.tmp t,hx,rfl⟩)
 cases ρ with
 |skip=>
  obtain⟨t,Ts,h1,h2⟩:=h
  exact⟨t,Ts,h1,by rw[hgt t Ts h1];exact h2⟩
 |run r=>
  obtain⟨h1,h2⟩:=h
  refine⟨h1.imp id fun⟨t,Ts,h3,h4⟩=>⟨t,Ts,h3,by rw[hgt t Ts h3];exact h4⟩,?_⟩
  exact yM hC h2 (fun x hx=>yN (UY x hx) hg) hs
 |und b Ts r=>
  obtain⟨t,h1,h2,h3,h4⟩:=h
  refine⟨t,h1,by rw[hgt t Ts h1];exact h2,h3,?_⟩
  refine yM hC h4 (fun x hx=>yN (fun t he=>?_) hg) (fun s TO=>hs s ?_)
  .show(F.tmps t).strip b Ts=(E.tmps t).strip b Ts
   rw[UY x hx t he]
  .rw[h3]at TO
   simpa[Rc.rd,Rc.ups]using TO
def qQ(P:Program)(C:aD)(si:aT)(ρi:Rc)(sj:aT)(ρj:Rc):Prop:=
 (∀E,ap sj.dst ρj (ap si.dst ρi E)=ap si.dst ρi (ap sj.dst ρj E))/\(∀E,gB P C si E ρi↔gB P C si (ap sj.dst ρj E) ρi)/\(∀E,gB P C sj E ρj↔gB P C sj (ap si.dst ρi E) ρj)
def pe{dst:Option Nat}{ρ:Rc}{E:aa}{t:Nat}:(ap dst ρ E).tmps t=if dst=some t then ρ.d else E.tmps t:=by
 cases dst with
 |none=>simp[ap,aa.putO,aa.upd]
 |some u=>
  show(if t=u then ρ.d else E.tmps t)=_
  by_cases h:t=u
  .subst h;simp
  .rw[if_neg h,if_neg (fun e=>h (by simpa using e.symm))]
def pg{dst:Option Nat}{ρ:Rc}{E:aa}{s:Nm}:(ap dst ρ E).slots s=match ρ.ups.lookup s with|some r=>r|none=>E.slots s:=by cases dst<;>rfl
def nJ{dst:Option Nat}{ρ:Rc}{E:aa}{s:Nm}:(ap dst ρ E).used s=((ρ.ups.lookup s).isSome||E.used s):=by cases dst<;>rfl
theorem qR{l:List (Nm×Option Row)}{s:Nm}(h:s∉l.map (·.1)):l.lookup s=none:=by
 cases hl:l.lookup s with
 |none=>rfl
 |some r=>exact absurd (ajI.2 ⟨_,et hl,rfl⟩) h
def yP(hC:iH C){si sj:aT}{ρi ρj:Rc}(h1:∀d,sj.dst=some d->d∉si.looks)(hd:∀s∈ρj.ups.map (·.1),s∉ρi.rd/\s∉ρi.ups.map (·.1))(hg:iG ρj)(E:aa):gB P C si E ρi↔gB P C si (ap sj.dst ρj E) ρi:=by
 have ht:∀t∈si.looks,(ap sj.dst ρj E).tmps t=E.tmps t:=by
  intro t ht
  rw[pe,if_neg (fun e=>h1 t e ht)]
 have hn:∀s,s∈ρi.rd++ρi.ups.map (·.1)->ρj.ups.lookup s=none:=by
  intro s hs
  refine qR fun hm=>?_
  rcases ajG.1 hs with h|h
  .exact(hd s hm).1 h
  .exact(hd s hm).2 h
 have hs:dJ E (ap sj.dst ρj E) (ρi.rd++ρi.ups.map (·.1)):=fun s hs=>by
  rw[pg,nJ,hn s hs];simp
 have Yb:∀g,(ap sj.dst ρj E).used (.glob g)=E.used (.glob g):=by
  intro g
  rw[nJ,qR (fun hm=>?_)]
  .simp
  .obtain⟨p,hp,he⟩:=ajI.1 hm
   have:=hg p hp
   rw[he]at this
   simp[Nm.isGlob]at this
 exact⟨fun h=>yO hC h ht hs Yb,fun h=>yO hC h (fun t h'=>(ht t h').symm) (fun s h'=>⟨(hs s h').1.symm,(hs s h').2.symm⟩) (fun g=>(Yb g).symm)⟩
def HD(hC:iH C){si sj:aT}{ρi ρj:Rc}(h1:∀d,sj.dst=some d->d∉si.looks)(h2:∀d,si.dst=some d->d∉sj.looks)(h3:∀d,si.dst=some d->sj.dst≠some d)
  (hj:∀s∈ρj.ups.map (·.1),s∉ρi.rd/\s∉ρi.ups.map (·.1)) (hi:∀s∈ρi.ups.map (·.1),s∉ρj.rd) (hgi:iG ρi) (hgj:iG ρj):qQ P C si ρi sj ρj:=by
 refine⟨fun E=>?_,yP hC h1 hj hgj,yP hC h2 (fun s hs=>⟨hi s hs,fun TO=>(hj s TO).2 hs⟩) hgi⟩
 refine aa.ext' (funext fun t=>?_) (funext fun s=>?_) (funext fun s=>?_)
 .rw[pe,pe,pe,pe]
  by_cases e1:sj.dst=some t
  .have e2:si.dst≠some t:=fun e2=>h3 t e2 e1
   simp[e1,e2]
  .simp[e1]
 .rw[pg,pg,pg,pg]
  by_cases m1:s∈ρj.ups.map (·.1)
  .rw[qR (hj s m1).2]
  .rw[qR m1]
 .rw[nJ,nJ,nJ,nJ]
  rw[<-Bool.or_assoc,<-Bool.or_assoc,Bool.or_comm (ρj.ups.lookup s).isSome]
end
section
open Go.RowKit
variable{P:Program}{C:aD}{ops:Array Oper}{c:aA}{Z:Nm->Place}{E:aa}{a:Act}{w:World}
def yQ:∀(os:List Oper) (TV:List (List Nat)) (k:Nat) (o:Oper),os[k]?=some o->∀e∈o.after,Region.binds .any e=true->e.on∈(eJ os TV).getD (TV.length+k) []
 |[],TV,k,o,hk,_,_,_=>by simp at hk
 |o::os,TV,k,o',hk,e,he,hb=>by
  have Ua:=uz os (TV++[dd ((o.after.toList.filter (Region.binds .any)).flatMap fun e=>e.on::TV.getD e.on [])])
  simp only[eJ]
  cases k with
  |zero=>
   simp only[List.getElem?_cons_zero,ajr]at hk
   subst hk
   obtain⟨h1,_,_⟩:=Ua
   have TE:e.on∈(TV++[dd ((o.after.toList.filter (Region.binds .any)).flatMap fun e=>e.on::TV.getD e.on [])]).getD TV.length []:=by
    have e1:(TV++[dd ((o.after.toList.filter (Region.binds .any)).flatMap fun e=>e.on::TV.getD e.on [])]).getD TV.length []=dd ((o.after.toList.filter (Region.binds .any)).flatMap fun e=>e.on::TV.getD e.on []):=by simp
    rw[e1,pd,List.mem_flatMap]
    exact⟨e,List.mem_filter.2 ⟨by simpa using he,hb⟩,ajK⟩
   have hAl:(TV++[dd ((o.after.toList.filter (Region.binds .any)).flatMap fun e=>e.on::TV.getD e.on [])]).length=TV.length+1:=by simp
   generalize(TV++[dd ((o.after.toList.filter (Region.binds .any)).flatMap fun e=>e.on::TV.getD e.on [])])=A at*
   rw[<-h1]at TE
   rw[Nat.add_zero]
   rw[aj5,ajN,if_pos (by omega)]at TE
   rw[aj5]
   exact TE
  |succ k=>
   have:=yQ os (TV++[dd ((o.after.toList.filter (Region.binds .any)).flatMap fun e=>e.on::TV.getD e.on [])]) k o' (by simpa using hk) e he hb
   rw[ajB,List.length_singleton,show TV.length+1+k=TV.length+(k+1) by omega]at this
   exact this
def ld(P:Program)(C:aD)(pr:List (Nat×Nat))(K:aa->Prop):Nat->List bG->List aT->aa->List Rc->Prop
 |_,_,[],E,ρs=>ρs=[]/\K E
 |ix,Tq,so::sl,E,ρs=>∃ρ rest,ρs=ρ::rest/\gB P C so E ρ/\(∀l∈Tq,pr.contains (l.ix,ix)=true->kl l ρ.rd (ρ.ups.map (·.1))=true)/\iG ρ/\
   ld P C pr K (ix+1) (em pr ix ρ.rd (ρ.ups.map (·.1)) Tq) sl (ap so.dst ρ E) rest
def uB{pr:List (Nat×Nat)}{ix:Nat}{Tq:List bG}{r:aq}(h:i5 pr ix Tq r=true):(∀l∈Tq,pr.contains (l.ix,ix)=true->kl l r.rd (r.ups.map (·.1))=true)/\∀p∈r.ups,p.1.isGlob=false:=by
 unfold i5 at h
 simp only[ajT,ajR]at h
 refine⟨fun l hl hc=>?_,fun p hp=>by have:=h.2 p hp;simpa using this⟩
 have:=h.1 l hl
 rw[hc]at this
 simpa using this
def uC{pr:List (Nat×Nat)}{ix:Nat}{Tq:List bG}{dst:Option Nat}{next:aq->Prop}{op:al}(h:dv P C pr ix Tq dst E next op):∃r,iF P C E dst r op/\i5 pr ix Tq r=true/\next r:=by
 unfold dv at h
 unfold iF
 split at h
 .obtain⟨r,h1,h2,h3⟩:=h;exact⟨r,h1,h2,h3⟩
 .obtain⟨f,pre,caps,r,h1,h2,h3,h4⟩:=h;exact⟨r,⟨f,pre,caps,h1,h2⟩,h3,h4⟩
 .rename_i op h1 h2
  obtain⟨r,h3,h4,h5⟩:=h
  refine⟨r,?_,h4,h5⟩
  split
  .exact absurd rfl (h1 _ _)
  .exact absurd rfl (h2 _ _)
  .exact h3
def nK{pr:List (Nat×Nat)}(Zq:pr≠[]){K:aa->Prop}:∀(sl:List aT) (ix:Nat) (Tq:List bG) (E:aa),cv P C pr ix Tq sl E K->∃ρs,ld P C pr K ix Tq sl E ρs
 |[],ix,Tq,E,h=>⟨[],rfl,h⟩
 |so::sl,ix,Tq,E,h=>by
  unfold cv at h
  simp only at h
  have aaE:∀l:List bG,em pr ix [] [] l=l:=fun l=>by simp[em]
  split at h
  .rename_i hg
   obtain⟨r,h1,h2,h3⟩:=uC (h.resolve_right fun hh=>Zq hh.1)
   obtain⟨ρs,h4⟩:=nK Zq sl _ _ _ h3
   obtain⟨h5,h6⟩:=uB h2
   exact⟨.run r::ρs,.run r,ρs,rfl,⟨.inl hg,h1⟩,h5,h6,h4⟩
  .rename_i t Ts hg
   rcases h with⟨ht,h⟩|⟨b,ht,h⟩
   .obtain⟨ρs,h4⟩:=nK Zq sl _ _ _ h
    refine⟨.skip::ρs,.skip,ρs,rfl,⟨t,Ts,hg,.inl ht⟩,fun l _ _=>by simp[kl,Rc.rd,Rc.ups],fun p hp=>by simp[Rc.ups]at hp,?_⟩
    simp only[Rc.rd,Rc.ups,aj4,aaE]
    exact h4
   rcases h with h|h
   .by_cases hb:(b==Ts)=true
    .obtain⟨r,h1,h2,h3⟩:=uC ((h.1 hb).resolve_right fun hh=>Zq hh.1)
     obtain⟨ρs,h4⟩:=nK Zq sl _ _ _ h3
     obtain⟨h5,h6⟩:=uB h2
     have Yg:b=Ts:=by simpa using hb
     subst Yg
     exact⟨.run r::ρs,.run r,ρs,rfl,⟨.inr ⟨t,b,hg,ht⟩,h1⟩,h5,h6,h4⟩
    .obtain⟨ρs,h4⟩:=nK Zq sl _ _ _ (h.2 (by simpa using hb))
     refine⟨.skip::ρs,.skip,ρs,rfl,⟨t,Ts,hg,.inr ⟨b,ht,by simpa using hb⟩⟩,fun l _ _=>by simp[kl,Rc.rd,Rc.ups],fun p hp=>by simp[Rc.ups]at hp,?_⟩
     simp only[Rc.rd,Rc.ups,aj4,aaE]
     exact h4
   .obtain⟨r,h1,h2,h3,h4⟩:=uC h
    obtain⟨ρs,h5⟩:=nK Zq sl _ _ _ h4
    obtain⟨h6,_⟩:=uB h2
    rw[h3]at h6
    exact⟨.und b Ts r::ρs,.und b Ts r,ρs,rfl,⟨t,hg,ht,h3,h1⟩,h6,fun p hp=>by simp[Rc.ups]at hp,h5⟩
def yR{pr:List (Nat×Nat)}{K:aa->Prop}:∀(sl:List aT) (ix:Nat) (Tq:List bG) (E:aa) (ρs:List Rc),ld P C pr K ix Tq sl E ρs->ρs.length=sl.length
 |[],_,_,_,ρs,h=>by rw[h.1];rfl
 |so::sl,ix,Tq,E,ρs,h=>by
  obtain⟨ρ,rest,rfl,_,_,_,h⟩:=h
  simp[yR sl _ _ _ _ h]
def HE{pr:List (Nat×Nat)}{ix:Nat}{rd wr:List Nm}{Tq:List bG}{l:bG}(h:l∈Tq):l∈em pr ix rd wr Tq:=by
 unfold em
 split
 .exact h
 .exact ajW _ h
def uD{pr:List (Nat×Nat)}{K:aa->Prop}:∀(sl:List aT) (ix:Nat) (Tq:List bG) (E:aa) (ρs:List Rc),ld P C pr K ix Tq sl E ρs->∀(j:Nat) (ρ:Rc),ρs[j]?=some ρ->
  iG ρ/\∀l∈Tq,pr.contains (l.ix,ix+j)=true->kl l ρ.rd (ρ.ups.map (·.1))=true
 |[],_,_,_,ρs,h,j,ρ,hj=>by rw[h.1]at hj;simp at hj
 |so::sl,ix,Tq,E,ρs,h,j,ρ,hj=>by
  obtain⟨ρ0,rest,rfl,_,h1,h2,h3⟩:=h
  cases j with
  |zero=>
   simp only[List.getElem?_cons_zero,ajr]at hj
   subst hj
   exact⟨h2,h1⟩
  |succ j=>
   obtain⟨h4,h5⟩:=uD sl _ _ _ _ h3 j ρ (by simpa using hj)
   refine⟨h4,fun l hl hc=>h5 l (HE hl) ?_⟩
   rw[show ix+1+j=ix+(j+1) by omega];exact hc
theorem yS{pr:List (Nat×Nat)}{K:aa->Prop}:∀(sl:List aT) (ix:Nat) (Tq:List bG) (E:aa) (ρs:List Rc),ld P C pr K ix Tq sl E ρs->∀(i j:Nat) (ρi ρj:Rc),i<j->ρs[i]?=some ρi->ρs[j]?=some ρj->pr.contains (ix+i,ix+j)=true->
  (ρi.rd=[]/\ρi.ups=[])\/kl ⟨ix+i,ρi.rd,ρi.ups.map (·.1)⟩ ρj.rd (ρj.ups.map (·.1))=true
 |[],_,_,_,ρs,h,i,j,ρi,ρj,_,hi,_,_=>by rw[h.1]at hi;simp at hi
 |so::sl,ix,Tq,E,ρs,h,i,j,ρi,ρj,XE,hi,hj,hc=>by
  obtain⟨ρ0,rest,rfl,_,_,_,h3⟩:=h
  cases j with
  |zero=>omega
  |succ j=>
   cases i with
   |succ i=>
    have:=yS sl _ _ _ _ h3 i j ρi ρj (by omega) (by simpa using hi) (by simpa using hj) (by rw[show ix+1+i=ix+(i+1) by omega,show ix+1+j=ix+(j+1) by omega];exact hc)
    rw[show ix+1+i=ix+(i+1) by omega]at this
    exact this
   |zero=>
    simp only[List.getElem?_cons_zero,ajr]at hi
    subst hi
    by_cases he:(ρ0.rd.isEmpty&&(ρ0.ups.map (·.1)).isEmpty)=true
    .left
     simpa using he
    .right
     have Zq:pr.isEmpty=false:=by
      cases pr with
      |nil=>simp at hc
      |cons _ _=>rfl
     refine(uD sl _ _ _ _ h3 j ρj (by simpa using hj)).2 _ ?_ (by rw[Nat.add_zero]at hc⊢;rw[show ix+1+j=ix+(j+1) by omega];exact hc)
     unfold em
     rw[Zq,Bool.false_or,if_neg he]
     exact ajK
def jI(P:Program)(C:aD)(ops:Array Oper)(sl:List aT)(G:Nat->Rc)(K:aa->Prop):Nat->Array Bool->aa->Prop
 |0,Tp,E=>Region.ready .any ops Tp=[]/\K E
 |fuel+1,Tp,E=>(Region.ready .any ops Tp=[]->K E)/\
  ∀i∈Region.ready .any ops Tp,∃so,sl[i]?=some so/\gB P C so E (G i)/\jI P C ops sl G K fuel (Tp.setIfInBounds i true) (ap so.dst (G i) E)
def HF{Tp:Array Bool}{i:Nat}(h:Tp.getD i true=false):Tp.getD i false=false:=by
 rcases Nat.lt_or_ge i Tp.size with h'|h'
 .simpa[h']using h
 .simp[Array.getElem?_eq_none h']at h
def HG{sl:List aT}{G:Nat->Rc}{K:aa->Prop}{i:Nat}{si:aT}(hi:sl[i]?=some si):∀(fuel:Nat) (Tp:Array Bool) (E:aa),lc ops Tp->
  (∀(j:Nat) (sj:aT),sl[j]?=some sj->j≠i->Tp.getD j true=false->i∉(eJ ops.toList []).getD j []->qQ P C si (G i) sj (G j))->
  i∈Region.ready .any ops Tp->gB P C si E (G i)->jI P C ops sl G K fuel (Tp.setIfInBounds i true) (ap si.dst (G i) E)->jI P C ops sl G K (fuel+1) Tp E:=by
 intro fuel
 induction fuel with
 |zero=>
  intro Tp E TA _ hr hv H
  refine⟨fun h=>(by rw[h]at hr;cases hr),fun j hj=>?_⟩
  by_cases Uk:j=i
  .subst Uk;exact⟨si,hi,hv,H⟩
  .have:=ready_mono hj Uk
   rw[H.1]at this
   cases this
 |succ fuel ih=>
  intro Tp E TA Yy hr hv H
  refine⟨fun h=>(by rw[h]at hr;cases hr),fun j hj=>?_⟩
  by_cases Uk:j=i
  .subst Uk;exact⟨si,hi,hv,H⟩
  .obtain⟨sj,h1,h2,h3⟩:=H.2 j (ready_mono hj Uk)
   obtain⟨ac7,oj,hoj,Tt⟩:=mem_ready.1 hj
   have Xx:i∉(eJ ops.toList []).getD j []:=fun hm=>by
    have h4:=uA TA j oj hoj Tt i hm
    have h5:=HF (mem_ready.1 hr).1
    rw[h4]at h5
    cases h5
   obtain⟨adv,UC,hvj⟩:=Yy j sj h1 Uk ac7 Xx
   refine⟨sj,h1,(hvj E).2 h2,ih (Tp.setIfInBounds j true) (ap sj.dst (G j) E) (TA.set hj) (fun k sk hk hki hun WE=>Yy k sk hk hki ?_ WE) (ready_mono hr (Ne.symm Uk)) ((UC E).1 hv) ?_⟩
   .by_cases hjk:j=k
    .subst hjk;exact ac7
    .rw[getD_set_ne true hjk]at hun;exact hun
   .rw[Array.setIfInBounds_comm _ _ Uk,<-adv]
    exact h3
def yT{sl:List aT}{G:Nat->Rc}{K:aa->Prop}{pr:List (Nat×Nat)}
  (aan:∀(k j:Nat) (sk sj:aT),k<j->sl[k]?=some sk->sl[j]?=some sj->k∉(eJ ops.toList []).getD j []->(∀ok oj,ops[k]?=some ok->ops[j]?=some oj->ok.apart ops oj=true)->qQ P C sk (G k) sj (G j))
  (hops:sl.length=ops.size):∀(l:List aT) (k:Nat) (Tq:List bG) (Tp:Array Bool) (E:aa) (ρs:List Rc),(∀j,l[j]?=sl[k+j]?)->ld P C pr K k Tq l E ρs->(∀(j:Nat) (ρ:Rc),ρs[j]?=some ρ->G (k+j)=ρ)->
   Region.lexFrom .any ops l.length k Tp=true->lc ops Tp->(∀m,Tp.getD m true=false->k<=m)->jI P C ops sl G K l.length Tp E
 |[],k,Tq,Tp,E,ρs,_,Yd,_,hB,_,_=>⟨by simpa[Region.lexFrom]using hB,Yd.2⟩
 |so::l,k,Tq,Tp,E,ρs,hl,Yd,hG,hB,TA,hk=>by
  have h0:sl[k]?=some so:=by simpa using(hl 0).symm
  obtain⟨ρ,rest,rfl,hv,_,_,afz⟩:=Yd
  have hGk:G k=ρ:=by simpa using hG 0 ρ rfl
  simp only[akx,Region.lexFrom,ajT]at hB
  obtain⟨⟨hr,hf⟩,hB'⟩:=hB
  have VY:k∈Region.ready .any ops Tp:=by simpa using hr
  have hko:k<ops.size:=by rw[<-hops];exact(ajs.1 h0).1
  have Yy:=Region.free_spec (aj7 hko) hf
  refine HG h0 l.length Tp E TA (fun j sj hj hjk hun Xx=>?_) VY (by rw[hGk];exact hv) ?_
  .refine aan k j so sj (by have:=hk j hun;omega) h0 hj Xx fun ok oj Uf hoj=>?_
   rw[aj7 hko]at Uf
   cases Uf
   refine Yy j oj hoj hjk hun fun e he hb heq=>Xx ?_
   have:=yQ ops.toList [] j oj (by simpa using hoj) e he hb
   rw[heq]at this
   simpa using this
  .rw[hGk]
   refine yT aan hops l (k+1) _ _ _ rest (fun j=>by have:=hl (j+1);simpa[Nat.add_assoc,Nat.add_comm 1 j]using this) afz (fun j ρ' hj=>by have:=hG (j+1) ρ' (by simpa using hj);rw[show k+1+j=k+(j+1) by omega];exact this) hB' (TA.set VY) (fun m hm=>?_)
   by_cases Yv:k=m
   .subst Yv
    exfalso
    have h1:=(mem_ready.1 VY).1
    rcases Nat.lt_or_ge k Tp.size with h'|h'
    .simp[h']at hm
    .simp[Array.getElem?_eq_none h']at h1
   .rw[getD_set_ne true Yv]at hm
    have:=hk m hm
    omega
end
section
open Go.RowKit
variable{P:Program}{C:aD}{ops:Array Oper}{c:aA}{Z:Nm->Place}{E:aa}{a:Act}{w:World}
def HH{t:TypeId}{l:List (Nat×Operand)}{ps:List (Nat×Nat×Operand)}(h:oU P t l=some ps):ps.map (·.2.2)=l.map (·.2):=by
 unfold oU at h
 split at h
 .split at h
  .obtain⟨h1,h2⟩:=ec h
   apply List.ext_getElem (by simp[h1])
   intro i hi TU
   simp only[ajJ]at hi TU
   have:=h2 i _ _ (ajq TU) (ajq hi)
   simp only[ajt]at this
   obtain⟨q,_,h4⟩:=this
   simp only[List.getElem_map,<-h4]
  .simp at h
 .split at h
  .simp only[ajr]at h
   subst h
   simp[aky]
  .simp at h
 .simp at h
def HI{op:Op}{s:al}(h:aK P op=some s):∀x∈s.operands,x∈op.operands:=by
 cases op
 case build t To=>
  simp only[aK,ajE,ajv]at h
  obtain⟨z,_,h⟩:=h
  split at h
  .simp only[ajv,ajP,ajr]at h
   obtain⟨ps,h2,rfl⟩:=h
   intro x hx
   simp only[al.operands]at hx
   rw[HH h2]at hx
   simpa[Op.operands]using hx
  .simp at h
 case buildSlice t len To=>
  simp only[aK,ajE,ajv]at h
  obtain⟨e,_,m,_,z,_,h⟩:=h
  split at h
  .simp at h
  .simp only[ajP,ajr]at h
   subst h
   intro x hx
   simp only[al.operands,aj8,aky]at hx
   simpa[Op.operands]using hx
 case call cl=>
  obtain⟨callee,args,argTypes⟩:=cl
  simp only[aK]at h
  cases callee with
  |value f=>
   cases f<;>simp only[bY,ajr]at h<;>subst h<;>intro x hx<;>simp[al.operands,Op.operands,Call.operands]at hx⊢<;>first|exact hx|exact .inr hx
  |invoke _ _=>simp[bY]at h
  |builtin b=>
   cases b<;>first|(simp[bY]at h;done)|skip
   case len=>
    simp only[bY]at h
    split at h
    .rename_i x t h1 h2
     have e1:args=#[x]:=akh (by simpa using h1)
     subst e1
     split at h
     .simp only[ajr]at h;subst h;intro y hy;simpa[al.operands,Op.operands,Call.operands]using hy
     .simp only[ajr]at h;subst h;intro y hy;simpa[al.operands,Op.operands,Call.operands]using hy
     .simp only[ajr]at h;subst h;intro y hy;simpa[al.operands,Op.operands,Call.operands]using hy
     .simp at h
    .simp at h
   case cap=>
    simp only[bY]at h
    split at h
    .rename_i x t h1 h2
     have e1:args=#[x]:=akh (by simpa using h1)
     subst e1
     split at h
     .simp only[ajr]at h;subst h;intro y hy;simpa[al.operands,Op.operands,Call.operands]using hy
     .simp at h
    .simp at h
   case copy=>
    simp only[bY]at h
    split at h
    .rename_i x y t us h1 h2
     have e1:args=#[x,y]:=akh (by simpa using h1)
     subst e1
     simp only[ajE,ajv]at h
     obtain⟨e,_,i,_,h⟩:=h
     split at h
     .simp at h
     .simp only[ajr]at h;subst h;intro y hy;simpa[al.operands,Op.operands,Call.operands]using hy
    .simp at h
   case append=>
    simp only[bY]at h
    split at h
    .rename_i x y t u h1 h2
     have e1:args=#[x,y]:=akh (by simpa using h1)
     subst e1
     simp only[ajE,ajv]at h
     obtain⟨e,_,i,_,z,_,h⟩:=h
     split at h
     .simp at h
     .split at h
      .split at h
       .simp only[ajr]at h;subst h;intro y hy;simpa[al.operands,Op.operands,Call.operands]using hy
       .split at h
        .simp only[ajr]at h;subst h;intro y hy;simpa[al.operands,Op.operands,Call.operands]using hy
        .simp at h
      .simp at h
    .simp at h
   case min=>
    simp only[bY]at h
    split at h
    .rename_i x y h1
     have e1:args=#[x,y]:=akh (by simpa using h1)
     subst e1
     simp only[ajr]at h;subst h;intro y hy;simpa[al.operands,Op.operands,Call.operands]using hy
    .simp at h
   case max=>
    simp only[bY]at h
    split at h
    .rename_i x y h1
     have e1:args=#[x,y]:=akh (by simpa using h1)
     subst e1
     simp only[ajr]at h;subst h;intro y hy;simpa[al.operands,Op.operands,Call.operands]using hy
    .simp at h
 case slice t x lo hi mx=>
  cases mx with
  |some mx=>
   cases lo with
   |some lo=>
    cases hi with
    |none=>simp[aK]at h
    |some hi=>
     simp only[aK]at h
     split at h
     .simp only[ajE,ajv]at h
      obtain⟨m,_,h⟩:=h
      split at h
      .simp at h
      .simp only[ajP,ajr]at h
       subst h
       intro y hy
       simp only[al.operands,Op.operands,akc,List.not_mem_nil,or_false]at hy⊢
       simp
       rcases hy with rfl|rfl|rfl|rfl<;>simp
     .simp at h
   |none=>
    cases hi with
    |none=>simp[aK]at h
    |some hi=>
     simp only[aK]at h
     split at h
     .simp only[ajE,ajv]at h
      obtain⟨m,_,h⟩:=h
      split at h
      .simp at h
      .simp only[ajP,ajr]at h
       subst h
       intro y hy
       simpa[al.operands,Op.operands]using hy
     .simp at h
  |none=>
   simp only[aK]at h
   split at h
   .simp only[ajr]at h
    subst h
    intro y hy
    simpa[al.operands,Op.operands]using hy
   .simp only[ajE,ajv]at h
    obtain⟨m,_,h⟩:=h
    split at h
    .simp at h
    .simp only[ajP,ajr]at h
     subst h
     intro y hy
     simpa[al.operands,Op.operands]using hy
   .split at h
    .simp only[ajE,ajv,ajP,ajr]at h
     obtain⟨m,_,rfl⟩:=h
     intro y hy
     simp[al.operands]at hy
    .simp at h
   .simp at h
 case makeFunc fn first caps=>
  cases fn with
  |func f=>
   simp only[aK]at h
   split at h
   .simp only[ajr]at h
    subst h
    intro x hx
    simp only[al.operands,Op.operands,Array.mem_append]at hx⊢
    exact .inr (by simpa using hx)
   .simp only[ajr]at h
    subst h
    intro x hx
    simp only[al.operands,Op.operands,Array.mem_append,ajG,Array.mem_toList_iff]at hx⊢
    exact hx
  |_=>simp[aK]at h
 case makeMap t rr=>
  simp only[aK]at h
  split at h
  .simp only[ajr]at h;subst h;intro x hx;simp[al.operands]at hx
  .simp only[ajr]at h;subst h;intro x hx;simpa[al.operands,Op.operands]using hx
  .simp at h
 case makeSlice t l cp=>
  simp only[aK,ajE,ajv]at h
  obtain⟨e,h1,m,h2,i,h3,z,h4,h⟩:=h
  split at h
  .simp at h
  .simp only[ajP,ajr]at h;subst h;intro x hx;simpa[al.operands,Op.operands]using hx
 case lookup t x k ok=>
  simp only[aK]at h
  split at h
  .obtain⟨z,hz,rfl⟩:=ajt.1 h
   intro x hx;simpa[al.operands,Op.operands]using hx
  .simp at h
 case mapEntry t x k=>
  simp only[aK]at h
  split at h
  .obtain⟨z,hz,rfl⟩:=ajt.1 h
   intro x hx;simpa[al.operands,Op.operands]using hx
  .simp at h
 all_goals(
  simp only[aK]at h
  repeat' split at h
  all_goals first|(simp at h;done)|skip
  all_goals(
   first
   |(simp only[ajr]at h;subst h;intro x hx;first|(simp[al.operands]at hx;done)|simpa[al.operands,Op.operands]using hx)
   |(simp only[ajE,ajv,ajP]at h
     first
     |(obtain⟨q1,_,q2,_,h⟩:=h
       (repeat' split at h)<;>first|(simp at h;done)|(simp only[ajr]at h;subst h;intro x hx;first|(simp[al.operands]at hx;done)|simpa[al.operands,Op.operands]using hx))
     |(obtain⟨q1,_,h⟩:=h
       (repeat' split at h)<;>first|(simp at h;done)|(simp only[ajr]at h;subst h;intro x hx;first|(simp[al.operands]at hx;done)|simpa[al.operands,Op.operands]using hx)))))
def HJ{op:Op}:∀x∈(iA P op).operands,x∈op.operands:=by
 unfold iA
 split
 .rename_i s hs;exact HI hs
 .intro x hx;simp[al.operands]at hx
def yU{n:Nat}{o:Oper}{so:aT}(h:fM P n ops o=some so):∀t∈so.looks,t∈o.looksAt ops:=by
 obtain⟨hc,_,_,hg⟩:=mt h
 intro t ht
 simp only[aT.looks,ajG,List.mem_filterMap]at ht
 simp only[Oper.looksAt,ajG,List.mem_filterMap]
 rcases ht with⟨x,hx,he⟩|ht
 .exact .inl ⟨x,by rw[<-hc]at hx;simpa using HJ x hx,he⟩
 .rcases hg with⟨_,h2⟩|⟨j,u,b,h1,h2,h3⟩
  .rw[h2]at ht;simp at ht
  .rw[h3]at ht
   simp at ht
   subst ht
   right
   rw[h1]
   simp only[h2]
   simp
def HK{op:al}{dst:Option Nat}{r:aq}(hm:op.mem=false)(hr:op.den P E dst=some r):r.rd=[]/\r.ups=[]:=by
 have hv:∀d:DV,val d=some r->r.rd=[]/\r.ups=[]:=fun d h=>by simp[val]at h;subst h;exact⟨rfl,rfl⟩
 have ho:∀d:Option DV,jv d=some r->r.rd=[]/\r.ups=[]:=fun d h=>by obtain⟨y,_,rfl⟩:=mn h;exact⟨rfl,rfl⟩
 have hk:∀x:Option Value,bU x=some r->r.rd=[]/\r.ups=[]:=fun x h=>by
  unfold bU at h
  split at h
  .split at h
   .exact hv _ h
   .simp at h
  .simp at h
 cases op<;>simp only[al.mem]at hm<;>first|(simp at hm;done)|skip
 all_goals simp only[al.den]at hr
 case mv x=>exact hv _ hr
 case nilc x=>(repeat' split at hr)<;>first|exact hv _ hr|(simp at hr;done)
 case asl x l m ag=>unfold oO at hr;(repeat' split at hr)<;>first|exact hv _ hr|(simp at hr;done)
 case pick p x y=>unfold qt at hr;(repeat' split at hr)<;>first|exact hv _ hr|(simp at hr;done)
 case bin op t x y=>
  unfold aX dD at hr
  have hq:∀b:Bool,((eI op).bind fun b=>val (.t (.v (.bool b))))=some r->r.rd=[]/\r.ups=[]:=by
   intro _ hb
   obtain⟨b,_,hb⟩:=ajv.1 hb
   exact hv _ hb
  have Wk:((eI op).bind fun b=>val (.t (.v (.bool !b))))=some r->r.rd=[]/\r.ups=[]:=by
   intro hb
   obtain⟨b,_,hb⟩:=ajv.1 hb
   exact hv _ hb
  (repeat' split at hr)<;>first|exact hk _ hr|exact hq true hr|exact Wk hr|(simp at hr;done)
 case un op x=>unfold kg at hr;split at hr<;>first|exact hk _ hr|(simp at hr;done)
 case conv k x=>unfold qw at hr;split at hr<;>first|exact hv _ hr|(simp at hr;done)
 case part x o n ag=>split at hr<;>first|exact ho _ hr|(simp at hr;done)
 case aidx x i l m ag=>unfold qx at hr;(repeat' split at hr)<;>first|exact ho _ hr|(simp at hr;done)
 case sidx x i=>unfold qy at hr;(repeat' split at hr)<;>first|exact hv _ hr|(simp at hr;done)
 case build z ps=>exact ho _ hr
 case ext x i=>unfold qz at hr;split at hr<;>first|exact ho _ hr|(simp at hr;done)
 case fld x o=>unfold qA at hr;split at hr<;>first|exact hv _ hr|(simp at hr;done)
 case aadr x i l m=>unfold qC at hr;(repeat' split at hr)<;>first|exact hv _ hr|(simp at hr;done)
 case cap x=>unfold dCap at hr;split at hr<;>first|exact hv _ hr|(simp at hr;done)
 case len s x=>unfold dLen at hr;split at hr<;>first|exact hv _ hr|(simp at hr;done)
 case sstr x lo hi=>unfold tP at hr;(repeat' split at hr)<;>first|exact hv _ hr|(simp at hr;done)
 case mm mx x y=>unfold jx at hr;split at hr<;>first|exact hv _ hr|(simp at hr;done)
 case mkfn f caps=>exact hv _ hr
 case mkfnb f p caps=>exact hv _ hr
 case stuck=>simp at hr
 case pan x=>simp at hr
 case mkif t x=>unfold qD at hr;(repeat' split at hr)<;>first|exact hv _ hr|(simp at hr;done)
def HL{so:aT}{ρ:Rc}(hm:so.op.mem=false)(h:gB P C so E ρ):ρ.rd=[]/\ρ.ups=[]:=by
 have UY:∀E r,iF P C E so.dst r so.op->r.rd=[]/\r.ups=[]:=by
  intro E r h
  unfold iF at h
  split at h
  .rename_i f args he;rw[he]at hm;simp[al.mem]at hm
  .rename_i x args he;rw[he]at hm;simp[al.mem]at hm
  .exact HK hm h
 cases ρ with
 |skip=>exact⟨rfl,rfl⟩
 |run r=>exact UY _ _ h.2
 |und b Ts r=>obtain⟨_,_,_,h3,h4⟩:=h;exact⟨(UY _ _ h4).1,rfl⟩
def yV(hC:iD P C)(h:ai c Z E a w){o:Oper}{so:aT}{ρ:Rc}(hc:fM P c.n ops o=some so)(hv:gB P C so E ρ)(Vk:iG ρ){rd:Option Nat}{K:Act->World->Prop}{Q:Exit->Act->World->Prop}
  (hK:∀a' w',(∃Z',ai c Z' (ap so.dst ρ E) a' w')->K a' w'):if Region.wanted o (yielded ops a.tmps)then o.wpIn (FW rd) 0 P a w K Q else(∀f,o.about P w a.eval=some f->(FW rd).fn f)/\K (a.put o.dst undef) w:=by
 obtain⟨adt,Vn,hd,hg⟩:=mt hc
 have acR:∀E' r,iF P C E' so.dst r so.op->(∀p∈r.ups,p.1.isGlob=false)->dv P C [] 0 [] o.dst E' (fun r'=>r'=r) so.op:=by
  intro E' r h1 h2
  have Uf:i5 [] 0 [] r=true:=by
   unfold i5
   simp only[List.all_nil,Bool.true_and,ajR]
   intro p hp
   simp[h2 p hp]
  unfold iF at h1
  unfold dv
  rw[<-Vn]
  split at h1
  .rename_i f args he;rw[he];exact⟨r,h1,Uf,rfl⟩
  .rename_i x args he;rw[he];obtain⟨f,pre,caps,h3,h4⟩:=h1;exact⟨f,pre,caps,r,h3,h4,Uf,rfl⟩
  .rename_i h3 h4
   split
   .exact absurd (by assumption) (h3 _ _)
   .exact absurd (by assumption) (h4 _ _)
   .exact⟨r,h1,Uf,rfl⟩
 cases ρ with
 |skip=>
  obtain⟨t,Ts,h1,h2⟩:=hv
  rcases hg with⟨_,WG⟩|⟨j,u,b',VN,WG,hg3⟩
  .rw[WG]at h1;simp at h1
  .rw[hg3]at h1
   simp at h1
   obtain⟨rfl,rfl⟩:=h1
   have hw:Region.wanted o (yielded ops a.tmps)=false:=by
    rcases h2 with h2|⟨b,h2,h3⟩
    .exact yI h VN WG h2
    .rw[qN h VN WG h2];simpa using h3
   rw[hw,if_neg (by simp)]
   refine⟨fun _ _=>trivial,hK _ _ ⟨Z,?_⟩⟩
   rw[Vn]
   exact h.put hd ux
 |run r=>
  obtain⟨h1,h2⟩:=hv
  have hw:Region.wanted o (yielded ops a.tmps)=true:=by
   rcases hg with⟨VN,_⟩|⟨j,u,b',VN,WG,hg3⟩
   .simp[Region.wanted,VN]
   .rcases h1 with h1|⟨t,Ts,h1,h3⟩
    .rw[hg3]at h1;simp at h1
    .rw[hg3]at h1
     simp at h1
     obtain⟨rfl,rfl⟩:=h1
     rw[qN h VN WG h3];simp
  rw[if_pos hw]
  obtain⟨r',_,rfl,h5⟩:=qL (Q:=Q) hC h hd adt (acR E r h2 Vk)
  exact h5 K fun a' w' hs=>hK a' w' (by rw[Vn];exact hs)
 |und b Ts r=>
  obtain⟨t,h1,h2,h3,h4⟩:=hv
  rcases hg with⟨_,WG⟩|⟨j,u,b',VN,WG,hg3⟩
  .rw[WG]at h1;simp at h1
  .rw[hg3]at h1
   simp at h1
   obtain⟨rfl,rfl⟩:=h1
   rw[qN h VN WG h2]
   by_cases hb:(b==b')=true
   .rw[if_pos hb]
    have Yg:b=b':=by simpa using hb
    obtain⟨r',_,rfl,h5⟩:=qL (Q:=Q) hC (h.under Yg) hd adt (acR _ r h4 (by rw[h3];simp))
    refine h5 K fun a' w' hs=>hK a' w' ?_
    obtain⟨Z',hs⟩:=hs
    have:r'.apply o.dst (E.under b b')=(E.under b b').putO o.dst r'.d:=by
     unfold aq.apply;rw[h3];rfl
    rw[this]at hs
    exact⟨Z',by rw[Vn];exact hs.under_put⟩
   .rw[if_neg hb]
    have Yg:¬b=b':=by simpa using hb
    refine⟨fun _ _=>trivial,hK _ _ ⟨Z,?_⟩⟩
    rw[Vn]
    exact h.put hd (.wh fun e=>absurd e Yg)
def uE{Rl:aA->aa->Prop}(hR:gc Rl c.n)(hC:iD P C){rd:Option Nat}{sl:List aT}{G:Nat->Rc}{K:aa->Prop}{Q:Exit->Act->World->Prop}(Tj:ops.toList.mapM (fM P c.n ops)=some sl)(Vk:∀i,iG (G i))(hK:∀E Z a w,Rl c E->K E->ai c Z E a w->Q .normal a w):
  ∀(fuel:Nat) (Tp:Array Bool) (E:aa) (Z:Nm->Place) (a:Act) (w:World),Rl c E->jI P C ops sl G K fuel Tp E->ai c Z E a w->wpAnyIn (FW rd) 0 P .any ops Q fuel Tp a w
 |0,_,E,Z,a,w,TG,h,hs=>⟨h.1,hK E Z a w TG h.2 hs⟩
 |fuel+1,Tp,E,Z,a,w,TG,h,hs=>by
  refine⟨fun h0=>hK E Z a w TG (h.1 h0) hs,fun i hi=>?_⟩
  obtain⟨so,h1,h2,h3⟩:=h.2 i hi
  obtain⟨_,o,ho,_⟩:=mem_ready.1 hi
  obtain⟨Tk,Ty⟩:=ec Tj
  have hc:=Ty i o so (by simpa using ho) h1
  obtain⟨_,Vn,hd,_⟩:=mt hc
  have abz:Rl c (ap so.dst (G i) E):=hR.put _ _ _ _ (hR.upd _ _ _ TG) (by rw[Vn];exact hd)
  unfold wpOpIn
  rw[ho]
  exact yV hC hs hc h2 (Vk i) fun a' w' ⟨Z',TO⟩=>uE hR hC Tj Vk hK fuel _ _ Z' a' w' abz h3 TO
def yW(n m:Nat):(Array.replicate n false).getD m false=false:=by
 by_cases h:m<n<;>simp[Array.getD,h]
def yX{n:Nat}(hL:iH C)(hB:Region.lexB .any ops=true){sl:List aT}(Tj:ops.toList.mapM (fM P n ops)=some sl){K:aa->Prop}(hw:cv P C ((1000000,1000000)::kU ops (sl.map fun o=>o.op.mem)) 0 [] sl E K):
  ∃G:Nat->Rc,(∀i,iG (G i))/\jI P C ops sl G K ops.size (Array.replicate ops.size false) E:=by
 obtain⟨ρs,Yd⟩:=nK (by simp) sl 0 [] E hw
 have Tk:=yR _ _ _ _ _ Yd
 obtain⟨Z1,Ty⟩:=ec Tj
 have hso:sl.length=ops.size:=by rw[<-Z1];simp
 have Vk:∀i,iG (ρs.getD i .skip):=by
  intro i
  cases hi:ρs[i]? with
  |none=>simp[List.getD,hi,iG,Rc.ups]
  |some ρ=>simp only[List.getD,hi,Option.getD_some];exact(uD _ _ _ _ _ Yd i ρ hi).1
 simp only[Region.lexB,ajT]at hB
 refine⟨fun i=>ρs.getD i .skip,Vk,?_⟩
 have aan:∀(k j:Nat) (sk sj:aT),k<j->sl[k]?=some sk->sl[j]?=some sj->k∉(eJ ops.toList []).getD j []->(∀ok oj,ops[k]?=some ok->ops[j]?=some oj->ok.apart ops oj=true)->qQ P C sk (ρs.getD k .skip) sj (ρs.getD j .skip):=by
  intro k j sk sj hkj hk hj Xx hap
  have U6:k<sl.length:=(ajs.1 hk).1
  have hjl:j<sl.length:=(ajs.1 hj).1
  have hko:k<ops.size:=by omega
  have hjo:j<ops.size:=by omega
  have Uj:=Ty k ops[k] sk (by simp[hko]) hk
  have YB:=Ty j ops[j] sj (by simp[hjo]) hj
  obtain⟨a1,a2,a3⟩:=Oper.apart_spec (hap _ _ (aj7 hko) (aj7 hjo))
  have dk:=(mt Uj).2.1
  have dj:=(mt YB).2.1
  have hkρ:ρs[k]?=some (ρs.getD k .skip):=by simp[List.getD,ajq (show k<ρs.length by omega)]
  have hjρ:ρs[j]?=some (ρs.getD j .skip):=by simp[List.getD,ajq (show j<ρs.length by omega)]
  have aaS:(∀s∈(ρs.getD j .skip).ups.map (·.1),s∉(ρs.getD k .skip).rd/\s∉(ρs.getD k .skip).ups.map (·.1))/\(∀s∈(ρs.getD k .skip).ups.map (·.1),s∉(ρs.getD j .skip).rd):=by
   have hval:∀(i:Nat) (si:aT),sl[i]?=some si->si.op.mem=false->(ρs.getD i .skip).rd=[]/\(ρs.getD i .skip).ups=[]:=by
    intro i si hi TN
    have:∀(sl:List aT) (ix:Nat) (Tq:List bG) (E:aa) (ρs:List Rc),ld P C ((1000000,1000000)::kU ops (sl.map fun o=>o.op.mem)) K ix Tq sl E ρs->True:=fun _ _ _ _ _ _=>trivial
    clear this
    have key:∀(pr:List (Nat×Nat)) (sl:List aT) (ix:Nat) (Tq:List bG) (E:aa) (ρs:List Rc),ld P C pr K ix Tq sl E ρs->∀i si,sl[i]?=some si->∃E',gB P C si E' (ρs.getD i .skip):=by
     intro pr sl
     induction sl with
     |nil=>intro _ _ _ _ _ i si hi;simp at hi
     |cons so sl ih=>
      intro ix Tq E ρs Yd i si hi
      obtain⟨ρ,rest,rfl,hv,_,_,Yd⟩:=Yd
      cases i with
      |zero=>simp at hi;subst hi;exact⟨E,hv⟩
      |succ i=>exact ih _ _ _ _ Yd i si (by simpa using hi)
    obtain⟨E',hv⟩:=key _ _ _ _ _ _ Yd i si hi
    exact HL TN hv
   by_cases Yv:sk.op.mem=true
   .by_cases hmj:sj.op.mem=true
    .have Zq:((1000000,1000000)::kU ops (sl.map fun o=>o.op.mem)).contains (0+k,0+j)=true:=by
      rw[List.contains_iff_mem,ajX,ajX]
      refine ajW _ ?_
      unfold kU
      simp only[List.mem_flatMap,List.mem_range]
      refine⟨j,hjo,?_⟩
      have e1:(sl.map fun o=>o.op.mem).getD j true=true:=by simp[List.getD,hj,hmj]
      have e2:(sl.map fun o=>o.op.mem).getD k true=true:=by simp[List.getD,hk,Yv]
      rw[if_pos e1,List.mem_filterMap]
      refine⟨k,by simpa using hkj,?_⟩
      rw[e2]
      have:((eJ ops.toList []).getD j []).contains k=false:=by
       rw[Bool.eq_false_iff]
       intro hh
       exact Xx (List.contains_iff_mem.1 hh)
      rw[this]
      simp
     rcases yS _ _ _ _ _ Yd k j _ _ hkj hkρ hjρ Zq with⟨h1,h2⟩|h1
     .rw[h1,h2];simp
     .unfold kl at h1
      simp only[ajT,ajR,Bool.not_eq_true']at h1
      obtain⟨h2,h3⟩:=h1
      refine⟨fun s hs=>⟨fun hr=>?_,fun hu=>?_⟩,fun s hs hr=>?_⟩
      .have:=h3 s hr
       rw[List.contains_iff_mem.2 hs]at this;cases this
      .have:=(h2 s hu).2
       rw[List.contains_iff_mem.2 hs]at this;cases this
      .have:=(h2 s hs).1
       rw[List.contains_iff_mem.2 hr]at this;cases this
    .obtain⟨h1,h2⟩:=hval j sj hj (by simpa using hmj)
     rw[h1,h2];simp
   .obtain⟨h1,h2⟩:=hval k sk hk (by simpa using Yv)
    rw[h1,h2];simp
  refine HD hL (fun d hd hl=>?_) (fun d hd hl=>?_) (fun d hd he=>?_) aaS.1 aaS.2 (Vk k) (Vk j)
  .rw[dj]at hd;exact a3 d hd (yU Uj d hl)
  .rw[dk]at hd;exact a1 d hd (yU YB d hl)
  .rw[dk]at hd;rw[dj]at he;exact a2 d hd he
 have:=yT (P:=P) (C:=C) (ops:=ops) (sl:=sl) (G:=fun i=>ρs.getD i .skip) (K:=K) aan hso sl 0 [] (Array.replicate ops.size false) E ρs (by simp) Yd (fun j ρ hj=>by simp[List.getD,hj]) (by rw[hso];exact hB.2) (fun m o _ hl=>by rw[yW]at hl;cases hl) (fun m _=>Nat.zero_le _)
 rw[hso]at this
 exact this
def ai.drew(h:ai c Z E a w):ai c Z E a {w with drawn:=w.drawn+1}:=by
 have:=h.upd (Z':=Z) (w':=w.drew) (ups:=[]) (ajz _) rfl rfl rfl (fun b hb=> .inl rfl) (fun _ _=>rfl) (fun s r hl=>by simp[List.lookup]at hl) (fun s s' r r' h1 h2=>h.inj s s' r r' h1 h2) (fun b _ hM=>hM) (fun g _ hg=>by simp[List.lookup]at hg)
 exact this
def HM{Rl:aA->aa->Prop}(hR:gc Rl c.n)(TG:Rl c E){rd:Option Nat}(hC:iD P C)(hL:iH C)(hm:P.follows .mixedOrders=true){id:Nat}(hB:Region.lexB .any ops=true){sl:List aT}(Tj:ops.toList.mapM (fM P c.n ops)=some sl){K:aa->Prop}{Q:Exit->Act->World->Prop}
  (hK:∀E Z a w,Rl c E->K E->ai c Z E a w->Q .normal a w) (h:ai c Z E a w) (hw:cv P C ((1000000,1000000)::kU ops (sl.map fun o=>o.op.mem)) 0 [] sl E K):(Code.region id ops true).wpIn (FW rd) 0 P Q a w:=by
 obtain⟨G,Vk,hG⟩:=yX hL hB Tj hw
 exact wpIn_region_any hm (uE hR (sl:=sl) (G:=G) hC Tj Vk hK _ _ E Z a _ TG hG h.drew)
end
end Go.Wt
