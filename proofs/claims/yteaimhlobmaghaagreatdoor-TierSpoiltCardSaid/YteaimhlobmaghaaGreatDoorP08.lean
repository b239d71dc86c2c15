/- A part of the proof of a tier statement (the last text closes it): lemmas without condition. -/
import Derived.Test.YteaimhlobmaghaaGreatDoorP07
import Derived.RangeFuncIn
import Derived.RangeFuncRecord
set_option linter.all false
set_option maxRecDepth 10000000
set_option maxHeartbeats 0
namespace Go.Wt
section
open Go.RowKit
variable{P:Program}{C:aD}{c:aA}{Z:Nm->Place}{E:aa}{a:Act}{w:World}
def ko(ρ:List (Nm×Nm))(r:Row):(r.ren ρ).mut=r.mut:=by cases r<;>rfl
def ic(ρ:List (Nm×Nm))(r:Row)(pl:Place):(r.ren ρ).real pl=r.real pl:=by cases r<;>rfl
def ah.ren{Z':Nm->Place}{U U':Nm->Bool}{M M':Nat->Prop}{ρ:List (Nm×Nm)}{v:Value}{d:DV}(hv:ah Z U w M v d)(hM:∀b,M' b->M b)
  (Ur:∀s s',ρ.lookup s=some s'->U s=true->U' s'=true/\Z' s'=Z s) (X6:∀s',ρ.lookup .yl=some s'->s'= .yl):ah Z' U' w M' v (d.ren ρ):=by
 induction hv with
 |t h=>exact .t (h.mono (ajz _) (fun b _ hb=>⟨rfl,fun TR=>hb (hM b TR)⟩))
 |agg hl h1 _ ih=>
  simp only[DV.ren,iE]
  refine .agg (by simpa using hl) h1 fun i v d hv hd=>?_
  simp only[ajw,ajt]at hd
  obtain⟨d0,UU,rfl⟩:=hd
  exact ih i v d0 hv UU
 |tup hl _ ih=>
  simp only[DV.ren,iE]
  refine .tup (by simpa using hl) fun i v d hv hd=>?_
  simp only[ajw,ajt]at hd
  obtain⟨d0,UU,rfl⟩:=hd
  exact ih i v d0 hv UU
 |ptr hu=>
  rename_i s k j
  simp only[DV.ren]
  split
  .rename_i s' TO
   obtain⟨h1,h2⟩:=Ur s s' TO hu
   rw[<-h2]
   exact .ptr h1
  .exact .junk
 |tp u US hb hu h1 h2=>
  simp only[DV.ren]
  exact .tp u (fun TR=>US (hM _ TR)) hb hu h1 (fun i cc Uw=>(h2 i cc Uw).mono (ajz _) (fun b _ hb=>⟨rfl,fun TR=>hb (hM b TR)⟩))
 |osl hu hn ha=>
  rename_i s n ad
  simp only[DV.ren]
  split
  .rename_i s' TO
   obtain⟨h1,h2⟩:=Ur s s' TO hu
   rw[<-h2]
   exact .osl h1 (by rw[h2];exact hn) (by rw[h2];exact ha)
  .exact .junk
 |fn hl _ ih=>
  simp only[DV.ren,iE]
  refine .fn (by simpa using hl) fun i v d hv hd=>?_
  simp only[ajw,ajt]at hd
  obtain⟨d0,UU,rfl⟩:=hd
  exact ih i v d0 hv UU
 |mfn Uy hl _ _ ih0 ih=>
  simp only[DV.ren,iE]
  refine .mfn (by simpa using Uy) (by simpa using hl) (fun i v d hv hd=>?_) fun i v d hv hd=>?_
  .simp only[ajw,ajt]at hd
   obtain⟨d0,UU,rfl⟩:=hd
   exact ih0 i v d0 hv UU
  .simp only[ajw,ajt]at hd
   obtain⟨d0,UU,rfl⟩:=hd
   exact ih i v d0 hv UU
 |mp hu=>
  rename_i s
  simp only[DV.ren]
  split
  .rename_i s' TO
   obtain⟨h1,h2⟩:=Ur s s' TO hu
   rw[<-h2]
   exact .mp h1
  .exact .junk
 |yl hu=>
  simp only[DV.ren]
  split
  .rename_i s' TO
   have he:s'=Nm.yl:=X6 s' TO
   subst he
   obtain⟨h1,h2⟩:=Ur .yl .yl TO hu
   rw[<-h2]
   exact .yl h1
  .exact .junk
 |lst u US hb hn hc hu _ ih=>
  simp only[DV.ren,iE]
  have:=ah.lst (Z:=Z') (U:=U') (w:=w) (M:=M') (ds:=List.map (DV.ren ρ) _) u (fun TR=>US (hM _ TR)) hb (by simpa using hn) hc (fun i d hd=>by
   simp only[ajw,ajt]at hd
   obtain⟨d0,UU,_⟩:=hd
   exact hu i d0 UU) (fun i d hd=>by
   simp only[ajw,ajt]at hd
   obtain⟨d0,UU,rfl⟩:=hd
   exact ih i d0 UU)
  rw[ajJ]at this
  exact this
 |xs hn h=>simp only[DV.ren];exact .xs hn (h.mono (ajz _) (fun b _ hb=>⟨rfl,fun TR=>hb (hM b TR)⟩))
 |ls hn US hg h=>simp only[DV.ren];exact .ls hn (fun TR=>US (hM _ TR)) hg (h.mono (ajz _) (fun b _ hb=>⟨rfl,fun TR=>hb (hM b TR)⟩))
 |er=>simp only[DV.ren];exact .er
 |ep US hb hu _ ih=>simp only[DV.ren];exact .ep (fun TR=>US (hM _ TR)) hb hu ih
 |wh _ ih=>simp only[DV.ren];exact .wh fun e=>ih e
 |junk=>simp only[DV.ren];exact .junk
def eo.ren{Z':Nm->Place}{U U':Nm->Bool}{M M':Nat->Prop}{ρ:List (Nm×Nm)}{pl:Place}{r:Row}(h:eo Z U M w pl r)(hM:∀b,M' b->M b)
  (Ur:∀s s',ρ.lookup s=some s'->U s=true->U' s'=true/\Z' s'=Z s) (X6:∀s',ρ.lookup .yl=some s'->s'= .yl):eo Z' U' M' w pl (r.ren ρ):=by
 cases r with
 |box e d fz=>
  obtain⟨cs,h7,h8,h9,UI⟩:=h
  refine⟨cs,h7,by rw[qM,ajJ];exact h8,h9,fun i v x hv hx=>?_⟩
  rw[qM,ajw,ajt]at hx
  obtain⟨x0,Zc,rfl⟩:=hx
  exact(UI i v x0 hv Zc).ren hM Ur X6
 |rows e m l fz=>
  rcases h with h5|⟨cs,h7,h8,h9,UI,bE,Wx,j3,h14,h15⟩
  .exact .inl h5
  .refine .inr ⟨cs,h7,h8,h9,UI,bE,Wx,j3,h14,fun k t j cc hk hj=>?_⟩
   obtain⟨h16,v,h17,m3⟩:=h15 k t j cc hk hj
   exact⟨h16,v,h17,m3.mono (ajz _) (fun b _ hb=>⟨rfl,fun TR=>hb (hM b TR)⟩)⟩
 |obj o fz=>
  cases o with
  |mp es cl=>
   obtain⟨ents,h7,h8,h9⟩:=h
   refine⟨ents,h7,by rw[ajJ];exact h8,fun i e x he hx=>?_⟩
   rw[ajw,ajt]at hx
   obtain⟨x0,Zc,rfl⟩:=hx
   obtain⟨UI,bE,Wx⟩:=h9 i e x0 he Zc
   exact⟨UI,bE,Wx.ren hM Ur X6⟩
  |it str p=>exact h
  |dfr=>exact h
def bS(Z:Nm->Place)(ρ:List (Nm×Nm)):Nm->Place:=fun s'=>match s' with
 | .glob g=>⟨g,0,0⟩
 |s'=>match(flip ρ).lookup s' with|some s=>Z s|none=>⟨0,0,0⟩
def cS(c:aA)(Z:Nm->Place)(E:aa)(w:World)(ρ:List (Nm×Nm)):aA where
 w0:=w
 M0:=ae c Z E.slots
 X:=fun b=>∃s s' r,(s,s')∈ρ/\E.slots s=some r/\r.mut=true/\r.real (Z s)=true/\(Z s).blk=b
 n:=0
 pin:=bS Z ρ
structure ig(E:aa)(ρ:List (Nm×Nm)):Prop where
 n1:(ρ.map (·.1)).Nodup
 n2:(ρ.map (·.2)).Nodup
 hg:∀s s',(s,s')∈ρ->(s'.isGlob=true\/s.isGlob=true)->s=s'
 hu:∀s s',(s,s')∈ρ->E.used s=true
 hy:∀s',ρ.lookup .yl=some s'->s'= .yl
def ig.mem{ρ:List (Nm×Nm)}(h:ig E ρ)(s s':Nm):(s,s')∈ρ↔(flip ρ).lookup s'=some s:=by
 have UA:((flip ρ).map (·.1)).Nodup:=by simpa[flip,aj8,aky]using h.n2
 constructor
 .intro hm
  exact ib UA (by simp only[flip,ajI];exact⟨_,hm,rfl⟩)
 .intro hl
  have:=et hl
  simp only[flip,ajI]at this
  obtain⟨⟨x,y⟩,h1,h2⟩:=this
  simp only[ajV]at h2
  obtain⟨rfl,rfl⟩:=h2
  exact h1
def ig.pl{ρ:List (Nm×Nm)}(h:ig E ρ)(hs:SimW c Z E w){s s':Nm}(hm:(s,s')∈ρ):bS Z ρ s'=Z s:=by
 have hl:=(h.mem s s').1 hm
 cases s' with
 |glob g=>
  have:=h.hg _ _ hm (.inl rfl)
  subst this
  exact(hs.glob g (h.hu _ _ hm)).symm
 |_=>simp only[bS,hl]
def ig.slot{ρ:List (Nm×Nm)}(h:ig E ρ){s':Nm}{r':Row}(hr:(E.canon ρ).slots s'=some r'):∃s r,(s,s')∈ρ/\E.slots s=some r/\r'=r.ren ρ:=by
 have hr:(match(flip ρ).lookup s' with|some s0=>(E.slots s0).map (Row.ren ρ)|none=>none)=some r':=hr
 split at hr
 .rename_i s hs
  rw[ajt]at hr
  obtain⟨r,h1,rfl⟩:=hr
  exact⟨s,r,(h.mem _ _).2 hs,h1,rfl⟩
 .simp at hr
def ig.slot'{ρ:List (Nm×Nm)}(h:ig E ρ){s s':Nm}{r:Row}(hm:(s,s')∈ρ)(hr:E.slots s=some r):(E.canon ρ).slots s'=some (r.ren ρ):=by
 show(match(flip ρ).lookup s' with|some s0=>(E.slots s0).map (Row.ren ρ)|none=>none)=_
 rw[(h.mem _ _).1 hm]
 simp[hr]
def ig.usd{ρ:List (Nm×Nm)}(h:ig E ρ){s':Nm}:(E.canon ρ).used s'=true↔∃s,(s,s')∈ρ:=by
 show((flip ρ).lookup s').isSome=true↔_
 rw[akb]
 exact⟨fun⟨s,hs⟩=>⟨s,(h.mem _ _).2 hs⟩,fun⟨s,hs⟩=>⟨s,(h.mem _ _).1 hs⟩⟩
def SimW.enter(h:SimW c Z E w){ρ:List (Nm×Nm)}(hρ:ig E ρ):
  SimW (cS c Z E w ρ) (bS Z ρ) (E.canon ρ) w/\(∀v d,ah Z E.used w (ae c Z E.slots) v d->ah (bS Z ρ) (E.canon ρ).used w (ae (cS c Z E w ρ) (bS Z ρ) (E.canon ρ).slots) v (d.ren ρ))/\
  (∀b,ae (cS c Z E w ρ) (bS Z ρ) (E.canon ρ).slots b->ae c Z E.slots b):=by
 have hM:∀b,ae (cS c Z E w ρ) (bS Z ρ) (E.canon ρ).slots b->ae c Z E.slots b:=by
  rintro b (⟨hb,_⟩|⟨s',r',h1,h2,h3,h4⟩)
  .exact hb
  .obtain⟨s,r,h5,h6,rfl⟩:=hρ.slot h1
   rw[ko]at h2
   rw[ic,hρ.pl h h5]at h3
   rw[hρ.pl h h5]at h4
   exact .inr ⟨s,r,h6,h2,h3,h4⟩
 have Ur:∀s s',ρ.lookup s=some s'->E.used s=true->(E.canon ρ).used s'=true/\bS Z ρ s'=Z s:=fun s s' hl _=>⟨hρ.usd.2 ⟨s,et hl⟩,hρ.pl h (et hl)⟩
 refine⟨⟨ajz _,rfl,rfl,rfl,fun _ _ _=>rfl,?_,?_,?_,?_,⟨fun _=>rfl,h.lay_to fun b hb hM=>⟨rfl,fun⟨s,s',r,_,h2,h3,h4,h5⟩=>hM (.inr ⟨s,r,h2,h3,h4,h5⟩),fun h0=>hM h0⟩⟩⟩,fun v d hv=>hv.ren hM Ur hρ.hy,hM⟩
 .rintro b (⟨hb,_⟩|⟨s,r,h1,h2,h3,h4⟩)
  .exact ajY (h.m0 b hb) h.size
  .rw[<-h4];exact(h.row s r h1).2.1.lt h3
 .intro s' r' hr
  obtain⟨s,r,h1,h2,rfl⟩:=hρ.slot hr
  obtain⟨h3,h4,h5⟩:=h.row s r h2
  have e:=hρ.pl h h1
  refine⟨hρ.usd.2 ⟨s,h1⟩,?_,fun Tz=>⟨fun hm=>?_,?_⟩⟩
  .rw[e];exact h4.ren hM Ur hρ.hy
  .rw[ko]at hm
   rw[ic,e]at Tz
   rw[e]
   exact .inl ⟨s,s',r,h1,h2,hm,Tz,rfl⟩
  .rw[ic,e]at Tz
   rw[e]
   by_cases hm:r.mut=true
   .exact .inl ⟨s,s',r,h1,h2,hm,Tz,rfl⟩
   .refine .inr ?_
    rintro(⟨TZ,Uu⟩|⟨s2,r2,h6,h7,h8,h9⟩)
    .exact(h5 Tz).2.elim Uu (fun hh=>hh TZ)
    .have:=h.inj s2 s r2 r h6 h2 h7 h8 Tz h9
     subst this
     rw[h6]at h2
     cases h2
     exact hm h7
 .intro s1 s2 r1 r2 h1 h2 hm hr1 hr2 he
  obtain⟨x1,y1,h3,h4,rfl⟩:=hρ.slot h1
  obtain⟨x2,y2,h5,h6,rfl⟩:=hρ.slot h2
  rw[ko]at hm
  rw[ic,hρ.pl h h3]at hr1
  rw[ic,hρ.pl h h5]at hr2
  rw[hρ.pl h h3,hρ.pl h h5]at he
  have:=h.inj x1 x2 y1 y2 h4 h6 hm hr1 hr2 he
  subst this
  have e1:=ib hρ.n1 h3
  have e2:=ib hρ.n1 h5
  rw[e1]at e2
  exact Option.some.inj e2
 .intro s _ _;rfl
end
section
open Go.RowKit
variable{P:Program}{C:aD}{c:aA}{Z:Nm->Place}{E:aa}{a:Act}{w:World}
structure Comes(E E':aa)(ρ σ:List (Nm×Nm))(ups:List (Nm×Option Row)):Prop where
 n1:(σ.map (·.1)).Nodup
 n2:(σ.map (·.2)).Nodup
 old:∀s' s,(s',s)∈σ->((s,s')∈ρ/\s'.fixed=true)\/(E.used s=false/\s.fixed=false/\(ups.lookup s).isSome=true)
 up:∀s x,ups.lookup s=some x->∃s',(s',s)∈σ/\x=(E'.slots s').map (Row.ren σ)
 cov:∀s s' r,(s,s')∈ρ->E.slots s=some r->r.mut=true->(ups.lookup s).isSome=true
 hy:∀s',σ.lookup .yl=some s'->s'= .yl
def ai.exit(h:ai c Z E a w){ρ σ:List (Nm×Nm)}(hρ:ig E ρ){Z1:Nm->Place}{E':aa}{w1:World}(h1:SimW (cS c Z E w ρ) Z1 E' w1){ups:List (Nm×Option Row)}(hσ:Comes E E' ρ σ ups)
  {v:Value} {d:DV} (hv:ah Z1 E'.used w1 (ae (cS c Z E w ρ) Z1 E'.slots) v d) {dst:Option Nat} (hd:dst.all (· <c.n)=true):
  ∃Z2,ai c Z2 ((E.upd ups).putO dst (d.ren σ)) (a.put dst v) w1:=by
 have UA:((flip σ).map (·.1)).Nodup:=by simpa[flip,aj8,aky]using hσ.n2
 have TN:∀s s',(s',s)∈σ->(flip σ).lookup s=some s':=by
  intro s s' hm
  exact ib UA (by simp only[flip,ajI];exact⟨_,hm,rfl⟩)
 let Z2:Nm->Place:=fun s=>if E.used s=true then Z s else match(flip σ).lookup s with|some s'=>Z1 s'|none=>Z s
 have hZ:∀s,E.used s=true->Z2 s=Z s:=fun s hu=>by simp[Z2,hu]
 have hZ1:∀s s',(s',s)∈σ->E'.used s'=true->Z2 s=Z1 s':=by
  intro s s' hm hu
  rcases hσ.old s' s hm with⟨h2,h3⟩|⟨h2,_⟩
  .rw[hZ s (hρ.hu _ _ h2),h1.fix s' h3 hu]
   exact(hρ.pl h.toSimW h2).symm
  .simp[Z2,h2,TN s s' hm]
 have aae:∀s r,ups.lookup s=some (some r)->∃s' r',(s',s)∈σ/\E'.slots s'=some r'/\r=r'.ren σ/\Z2 s=Z1 s':=by
  intro s r hl
  obtain⟨s',h2,h3⟩:=hσ.up s _ hl
  cases hr:E'.slots s' with
  |none=>rw[hr]at h3;simp at h3
  |some r'=>
   rw[hr]at h3
   simp only[akq,ajr]at h3
   exact⟨s',r',h2,hr,h3,hZ1 _ _ h2 (h1.row s' r' hr).1⟩
 have hX:∀b,(cS c Z E w ρ).X b->∃s r,E.slots s=some r/\r.mut=true/\r.real (Z s)=true/\(Z s).blk=b/\(ups.lookup s).isSome=true:=
  fun b ⟨s,s',r,h2,h3,h4,h5,h6⟩=>⟨s,r,h3,h4,h5,h6,hσ.cov s s' r h2 h3 h4⟩
 have hXM:∀b,(cS c Z E w ρ).X b->ae c Z E.slots b:=fun b hb=>by
  obtain⟨s,r,h2,h3,h4,h5,_⟩:=hX b hb
  exact .inr ⟨s,r,h2,h3,h4,h5⟩
 have hXo:∀s r,E.slots s=some r->r.real (Z s)=true->(ups.lookup s)=none->¬(cS c Z E w ρ).X (Z s).blk:=by
  intro s r h2 h3 h4 hb
  obtain⟨s2,r2,h5,h6,h7,h8,h9⟩:=hX _ hb
  have:=h.inj s2 s r2 r h5 h2 h6 h7 h3 h8
  rw[this,h4]at h9
  simp at h9
 have hM:∀b,ae c Z2 (E.upd ups).slots b->ae (cS c Z E w ρ) Z1 E'.slots b:=by
  rintro b (⟨TZ,Uu⟩|⟨s,r,h2,h3,h4,h5⟩)
  .refine .inl ⟨.inl ⟨TZ,Uu⟩,fun hb=>?_⟩
   obtain⟨s2,r2,h5,h6,h7,h8,_⟩:=hX _ hb
   rcases((h.row s2 r2 h5).2.2 h7).1 h6 with h9|h9
   .rw[h8]at h9;exact Uu h9
   .rw[h8]at h9;exact absurd (h.m0 b TZ) (by omega)
  .rw[bM]at h2
   cases hl:ups.lookup s with
   |some x=>
    rw[hl]at h2
    simp only at h2
    subst h2
    obtain⟨s',r',h6,h7,rfl,h8⟩:=aae s r hl
    rw[ko]at h3
    rw[ic,h8]at h4
    rw[h8]at h5
    exact .inr ⟨s',r',h7,h3,h4,h5⟩
   |none=>
    rw[hl]at h2
    simp only at h2
    have e:=hZ s (h.row s r h2).1
    rw[e]at h4 h5
    refine .inl ⟨.inr ⟨s,r,h2,h3,h4,h5⟩,?_⟩
    rw[<-h5]
    exact hXo s r h2 h4 hl
 have hw:∀b,b<w.heap.size->¬ae c Z E.slots b->w1.heap[b]?=w.heap[b]?/\¬ae c Z2 (E.upd ups).slots b:=by
  intro b hlt hb
  refine⟨h1.old b hlt (fun hx=>hb (hXM b hx)),fun TR=>?_⟩
  rcases hM b TR with⟨h2,_⟩|⟨s',r',h2,h3,h4,h5⟩
  .exact hb h2
  .rcases((h1.row s' r' h2).2.2 h4).1 h3 with h6|h6
   .rw[h5]at h6;exact hb (hXM b h6)
   .rw[h5]at h6
    have:w.heap.size<=b:=h6
    omega
 have hU:∀s,E.used s=true->(E.upd ups).used s=true/\Z2 s=Z s:=fun s hu=>⟨by rw[bJ,hu,Bool.or_true],hZ s hu⟩
 have Ur:∀s' s,σ.lookup s'=some s->E'.used s'=true->(E.upd ups).used s=true/\Z2 s=Z1 s':=by
  intro s' s hl hu
  have hm:=et hl
  refine⟨?_,hZ1 s s' hm hu⟩
  rw[bJ]
  rcases hσ.old s' s hm with⟨h2,_⟩|⟨_,_,h2⟩
  .rw[hρ.hu _ _ h2,Bool.or_true]
  .rw[h2,Bool.true_or]
 have Yo:∀s r,(E.upd ups).slots s=some r->(∃s' r',(s',s)∈σ/\E'.slots s'=some r'/\r=r'.ren σ/\Z2 s=Z1 s'/\(ups.lookup s).isSome=true)\/(ups.lookup s=none/\E.slots s=some r/\Z2 s=Z s):=by
  intro s r hr
  rw[bM]at hr
  cases hl:ups.lookup s with
  |some x=>
   rw[hl]at hr
   simp only at hr
   subst hr
   obtain⟨s',r',h2,h3,h4,h5⟩:=aae s r hl
   exact .inl ⟨s',r',h2,h3,h4,h5,rfl⟩
  |none=>
   rw[hl]at hr
   simp only at hr
   exact .inr ⟨rfl,hr,hZ s (h.row s r hr).1⟩
 have acX:∀s' r',E'.slots s'=some r'->r'.real (Z1 s')=true->∀s r,E.slots s=some r->r.real (Z s)=true->ups.lookup s=none->(Z1 s').blk=(Z s).blk->(r'.mut=true\/r.mut=true)->False:=by
  intro s' r' h2 h3 s r h4 h5 h6 h7 hm
  have hlt:=(h.row s r h4).2.1.lt h5
  have WE:=hXo s r h4 h5 h6
  obtain⟨_,_,h8⟩:=h1.row s' r' h2
  have h8:=h8 h3
  rw[h7]at h8
  rcases hm with hm|hm
  .rcases h8.1 hm with h9|h9
   .exact WE h9
   .have:w.heap.size<=(Z s).blk:=h9
    omega
  .rcases h8.2 with h9|h9
   .exact WE h9
   .exact h9 (.inr ⟨s,r,h4,hm,h5,rfl⟩)
 have Tr:ai c Z2 (E.upd ups) a w1:=by
  refine⟨⟨akf h.size h1.size,h1.os.trans h.os,h1.tape.trans h.tape,h1.output.trans h.output,?_,h.m0,?_,?_,?_,h.gl⟩,fun t=>(h.tm t).mono h1.size hw hU,h.sz,?_⟩
  .intro b hlt hX'
   have ae9:b<w.heap.size:=ajY hlt h.size
   have:¬(cS c Z E w ρ).X b:=by
    intro hb
    obtain⟨s,r,h2,h3,h4,h5,_⟩:=hX b hb
    rcases((h.row s r h2).2.2 h4).1 h3 with h6|h6
    .rw[h5]at h6;exact hX' h6
    .rw[h5]at h6;omega
   exact(h1.old b ae9 this).trans (h.old b hlt hX')
  .intro s r hr
   rcases Yo s r hr with⟨s',r',h2,h3,rfl,h4,h5⟩|⟨h2,h3,h4⟩
   .obtain⟨h6,h7,h8⟩:=h1.row s' r' h3
    refine⟨by rw[bJ,h5,Bool.true_or],?_,?_⟩
    .rw[h4];exact h7.ren hM Ur hσ.hy
    .rw[ic,ko,h4]
     intro Tz
     obtain⟨h9,UI⟩:=h8 Tz
     have hx:∀b,(cS c Z E w ρ).X b->(c.X b\/c.w0.heap.size<=b)/\(c.X b\/¬c.M0 b):=by
      intro b hb
      obtain⟨s2,r2,bE,Wx,j3,h14,_⟩:=hX b hb
      obtain⟨h15,h16⟩:=(h.row s2 r2 bE).2.2 j3
      rw[h14]at h15 h16
      exact⟨h15 Wx,h16⟩
     refine⟨fun hm=>?_,?_⟩
     .rcases h9 hm with bE|bE
      .exact(hx _ bE).1
      .exact .inr (akf h.size bE)
     .rcases UI with bE|bE
      .exact(hx _ bE).2
      .by_cases VP:c.X (Z1 s').blk
       .exact .inl VP
       .exact .inr fun V0=>bE (.inl ⟨V0,VP⟩)
   .obtain⟨h5,h6,h7⟩:=h.row s r h3
    refine⟨(hU s h5).1,?_,by rw[h4];exact h7⟩
    rw[h4]
    exact h6.mono h1.size hw hU fun Tz=>h1.old _ (h6.lt Tz) (hXo s r h3 Tz h2)
  .intro s1 s2 r1 r2 h2 h3 hm hr1 hr2 he
   rcases Yo s1 r1 h2 with⟨x1,y1,h4,h5,rfl,h6,_⟩|⟨h4,h5,h6⟩<;>rcases Yo s2 r2 h3 with⟨x2,y2,h7,h8,rfl,h9,_⟩|⟨h7,h8,h9⟩
   .rw[ko]at hm
    rw[ic,h6]at hr1
    rw[ic,h9]at hr2
    rw[h6,h9]at he
    have:=h1.inj x1 x2 y1 y2 h5 h8 hm hr1 hr2 he
    subst this
    have e1:=ib hσ.n1 h4
    have e2:=ib hσ.n1 h7
    rw[e1]at e2
    exact Option.some.inj e2
   .rw[ko]at hm
    rw[ic,h6]at hr1
    rw[h9]at hr2
    rw[h6,h9]at he
    exact(acX x1 y1 h5 hr1 s2 r2 h8 hr2 h7 he (.inl hm)).elim
   .rw[h6]at hr1
    rw[ic,h9]at hr2
    rw[h6,h9]at he
    exact(acX x2 y2 h8 hr2 s1 r1 h5 hr1 h4 he.symm (.inr hm)).elim
   .rw[h6]at hr1
    rw[h9]at hr2
    rw[h6,h9]at he
    exact h.inj s1 s2 r1 r2 h5 h8 hm hr1 hr2 he
  .intro s hf hu
   rw[bJ,Bool.or_eq_true]at hu
   have hu':E.used s=true:=by
    rcases hu with hu|hu
    .cases hl:ups.lookup s with
     |none=>rw[hl]at hu;simp at hu
     |some x=>
      obtain⟨s',h2,_⟩:=hσ.up s x hl
      rcases hσ.old s' s h2 with⟨h3,_⟩|⟨_,h3,_⟩
      .exact hρ.hu _ _ h3
      .rw[h3]at hf;simp at hf
    .exact hu
   rw[hZ s hu']
   exact h.fix s hf hu'
  .obtain⟨bs,h2,WF,h3⟩:=h.df
   refine⟨bs,h2,WF,fun b hb=>?_⟩
   obtain⟨h40,h4⟩:=h3 b hb
   refine⟨h40,?_⟩
   rw[h1.old b (ajy.1 h4).1 (fun hx=>?_)]
   .exact h4
   .obtain⟨s,r,h5,h6,h7,h8,_⟩:=hX b hx
    rw[<-h8]at h4
    exact(h.row s r h5).2.1.nodf h7 h4
 exact⟨Z2,Tr.put hd (hv.ren hM Ur hσ.hy)⟩
end
section
open Go.RowKit
variable{P:Program}{C:aD}{c:aA}{Z:Nm->Place}{E:aa}{a:Act}{w:World}
def ay(P:Program)(f:FuncId)(k:Ct):Prop:=jG P f/\∀(c:aA) (Z:Nm->Place) (w:World) (vs:List Value),c.w0=w->SimW c Z k.env w->vs.length=k.ds.length->
 (∀(i:Nat) (v:Value) (d:DV),vs[i]?=some v->k.ds[i]?=some d->ah Z k.env.used w (ae c Z k.env.slots) v d)->
 Calls P f vs.toArray w fun e w'=>∃v,e= .returned v/\∃(Z':Nm->Place) (E':aa),E'.slots=k.out/\SimW c Z' E' w'/\ah Z' E'.used w' (ae c Z' E'.slots) v k.d
def eu{S:List Nm}{gs:List (Nat×TypeId×ab)}{s s':Nm}:(s,s')∈aL S gs↔(∃i,S[i]?=some s/\s'= .arg i)\/∃p∈gs,s= .glob p.1/\s'= .glob p.1:=by
 unfold aL
 rw[ajG,ajI,ajI]
 constructor
 .rintro(⟨⟨x,i⟩,h1,h2⟩|⟨p,h1,h2⟩)
  .rw[List.mem_zipIdx_iff_getElem?]at h1
   simp only[ajV]at h2
   obtain⟨rfl,rfl⟩:=h2
   exact .inl ⟨i,h1,rfl⟩
  .simp only[ajV]at h2
   exact .inr ⟨p,h1,h2.1.symm,h2.2.symm⟩
 .rintro(⟨i,h1,rfl⟩|⟨p,h1,rfl,rfl⟩)
  .exact .inl ⟨(s,i),List.mem_zipIdx_iff_getElem?.2 h1,rfl⟩
  .exact .inr ⟨p,h1,rfl⟩
def qS{S:List Nm}{d n:Nat}{s s':Nm}:(s',s)∈dt S d n↔(∃i,S[i]?=some s/\s'= .arg i)\/∃j,j<n/\s'= .loc 0 j/\s= .loc d j:=by
 unfold dt
 rw[ajG,ajI,ajI]
 constructor
 .rintro(⟨⟨x,i⟩,h1,h2⟩|⟨j,h1,h2⟩)
  .rw[List.mem_zipIdx_iff_getElem?]at h1
   simp only[ajV]at h2
   obtain⟨rfl,rfl⟩:=h2
   exact .inl ⟨i,h1,rfl⟩
  .simp only[ajV]at h2
   exact .inr ⟨j,List.mem_range.1 h1,h2.1.symm,h2.2.symm⟩
 .rintro(⟨i,h1,rfl⟩|⟨j,h1,rfl,rfl⟩)
  .exact .inl ⟨(s,i),List.mem_zipIdx_iff_getElem?.2 h1,rfl⟩
  .exact .inr ⟨j,List.mem_range.2 h1,rfl⟩
def ph{α β:Type}{f:α->β}{l:List α}(h:l.Nodup)(hf:∀x∈l,∀y∈l,f x=f y->x=y):(l.map f).Nodup:=by
 induction l with
 |nil=>simp
 |cons x l ih=>
  simp only[List.nodup_cons]at h
  simp only[ajQ,List.nodup_cons,ajI,not_exists,not_and]
  refine⟨fun y hy he=>?_,ih h.2 fun a ha b hb=>hf a (ajW _ ha) b (ajW _ hb)⟩
  have:=hf y (ajW _ hy) x ajK he
  exact h.1 (this▸hy)
def uF(S:List Nm):S.zipIdx.map (·.1)=S:=by simp
def yY(S:List Nm):(S.zipIdx.map fun p=>Nm.arg p.2).Nodup:=by
 have:(S.zipIdx.map fun p=>Nm.arg p.2)=(List.range S.length).map Nm.arg:=by
  have e:(S.zipIdx.map fun p=>Nm.arg p.2)=(S.zipIdx.map (fun p:Nm×Nat=>p.2)).map Nm.arg:=by rw[aj8];rfl
  rw[e]
  congr 1
  rw[List.range_eq_range']
  exact List.zipIdx_map_snd 0 S
 rw[this]
 exact ph List.nodup_range fun x _ y _ h=>by simpa using h
def qT{α:Type}{l1 l2:List α}(h1:l1.Nodup)(h2:l2.Nodup)(h:∀x∈l1,x∉l2):(l1++l2).Nodup:=by
 rw[List.nodup_append]
 exact⟨h1,h2,fun x hx y hy e=>h x hx (e▸hy)⟩
def ab.flat1:ab->Bool
 | .v _| .e0=>true
 |_=>false
def ab.flat:ab->Bool
 | .agg l=>l.all ab.flat1
 |x=>x.flat1
def DV.flat:DV->Bool
 | .t x=>x.flat
 | .tup l=>l.all fun d=>match d with| .t x=>x.flat|_=>false
 | .junk=>true
 |_=>false
def aM.flat1{M M':Nat->Prop}{w':World}{v:Value}{x:ab}(h:aM w M v x)(hx:x.flat1=true):aM w' M' v x:=by
 cases h with
 |v h=>exact .v h
 |e0=>exact .e0
 |_=>simp[ab.flat1]at hx
def aM.flat{M M':Nat->Prop}{w':World}{v:Value}{x:ab}(h:aM w M v x)(hx:x.flat=true):aM w' M' v x:=by
 cases h with
 |agg hl h1 h2=>
  simp only[ab.flat,ajR]at hx
  exact .agg hl h1 fun i v t hv ht=>(h2 i v t hv ht).flat1 (hx t (ajx ht))
 |v h=>exact .v h
 |e0=>exact .e0
 |_=>simp[ab.flat,ab.flat1]at hx
def ah.flat{Z Z':Nm->Place}{U U':Nm->Bool}{M M':Nat->Prop}{w':World}{v:Value}{d:DV}(h:ah Z U w M v d)(hd:d.flat=true):ah Z' U' w' M' v d:=by
 cases h with
 |t h=>exact .t (h.flat hd)
 |tup hl h=>
  simp only[DV.flat,ajR]at hd
  refine .tup hl fun i v d hv Un=>?_
  have h1:=hd d (ajx Un)
  have h2:=h i v d hv Un
  cases d with
  |t x=>exact .t (h2.t_inv.flat h1)
  |_=>simp at h1
 |junk=>exact .junk
 |_=>simp[DV.flat]at hd
def SimW.congr{E':aa}(h:SimW c Z E w)(h1:E.slots=E'.slots)(h2:E.used=E'.used):SimW c Z E' w:=by
 obtain⟨t1,s1,u1⟩:=E
 obtain⟨t2,s2,u2⟩:=E'
 simp only at h1 h2
 subst h1 h2
 exact⟨h.size,h.os,h.tape,h.output,h.old,h.m0,h.row,h.inj,h.fix,h.gl⟩
def pi(P:Program)(E:aa)(f:FuncId)(ds:List DV)(dst:Option Nat)(r:aq):Prop:=∃(k:Ct) (S F:List Nm),ay P f k/\cL E ds k S F/\
 ((S=[]/\k.new=[]/\k.d.flat=true/\r=⟨k.d,F++k.gn,[]⟩)\/
  ((∀j,j<k.new.length->E.used (.loc (dst.getD 0) j)=false)/\r=⟨k.d.ren (dt S (dst.getD 0) k.new.length),F++(S++k.gn),bB S (dst.getD 0) k++am E F⟩)\/
  ((∀j,j<k.new.length->E.used (.loc (dst.getD 0) j)=false)/\∃ups,r=⟨k.d.ren (dt S (dst.getD 0) k.new.length),F++(S++k.gn),ups⟩/\
   ∀s,ups.lookup s=(bB S (dst.getD 0) k++am E F).lookup s\/(ups.lookup s=none/\s∈F++S/\(bB S (dst.getD 0) k++am E F).lookup s=some (E.slots s)/\E.used s=true)))
def eZ(P:Program)(f:FuncId)(k:Ct)(u:Value):Prop:=jG P f/\∀(c:aA) (Z:Nm->Place) (w:World) (vs:List Value),c.w0=w->SimW c Z k.env w->vs.length=k.ds.length->
 (∀(i:Nat) (v:Value) (d:DV),vs[i]?=some v->k.ds[i]?=some d->ah Z k.env.used w (ae c Z k.env.slots) v d)->
 Calls P f vs.toArray w fun e w'=>e= .panicked (gf u)/\∃(Z':Nm->Place) (E':aa),E'.slots=k.out/\SimW c Z' E' w'
def pj(P:Program)(E:aa)(f:FuncId)(ds:List DV)(u:Value)(ups:List (Nm×Option Row)):Prop:=∃(k:Ct) (S F:List Nm),eZ P f k u/\cL E ds k S F/\k.new=[]/\ups=bB S 0 k++am E F
def gC(u:Value):DV:= .wh true false (.t (.v u))
structure qU(w0 w1:World)(M1 O1:Nat->Prop)(w2:World)(M2:Nat->Prop):Prop where
 size:w1.heap.size<=w2.heap.size
 os:w2.os=w1.os
 tape:w2.tape=w1.tape
 output:w2.output=w1.output
 keep:∀b,b<w1.heap.size->(b<w0.heap.size\/O1 b\/¬M1 b)->w2.heap[b]?=w1.heap[b]?
 sub:∀b,b<w1.heap.size->M2 b->M1 b
 base:∀b,b<w0.heap.size->M1 b->M2 b
 own:∀b,O1 b->M2 b
 lt:∀b,M2 b->b<w2.heap.size
structure mw(w1:World)(M1 O1:Nat->Prop)(w2:World)(M2 O2:Nat->Prop):Prop where
 size:w1.heap.size<=w2.heap.size
 os:w2.os=w1.os
 tape:w2.tape=w1.tape
 output:w2.output=w1.output
 keep:∀b,b<w1.heap.size->¬O1 b->w2.heap[b]?=w1.heap[b]?
 all:∀b,M2 b↔(M1 b/\¬O1 b)\/O2 b
 own:∀b,O2 b->O1 b\/w1.heap.size<=b
 lt:∀b,O2 b->b<w2.heap.size
def uG(w0:World)(J:World->(Nat->Prop)->(Nat->Prop)->Prop):Prop:=∀w1 M1 O1 w2 M2,J w1 M1 O1->qU w0 w1 M1 O1 w2 M2->J w2 M2 O1
def yZ(P:Program)(l:Nat)(us:List Value)(w:World)(R:Ending->World->Prop):Prop:=
 ∃fn tmps assign body,(Instr.yield l us.toArray).run P w= .ok (.round l fn tmps assign body) w/\RoundIn Fence.wide 0 P l fn tmps assign body w R
def uH(w:World)(M:Nat->Prop)(v:Value)(d:DV):Prop:=ah (fun _=>⟨0,0,0⟩) (fun _=>false) w M v d
def fD(P:Program)(f:FuncId)(ts:List DV)(xs:List (List ab)):Prop:=
 jG P f/\∀(w:World) (M O:Nat->Prop) (vs:List Value) (l:Nat) (J:Nat->World->(Nat->Prop)->(Nat->Prop)->Prop) (Jx:World->(Nat->Prop)->(Nat->Prop)->Prop) (Jp:Value->World->(Nat->Prop)->(Nat->Prop)->Prop),
  (∀b,M b->b<w.heap.size)->(∀b,O b->M b)->oX w M->vs.length=ts.length->(∀(i:Nat) (v:Value) (t:DV),vs[i]?=some v->ts[i]?=some t->uH w M v t)->
  (∀i,uG w (J i))->uG w Jx->(∀u,uG w (Jp u))->
  (∀(i:Nat) (x:List ab) (w1:World) (M1 O1:Nat->Prop) (us:List Value),xs[i]?=some x->J i w1 M1 O1->us.length=x.length->(∀(j:Nat) (v:Value) (t:ab),us[j]?=some v->x[j]?=some t->aM w1 M1 v t)->
   yZ P l us w1 fun e w2=>∃M2 O2,mw w1 M1 O1 w2 M2 O2/\((e= .returned (.bool true)/\J (i+1) w2 M2 O2)\/(e= .returned (.bool false)/\Jx w2 M2 O2)\/∃u,e= .panicked (gf u)/\Jp u w2 M2 O2))->
  J 0 w M O->
  Calls P f (#[.func (.yield l) #[] #[]]++vs.toArray) w fun e w'=>(∃v M' O',e= .returned v/\(J xs.length w' M' O'\/Jx w' M' O'))\/∃u M' O',e= .panicked (gf u)/\Jp u w' M' O'
def qV(yl:aa->List DV->(Bool->aa->Prop)->Prop):aD:=⟨pi,yl,fD,fun _ _ _ _ _ _=>False,pj,fun _ _=>False⟩
def qW(P:Program)(f:FuncId)(ds:List DV)(E0:aa)(Y:aa->List DV->(Bool->aa->Prop)->Prop)(Kf:aa->Prop):Prop:=∃(fn:Func) (code:Code) (s:ac),P.funcs[f]?=some fn/\(fn.name== "runtime.NumGoroutine")=false/\fn.body=some code/\aZ P fn.ntmps false code=some s/\fn.results=#[]/\ds.length+1<=fn.ntmps/\fn.ntmps<=GH/\W P (qV Y) s E0 (fun e E=>(e= .normal\/e= .ret)/\Kf E)
def bj(q:Value->aa->Prop):aD:=⟨pi,fun _ _ _=>False,fD,qW,pj,q⟩
abbrev bu:aD:=bj fun _ _=>False
def kp(yl:aa->List DV->(Bool->aa->Prop)->Prop):aD:=⟨pi,yl,fD,qW,pj,fun u E=>E.tmps GH=gC u⟩
def cL.goes{ds:List DV}{k:Ct}{S F:List Nm}(hm:cL E ds k S F):ig (E.upd (am E F)) (aL S k.gs):=by
 refine⟨?_,?_,?_,?_,?_⟩
 .have:(aL S k.gs).map (·.1)=S++k.gs.map fun p=>Nm.glob p.1:=by
   unfold aL
   rw[aki,aj8,aj8]
   congr 1
   exact uF S
  rw[this]
  refine qT hm.nd ?_ fun s hs hg=>?_
  .have:(k.gs.map fun p=>Nm.glob p.1)=(k.gs.map (·.1)).map Nm.glob:=by rw[aj8];rfl
   rw[this]
   exact ph hm.gnd fun x _ y _ h=>by simpa using h
  .obtain⟨p,_,rfl⟩:=ajI.1 hg
   have:=(hm.ng _ hs).1
   simp[Nm.isGlob]at this
 .have:(aL S k.gs).map (·.2)=(S.zipIdx.map fun p=>Nm.arg p.2)++k.gs.map fun p=>Nm.glob p.1:=by
   unfold aL
   rw[aki,aj8,aj8]
   rfl
  rw[this]
  refine qT (yY S) ?_ fun s hs hg=>?_
  .have:(k.gs.map fun p=>Nm.glob p.1)=(k.gs.map (·.1)).map Nm.glob:=by rw[aj8];rfl
   rw[this]
   exact ph hm.gnd fun x _ y _ h=>by simpa using h
  .obtain⟨p,_,rfl⟩:=ajI.1 hg
   obtain⟨q,_,h2⟩:=ajI.1 hs
   simp at h2
 .intro s s' h hg
  rcases eu.1 h with⟨i,h1,rfl⟩|⟨p,h1,rfl,rfl⟩
  .rcases hg with hg|hg
   .simp[Nm.isGlob]at hg
   .have:=(hm.ng s (ajx h1)).1
    rw[this]at hg;simp at hg
  .rfl
 .intro s s' h
  have:E.used s=true:=by
   rcases eu.1 h with⟨i,h1,rfl⟩|⟨p,h1,rfl,rfl⟩
   .exact hm.su s (ajx h1)
   .exact hm.gu p h1
  rw[bJ,this,Bool.or_true]
 .intro s' hl
  rcases eu.1 (et hl)with⟨i,h1,rfl⟩|⟨p,h1,h2,_⟩
  .exact absurd rfl (hm.ny _ (ajx h1))
  .cases h2
def y7{gs:List (Nat×TypeId×ab)}(hn:(gs.map (·.1)).Nodup){p:Nat×TypeId×ab}(hp:p∈gs):gs.lookup p.1=some p.2:=ib hn hp
theorem cL.slots{ds:List DV}{k:Ct}{S F:List Nm}(hm:cL E ds k S F):((E.upd (am E F)).canon (aL S k.gs)).slots=k.env.slots:=by
 have Ut:=hm.goes
 have Uq:∀(i:Nat) (s:Nm),S[i]?=some s->(E.upd (am E F)).slots s=E.slots s:=by
  intro i s hs
  rw[bM,fB,if_neg (hm.ng s (ajx hs)).2]
 have T8:∀p∈k.gs,(E.upd (am E F)).slots (.glob p.1)=some (.box p.2.1 (.t p.2.2) true):=by
  intro p hp
  rw[bM,fB]
  split
  .rename_i x hx
   split at hx
   .simp only[ajr]at hx
    rw[<-hx,hm.gs p hp]
    rfl
   .simp at hx
  .exact hm.gs p hp
 funext s'
 have WE:(∀s,(s,s')∉aL S k.gs)->((E.upd (am E F)).canon (aL S k.gs)).slots s'=none:=by
  intro h
  cases hx:((E.upd (am E F)).canon (aL S k.gs)).slots s' with
  |none=>rfl
  |some r=>
   obtain⟨s,_,h1,_⟩:=Ut.slot hx
   exact absurd h1 (h s)
 cases s' with
 |arg i=>
  show _=((k.rows.map some)[i]?).join
  by_cases hi:i<S.length
  .have hsi:=ajq hi
   obtain⟨r,h1,h2⟩:=hm.rw i _ hsi
   rw[Ut.slot' (eu.2 (.inl ⟨i,hsi,rfl⟩)) ((Uq i _ hsi).trans h1)]
   simp[h2]
  .rw[WE fun s h=>?_]
   .have:k.rows[i]?=none:=aj2 (by rw[hm.ln];omega)
    simp[this]
   .rcases eu.1 h with⟨j,h1,h2⟩|⟨p,_,_,h2⟩
    .simp only[Nm.arg.injEq]at h2
     subst h2
     exact hi (ajs.1 h1).1
    .simp at h2
 |glob g=>
  show _=(k.gs.lookup g).map _
  cases hl:k.gs.lookup g with
  |some y=>
   have hp:=et hl
   rw[Ut.slot' (eu.2 (.inr ⟨_,hp,rfl,rfl⟩)) (T8 _ hp)]
   rfl
  |none=>
   rw[WE fun s h=>?_]
   .rfl
   .rcases eu.1 h with⟨j,h1,h2⟩|⟨p,h1,_,h2⟩
    .simp at h2
    .simp only[Nm.glob.injEq]at h2
     subst h2
     rw[y7 hm.gnd h1]at hl
     simp at hl
 |loc d j=>
  rw[WE fun s h=>?_]
  .simp[Ct.env,aU]
  .rcases eu.1 h with⟨j,h1,h2⟩|⟨p,h1,_,h2⟩<;>simp at h2
 |head l i=>
  rw[WE fun s h=>?_]
  .rfl
  .rcases eu.1 h with⟨j,h1,h2⟩|⟨p,h1,_,h2⟩<;>simp at h2
 |yl=>
  rw[WE fun s h=>?_]
  .rfl
  .rcases eu.1 h with⟨j,h1,h2⟩|⟨p,h1,_,h2⟩<;>simp at h2
def cL.used{ds:List DV}{k:Ct}{S F:List Nm}(hm:cL E ds k S F):((E.upd (am E F)).canon (aL S k.gs)).used=k.env.used:=by
 have Ut:=hm.goes
 funext s'
 rw[Bool.eq_iff_iff,Ut.usd]
 cases s' with
 |arg i=>
  show _↔decide (i<k.rows.length)=true
  rw[akk,hm.ln]
  constructor
  .rintro⟨s,h⟩
   rcases eu.1 h with⟨j,h1,h2⟩|⟨p,_,_,h2⟩
   .simp only[Nm.arg.injEq]at h2
    subst h2
    exact(ajs.1 h1).1
   .simp at h2
  .intro hi
   exact⟨_,eu.2 (.inl ⟨i,ajq hi,rfl⟩)⟩
 |glob g=>
  show _↔(k.gs.lookup g).isSome=true
  constructor
  .rintro⟨s,h⟩
   rcases eu.1 h with⟨j,h1,h2⟩|⟨p,h1,_,h2⟩
   .simp at h2
   .simp only[Nm.glob.injEq]at h2
    subst h2
    rw[y7 hm.gnd h1]
    rfl
  .intro h
   obtain⟨y,hy⟩:=akb.1 h
   exact⟨_,eu.2 (.inr ⟨_,et hy,rfl,rfl⟩)⟩
 |loc d j=>
  constructor
  .rintro⟨s,h⟩
   rcases eu.1 h with⟨j,h1,h2⟩|⟨p,h1,_,h2⟩<;>simp at h2
  .intro h;simp[Ct.env,Ct.used0]at h
 |head l i=>
  constructor
  .rintro⟨s,h⟩
   rcases eu.1 h with⟨j,h1,h2⟩|⟨p,h1,_,h2⟩<;>simp at h2
  .intro h;simp[Ct.env,Ct.used0]at h
 |yl=>
  constructor
  .rintro⟨s,h⟩
   rcases eu.1 h with⟨j,h1,h2⟩|⟨p,h1,_,h2⟩<;>simp at h2
  .intro h;simp[Ct.env,Ct.used0]at h
def ao(P:Program)(f:FuncId)(ts:List ab)(d:DV):Prop:=ay P f ⟨[],ts.map .t,[],d,[],[]⟩
def uI{ds:List DV}{ts:List ab}{rd:List Nm}{d:DV}{new:List Row}(hv:E.views ds=some (ts,rd)):cL E ds ⟨[],ts.map .t,[],d,[],new⟩ [] rd:=by
 simp only[aa.views,ajt,ajV]at hv
 obtain⟨ps,h1,rfl,rfl⟩:=hv
 obtain⟨h2,h3⟩:=ec h1
 refine⟨List.nodup_nil,by simp,by simp,by simp,by simp,List.nodup_nil,rfl,by simp,by simp,by simp;omega,fun i d d0 hd UU=>?_,fun s hs=>?_⟩
 .simp only[ajw,ajt]at UU
  obtain⟨t,⟨p,hp,rfl⟩,rfl⟩:=UU
  refine .inr ⟨p.1,p.2,p.1,h3 i d p hd hp,.rfl,rfl,fun s hs=>List.mem_flatMap.2 ⟨p,ajx hp,hs⟩⟩
 .obtain⟨p,hp,hs⟩:=List.mem_flatMap.1 hs
  obtain⟨i,hi,rfl⟩:=ajL hp
  have TC:i<ds.length:=by omega
  obtain⟨e,m,l,fz,Tj⟩:=ia (h3 i _ ps[i] (ajq TC) (ajq hi)) s hs
  rw[Tj];rfl
def uJ{f:FuncId}{ds:List DV}{ts:List ab}{rd:List Nm}{d:DV}{dst:Option Nat}(h:ao P f ts d)(hv:E.views ds=some (ts,rd)):bu P E f ds dst ⟨d.ren [],rd++[],am E rd⟩:=
 ⟨_,[],rd,h,uI hv,.inr (.inl ⟨by simp,rfl⟩)⟩
def y8{f:FuncId}{ds:List DV}{ts:List ab}{rd:List Nm}{d:DV}{new:List Row}{dst:Option Nat}(h:ay P f ⟨[],ts.map .t,[],d,[],new⟩)(hv:E.views ds=some (ts,rd))(hn:∀j,j<new.length->E.used (.loc (dst.getD 0) j)=false):
  pi P E f ds dst ⟨d.ren (dt [] (dst.getD 0) new.length),rd++([]++[]),bB [] (dst.getD 0) ⟨[],ts.map .t,[],d,[],new⟩++am E rd⟩:=
 ⟨⟨[],ts.map .t,[],d,[],new⟩,[],rd,h,uI hv,.inr (.inl ⟨hn,rfl⟩)⟩
end
section
open Go.RowKit
variable{P:Program}{C:aD}{c:aA}{Z:Nm->Place}{E:aa}{a:Act}{w:World}
theorem y9{l:List (Nm×Option Row)}{s:Nm}(h:s∈l.map (·.1)):(l.lookup s).isSome=true:=by
 cases hl:l.lookup s with
 |some x=>rfl
 |none=>
  exfalso
  induction l with
  |nil=>simp at h
  |cons p l ih=>
   obtain⟨u,x⟩:=p
   simp only[List.lookup]at hl
   split at hl
   .simp at hl
   .rename_i hb
    simp only[ajQ,akc]at h
    rcases h with h|h
    .rw[h]at hb;simp at hb
    .exact ih h hl
def HN{S:List Nm}{d:Nat}{k:Ct}{s:Nm}{x:Option Row}(h:(s,x)∈bB S d k):(∃i:Nat,S[i]?=some s/\x=((k.rows'[i]?).join).map (Row.ren (dt S d k.new.length)))\/∃(j:Nat) (r:Row),k.new[j]?=some r/\s= .loc d j/\x=some (r.ren (dt S d k.new.length)):=by
 unfold bB at h
 rw[ajG,ajI,ajI]at h
 rcases h with⟨⟨y,i⟩,h1,h2⟩|⟨⟨y,j⟩,h1,h2⟩
 .rw[List.mem_zipIdx_iff_getElem?]at h1
  simp only[ajV]at h2
  obtain⟨rfl,rfl⟩:=h2
  exact .inl ⟨i,h1,rfl⟩
 .rw[List.mem_zipIdx_iff_getElem?]at h1
  simp only[ajV]at h2
  obtain⟨rfl,rfl⟩:=h2
  exact .inr ⟨j,y,h1,rfl,rfl⟩
def HO{S:List Nm}{d:Nat}{k:Ct}{s:Nm}(h:s∈S):s∈(bB S d k).map (·.1):=by
 unfold bB
 rw[aki,ajG,aj8]
 refine .inl ?_
 have:S.zipIdx.map ((fun p:Nm×Option Row=>p.1)∘fun p:Nm×Nat=>(p.1,((k.rows'[p.2]?).join).map (Row.ren (dt S d k.new.length))))=S:=uF S
 rw[this];exact h
def uK{S:List Nm}{d:Nat}{k:Ct}{j:Nat}(h:j<k.new.length):Nm.loc d j∈(bB S d k).map (·.1):=by
 unfold bB
 rw[aki,ajG]
 refine .inr ?_
 rw[aj8,ajI]
 exact⟨(k.new[j],j),List.mem_zipIdx_iff_getElem?.2 (ajq h),rfl⟩
def lf{ds:List DV}{k k':Ct}{S F:List Nm}{d:Nat}{E':aa}(hm:cL E ds k S F)(Wn:∀s∈F,E.used s=true)(ZE:∀j,j<k'.new.length->E.used (.loc d j)=false)(Tj:E'.slots=k'.out):
  Comes (E.upd (am E F)) E' (aL S k.gs) (dt S d k'.new.length) (bB S d k'):=by
 refine⟨?_,?_,?_,?_,?_,?_⟩
 .have:(dt S d k'.new.length).map (·.1)=(S.zipIdx.map fun p=>Nm.arg p.2)++(List.range k'.new.length).map fun j=>Nm.loc 0 j:=by
   unfold dt
   rw[aki,aj8,aj8]
   rfl
  rw[this]
  refine qT (yY S) (ph List.nodup_range fun x _ y _ h=>by simpa using h) fun s hs hg=>?_
  obtain⟨p,_,rfl⟩:=ajI.1 hg
  obtain⟨q,_,h2⟩:=ajI.1 hs
  simp at h2
 .have:(dt S d k'.new.length).map (·.2)=S++(List.range k'.new.length).map fun j=>Nm.loc d j:=by
   unfold dt
   rw[aki,aj8,aj8]
   congr 1
   exact uF S
  rw[this]
  refine qT hm.nd (ph List.nodup_range fun x _ y _ h=>by simpa using h) fun s hs hg=>?_
  obtain⟨j,hj,rfl⟩:=ajI.1 hg
  have:=ZE j (List.mem_range.1 hj)
  rw[hm.su _ hs]at this
  simp at this
 .intro s' s TN
  rcases qS.1 TN with⟨i,h4,rfl⟩|⟨j,h4,rfl,rfl⟩
  .exact .inl ⟨eu.2 (.inl ⟨i,h4,rfl⟩),rfl⟩
  .refine .inr ⟨?_,rfl,y9 (uK h4)⟩
   rw[bJ,fB,ZE j h4]
   split
   .rename_i hs
    have:=Wn _ hs
    rw[ZE j h4]at this
    simp at this
   .rfl
 .intro s x XW
  rcases HN (et XW)with⟨i,h4,rfl⟩|⟨j,r,h4,rfl,rfl⟩
  .refine⟨.arg i,qS.2 (.inl ⟨i,h4,rfl⟩),?_⟩
   rw[Tj]
   rfl
  .refine⟨.loc 0 j,qS.2 (.inr ⟨j,(ajs.1 h4).1,rfl,rfl⟩),?_⟩
   rw[Tj]
   show _=Option.map _ (if(0:Nat)=0 then k'.new[j]? else none)
   rw[if_pos rfl,h4]
   rfl
 .intro s s' r h4 h5 h6
  rcases eu.1 h4 with⟨i,h7,rfl⟩|⟨p,h7,rfl,rfl⟩
  .exact y9 (HO (ajx h7))
  .exfalso
   obtain⟨r0,h8,h9⟩:=eL h5
   rw[hm.gs p h7]at h8
   simp only[ajr]at h8
   subst h8
   rcases h9 with rfl|rfl<;>simp[Row.mut,Row.frozen]at h6
 .intro s' hl
  rcases qS.1 (et hl)with⟨i,_,h2⟩|⟨j,_,h2,_⟩<;>cases h2
def zb{α:Type}:∀{l:List (Nm×α)} {s:Nm},s∈l.map (·.1)->∃r,l.lookup s=some r
 |(a,b)::l,s,h=>by
  by_cases hs:s=a
  .exact⟨b,by subst hs;simp[List.lookup_cons]⟩
  .have h:s∈l.map (·.1):=by
    rcases akc.1 h with h|h
    .exact absurd h hs
    .exact h
   obtain⟨r,hr⟩:=zb h
   exact⟨r,by simp[List.lookup_cons,beq_false_of_ne hs,hr]⟩
def HP{E:aa}{us vs:List (Nm×Option Row)}{L:List Nm}(h:∀s,us.lookup s=vs.lookup s\/(us.lookup s=none/\s∈L/\vs.lookup s=some (E.slots s)/\E.used s=true)):E.upd us=E.upd vs:=by
 unfold aa.upd
 congr 1
 .funext s
  rcases h s with h1|⟨h1,_,h2,_⟩
  .rw[h1]
  .rw[h1,h2]
 .funext s
  rcases h s with h1|⟨h1,_,h2,h3⟩
  .rw[h1]
  .rw[h1,h2,h3]
   simp
def gD:iD P bu:=by
 rintro E f ds dst r ⟨k,S,F,hh,hm,hr⟩
 refine⟨hh.1,fun c Z a w vs h hd hl hv=>?_⟩
 have Wn:∀s∈F,E.used s=true:=fun s hs=>by
  obtain⟨r,hr⟩:=akb.1 (hm.fu s hs)
  exact(h.row s r hr).1
 have h1:ai c Z (E.upd (am E F)) a w:=h.freeze Wn
 have Ut:=hm.goes
 obtain⟨h2,Wb,WI⟩:=h1.toSimW.enter Ut
 have h3:SimW (cS c Z (E.upd (am E F)) w (aL S k.gs)) (bS Z (aL S k.gs)) k.env w:=h2.congr hm.slots hm.used
 rw[hm.slots,hm.used]at Wb
 rw[hm.slots]at WI
 have YV:∀b,ae c Z (E.upd (am E F)).slots b->ae c Z E.slots b:=by
  rintro b (hb|⟨s,r,h4,h5,h6,h7⟩)
  .exact .inl hb
  .obtain⟨r0,h8,h9⟩:=eL h4
   rcases h9 with rfl|rfl
   .exact .inr ⟨s,r,h8,h5,h6,h7⟩
   .rw[dU]at h5;simp at h5
 have hF:∀s∈F,∀r,E.slots s=some r->r.real (Z s)=true->¬ae c Z (E.upd (am E F)).slots (Z s).blk:=by
  rintro s hs r Tj Tz (⟨TZ,Uu⟩|⟨s2,r2,h4,h5,h6,h7⟩)
  .exact((h.row s r Tj).2.2 Tz).2.elim Uu (fun hh=>hh TZ)
  .obtain⟨r0,h8,h9⟩:=eL h4
   rcases h9 with rfl|rfl
   .have:=h.inj s2 s r2 r h8 Tj h5 h6 Tz h7
    subst this
    rw[bM,fB,if_pos hs]at h4
    simp only[ajt]at h4
    obtain⟨y,_,UI⟩:=h4
    rw[<-UI,dU]at h5
    simp at h5
   .rw[dU]at h5;simp at h5
 refine(hh.2 _ _ w vs rfl h3 (hl.trans hm.la) (fun i v d0 UC Un=>?_)).mono fun e w1 he=>?_
 .have TC:i<ds.length:=by
   have:=(ajs.1 Un).1
   rw[hm.la];exact this
  have XH:=ajq TC
  have YH:=hv i v _ UC XH
  rcases hm.ar i _ d0 XH Un with rfl|⟨x,rd,x',h4,TK,rfl,h5⟩
  .refine Wb v _ (YH.mono (ajz _) (fun b _ hb=>⟨rfl,fun TR=>hb (YV b TR)⟩) (fun s hu=>⟨by rw[bJ,hu,Bool.or_true],rfl⟩))
  .refine .t ?_
   refine(h.toSimW.view (fun b hb=>YV b (WI b hb)) YH h4 fun s hs hcap hb=>?_).le TK
   obtain⟨e,m,l,fz,Tj⟩:=ia h4 s hs
   exact hF s (h5 s hs) _ Tj (by simpa[Row.real]using hcap) (WI _ hb)
 .obtain⟨v,rfl,Z1,E',Tj,Tr,ZZ⟩:=he
  refine⟨v,rfl,?_⟩
  rcases hr with⟨rfl,Ub,UA,rfl⟩|⟨ZE,rfl⟩|⟨ZE,ups,rfl,aae⟩
  .refine⟨Z,?_⟩
   have acD:∀b,b<w.heap.size->w1.heap[b]?=w.heap[b]?:=by
    intro b hb
    refine Tr.old b hb ?_
    rintro⟨s,s',r,h4,h5,h6,_⟩
    rcases eu.1 h4 with⟨i,h7,_⟩|⟨p,h7,rfl,_⟩
    .simp at h7
    .obtain⟨r0,h8,h9⟩:=eL h5
     rw[hm.gs p h7]at h8
     simp only[ajr]at h8
     subst h8
     rcases h9 with rfl|rfl<;>simp[Row.mut,Row.frozen]at h6
   have hk:ai c Z (E.upd []) a w1:=h.upd Tr.size Tr.os Tr.tape Tr.output (fun b hb=> .inl (acD b hb)) (fun _ _=>rfl) (by simp) h.inj (fun b _ hb=>hb) (by simp)
   exact hk.put hd (ZZ.flat UA)
  .show∃Z',ai c Z' ((E.upd (bB S (dst.getD 0) k++am E F)).putO dst _) (a.put dst v) w1
   rw[jE]
   exact h1.exit Ut Tr (lf hm Wn ZE Tj) ZZ hd
  .show∃Z',ai c Z' ((E.upd ups).putO dst _) (a.put dst v) w1
   rw[HP aae,jE]
   exact h1.exit Ut Tr (lf hm Wn ZE Tj) ZZ hd
def my{C:aD}(Uh:C.pc=pj):mu P C:=by
 intro E f ds u ups T5
 rw[Uh]at T5
 obtain⟨k,S,F,hh,hm,Ub,rfl⟩:=T5
 refine⟨hh.1,fun c Z a w vs h hl hv=>?_⟩
 have Wn:∀s∈F,E.used s=true:=fun s hs=>by
  obtain⟨r,hr⟩:=akb.1 (hm.fu s hs)
  exact(h.row s r hr).1
 have h1:ai c Z (E.upd (am E F)) a w:=h.freeze Wn
 have Ut:=hm.goes
 obtain⟨h2,Wb,WI⟩:=h1.toSimW.enter Ut
 have h3:SimW (cS c Z (E.upd (am E F)) w (aL S k.gs)) (bS Z (aL S k.gs)) k.env w:=h2.congr hm.slots hm.used
 rw[hm.slots,hm.used]at Wb
 rw[hm.slots]at WI
 have YV:∀b,ae c Z (E.upd (am E F)).slots b->ae c Z E.slots b:=by
  rintro b (hb|⟨s,r,h4,h5,h6,h7⟩)
  .exact .inl hb
  .obtain⟨r0,h8,h9⟩:=eL h4
   rcases h9 with rfl|rfl
   .exact .inr ⟨s,r,h8,h5,h6,h7⟩
   .rw[dU]at h5;simp at h5
 have hF:∀s∈F,∀r,E.slots s=some r->r.real (Z s)=true->¬ae c Z (E.upd (am E F)).slots (Z s).blk:=by
  rintro s hs r Tj Tz (⟨TZ,Uu⟩|⟨s2,r2,h4,h5,h6,h7⟩)
  .exact((h.row s r Tj).2.2 Tz).2.elim Uu (fun hh=>hh TZ)
  .obtain⟨r0,h8,h9⟩:=eL h4
   rcases h9 with rfl|rfl
   .have:=h.inj s2 s r2 r h8 Tj h5 h6 Tz h7
    subst this
    rw[bM,fB,if_pos hs]at h4
    simp only[ajt]at h4
    obtain⟨y,_,UI⟩:=h4
    rw[<-UI,dU]at h5
    simp at h5
   .rw[dU]at h5;simp at h5
 refine(hh.2 _ _ w vs rfl h3 (hl.trans hm.la) (fun i v d0 UC Un=>?_)).mono fun e w1 he=>?_
 .have TC:i<ds.length:=by
   have:=(ajs.1 Un).1
   rw[hm.la];exact this
  have XH:=ajq TC
  have YH:=hv i v _ UC XH
  rcases hm.ar i _ d0 XH Un with rfl|⟨x,rd,x',h4,TK,rfl,h5⟩
  .refine Wb v _ (YH.mono (ajz _) (fun b _ hb=>⟨rfl,fun TR=>hb (YV b TR)⟩) (fun s hu=>⟨by rw[bJ,hu,Bool.or_true],rfl⟩))
  .refine .t ?_
   refine(h.toSimW.view (fun b hb=>YV b (WI b hb)) YH h4 fun s hs hcap hb=>?_).le TK
   obtain⟨e,m,l,fz,Tj⟩:=ia h4 s hs
   exact hF s (h5 s hs) _ Tj (by simpa[Row.real]using hcap) (WI _ hb)
 .obtain⟨rfl,Z1,E',Tj,Tr⟩:=he
  refine⟨rfl,?_⟩
  rw[jE]
  have:=h1.exit Ut Tr (lf (d:=0) hm Wn (by rw[Ub];intro j hj;simp at hj) Tj) (v:=undef) (d:= .junk) .junk (dst:=none) rfl
  exact this
def iI:iH bu:=by
 rintro P E G f ds dst r ⟨k,S,F,hh,hm,hr⟩ hs
 have hS:∀s,s∈F\/s∈S\/s∈k.gn->G.slots s=E.slots s/\G.used s=E.used s:=by
  intro s h
  refine hs s ?_
  rcases hr with⟨rfl,_,_,rfl⟩|⟨_,rfl⟩|⟨_,_,rfl,_⟩
  .simp only[aj4,akr,ajG]
   rcases h with h|h|h
   .exact .inl h
   .simp at h
   .exact .inr h
  .simp only[ajG]
   exact .inl h
  .simp only[ajG]
   exact .inl h
 have hgn:∀p∈k.gs,Nm.glob p.1∈k.gn:=fun p hp=>ajI.2 ⟨p,hp,rfl⟩
 have hm':cL G ds k S F:=by
  refine⟨hm.nd,hm.ng,hm.ny,fun p hp=>?_,fun p hp=>?_,hm.gnd,hm.ln,fun i s hi=>?_,fun s h=>?_,hm.la,fun i d d0 h1 h2=>?_,fun s h=>?_⟩
  .rw[(hS _ (.inr (.inr (hgn p hp)))).1];exact hm.gs p hp
  .rw[(hS _ (.inr (.inr (hgn p hp)))).2];exact hm.gu p hp
  .obtain⟨r,h1,h2⟩:=hm.rw i s hi
   exact⟨r,by rw[(hS _ (.inr (.inl (ajx hi)))).1];exact h1,h2⟩
  .rw[(hS _ (.inr (.inl h))).2];exact hm.su s h
  .rcases hm.ar i d d0 h1 h2 with h3|⟨x,rd,x',h3,TK,h4,h5⟩
   .exact .inl h3
   .exact .inr ⟨x,rd,x',pa h3 (fun s h=>hS s (.inl (h5 s h))),TK,h4,h5⟩
  .rw[(hS _ (.inl h)).1];exact hm.fu s h
 refine⟨k,S,F,hh,hm',?_⟩
 have adj:am G F=am E F:=List.map_congr_left fun s h=>by rw[(hS s (.inl h)).1]
 rcases hr with h|⟨h1,h2⟩|⟨h1,ups,h2,h3⟩
 .exact .inl h
 .refine .inr (.inl ⟨fun j hj=>?_,?_⟩)
  .have:Nm.loc (dst.getD 0) j∈r.ups.map (·.1):=by
    rw[h2]
    simp only[aki,ajG]
    exact .inl (uK hj)
   rw[(hs _ (ajG.2 (.inr this))).2]
   exact h1 j hj
  .rw[h2]
   rw[adj]
 .refine .inr (.inr ⟨fun j hj=>?_,ups,h2,fun s=>?_⟩)
  .have hk:Nm.loc (dst.getD 0) j∈(bB S (dst.getD 0) k++am E F).map (·.1):=by
    simp only[aki,ajG]
    exact .inl (uK hj)
   have:Nm.loc (dst.getD 0) j∈r.ups.map (·.1):=by
    rw[h2]
    rcases h3 (.loc (dst.getD 0) j)with h4|⟨_,_,_,h4⟩
    .obtain⟨x,hx⟩:=zb hk
     rw[hx]at h4
     exact ajI.2 ⟨_,et h4,rfl⟩
    .rw[h1 j hj]at h4;cases h4
   rw[(hs _ (ajG.2 (.inr this))).2]
   exact h1 j hj
  .rw[adj]
   rcases h3 s with h4|⟨h4,h5,h6,h7⟩
   .exact .inl h4
   .have h8:=hS s (by
     rcases ajG.1 h5 with h|h
     .exact .inl h
     .exact .inr (.inl h))
    exact .inr ⟨h4,h5,by rw[h8.1];exact h6,by rw[h8.2];exact h7⟩
end
section
open Go.RowKit
variable{P:Program}{C:aD}{c:aA}{Z:Nm->Place}{E:aa}{a:Act}{w:World}
def SimW.move(h:SimW c Z E w){c':aA}{w':World}(acO:c'.pin=c.pin)(hs:w.heap.size<=w'.heap.size)(h0:c'.w0.heap.size<=w'.heap.size)(X8:w'.os=c'.w0.os)(Uo:w'.tape=c'.w0.tape)(UE:w'.output=c'.w0.output)
  (TP:∀b,b<c'.w0.heap.size->¬c'.X b->w'.heap[b]?=c'.w0.heap[b]?) (VM:∀b,c'.M0 b->b<c'.w0.heap.size)
  (hw:∀b,b<w.heap.size->¬ae c Z E.slots b->w'.heap[b]?=w.heap[b]?/\¬ae c' Z E.slots b)
  (UM:∀s r,E.slots s=some r->r.real (Z s)=true->w'.heap[(Z s).blk]?=w.heap[(Z s).blk]?/\(r.mut=true->c'.X (Z s).blk\/c'.w0.heap.size<=(Z s).blk)/\(c'.X (Z s).blk\/¬c'.M0 (Z s).blk)) (hl:qJ c'):SimW c' Z E w' where
 size:=h0
 os:=X8
 tape:=Uo
 output:=UE
 old:=TP
 m0:=VM
 row s r hr:=⟨(h.row s r hr).1,(h.row s r hr).2.1.mono hs hw (fun _ hu=>⟨hu,rfl⟩) (fun Tz=>(UM s r hr Tz).1),fun Tz=>(UM s r hr Tz).2⟩
 inj:=h.inj
 fix s hf hu:=by rw[acO];exact h.fix s hf hu
 gl:=⟨fun g=>by rw[acO];exact h.gl.1 g,hl⟩
def Own(Z:Nm->Place)(sl:Nm->Option Row)(b:Nat):Prop:=∃s r,sl s=some r/\r.mut=true/\r.real (Z s)=true/\(Z s).blk=b
def cw(w:World)(M X:Nat->Prop)(n:Nat)(pin:Nm->Place):aA:=⟨w,M,X,n,pin,none⟩
def SimW.own_lt(h:SimW c Z E w){b:Nat}(hb:Own Z E.slots b):b<w.heap.size:=by
 obtain⟨s,r,h1,h2,h3,rfl⟩:=hb
 exact(h.row s r h1).2.1.lt h3
def SimW.own_x(h:SimW c Z E w){b:Nat}(hb:Own Z E.slots b):c.X b\/c.w0.heap.size<=b:=by
 obtain⟨s,r,h1,h2,h3,rfl⟩:=hb
 exact((h.row s r h1).2.2 h3).1 h2
structure gh where
 w0:World
 M1:Nat->Prop
 X1:Nat->Prop
 n:Nat
 pin:Nm->Place
 L:Nat
 D:Nat
structure Rest(R:gh)(E:aa)(Z:Nm->Place)(w:World)(M O:Nat->Prop):Prop where
 sim:SimW (cw w M (Own Z E.slots) R.n R.pin) Z E w
 o:∀b,O b↔Own Z E.slots b\/b=R.L
 oM:∀b,O b->M b
 lt:∀b,M b->b<w.heap.size
 size:R.w0.heap.size<=w.heap.size
 os:w.os=R.w0.os
 tape:w.tape=R.w0.tape
 output:w.output=R.w0.output
 old:∀b,b<R.w0.heap.size->¬R.X1 b->w.heap[b]?=R.w0.heap[b]?
 m1:∀b,R.M1 b->¬R.X1 b->M b
 m2:∀b,b<R.w0.heap.size->M b->R.M1 b
 x1:∀b,Own Z E.slots b->R.X1 b\/R.w0.heap.size<=b
 dk:w.heap[R.D]?=some (.deferred (some []))
 dm:¬M R.D
structure pk(R:gh)(w1:World):Prop where
 m1:∀b,R.M1 b->b<R.w0.heap.size
 L:R.w0.heap.size<=R.L
 D:R.w0.heap.size<=R.D
 LD:R.L≠R.D
 sz:R.w0.heap.size<=w1.heap.size
 Dw:R.D<w1.heap.size
 lay:qJ ⟨R.w0,R.M1,R.X1,0,R.pin,some 0⟩
def Rest.frozen{R:gh}{M O:Nat->Prop}(h:Rest R E Z w M O){s:Nm}{r:Row}(hs:E.slots s=some r)(Tz:r.real (Z s)=true):O (Z s).blk\/¬M (Z s).blk:=by
 rcases((h.sim.row s r hs).2.2 Tz).2 with h1|h1
 .exact .inl ((h.o _).2 (.inl h1))
 .exact .inr h1
def Rest.mutM{R:gh}{M O:Nat->Prop}(h:Rest R E Z w M O){b:Nat}:ae (cw w M (Own Z E.slots) R.n R.pin) Z E.slots b↔M b:=by
 constructor
 .rintro(⟨h1,_⟩|h1)
  .exact h1
  .exact h.oM b ((h.o b).2 (.inl h1))
 .intro h1
  by_cases h2:Own Z E.slots b
  .exact .inr h2
  .exact .inl ⟨h1,h2⟩
def Rest.stab{R:gh}{w1:World}(hR:pk R w1){M O:Nat->Prop}(h:Rest R E Z w M O){w2:World}{M2:Nat->Prop}(hm:qU w1 w M O w2 M2):Rest R E Z w2 M2 O where
 sim:=by
  refine h.sim.move rfl hm.size (ajz _) rfl rfl rfl (fun _ _ _=>rfl) hm.lt (fun b hb hM=>?_) (fun s r hs Tz=>?_) (h.sim.lay_to fun b hb hM=>⟨hm.keep b hb (.inr (.inr fun h1=>hM (h.mutM.2 h1))),fun hx=>hM (.inr hx),fun h0=>hM (h.mutM.2 (hm.sub b hb h0))⟩)
  .have hM:¬M b:=fun h1=>hM (h.mutM.2 h1)
   refine⟨hm.keep b hb (.inr (.inr hM)),?_⟩
   rintro(⟨h1,_⟩|h1)
   .exact hM (hm.sub b hb h1)
   .exact hM (h.oM b ((h.o b).2 (.inl h1)))
  .have hlt:=(h.sim.row s r hs).2.1.lt Tz
   refine⟨?_,fun Us=> .inl ⟨s,r,hs,Us,Tz,rfl⟩,?_⟩
   .rcases h.frozen hs Tz with h1|h1
    .exact hm.keep _ hlt (.inr (.inl h1))
    .exact hm.keep _ hlt (.inr (.inr h1))
   .rcases((h.sim.row s r hs).2.2 Tz).2 with h1|h1
    .exact .inl h1
    .exact .inr fun h2=>h1 (hm.sub _ hlt h2)
 o:=h.o
 oM b hb:=hm.own b hb
 lt:=hm.lt
 size:=akf h.size hm.size
 os:=hm.os.trans h.os
 tape:=hm.tape.trans h.tape
 output:=hm.output.trans h.output
 old b hb hx:=(hm.keep b (ajY hb h.size) (.inl (ajY hb hR.sz))).trans (h.old b hb hx)
 m1 b hb hx:=hm.base b (ajY (hR.m1 b hb) hR.sz) (h.m1 b hb hx)
 m2 b hb h1:=h.m2 b hb (hm.sub b (ajY hb h.size) h1)
 x1:=h.x1
 dk:=by rw[hm.keep _ (ajy.1 h.dk).1 (.inr (.inr h.dm))];exact h.dk
 dm h1:=h.dm (hm.sub _ (ajy.1 h.dk).1 h1)
def Rest.lk{R:gh}{w1:World}{M O:Nat->Prop}(h:Rest R E Z w M O){w2:World}{M2:Nat->Prop}(hm:qU w1 w M O w2 M2){o:Obj}(hl:w.heap[R.L]?=some o):w2.heap[R.L]?=some o:=by
 rw[hm.keep _ (ajy.1 hl).1 (.inr (.inl ((h.o _).2 (.inr rfl))))];exact hl
def Rest.put{R:gh}{M O:Nat->Prop}(hL:R.w0.heap.size<=R.L)(hLD:R.L≠R.D)(h:Rest R E Z w M O){o1 o:Loop}(hl:w.heap[R.L]?=some (.loop o1)):Rest R E Z (w.putObj R.L (.loop o)) M O:=by
 have TW:∀s r,E.slots s=some r->r.real (Z s)=true->(Z s).blk≠R.L:=by
  intro s r hs Tz he
  have hB:=(h.sim.row s r hs).2.1
  rw[he.symm]at hl
  cases r with
  |box e d fz=>obtain⟨cs,h1,_⟩:=hB;rw[hl]at h1;cases h1
  |rows e m l fz=>
   simp[Row.real]at Tz
   rcases hB with⟨h1,_⟩|⟨cs,_,h1,_⟩
   .omega
   .rw[hl]at h1;cases h1
  |obj ob fz=>
   cases ob with
   |mp es c=>obtain⟨ents,h1,_⟩:=hB;rw[hl]at h1;cases h1
   |it str p=>have h1:w.heap[(Z s).blk]?=some (.stringIter str p):=hB;rw[hl]at h1;cases h1
   |dfr=>exact hB
 have VJ:∀b,b≠R.L->(w.putObj R.L (.loop o)).heap[b]?=w.heap[b]?:=fun b hb=>World.putObj_heap_other hb
 have afH:∀b,ae (cw (w.putObj R.L (.loop o)) M (Own Z E.slots) R.n R.pin) Z E.slots b↔M b:=fun b=>h.mutM (b:=b)
 refine⟨?_,h.o,h.oM,fun b hb=>by rw[World.putObj_size];exact h.lt b hb,by rw[World.putObj_size];exact h.size,h.os,h.tape,h.output,fun b hb hx=>?_,h.m1,h.m2,h.x1,?_,h.dm⟩
 .refine h.sim.move rfl (by simp) (ajz _) rfl rfl rfl (fun _ _ _=>rfl) (fun b hb=>by show b<(w.putObj R.L _).heap.size;rw[World.putObj_size];exact h.lt b hb) (fun b hb hM=>?_) (fun s r hs Tz=>?_) (h.sim.lay_to fun b hb hM=>⟨VJ b fun e=>hM (h.mutM.2 (e▸h.oM _ ((h.o _).2 (.inr rfl)))),fun hx=>hM (.inr hx),fun h0=>hM (h.mutM.2 h0)⟩)
  .have hM:¬M b:=fun h1=>hM (h.mutM.2 h1)
   exact⟨VJ b fun e=>hM (e▸h.oM _ ((h.o _).2 (.inr rfl))),fun h1=>hM ((afH b).1 h1)⟩
  .refine⟨VJ _ (TW s r hs Tz),fun Us=> .inl ⟨s,r,hs,Us,Tz,rfl⟩,((h.sim.row s r hs).2.2 Tz).2⟩
 .rw[VJ b (by omega)];exact h.old b hb hx
 .rw[VJ _ (Ne.symm hLD)];exact h.dk
def Rest.base{R:gh}{w1:World}(hR:pk R w1){M O:Nat->Prop}(h:Rest R E Z w M O)(n:Nat):SimW ⟨R.w0,R.M1,R.X1,n,R.pin,some 0⟩ Z E w:=by
 refine h.sim.move rfl (ajz _) h.size h.os h.tape h.output h.old hR.m1 (fun b hb hM=>⟨rfl,?_⟩) (fun s r hs Tz=>⟨rfl,fun Us=>h.x1 _ ⟨s,r,hs,Us,Tz,rfl⟩,?_⟩) (fun p hp=>hR.lay p hp)
 .rintro(⟨h1,h2⟩|h1)
  .exact hM (h.mutM.2 (h.m1 b h1 h2))
  .exact hM (.inr h1)
 .rcases((h.sim.row s r hs).2.2 Tz).2 with h1|h1
  .rcases h.x1 _ h1 with h2|h2
   .exact .inl h2
   .exact .inr fun h3=>by have:=hR.m1 _ h3;have:R.w0.heap.size<=(Z s).blk:=h2;omega
  .by_cases h2:R.X1 (Z s).blk
   .exact .inl h2
   .exact .inr fun h3=>h1 (h.m1 _ h3 h2)
end
section
open Go.RowKit
variable{P:Program}{C:aD}{c:aA}{Z:Nm->Place}{E:aa}{a:Act}{w:World}{ops:Array Oper}{j:Nat}
def uL(h:g9 ops j=true):j<=ops.size:=by
 unfold g9 at h
 simp only[ajT]at h
 simpa using h.1.1
def uM(h:g9 ops j=true){i:Nat}{o:Oper}(ho:ops[i]?=some o):∀e∈o.after,Region.binds .any e=true->e.on<i:=by
 intro e he hb
 unfold g9 at h
 simp only[ajT,ajR,List.mem_range]at h
 have hi:=(ajy.1 ho).1
 have h1:=h.1.2 i hi
 rw[ho]at h1
 simp only[ajR]at h1
 have h2:=h1 e (by simpa using he)
 rw[hb]at h2
 simpa using h2
def zd(h:g9 ops j=true){m i:Nat}(hm:m<ops.size)(hj:j<=m)(hi:i<m):i∈(eJ ops.toList []).getD m []:=by
 unfold g9 at h
 simp only[ajT,ajR,List.mem_range]at h
 have h1:=h.2 m hm
 simp only[Bool.or_eq_true,akk,ajR,List.mem_range]at h1
 rcases h1 with h1|h1
 .omega
 .exact List.contains_iff_mem.1 (h1 i hi)
def nL{l:Array Bool}{i:Nat}(hi:i<l.size):l.getD i true=l.getD i false:=by simp[Array.getD,hi]
theorem HQ(h:g9 ops j=true){Tp:Array Bool}(hs:Tp.size=ops.size):∀i,i<ops.size->Tp.getD i true=false->∃k,k<=i/\k∈Region.ready .any ops Tp:=by
 intro i
 induction i using Nat.strongRecOn with
 |_ i ih=>
  intro hi hl
  by_cases Yc:∃k,k<i/\Tp.getD k true=false
  .obtain⟨k,hk,U6⟩:=Yc
   obtain⟨m,hm,hr⟩:=ih k hk (by omega) U6
   exact⟨m,by omega,hr⟩
  .refine⟨i,ajz _,mem_ready.2 ⟨hl,ops[i],aj7 hi,fun e he hb=>?_⟩⟩
   have hlt:=uM h (aj7 hi) e he hb
   rw[<-nL (by omega)]
   cases hq:Tp.getD e.on true with
   |true=>rfl
   |false=>exact absurd ⟨_,hlt,hq⟩ Yc
structure ze(ops:Array Oper)(k:Nat)(l:Array Bool):Prop where
 s:l.size=ops.size
 lo:∀i,i<k->l.getD i true=true
 hi:∀i,k<=i->i<ops.size->l.getD i true=false
 cl:lc ops l
theorem uN{F:Fence}{n:Nat}{Q:Exit->Act->World->Prop}(h:g9 ops j=true):∀(d k:Nat) (l:Array Bool) (fuel:Nat) (a:Act) (w:World),k+d=ops.size->j<=k->d<=fuel->ze ops k l->wpListIn F n P ops Q (ops.toList.drop k) a w->wpAnyIn F n P .any ops Q fuel l a w
 |0,k,l,fuel,a,w,hk,hj,hf,hu,hw=>by
  have Vd:Region.ready .any ops l=[]:=by
   cases hr:Region.ready .any ops l with
   |nil=>rfl
   |cons x xs=>
    obtain⟨h1,o,h2,_⟩:=mem_ready.1 (show x∈Region.ready .any ops l by rw[hr];exact ajK)
    have:=(ajy.1 h2).1
    rw[hu.lo x (by omega)]at h1
    cases h1
  have hd:ops.toList.drop k=[]:=List.drop_eq_nil_of_le (by simp;omega)
  rw[hd]at hw
  have hw:Q .normal a w:=hw
  cases fuel with
  |zero=>exact⟨Vd,hw⟩
  |succ fuel=>exact⟨fun _=>hw,fun i hi=>(by rw[Vd]at hi;cases hi)⟩
 |d+1,k,l,0,a,w,hk,hj,hf,hu,hw=>by omega
 |d+1,k,l,fuel+1,a,w,hk,hj,hf,hu,hw=>by
  have hks:k<ops.size:=by omega
  have hko:=aj7 hks
  have hkr:k∈Region.ready .any ops l:=mem_ready.2 ⟨hu.hi k (ajz _) hks,ops[k],hko,fun e he hb=>by
   have hlt:=uM h hko e he hb
   rw[<-nL (by rw[hu.s];omega)]
   exact hu.lo _ hlt⟩
  have hd:ops.toList.drop k=ops[k]::ops.toList.drop (k+1):=by
   rw[aku (by simpa using hks)]
   simp
  rw[hd]at hw
  refine⟨fun h0=>(by rw[h0]at hkr;cases hkr),fun i hi=>?_⟩
  obtain⟨h1,o,h2,h3⟩:=mem_ready.1 hi
  have his:=(ajy.1 h2).1
  have hik:i=k:=by
   rcases Nat.lt_trichotomy i k with hlt|heq|hgt
   .rw[hu.lo i hlt]at h1;cases h1
   .exact heq
   .have hb:=zd h his (by omega) hgt
    have:=uA hu.cl i o h2 h3 k hb
    rw[<-nL (by rw[hu.s];omega),hu.hi k (ajz _) hks]at this
    cases this
  subst hik
  have hu':ze ops (i+1) (l.setIfInBounds i true):=by
   refine⟨by simp[hu.s],fun m hm=>?_,fun m hm YO=>?_,hu.cl.set hi⟩
   .by_cases hmi:m=i
    .subst hmi
     have:=hu.s
     simp[Array.getD,this,his]
    .rw[getD_set_ne true (Ne.symm hmi)]
     exact hu.lo m (by omega)
   .rw[getD_set_ne true (by omega)]
    exact hu.hi m (by omega) YO
  unfold wpOpIn
  rw[hko]
  simp only[wpListIn]at hw
  by_cases WO:Region.wanted ops[i] (yielded ops a.tmps)=true
  .rw[if_pos WO]at hw
   simp only[WO,if_true]
   exact Oper.wpIn_mono (fun a w hh=>uN h d (i+1) _ fuel a w (by omega) (by omega) (by omega) hu' hh) hw
  .rw[if_neg WO]at hw
   simp only[WO]
   exact⟨hw.1,uN h d (i+1) _ fuel _ w (by omega) (by omega) (by omega) hu' hw.2⟩
def pm(hj:j<=ops.size)(i:Nat):(ops.extract 0 j)[i]?=if i<j then ops[i]? else none:=by
 rw[Array.getElem?_extract]
 simp[Nat.min_eq_left hj]
structure lg(ops:Array Oper)(j:Nat)(l' l:Array Bool):Prop where
 s':l'.size=j
 s:l.size=ops.size
 lo:∀i,i<j->l.getD i true=l'.getD i true
 hi:∀i,j<=i->i<ops.size->l.getD i true=false
 cl:lc ops l
def lg.set{l' l:Array Bool}(h:lg ops j l' l){i:Nat}(hi:i∈Region.ready .any ops l)(XE:i<j):lg ops j (l'.setIfInBounds i true) (l.setIfInBounds i true):=by
 refine⟨by simp[h.s'],by simp[h.s],fun m hm=>?_,fun m hm YO=>?_,h.cl.set hi⟩
 .by_cases hmi:m=i
  .subst hmi
   have his:m<ops.size:=by
    obtain⟨_,o,h2,_⟩:=mem_ready.1 hi
    exact(ajy.1 h2).1
   have h1:=h.s
   have h2:=h.s'
   simp[Array.getD,h1,h2,his,XE]
  .rw[getD_set_ne true (Ne.symm hmi),getD_set_ne true (Ne.symm hmi)]
   exact h.lo m hm
 .rw[getD_set_ne true (by omega)]
  exact h.hi m hm YO
def lg.ready{l' l:Array Bool}(ht:g9 ops j=true)(h:lg ops j l' l){i:Nat}(XE:i<j):i∈Region.ready .any ops l↔i∈Region.ready .any (ops.extract 0 j) l':=by
 have hj:=uL ht
 rw[mem_ready,mem_ready,pm hj,if_pos XE,h.lo i XE]
 refine and_congr_right fun _=>exists_congr fun o=>and_congr_right fun ho=>forall_congr' fun e=>forall_congr' fun he=>forall_congr' fun hb=>?_
 have hlt:=uM ht ho e he hb
 rw[<-nL (by rw[h.s];omega),<-nL (l:=l') (by rw[h.s'];omega),h.lo _ (by omega)]
theorem HR{Rl:aA->aa->Prop}(hR:gc Rl c.n)(hC:iD P C){rd:Option Nat}{sl:List aT}{G:Nat->Rc}{K:aa->Prop}{Q:Exit->Act->World->Prop}(ht:g9 ops j=true)(Tj:(ops.extract 0 j).toList.mapM (fM P c.n (ops.extract 0 j))=some sl)(Vk:∀i,iG (G i))
  (hK:∀E Z a w,Rl c E->K E->ai c Z E a w->wpListIn (FW rd) 0 P ops Q (ops.toList.drop j) a w):
  ∀(fuel:Nat) (l' l:Array Bool) (E:aa) (Z:Nm->Place) (a:Act) (w:World),Rl c E->jI P C (ops.extract 0 j) sl G K fuel l' E->ai c Z E a w->lg ops j l' l->wpAnyIn (FW rd) 0 P .any ops Q (fuel+(ops.size-j)) l a w:=by
 have hj:=uL ht
 have hend:∀(fuel:Nat) (l' l:Array Bool) (E:aa) (Z:Nm->Place) (a:Act) (w:World),Rl c E->Region.ready .any (ops.extract 0 j) l'=[]->K E->ai c Z E a w->lg ops j l' l->wpAnyIn (FW rd) 0 P .any ops Q (fuel+(ops.size-j)) l a w:=by
  intro fuel l' l E Z a w TG h0 hk hs Vp
  refine uN ht (ops.size-j) j l _ a w (by omega) (ajz _) (by omega) ⟨Vp.s,fun i hi=>?_,Vp.hi,Vp.cl⟩ (hK E Z a w TG hk hs)
  cases hq:l.getD i true with
  |true=>rfl
  |false=>
   obtain⟨k,ZC,hk2⟩:=HQ ht Vp.s i (by omega) hq
   have:=(Vp.ready ht (i:=k) (by omega)).1 hk2
   rw[h0]at this
   cases this
 intro fuel
 induction fuel with
 |zero=>intro l' l E Z a w TG h hs Vp;exact hend 0 l' l E Z a w TG h.1 h.2 hs Vp
 |succ fuel ih=>
  intro l' l E Z a w TG h hs Vp
  by_cases h0:Region.ready .any (ops.extract 0 j) l'=[]
  .exact hend (fuel+1) l' l E Z a w TG h0 (h.1 h0) hs Vp
  .obtain⟨x,hx⟩:∃x,x∈Region.ready .any (ops.extract 0 j) l':=by
    cases hq:Region.ready .any (ops.extract 0 j) l' with
    |nil=>exact absurd hq h0
    |cons x xs=>exact⟨x,ajK⟩
   have hxj:x<j:=by
    obtain⟨_,o,h2,_⟩:=mem_ready.1 hx
    rw[pm hj]at h2
    split at h2
    .assumption
    .cases h2
   have hxr:=(Vp.ready ht hxj).2 hx
   have hxu:l.getD x true=false:=(mem_ready.1 hxr).1
   rw[show fuel+1+(ops.size-j)=(fuel+(ops.size-j))+1 by omega]
   refine⟨fun hn=>(by rw[hn]at hxr;cases hxr),fun i hi=>?_⟩
   obtain⟨h1,o,h2,h3⟩:=mem_ready.1 hi
   have his:=(ajy.1 h2).1
   have XE:i<j:=by
    rcases Nat.lt_or_ge i j with hlt|hge
    .exact hlt
    .exfalso
     have hb:=zd ht his hge (show x<i by omega)
     have:=uA Vp.cl i o h2 h3 x hb
     rw[<-nL (by rw[Vp.s];omega),hxu]at this
     cases this
   have TU:=(Vp.ready ht XE).1 hi
   obtain⟨so,g1,g2,g3⟩:=h.2 i TU
   obtain⟨Tk,Ty⟩:=ec Tj
   have ho':(ops.extract 0 j)[i]?=some o:=by rw[pm hj,if_pos XE];exact h2
   have hc:=Ty i o so (by rw[Array.getElem?_toList];exact ho') g1
   obtain⟨_,Vn,hd,hgd⟩:=mt hc
   have abz:Rl c (ap so.dst (G i) E):=hR.put _ _ _ _ (hR.upd _ _ _ TG) (by rw[Vn];exact hd)
   have WP:=yV (rd:=rd) (Q:=Q) (K:=wpAnyIn (FW rd) 0 P .any ops Q (fuel+(ops.size-j)) (l.setIfInBounds i true)) hC hs hc g2 (Vk i) fun a' w' ⟨Z',TO⟩=>ih _ _ _ Z' a' w' abz g3 TO (Vp.set hi XE)
   unfold wpOpIn
   rw[h2]
   have hy:Region.wanted o (yielded (ops.extract 0 j) a.tmps)=Region.wanted o (yielded ops a.tmps):=by
    unfold Region.wanted
    cases hg:o.guard with
    |none=>rfl
    |some p=>
     obtain⟨k,Ts⟩:=p
     have hkj:k<j:=by
      rcases hgd with⟨q1,_⟩|⟨j',t,b,q1,q2,_⟩
      .rw[hg]at q1;cases q1
      .rw[hg]at q1
       cases q1
       rw[pm hj]at q2
       split at q2
       .assumption
       .simp at q2
     simp only[yielded,pm hj,if_pos hkj]
   rw[hy]at WP
   exact WP
def HT(hj:j<=ops.size):lg ops j (Array.replicate j false) (Array.replicate ops.size false):=by
 refine⟨by simp,by simp,fun i hi=>?_,fun i hi his=>?_,fun m o _ hl=>by rw[yW]at hl;cases hl⟩
 .simp[Array.getD,hi,show i<ops.size by omega]
 .simp[Array.getD,his]
def HU{Rl:aA->aa->Prop}(hR:gc Rl c.n)(TG:Rl c E){rd:Option Nat}(hC:iD P C)(hL:iH C)(hm:P.follows .mixedOrders=true){id:Nat}(ht:g9 ops j=true)(hB:Region.lexB .any (ops.extract 0 j)=true){sl:List aT}(Tj:(ops.extract 0 j).toList.mapM (fM P c.n (ops.extract 0 j))=some sl){K:aa->Prop}{Q:Exit->Act->World->Prop}
  (hK:∀E Z a w,Rl c E->K E->ai c Z E a w->wpListIn (FW rd) 0 P ops Q (ops.toList.drop j) a w) (h:ai c Z E a w) (hw:cv P C ((1000000,1000000)::kU (ops.extract 0 j) (sl.map fun o=>o.op.mem)) 0 [] sl E K):(Code.region id ops true).wpIn (FW rd) 0 P Q a w:=by
 have hj:=uL ht
 obtain⟨G,Vk,hG⟩:=yX hL hB Tj hw
 have hsz:(ops.extract 0 j).size=j:=by simp[Nat.min_eq_left hj]
 rw[hsz]at hG
 refine wpIn_region_any hm ?_
 have:=HR hR hC ht Tj Vk hK j _ _ E Z a _ TG hG h.drew (HT hj)
 rwa[show j+(ops.size-j)=ops.size by omega]at this
def HV(h:tT ops=some j):g9 ops j=true/\Region.lexB .any (ops.extract 0 j)=true:=by
 unfold tT at h
 have:=List.find?_some h
 simp only[ajT]at this
 exact this.2
end
end Go.Wt
