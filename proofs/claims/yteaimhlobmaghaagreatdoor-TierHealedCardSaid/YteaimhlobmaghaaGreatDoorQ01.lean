/- TierHealed holds: behind healing each piece is there, and its object is; healed again nothing changes. No condition beside the row's own (what start-up laid). -/
import Derived.Lib.AtoiTie
import Derived.Sort.Walk0
import Derived.Test.YteaimhlobmaghaaGreatDoorCards
import Derived.Test.YteaimhlobmaghaaGreatDoorP25
import Derived.Test.YteaimhlobmaghaaGreatDoorProg
import Derived.Test.YteaimhlobmaghaaGreatDoorTie
set_option linter.all false
set_option maxRecDepth 10000000
set_option maxHeartbeats 0
namespace Go.Wt
section
open Go.RowKit Go.Proofs Go.Wq
def a8:ac:=(s (R 79 [M 15,F 12 2,l 80,H 81,B .lss 3 79 82] (V 83 k (x 0))) (s (D (s (Z 87 [L 3 13,M 2,F 12 2,l 89,M 15,A 90 91 6,F 92 0,l 93,Y 30 [88,94],Y 29 [87,95],e 86 (M 96),E 86 0,E 86 1,E 86 2,e 16 (T 31 (.agg [.e0,(z 0),.e0])),S 3 16 97,e 17 (M 98),e 18 (M 99)] [0,3,0,5,0,7,0,8,0,14,3,14,5,14,7,14,8,14,9,14]) (R 100 [F 12 2,l 100,M 15,A 101 102 6,F 103 5,l 104,N .neq 3 105 2,M 106,j 107 (M 18),j 107 (N .neq 37 108 0),P 107 109] (V 110 (R 8 [v fa] r) k)))) (O 84 [M 15,N .add 3 84 1,e 15 (M 85)])))
def hGq:ac:=(R 4 [X 24 0,X 31 1,e 8 (v fa)] (R 23 [Y 9 [],e 9 (M 23)] (s (R 24 [M 9,U 24] (V 25 (R 8 [v fa] r) k)) (s (R 26 [L 3 4,I (.build [(z 0),(z 0),.e0] []),L 3 5,I (.build [(z 0),.e0] []),M 2,Y 10 [26,27,28,29,30],U 31,M 32,j 33 (M 3),j 33 (N .lss 3 34 0),P 33 35,M 36,j 37 (M 3),j 37 (N .gtr 3 38 12),P 37 39,M 40,j 41 (F 5 1),j 41 (l 42),j 41 (N .gtr 3 43 1000),P 41 44] (V 45 (R 46 [M 9,e 8 (M 46)] r) k)) (R 48 [L 3 4,L 3 5,M 2,M 3,Y 26 [48,49,50,51],e 47 (M 52),E 47 0,E 47 1,e 10 (T 27 (.agg [(z 0),(z 0),.e0])),e 11 (T 31 (.agg [.e0,(z 0),.e0])),S 3 10 53,S 3 11 54] (R 56 [L 3 10,L 3 11,M 2,Y 22 [56,57,58],e 55 (M 59),E 55 0,E 55 1,E 55 2,e 12 (T 27 (.agg [(z 0),(z 0),.e0])),e 13 (T 31 (.agg [.e0,(z 0),.e0])),S 3 12 60,S 3 13 61,e 14 (M 62)] (s (R 63 [M 14,N .neq 37 63 0] (V 64 (R 65 [M 9,M 65,J 66 (M 14),J 66 (N .eql 37 67 140),J 66 (M 68),j 69 (M 14),j 69 (N .eql 37 70 1),J 66 (P 69 71),J 66 (M 72),j 73 (M 14),j 73 (N .eql 37 74 2),J 66 (P 73 75),Q 66 76,e 8 (M 77)] r) k)) (R 78 [F 13 2,.xx ⟨none,.store 1 (t 78) n,none⟩] (s (R 15 [C 0] (K a8)) (R 112 [L 3 12,L 3 13,M 2,Y 22 [112,113,114],e 111 (M 115),E 111 0,E 111 1,E 111 2,e 19 (T 27 (.agg [(z 0),(z 0),.e0])),e 20 (T 31 (.agg [.e0,(z 0),.e0])),S 3 19 116,S 3 20 117,e 21 (M 118)] (R 119 [L 3 12,L 3 19,Y 15 [119,120],M 121,J 122 (F 13 0),J 122 (l 123),J 122 (F 20 0),J 122 (l 125),J 122 (Y 31 [124,126]),Q 122 127,e 22 (M 128)] (R 129 [M 9,M 129,J 130 (M 21),J 130 (N .eql 37 131 0),Q 130 132,M 133,J 134 (M 22),Q 134 135,M 136,J 137 (L 3 12),J 137 (Y 32 [138]),J 137 (N .eql 37 139 0),Q 137 140,e 8 (M 141)] r))))))))))))
def hHq:=xo 7 ⟨hGq,142,[.tmp 8]⟩ Tryz.func7 (by kernel_rfl)
def b0:ac:=(s (R 27 [M 5,F 2 2,l 28,H 29,B .lss 3 27 30] (V 31 k (x 0))) (s (D (s (Z 34 [F 2 2,l 34,M 5,A 35 36 6,L 6 37,F 3 2,l 39,M 5,A 40 41 6,L 6 42,B .neq 58 38 43] [1,6,3,6,4,6,1,8,3,8,4,8,1,9,3,9,4,9]) (V 44 (R 4 [v fa] r) k))) (O 32 [M 5,N .add 3 32 1,e 5 (M 33)])))
def ca:ac:=(R 2 [X 27 0,X 27 1,v fa] (s (R 6 [F 2 0,l 6,F 3 0,l 8,B .neq 3 7 9,M 10,j 11 (F 2 1),j 11 (l 12),j 11 (F 3 1),j 11 (l 14),j 11 (B .neq 3 13 15),P 11 16,M 17,j 18 (F 2 2),j 18 (l 19),j 18 (H 20),j 18 (F 3 2),j 18 (l 22),j 18 (H 23),j 18 (B .neq 3 21 24),P 18 25] (V 26 (R 4 [v fa] r) k)) (s (R 5 [C 0] (K b0)) (R 4 [v tr] r))))
def ee:=xo 15 ⟨ca,45,[.tmp 4]⟩ Tryz.func15 (by kernel_rfl)
def cb:ac:=(s (R 11 [M 5,M 0,H 12,B .lss 3 11 13] (V 14 k (x 0))) (s (D (s (Z 17 [M 0,M 5,A 17 18 2,F 19 0,l 20,M 1,M 5,A 22 23 2,F 24 0,l 25,B .neq 9 21 26,M 27,j 28 (M 0),j 28 (M 5),j 28 (A 29 30 2),j 28 (F 31 1),j 28 (l 32),j 28 (I (.b2s (t 33))),j 28 (M 1),j 28 (M 5),j 28 (A 35 36 2),j 28 (F 37 1),j 28 (l 38),j 28 (I (.b2s (t 39))),j 28 (B .neq 9 34 40),P 28 41] [2,7,4,7,2,9,4,9,14,20,16,20,17,20,14,22,16,22,17,22,14,23,16,23,17,23]) (V 42 (R 4 [v fa] r) k))) (O 15 [M 5,N .add 3 15 1,e 5 (M 16)])))
def cc:ac:=(R 4 [v fa] (s (R 6 [M 0,H 6,M 1,H 8,B .neq 3 7 9] (V 10 (R 4 [v fa] r) k)) (s (R 5 [C 0] (K cb)) (R 4 [v tr] r))))
def ep:=xo 31 ⟨cc,43,[.tmp 4]⟩ Tryz.func31 (by kernel_rfl)
end
section
open Go.RowKit Go.Proofs Go.Lib Go.Wm
abbrev hIq(o:oBj):List UInt8:=o.name.data.toList
def aP:∀x y:List UInt8,(compareBytes x y<0↔x<y)/\(compareBytes x y=0↔x=y)
 |[],[]=>by simp[compareBytes]
 |[],_::_=>by simp[compareBytes]
 |_::_,[]=>by simp[compareBytes]
 |a::x,b::y=>by
  have ih:=aP x y
  simp only[compareBytes,List.cons_lt_cons_iff,List.cons.injEq]
  by_cases h1:a<b
  .have h2:a≠b:=fun h=>UInt8.lt_irrefl b (h▸h1)
   simp[h1,h2]
  .by_cases h3:b<a
   .have h2:a≠b:=fun h=>UInt8.lt_irrefl b (h▸h3)
    simp[h1,h2,h3]
   .have h2:a=b:=UInt8.le_antisymm (UInt8.not_lt.1 h3) (UInt8.not_lt.1 h1)
    subst h2
    simp[h1,ih]
def a9{a b:ByteArray}(h:a.data.toList=b.data.toList):a=b:=ByteArray.ext (akh h)
def ce:∀x y:List UInt8,x<y\/x=y\/y<x
 |[],[]=> .inr (.inl rfl)
 |[],_::_=> .inl (List.nil_lt_cons _ _)
 |_::_,[]=> .inr (.inr (List.nil_lt_cons _ _))
 |a::x,b::y=>by
  simp only[List.cons_lt_cons_iff,List.cons.injEq]
  by_cases h1:a<b
  .exact .inl (.inl h1)
  .by_cases h3:b<a
   .exact .inr (.inr (.inl h3))
   .have h2:a=b:=UInt8.le_antisymm (UInt8.not_lt.1 h3) (UInt8.not_lt.1 h1)
    subst h2
    rcases ce x y with h|h|h<;>simp[h]
def ch{a b:ByteArray}(h:xb a b=false):b.data.toList<a.data.toList:=by
 unfold xb at h
 rw[toList_data,toList_data,Go.Proofs.bytesLess_eq]at h
 simp only[Bool.or_eq_false_iff,decide_eq_false_iff_not,beq_eq_false_iff_ne]at h
 exact((ce _ _).resolve_left h.1).resolve_left h.2
def er{a b:ByteArray}(h:b.data.toList<a.data.toList):xb a b=false:=by
 unfold xb
 rw[toList_data,toList_data,Go.Proofs.bytesLess_eq]
 simp only[Bool.or_eq_false_iff,decide_eq_false_iff_not,beq_eq_false_iff_ne]
 exact⟨fun h2=>List.lt_irrefl _ (List.lt_trans h h2),fun h2=>List.lt_irrefl _ (h2▸h)⟩
def aR(l:List oBj):Prop:=(l.map hIq).Pairwise (· < ·)
def ad(l:List oBj)(s:ByteArray):Prop:=∃o∈l,o.name=s
def bb(l:List oBj):Prop:=aR l/\∀o∈l,dX o.name=true/\o.bytes.length<=8192
def ci(l:List oBj):(List.range l.length).all (io l)=true↔bb l:=by
 rw[ajR]
 constructor
 .intro h
  have key:∀i (hi:i<l.length),dX l[i].name=true/\xb l[i].name (oz l i)=false/\l[i].bytes.length<=8192:=by
   intro i hi
   have:=h i (List.mem_range.2 hi)
   unfold io at this
   rw[ajq hi]at this
   simpa using this
  refine⟨List.pairwise_iff_getElem.2 ?_,fun o ho=>?_⟩
  .intro i j hi hj XE
   rw[ajJ]at hi hj
   have:∀d i j (hi:i<l.length) (hj:j<l.length),j=i+d+1->hIq l[i]<hIq l[j]:=by
    intro d
    induction d with
    |zero=>
     intro i j hi hj e
     have h1:=ch (key j hj).2.1
     have h2:oz l j=l[i].name:=by
      unfold oz
      rw[if_neg (by omega)]
      simp[show j-1=i by omega,hi]
     rw[h2]at h1
     exact h1
    |succ d ih=>
     intro i j hi hj e
     have h1:=ih i (j-1) hi (by omega) (by omega)
     have h2:=ch (key j hj).2.1
     have h3:oz l j=(l[j-1]'(by omega)).name:=by
      unfold oz
      rw[if_neg (by omega)]
      simp[show j-1<l.length by omega]
     rw[h3]at h2
     exact List.lt_trans h1 h2
   simpa using this (j-i-1) i j hi hj (by omega)
  .obtain⟨i,hi,rfl⟩:=ajL ho
   exact⟨(key i hi).1,(key i hi).2.2⟩
 .rintro⟨h1,h2⟩ i hi
  have hi:=List.mem_range.1 hi
  unfold io
  rw[ajq hi]
  have h3:=h2 _ (akA hi)
  have h4:xb l[i].name (oz l i)=false:=by
   refine er ?_
   unfold oz
   by_cases h0:i=0
   .rw[if_pos h0]
    have hs:1<=l[i].name.size:=by
     have:=h3.1
     unfold dX at this
     simp only[ajT,akk]at this
     exact this.1.1
    have hl:l[i].name.data.toList.length=l[i].name.size:=Array.length_toList
    cases hc:l[i].name.data.toList with
    |nil=>rw[hc]at hl;simp at hl;omega
    |cons a t=>exact List.nil_lt_cons _ _
   .rw[if_neg h0]
    have:=List.pairwise_iff_getElem.1 h1 (i-1) i (by simp;omega) (by simpa using hi) (by omega)
    simpa[show i-1<l.length by omega]using this
  simp[h3.1,h4,h3.2]
def asq{s:aw}(h:bP s=0):bb s.objs/\s.objs.length<=1024/\s.faults.length<=1024/\0<=s.calls/\s.calls<1099511627776/\s.faults.any kI=false:=by
 unfold bP at h
 repeat' split at h
 all_goals try(exact absurd h (by decide))
 rename_i h1 h2 h3 h4 h5 h6
 exact⟨(ci _).1 (by simpa using h6),by omega,by omega,by omega,by omega,by simpa using h5⟩
def ev{s:aw}(h1:bb s.objs)(h2:s.objs.length<=1024)(h3:s.faults.length<=1024)(h4:0<=s.calls)(h5:s.calls<1099511627776)(h6:s.faults.any kI=false):bP s=0:=by
 have:=(ci s.objs).2 h1
 unfold bP
 rw[if_neg (by omega),if_neg (by omega),if_neg (by omega),if_neg (by omega),if_neg (by simp[h6]),if_neg (by simp[this])]
def bd{l:List oBj}{s:ByteArray}(hs:aR l):∀(k i j:Nat),i<=j->j<=l.length->j-i<k->(∀a (h:a<l.length),a<i->hIq l[a]<s.data.toList)->(∀a (h:a<l.length),j<=a->¬hIq l[a]<s.data.toList)->
  (∀a (h:a<l.length),a<kK l s k i j->hIq l[a]<s.data.toList)/\∀a (h:a<l.length),kK l s k i j<=a->¬hIq l[a]<s.data.toList
 |0,i,j,_,_,h,_,_=>by omega
 |k+1,i,j,XE,hj,hk,h1,h2=>by
  rw[kK]
  by_cases h:i<j
  .rw[if_pos h]
   have hm:(i+j)/2<l.length:=by omega
   have hx:(l.map (·.name)).getD ((i+j)/2) es=l[(i+j)/2].name:=by simp[hm]
   rw[hx]
   have hc:=(aP (hIq l[(i+j)/2]) s.data.toList).1
   have hp:=List.pairwise_iff_getElem.1 hs
   by_cases hr:j6 l[(i+j)/2].name s<0
   .rw[if_pos hr]
    refine bd hs k _ j (by omega) hj (by omega) (fun a ha hlt=>?_) h2
    by_cases e:a=(i+j)/2
    .subst e;exact hc.1 hr
    .have:=hp a ((i+j)/2) (by simpa using ha) (by simpa using hm) (by omega)
     exact List.lt_trans (by simpa using this) (hc.1 hr)
   .rw[if_neg hr]
    refine bd hs k i _ (by omega) (by omega) (by omega) h1 (fun a ha TK hlt=>?_)
    by_cases e:a=(i+j)/2
    .subst e;exact hr (hc.2 hlt)
    .have:=hp ((i+j)/2) a (by simpa using hm) (by simpa using ha) (by omega)
     exact hr (hc.2 (List.lt_trans (by simpa using this) hlt))
  .rw[if_neg h]
   exact⟨h1,fun a ha TK=>h2 a ha (by omega)⟩
def bs{l:List oBj}{s:ByteArray}(h:dq l s=true):∃o,l[cA l s]?=some o/\o.name=s:=by
 unfold dq at h
 split at h
 .rename_i o ho
  exact⟨o,ho,a9 ((aP _ _).2.1 (ajC h))⟩
 .cases h
def cl{l:List oBj}{s:ByteArray}(hs:aR l)(h:ad l s):dq l s=true:=by
 obtain⟨o,ho,rfl⟩:=h
 obtain⟨i,hi,rfl⟩:=ajL ho
 obtain⟨h1,h2⟩:=bd (s:=l[i].name) hs (l.length+1) 0 l.length (by omega) (by omega) (by omega) (fun a _ h=>by omega) (fun a _ h=>by omega)
 have TK:cA l l[i].name<=i:=by
  rcases Nat.lt_or_ge i (cA l l[i].name)with h|h
  .exact absurd (h1 i hi h) (List.lt_irrefl _)
  .exact h
 have hge:¬cA l l[i].name<i:=by
  intro h
  have h3:=List.pairwise_iff_getElem.1 hs (cA l l[i].name) i (by simp;omega) (by simpa using hi) h
  exact h2 (cA l l[i].name) (by omega) (ajz _) (by simpa using h3)
 unfold dq
 rw[show cA l l[i].name=i by omega,ajq hi]
 simp only[akk]
 exact(aP _ _).2.2 rfl
def bv{l:List oBj}{n x:ByteArray}{b:Bs}(h:ad l x\/x=n):ad (xf l n b) x:=by
 unfold xf
 split
 .rename_i hf
  obtain⟨o,h1,h2⟩:=bs hf
  have hlt:=(ajs.1 h1).1
  have hn:∀y,y=n->ad (l.set (cA l n) ⟨n,b⟩) y:=fun y e=>⟨⟨n,b⟩,List.mem_set hlt _,e.symm⟩
  rcases h with⟨p,hp,rfl⟩|rfl
  .obtain⟨i,hi,rfl⟩:=ajL hp
   by_cases e:i=cA l n
   .subst e
    rw[ajq hlt]at h1
    cases h1
    exact hn _ h2
   .refine⟨l[i],?_,rfl⟩
    have:(l.set (cA l n) ⟨n,b⟩)[i]?=some l[i]:=by rw[List.getElem?_set_ne (fun h=>e h.symm)];exact ajq hi
    exact ajx this
  .exact hn _ rfl
 .unfold cW
  rcases h with⟨p,hp,rfl⟩|rfl
  .refine⟨p,?_,rfl⟩
   rw[<-List.take_append_drop (cA l n) l]at hp
   simp only[ajG]at hp⊢
   rcases hp with hp|hp
   .exact .inl (.inl hp)
   .exact .inr hp
  .exact⟨⟨x,b⟩,by simp,rfl⟩
def ex(l:List oBj)(i:Nat):(gT l i).Sublist l:=by
 have h:=(List.Sublist.refl (l.take i)).append (List.drop_sublist_drop_left l (Nat.le_succ i))
 rw[List.take_append_drop]at h
 exact h
def ey{l:List oBj}{n x:ByteArray}(hf:dq l n=true)(hx:x≠n)(h:ad l x):ad (gT l (cA l n)) x:=by
 obtain⟨o,h1,h2⟩:=bs hf
 obtain⟨p,hp,rfl⟩:=h
 obtain⟨i,hi,rfl⟩:=ajL hp
 refine⟨l[i],?_,rfl⟩
 unfold gT
 rw[ajG]
 rcases Nat.lt_trichotomy i (cA l n)with h|h|h
 .exact .inl (List.mem_take_iff_getElem.2 ⟨i,by omega,rfl⟩)
 .rw[<-h,ajq hi]at h1
  cases h1
  exact absurd h2 hx
 .exact .inr (List.mem_drop_iff_getElem.2 ⟨i-(cA l n+1),by omega,by simp[show cA l n+1+(i-(cA l n+1))=i by omega]⟩)
def eG{l:List oBj}{n:ByteArray}(hs:aR l)(hf:dq l n=true):¬ad (gT l (cA l n)) n:=by
 obtain⟨o,h1,h2⟩:=bs hf
 obtain⟨hlt,h3⟩:=ajs.1 h1
 have hp:=List.pairwise_iff_getElem.1 hs
 rintro⟨p,hp2,h4⟩
 unfold gT at hp2
 rw[ajG]at hp2
 have hk:hIq l[cA l n]=n.data.toList:=by rw[h3];show o.name.data.toList=_;rw[h2]
 rcases hp2 with h|h
 .obtain⟨i,hi,rfl⟩:=List.mem_take_iff_getElem.1 h
  have:=hp i (cA l n) (by simp;omega) (by simpa using hlt) (by omega)
  simp only[List.getElem_map,hk]at this
  rw[show hIq l[i]=n.data.toList by show(l[i]).name.data.toList=_;rw[h4]]at this
  exact List.lt_irrefl _ this
 .obtain⟨i,hi,rfl⟩:=List.mem_drop_iff_getElem.1 h
  have:=hp (cA l n) (cA l n+1+i) (by simpa using hlt) (by simp;omega) (by omega)
  simp only[List.getElem_map,hk]at this
  rw[show hIq l[cA l n+1+i]=n.data.toList by show(l[cA l n+1+i]).name.data.toList=_;rw[h4]]at this
  exact List.lt_irrefl _ this
section
variable{P:Program}{c:aA}{Z:Nm->Place}{E:aa}{a:Act}{w:World}{o:Oper}{D:List Deferred}
end
section
variable{P:Program}
end
def e4(x:List UInt8):bl (m5 x)=x:=by simp[bl,m5]
def e6{zs:List (List UInt8)}:∀{j:Nat},j<zs.length->(zs.toArray)[j]! ∈Lib.compact zs:=by
 intro j
 induction j using Nat.strongRecOn with
 |_ j ih=>
  intro hj
  by_cases hk:keeps zs.toArray j=true
  .exact ajI.2 ⟨j,List.mem_filter.2 ⟨List.mem_range.2 hj,hk⟩,rfl⟩
  .unfold keeps at hk
   simp only[akk]at hk
   have h0:j≠0:=fun h=>hk (.inl h)
   have h1:(zs.toArray)[j]! =(zs.toArray)[j-1]! :=Classical.not_not.1 fun h=>hk (.inr h)
   rw[h1]
   exact ih (j-1) (by omega) (by omega)
def bz(l:List ByteArray)(x:ByteArray):x∈jp (gR l)↔x∈l:=by
 have hs:∀y,y∈(gR l).map bl↔y∈l.map bl:=by
  intro y
  have:(gR l).map bl=(l.map bl).mergeSort fun x y=>decide (x<=y):=by simp[gR,aky,e4]
  rw[this,List.mem_mergeSort]
 have hc:∀(zs:List (List UInt8)) y,y∈Lib.compact zs↔y∈zs:=by
  intro zs y
  constructor
  .intro h
   obtain⟨j,hj,rfl⟩:=ajI.1 h
   have hj:=List.mem_range.1 (List.mem_filter.1 hj).1
   simp[hj]
  .intro h
   obtain⟨j,hj,rfl⟩:=ajL h
   have:=e6 hj
   simpa[hj]using this
 unfold jp
 rw[ajI]
 constructor
 .rintro⟨y,hy,rfl⟩
  obtain⟨z,hz,rfl⟩:=ajI.1 ((hs y).1 ((hc _ y).1 hy))
  rw[Ni]
  exact hz
 .intro h
  exact⟨bl x,(hc _ _).2 ((hs _).2 (ajI.2 ⟨x,h,rfl⟩)),Ni x⟩
theorem e7(l m:List UInt8):∀TV,decFrom TV (l++m)=(decFrom TV l).bind fun n=>decFrom n m:=by
 induction l with
 |nil=>intro TV;rfl
 |cons b l ih=>
  intro TV
  simp only[List.cons_append,decFrom]
  cases digitVal b with
  |none=>rfl
  |some d=>exact ih _
def cn(i:Nat)(h:i<10):digitVal (UInt8.ofNat (48+i))=some i:=by
 have:(UInt8.ofNat (48+i)).toNat=48+i:=by rw[UInt8.toNat_ofNat'];omega
 unfold digitVal
 rw[this,if_pos (by omega)]
 congr 1;omega
def cp(u:Nat):decFrom 0 (decDigits u)=some u:=by
 induction u using Nat.strongRecOn with
 |_ u ih=>
  by_cases h:u<10
  .rw[decDigits,dif_pos h]
   simp only[decFrom,cn u h,Nat.zero_mul,ajX]
  .rw[decDigits,dif_neg h,e7,ih (u/10) (by omega)]
   simp only[ake,decFrom,cn (u%10) (by omega)]
   congr 1;omega
def e8{a b:Int}(ha:0<=a)(hb:0<=b)(h:oA a=oA b):a=b:=by
 have h1:Lib.itoa a=Lib.itoa b:=by
  have:=congrArg (fun x:ByteArray=>x.data.toList) h
  simpa[oA]using this
 obtain⟨a,rfl⟩:=akp ha
 obtain⟨b,rfl⟩:=akp hb
 rw[itoa_nonneg,itoa_nonneg]at h1
 have:=cp a
 rw[h1,cp b]at this
 cases this
 rfl
def fd{p a b:ByteArray}(h:p++a=p++b):a=b:=by
 have:=congrArg (fun x:ByteArray=>x.data.toList) h
 simp only[ByteArray.data_append,Array.toList_append,List.append_cancel_left_eq]at this
 exact a9 this
def fi{p:ByteArray}{a b:Int}(ha:0<=a)(hb:0<=b)(h:dF p a=dF p b):a=b:=e8 ha hb (fd h)
def fk{next last en:Int}{op:Bool}{l:List Pc}(h:gP next last en op l=true):∀p∈l,last<p.id/\p.id<next:=by
 induction l generalizing last en op with
 |nil=>simp
 |cons q l ih=>
  have hq:last<q.id/\q.id<next/\∃en' op',gP next q.id en' op' l=true:=by
   unfold gP at h
   repeat' split at h
   all_goals first|(exact absurd h (by decide))|exact⟨by omega,by omega,_,_,h⟩
  intro p hp
  rcases akc.1 hp with rfl|hp
  .exact⟨hq.1,hq.2.1⟩
  .obtain⟨e,o,h⟩:=hq.2.2
   have:=ih h p hp
   exact⟨by omega,this.2⟩
def cr{m:Mn}(h:bH m=0):∀p∈m.l,0<=p.id/\p.id<m.next:=by
 unfold bH at h
 repeat' split at h
 all_goals try(exact absurd h (by decide))
 rename_i h1 h2 h3 h4
 intro p hp
 have:=fk (l:=m.l) (last:= -1) (by simpa using h3) p hp
 exact⟨by omega,this.2⟩
def fl{l:List Pc}{n:ByteArray}{p:Pc}(hp:p∈l)(h0:0<=p.id):fq l n (dF n p.id)=false:=by
 unfold fq
 split
 .rfl
 split
 .rfl
 split
 .rfl
 split
 .rfl
 rename_i h1 h2 h3 h4
 have h5:0<=jo (gQ (dF n p.id) (b6 n)):=by
  have:=h3
  simp only[dO,Bool.or_eq_true,akk,not_or]at this
  omega
 have h6:dF n (jo (gQ (dF n p.id) (b6 n)))=dF n p.id:=by
  rw[toList_data,toList_data]at h4
  exact a9 (by simpa using h4)
 have h7:=fi h5 h0 h6
 rw[h7]
 simp only[Bool.not_eq_false',List.any_eq_true]
 exact⟨p,hp,by simp[eT]⟩
def ct{f:Int}(h:fH f=0):f≠1/\f≠2/\f≠3:=by
 unfold fH at h
 repeat' split at h
 all_goals first|(exact absurd h (by decide))|exact⟨by assumption,by assumption,by assumption⟩
def cN(f:Int):fH f=0\/fH f=140:=by
 unfold fH
 repeat' split
 all_goals simp
def cT{s:aw}{b:Bool}:fU s b=0->bP s=0/\b=true:=by
 unfold fU
 split
 .intro h;contradiction
 split
 .intro h;exact absurd h (by decide)
 .rename_i h1 h2
  intro _
  exact⟨Classical.not_not.1 h1,by simpa using h2⟩
def c8(s:aw):bP s=0\/bP s=1\/bP s=2:=by
 unfold bP
 repeat' split
 all_goals simp
def aI(s:aw)(b:Bool):fU s b=0\/fU s b=1\/fU s b=2:=by
 unfold fU
 have:=c8 s
 repeat' split
 all_goals simp_all
def fo(l:List Int):dx l=0\/dx l∈l:=by
 unfold dx
 split
 .exact .inl rfl
 .cases h:l[(bf iR l).toNat]? with
  |none=>exact .inl rfl
  |some x=>exact .inr (ajx h)
def fr(n:ByteArray):ft n=0\/ft n=1:=by unfold ft;split<;>simp
def fs(m:Mn):bH m=0\/bH m=1\/bH m=2:=by
 unfold bH
 repeat' split
 all_goals simp
def c9{m:Mn}{s:aw}{n:ByteArray}(h:dx [ft n,bH m,bP s]≠0):dx [ft n,bH m,bP s]=1\/dx [ft n,bH m,bP s]=2:=by
 have h1:=(fo [ft n,bH m,bP s]).resolve_left h
 have h2:=fr n
 have h3:=fs m
 have h4:=c8 s
 simp only[akc,List.not_mem_nil,or_false]at h1
 generalize dx [ft n,bH m,bP s]=c at*
 omega
def dc{s:aw}{n:ByteArray}(h:(eE s n).2=0\/(eE s n).2=140):bP s=0/\(eE s n).1.calls=s.calls+1/\(eE s n).1.faults=s.faults/\(eE s n).1.objs.Sublist s.objs/\
  (∀x,x≠n->ad s.objs x->ad (eE s n).1.objs x)/\((eE s n).2=0->¬ad (eE s n).1.objs n):=by
 unfold eE at h⊢
 by_cases hm:fU s (dX n)=0
 .rw[if_neg (by simp[hm])]at h⊢
  have hs:=(cT hm).1
  have hsr:=(asq hs).1.1
  refine⟨hs,rfl,rfl,?_,?_,?_⟩
  .simp only
   split
   .exact ex _ _
   .exact List.Sublist.refl _
  .intro x hx hi
   simp only
   split
   .rename_i h1;exact ey h1.1 hx hi
   .exact hi
  .intro he
   have hd:=ct he
   simp only
   by_cases hf:dq s.objs n=true
   .rw[if_pos ⟨hf,hd.1,hd.2.2⟩]
    exact eG hsr hf
   .rw[if_neg (fun h=>hf h.1)]
    exact fun h=>hf (cl hsr h)
 .rw[if_pos hm]at h
  rcases aI s (dX n)with h1|h1|h1<;>rw[h1]at h hm<;>simp at h hm
def fu{l l':List oBj}(h:l.Sublist l'){x:ByteArray}(hx:ad l x):ad l' x:=by
 obtain⟨o,h1,h2⟩:=hx
 exact⟨o,h.subset h1,h2⟩
def df:∀(l:List ByteArray) (s:aw),((js l s).2=0\/(js l s).2=140)->(js l s).1.objs.Sublist s.objs/\(js l s).1.faults=s.faults/\s.calls<=(js l s).1.calls/\(js l s).1.calls<=s.calls+l.length/\
  (∀x,x∉l->ad s.objs x->ad (js l s).1.objs x)/\((js l s).2=0->∀x∈l,¬ad (js l s).1.objs x)
 |[],s,_=>⟨List.Sublist.refl _,rfl,Int.le_refl _,by simp[js],fun x _ h=>h,fun _ x h=>by simp at h⟩
 |y::l,s,h=>by
  rw[FO]at h⊢
  by_cases h0:(eE s y).2=0
  .rw[if_neg (by simp[h0])]at h⊢
   obtain⟨a1,a2,a3,a4,a5,a6⟩:=dc (.inl h0)
   obtain⟨b1,b2,b3,b4,b5,b6⟩:=df l (eE s y).1 h
   refine⟨b1.trans a4,b2.trans a3,by omega,by rw[akx];omega,fun x hx hi=>?_,fun he x hx=>?_⟩
   .rw[akc,not_or]at hx
    exact b5 x hx.2 (a5 x hx.1 hi)
   .rcases akc.1 hx with rfl|hx
    .exact fun hi=>a6 h0 (fu b1 hi)
    .exact b6 he x hx
  .rw[if_pos (by simpa using h0)]at h⊢
   obtain⟨a1,a2,a3,a4,a5,a6⟩:=dc h
   refine⟨a4,a3,by omega,by rw[akx];omega,fun x hx hi=>?_,fun he=>absurd he h0⟩
   rw[akc,not_or]at hx
   exact a5 x hx.1 hi
def ag(n:ByteArray)(m:Mn)(s:aw):Prop:=∀p∈m.l,p.state=2->ad s.objs (dF n p.id)
def fz(s:aw):(dz s).objs=s.objs/\(dz s).faults=s.faults/\(dz s).calls=s.calls+1:=⟨rfl,rfl,rfl⟩
def dj{s:aw}{p:ByteArray}(h:(dP s p).2.2=0\/(dP s p).2.2=140):(dP s p).1=dz s/\bP s=0/\((dP s p).2.2=0->(dP s p).2.1=fp s.objs p):=by
 unfold dP at h⊢
 by_cases hm:fU s (decide (p.size<=64))=0
 .rw[if_neg (by simp[hm])]at h⊢
  refine⟨rfl,(cT hm).1,fun he=>?_⟩
  have he:fH (cV s)=0:=he
  simp[he]
 .rw[if_pos hm]at h
  rcases aI s (decide (p.size<=64))with h1|h1|h1<;>rw[h1]at h hm<;>simp at h hm
def f0(l:List oBj)(p:ByteArray):(fp l p).length<=l.length:=by
 unfold fp
 rw[ajJ]
 exact aks _ _
def f5(m:Mn)(n:ByteArray)(N:List ByteArray):(ir m n N).2.length<=N.length:=by
 unfold ir
 split
 .simp
 .have h1:=PY (gR (N.filter (fq (gp m.l) n)))
  have h2:(gR (N.filter (fq (gp m.l) n))).length=(N.filter (fq (gp m.l) n)).length:=by simp[gR]
  have h3:=aks (fq (gp m.l) n) N
  simp only;omega
def dk{l:List Pc}{p:Pc}(h:p∈gp l):p∈l/\p.state=2:=by
 have:=List.mem_filter.1 h
 exact⟨this.1,by simpa[m4,fR]using this.2⟩
structure dm(n:ByteArray)(m:Mn)(s:aw)(x:Mn)(u:aw)(e:Int):Prop where
 me:bH m=0
 se:bP s=0
 pe:sP n=true
 th:ag n m s->ag n x u
 c0:s.calls<=u.calls
 c1:u.calls<=s.calls+1025
 done:e=0->x=⟨if(gp m.l).length<m.l.length then(if 1099511627776<m.ver+1 then 1099511627776 else m.ver+1)else m.ver,m.next,gp m.l⟩/\u.objs.Sublist s.objs/\u.faults=s.faults/\∀o∈u.objs,fq (gp m.l) n o.name=false
theorem du{m:Mn}{s:aw}{n:ByteArray}(h:(gX m s n).2.2=0\/(gX m s n).2.2=140):dm n m s (gX m s n).1 (gX m s n).2.1 (gX m s n).2.2:=by
 unfold gX at h⊢
 by_cases hc:dx [ft n,bH m,bP s]=0
 .rw[if_neg (by simp[hc])]at h⊢
  have hp:sP n=true:=by
   have:=xq hc (ft n) (by simp)
   unfold ft at this
   split at this
   .assumption
   .exact absurd this (by decide)
  have hm:=xq hc (bH m) (by simp)
  have hs:=xq hc (bP s) (by simp)
  obtain⟨Uf,hl,_⟩:=asq hs
  by_cases hk:fT (dH m s n).2.2=true
  .rw[if_pos hk]at h⊢
   unfold dH at h⊢
   by_cases h0:(dP s (b6 n)).2.2=0
   .rw[if_neg (by simp[h0])]at h⊢
    obtain⟨l1,_,l2⟩:=dj (.inl h0)
    have l2:=l2 h0
    rw[l1,l2]at h⊢
    simp only at h⊢
    obtain⟨d1,d2,d3,d4,d5,d6⟩:=df _ _ h
    have dl:=f5 m n (fp s.objs (b6 n))
    have nl:=f0 s.objs (b6 n)
    have hh:ir m n (fp s.objs (b6 n))=(⟨if(gp m.l).length<m.l.length then(if 1099511627776<m.ver+1 then 1099511627776 else m.ver+1)else m.ver,m.next,gp m.l⟩,jp (gR ((fp s.objs (b6 n)).filter (fq (gp m.l) n)))):=by
     unfold ir
     rw[if_neg (by simp[hm])]
    rw[(fz s).2.2]at d3 d4
    refine⟨hm,hs,hp,fun ht p Vj _=>?_,by omega,by omega,fun he=>⟨by rw[hh],d1,d2,fun o ho=>?_⟩⟩
    .rw[hh]at Vj
     have hpo:=dk Vj
     refine d5 _ (fun TE=>?_) (ht p hpo.1 hpo.2)
     rw[hh]at TE
     have:=(List.mem_filter.1 ((bz _ _).1 TE)).2
     rw[fl Vj (cr hm p hpo.1).1]at this
     cases this
    .cases hg:fq (gp m.l) n o.name with
     |false=>rfl
     |true=>
      exfalso
      refine d6 he o.name ?_ ⟨o,ho,rfl⟩
      rw[hh]
      refine(bz _ _).2 (List.mem_filter.2 ⟨?_,hg⟩)
      refine ajI.2 ⟨o,List.mem_filter.2 ⟨d1.subset ho,?_⟩,rfl⟩
      unfold fq at hg
      split at hg
      .cases hg
      .simpa using(by assumption:¬lV o.name (b6 n)=false)
   .rw[if_pos (by simpa using h0)]at h⊢
    obtain⟨l1,_,_⟩:=dj h
    rw[l1]
    exact⟨hm,hs,hp,fun ht=>ht,by show s.calls<=s.calls+1;omega,by show s.calls+1<=s.calls+1025;omega,fun he=>absurd he h0⟩
  .rw[if_neg hk]at h
   exfalso
   apply hk
   rcases h with h|h<;>(simp only at h;rw[h];rfl)
 .rw[if_pos (by simpa using hc)]at h
  exfalso
  simp only at h
  rcases c9 hc with h1|h1<;>rw[h1]at h<;>simp at h
def dT{s:aw}{n:ByteArray}{b:Bs}(h:(iX s n b).2=0\/(iX s n b).2=140):(iX s n b).1.calls=s.calls+1/\(∀x,ad s.objs x->ad (iX s n b).1.objs x)/\((iX s n b).2=0->ad (iX s n b).1.objs n):=by
 unfold iX at h⊢
 by_cases hm:fU s (dX n)=0
 .rw[if_neg (by simp[hm])]at h⊢
  split at h
  .simp at h
  rename_i h1
  rw[if_neg h1]
  split at h
  .simp at h
  rename_i h2
  rw[if_neg h2]
  refine⟨rfl,fun x hx=>?_,fun he=>?_⟩
  .simp only
   unfold ka
   split
   .exact hx
   .split
    .exact bv (.inl hx)
    .exact bv (.inl hx)
  .have hd:=ct he
   simp only
   unfold ka
   rw[if_neg hd.1,if_neg hd.2.2]
   exact bv (.inr rfl)
 .rw[if_pos hm]at h
  rcases aI s (dX n)with h1|h1|h1<;>rw[h1]at h hm<;>simp at h hm
def ar(n:ByteArray)(s:aw):ag n ej s:=fun p hp=>by simp[ej]at hp
def f6{n:ByteArray}{m:Mn}{s:aw}{id:Int}(h:ag n m s)(hi:ad s.objs (dF n id)):ag n (gq m id).1 s:=by
 unfold gq
 split
 .exact ar n s
 split
 .exact ar n s
 rename_i h1 h2
 split
 .rename_i q hq
  split
  .exact ar n s
  split
  .exact ar n s
  .intro p hp hs
   rcases List.mem_or_eq_of_mem_set hp with hp|rfl
   .exact h p hp hs
   .rcases pM (eT id) m.l with h3|⟨i,h3,_,h4,_⟩
    .rw[h3.1]at h2;exact absurd (by decide) h2
    .rw[h3]at hq
     have:=h4 q (by simpa using hq)
     simp only[eT,akk]at this
     show ad s.objs (dF n q.id)
     rw[this]
     exact hi
 .exact ar n s
def f8{n:ByteArray}{m:Mn}{s:aw}(w:Pc)(h:ag n m s):ag n (cI m w).1 s:=by
 unfold cI j8
 split
 .intro p hp hs
  rcases ajG.1 hp with hp|hp
  .exact h p hp hs
  .rw[List.mem_singleton]at hp
   subst hp
   exact absurd hs (by simp)
 .exact ar n s
def af(n:ByteArray)(c:Int)(p:Mn×aw):Prop:=ag n p.1 p.2/\p.2.calls<=c
def f9{L:Lg}{m:Mn}{s:aw}{n:ByteArray}{c:Int}(p:bL×Int)(h:af n c (m,s))(he:(oD m s n p).2.2=0\/(oD m s n p).2.2=140):af n (c+1) ((oD m s n p).1,(oD m s n p).2.1):=by
 have hc:s.calls<=c:=h.2
 unfold oD at he⊢
 split at he
 .rename_i h1
  rw[if_pos h1]
  exact⟨h.1,by show s.calls<=c+1;omega⟩
 rename_i h1
 rw[if_neg h1]
 have hb:=f8 (dy p.1 p.2) h.1
 generalize cI m (dy p.1 p.2)=B at*
 split at he
 .rename_i h2
  rw[if_pos h2]
  obtain⟨a1,a2,a3⟩:=dT he
  exact⟨fun q hq hs=>a2 _ (hb q hq hs),by show(iX s (dF n B.2.1) (eB p.1.bytes)).1.calls<=_;omega⟩
 .rename_i h2
  rw[if_neg h2]
  have h2:=Classical.not_not.1 h2
  obtain⟨a1,a2,a3⟩:=dT (.inl h2)
  exact⟨f6 (fun q hq hs=>a2 _ (hb q hq hs)) (a3 h2),by show(iX s (dF n B.2.1) (eB p.1.bytes)).1.calls<=_;omega⟩
def gd{L:Lg}{m:Mn}{s:aw}{n:ByteArray}{c:Int}(Ws:0<=c)(h:af n c (m,s))(he:(fI L m s n).2.2=0\/(fI L m s n).2.2=140):af n (c+1) ((fI L m s n).1,(fI L m s n).2.1):=by
 have hz:∀e:Int,af n (c+1) ((ej,fG,e).1,(ej,fG,e).2.1):=fun e=>⟨ar n fG,by show(0:Int)<=c+1;omega⟩
 unfold fI at he⊢
 split at he
 .rename_i h1
  rw[if_pos h1]
  exact hz _
 rename_i h1
 rw[if_neg h1]
 split at he
 .rename_i h2
  rw[if_pos h2]
  unfold cm at he⊢
  split at he
  .rename_i h3
   simp only at he
   rcases he with he|he<;>exact absurd he (by decide)
  .rename_i p h3
   exact f9 (L:=L) p h he
 .rename_i h2
  rw[if_neg h2]
  exact hz _
def gg{L:Lg}{n:ByteArray}{c:Int}{p:Mn×aw}(Ws:0<=c)(h:af n c p):af n (c+1026) (l8 L n p):=by
 have h1:af n (c+1) (iZ L n p):=by
  unfold iZ oJ
  split
  .rename_i he
   exact gd Ws h he
  .exact⟨h.1,by have:=h.2;omega⟩
 unfold l8
 split
 .unfold oK oJ
  split
  .rename_i he
   have:=du he
   exact⟨this.th h1.1,by have:=this.c1;have:=h1.2;simp only;omega⟩
  .exact⟨h1.1,by have:=h1.2;omega⟩
 .exact⟨h1.1,by have:=h1.2;omega⟩
def ea(L:Lg)(n:ByteArray):∀(k:Nat) (c:Int) (p:Mn×aw),0<=c->af n c p->af n (c+1026*k) (ju L n k p)
 |0,c,p,_,h=>by simpa[ju]using h
 |k+1,c,p,hc,h=>by
  have:=ea L n k (c+1026) (l8 L n p) (by omega) (gg hc h)
  rw[show c+1026*((k+1:Nat):Int)=c+1026+1026*(k:Int) by omega]
  exact this
def ed(L:Lg)(n:ByteArray):∀(k:Nat) (p:Mn×aw),p.1.l.length<=300->(ju L n k p).1.l.length<=300
 |0,_,h=>h
 |k+1,p,h=>ed L n k _ (F1 L n p h)
theorem a7{next:Int}:∀{l:List Pc} {last en:Int} {op:Bool} (last' en':Int),gP next last en op l=true->last'<=last->en'<=en->gP next last' en' true (gp l)=true
 |[],_,_,_,_,_,_,_,_=>rfl
 |p::l,last,en,op,last',en',h,h1,h2=>by
  unfold gP at h
  split at h
  .cases h
  split at h
  .cases h
  split at h
  .cases h
  split at h
  .cases h
  split at h
  .cases h
  split at h
  .cases h
  rename_i g1 g2 g3 g4 g5 g6
  have aaE:p.state≠2->gp (p::l)=gp l:=fun hs=>by simp[gp,m4,fR,hs]
  have htake:p.state=2->gp (p::l)=p::gp l:=fun hs=>by simp[gp,m4,fR,hs]
  split at h
  .rename_i s1
   split at h
   .cases h
   split at h
   .cases h
   rw[aaE (by omega)]
   exact a7 last' en' h (by omega) (by omega)
  split at h
  .rename_i s1 s2
   split at h
   .cases h
   split at h
   .cases h
   rw[htake s2]
   unfold gP
   rw[if_neg (by omega),if_neg g2,if_neg g3,if_neg g4,if_neg g5,if_neg g6,if_neg s1,if_pos s2,if_neg (by omega),if_neg (by simp)]
   exact a7 p.id p.fin h (Int.le_refl _) (Int.le_refl _)
  split at h
  .rename_i s1 s2 s3
   rw[aaE s2]
   exact a7 last' en' h (by omega) h2
  .cases h
def gl{m:Mn}(h:bH m=0):bH ⟨if(gp m.l).length<m.l.length then(if 1099511627776<m.ver+1 then 1099511627776 else m.ver+1)else m.ver,m.next,gp m.l⟩=0:=by
 unfold bH at h
 repeat' split at h
 all_goals try(exact absurd h (by decide))
 rename_i h1 h2 h3 h4
 have hl:(gp m.l).length<=m.l.length:=aks _ _
 have hv:∀v:Int,dO v=false↔0<=v/\v<=1099511627776:=by intro v;simp[dO]
 have h1:=(hv _).1 (by simpa using h1)
 unfold bH
 have hb:∀v:Int,0<=v/\v<=1099511627776->¬dO v=true:=fun v h=>by rw[Bool.not_eq_true];exact(hv v).2 h
 rw[if_neg (hb _ (by simp only;split<;>(try split)<;>omega)),if_neg h2,if_neg (by simp[a7 (-1) 0 (by simpa using h3) (Int.le_refl _) (Int.le_refl _)]),if_neg (by simp only;omega)]
def gn(m:Mn)(s:aw)(n:ByteArray):(gX m s n).2.2=0\/(gX m s n).2.2=140\/(gX m s n).2.2=1\/(gX m s n).2.2=2:=by
 have hd:∀(s:aw) (x:ByteArray),(eE s x).2=0\/(eE s x).2=140\/(eE s x).2=1\/(eE s x).2=2:=by
  intro s x
  unfold eE
  split
  .rcases aI s (dX x)with h|h|h<;>simp[h]
  .rcases cN (cV s)with h|h<;>simp[h]
 have Uv:∀(l:List ByteArray) (s:aw),(js l s).2=0\/(js l s).2=140\/(js l s).2=1\/(js l s).2=2:=by
  intro l
  induction l with
  |nil=>intro s;exact .inl rfl
  |cons x l ih=>
   intro s
   rw[FO]
   split
   .exact hd s x
   .exact ih _
 have hw:(dH m s n).2.2=0\/(dH m s n).2.2=140\/(dH m s n).2.2=1\/(dH m s n).2.2=2:=by
  unfold dH
  split
  .unfold dP
   split
   .show fU s _=0\/fU s _=140\/fU s _=1\/fU s _=2
    rcases aI s (decide ((b6 n).size<=64))with h|h|h<;>rw[h]<;>decide
   .rcases cN (cV s)with h|h<;>simp[h]
  .exact Uv _ _
 unfold gX
 split
 .rename_i h
  rcases c9 h with h|h<;>simp[h]
 split
 .exact hw
 .exact hw
def go(l:List Pc):gp (gp l)=gp l:=by simp[gp,List.filter_filter]
def gu{m:Mn}{s:aw}{n:ByteArray}{x:Mn}{u:aw}(h:dm n m s x u 0)(hc:s.calls<=1000000)(ht:ag n m s):
  bH x=0/\(∀p∈x.l,p.state=2/\0<=p.id/\p.id<=1099511627776/\(kL ⟨u.objs,u.calls,[]⟩ (dF n p.id)).2.2=0)/\gX x ⟨u.objs,u.calls,[]⟩ n=(x,⟨u.objs,u.calls+1,[]⟩,0):=by
 obtain⟨hx,Xv,hf,hg⟩:=h.done rfl
 obtain⟨⟨hsr,hob⟩,hl,UA,Ws,Vg,hod⟩:=asq h.se
 have hcu0:=h.c0
 have hcu1:=h.c1
 have YK:bP ⟨u.objs,u.calls,[]⟩=0:=by
  refine ev ⟨?_,fun o ho=>hob o (Xv.subset ho)⟩ (akf Xv.length_le hl) (by simp) (by show 0<=u.calls;omega) (by show u.calls<_;omega) rfl
  exact List.Pairwise.sublist (Xv.map hIq) hsr
 have hsu:=(asq YK).1
 have hff:cV ⟨u.objs,u.calls,[]⟩=0:=by simp[cV,bf]
 have VR:x.l=gp m.l:=by rw[hx]
 have hm:bH x=0:=by rw[hx];exact gl h.me
 refine⟨hm,fun p hp=>?_,?_⟩
 .have hs:p.state=2:=by rw[VR]at hp;exact(dk hp).2
  have hid:=cr hm p hp
  have Zv:x.next<=1099511627776:=by
   have:=hm
   unfold bH at this
   repeat' split at this
   all_goals try(exact absurd this (by decide))
   rename_i h1 h2 h3 h4
   simp only[dO,Bool.or_eq_true,akk,not_or]at h2
   omega
  have TE:=h.th ht p hp hs
  have Yu:dX (dF n p.id)=true:=by
   obtain⟨o,h1,h2⟩:=TE
   rw[<-h2]
   exact(hsu.2 o h1).1
  refine⟨hs,hid.1,by omega,?_⟩
  unfold kL
  rw[if_neg (by simp[fU,YK,Yu]),hff,if_neg (by decide),if_neg (by decide),if_neg (by simp[cl hsu.1 TE])]
 .have abb:(b6 n).size<=64:=by
   have:=h.pe
   unfold sP at this
   simp only[ajT,akk]at this
   have hd:(b6 n).size=n.size+1:=by simp[b6,ByteArray.size_append];rfl
   omega
  have hli:dP ⟨u.objs,u.calls,[]⟩ (b6 n)=(⟨u.objs,u.calls+1,[]⟩,fp u.objs (b6 n),0):=by
   have hmz:fU ⟨u.objs,u.calls,[]⟩ (decide ((b6 n).size<=64))=0:=by rw[decide_eq_true abb];simp[fU,YK]
   unfold dP
   rw[hmz,if_neg (by decide),hff]
   rfl
  have hoo:gp x.l=x.l:=by rw[VR,go]
  have XG:(fp u.objs (b6 n)).filter (fq (gp x.l) n)=[]:=by
   rw[List.filter_eq_nil_iff]
   intro y hy
   obtain⟨o,ho,rfl⟩:=ajI.1 hy
   rw[hoo,VR,hg o (List.mem_filter.1 ho).1]
   simp
  have hhe:ir x n (fp u.objs (b6 n))=(x,[]):=by
   unfold ir
   rw[if_neg (by simp[hm]),XG,hoo,if_neg (by omega)]
   have hz:jp (gR [])=[]:=by
    rw[List.eq_nil_iff_forall_not_mem]
    intro y hy
    have:=(bz [] y).1 hy
    simp at this
   rw[hz]
  have hpf:ft n=0:=by unfold ft;rw[if_pos h.pe]
  have Yd:dx [ft n,bH x,bP ⟨u.objs,u.calls,[]⟩]=0:=by rw[hpf,hm,YK];rfl
  have hw:dH x ⟨u.objs,u.calls,[]⟩ n=(x,⟨u.objs,u.calls+1,[]⟩,0):=by
   unfold dH
   rw[hli]
   simp only[hhe,js]
   simp
  unfold gX
  rw[if_neg (by simp[Yd]),hw]
  rfl
def gv(x y:Operand)(p:Pc):aX Tryz.prog .neq 58 x y (.t (aW p)) (.t (aW p))=val (tt false):=by
 have hq:Tryz.prog.eqGuardType Tryz.prog.depth 58=false:=by kernel_rfl
 have h:aX Tryz.prog .neq 58 x y (.t (aW p)) (.t (aW p))=bU (aQ Tryz.prog (do eqGuard .neq 58 x y (.agg (ox p)) (.agg (ox p));binOp .neq 58 (.agg (ox p)) (.agg (ox p)))):=rfl
 have he:ow p p=true:=by simp[ow]
 rw[h,eY]
 have hg:aQ Tryz.prog (eqGuard .neq 58 x y (.agg (ox p)) (.agg (ox p)))=some ():=by
  simp only[eqGuard,Bool.not_true,Bool.false_eq_true,if_false]
  rw[eY,sL]
  simp only[ake]
  rw[eY,sL]
  simp only[ake,hq]
  rfl
 have hb:aQ Tryz.prog (binOp .neq 58 (.agg (ox p)) (.agg (ox p)))=some (.bool false):=by
  have e:binOp .neq 58 (.agg (ox p)) (.agg (ox p))=(do pure (.bool (!(<-Op.equal 58 (.agg (ox p)) (.agg (ox p)))))):=rfl
  rw[e,eY,Mo,he]
  rfl
 rw[hg,ake,hb]
 rfl
def g0(m:Mn)(hn:m.l.length<=1000000):aji 15 [bh m,bh m] (tt true):=by
 refine pu ee rfl ?_
 simp[ca]
 repeat'(first|simp[*]|apply aj)
 refine ba (fun E=>∃i:Nat,i<=m.l.length/\E.tmps 5= .t (int i)/\E.tmps 2= .ptr (.head 1 0) 0 0/\E.tmps 3= .ptr (.head 1 1) 0 0/\E.slots (.head 1 0)=some (bp m)/\E.slots (.head 1 1)=some (bp m)) (fun E=>match E.tmps 5 with| .t (.v (.int _ i))=>m.l.length-i.toNat|_=>0) [(.loc 2 0,.head 1 0),(.loc 3 0,.head 1 1)] rfl ?_ ?_
 .refine⟨0,by omega,?_,?_,?_,?_,?_⟩<;>simp
 rintro E1 ⟨i,hi,e5,e2,e3,s0,s1⟩ hU hS A hA
 simp[*,b0,s0,s1]
 repeat'(first|simp[*,s0,s1]|(apply aN<;>intro h))
 .have hx:=ajq h
  obtain⟨x,Tm⟩:∃x,m.l[i]=x:=⟨_,rfl⟩
  rw[Tm]at hx
  have c1:=fun a b=>gv a b x
  have hw:IntKind.i64.wrap ((i:Int)+1)=((i+1:Nat):Int):=by rw[bx (by omega) (by omega)];omega
  repeat' simp[*,s0,s1,h,c1]
  refine hA _ (aH [(.head 1 0,.head 1 0),(.head 1 1,.head 1 1)] rfl rfl ⟨i+1,by omega,?_,?_,?_,?_,?_⟩ ?_)
  all_goals simp[*,s0,s1]
  all_goals omega
 .skip
  all_goals exact au rfl
def g7(l:List oBj)(hn:l.length<=1000000):aji 31 [.sl 2 (l.map a0),.sl 2 (l.map a0)] (tt true):=by
 refine pu ep rfl ?_
 simp[cc]
 skip
 refine ba (fun E=>∃i:Nat,i<=l.length/\E.tmps 5= .t (int i)/\E.tmps 0= .t (.sl 2 (l.map a0))/\E.tmps 1= .t (.sl 2 (l.map a0))) (fun E=>match E.tmps 5 with| .t (.v (.int _ i))=>l.length-i.toNat|_=>0) [] rfl ?_ ?_
 .refine⟨0,by omega,?_,?_,?_⟩<;>simp
 rintro E1 ⟨i,hi,e5,e0,e1⟩ hU hS A hA
 simp[*,cb]
 repeat'(first|simp[*]|apply aj|(apply aN<;>intro h))
 .have hx:=ajq h
  obtain⟨x,Tm⟩:∃x,l[i]=x:=⟨_,rfl⟩
  rw[Tm]at hx
  have hw:IntKind.i64.wrap ((i:Int)+1)=((i+1:Nat):Int):=by rw[bx (by omega) (by omega)];omega
  repeat'(first|simp[*,oN,aa.more,ab.one,Ds]|apply aj)
  refine hA _ (aH [] rfl rfl ⟨i+1,by omega,?_,?_,?_⟩ ?_)
  all_goals simp[*]
  all_goals omega
 .skip
  all_goals exact au rfl
def h7(L:Lg)(s:aw)(n:ByteArray)(k:Int):aji 7 [aO L,bi s,str n,int k] (tt true):=by
 have c0:=h9
 have c1:=nS (ts':=[aO L,.agg [int 0,int 0,.e0],bi s,.agg [int 0,.e0],str n]) (Qv L fW s n) ⟨.rfl,aE.aggL ⟨.rfl,.rfl,.nil,trivial⟩,.rfl,.rfl,.rfl,trivial⟩
 cases hf:tF L fW s n with
 |false=>
  rw[hf]at c1
  refine pu hHq rfl ?_
  simp[hGq]
  repeat'(first|simp[*]|apply aj|refine Up c0 rfl ?_|refine UV (F:=[]) c1 rfl ?_ ?_)
  exact au rfl
 |true=>
 rw[hf]at c1
 unfold tF at hf
 simp only[ajT,akk]at hf
 obtain⟨f1,f2,f3,f4⟩:=hf
 obtain⟨g1,g2⟩:=Qw f1
 by_cases k1:k<0
 .refine pu hHq rfl ?_
  simp[hGq]
  repeat'(first|simp[*]|apply aj|refine Up c0 rfl ?_|refine UV (F:=[]) c1 rfl ?_ ?_)
  exact au rfl
 by_cases k2:12<k
 .refine pu hHq rfl ?_
  simp[hGq]
  repeat'(first|simp[*]|apply aj|refine Up c0 rfl ?_|refine UV (F:=[]) c1 rfl ?_ ?_)
  exact au rfl
 by_cases k3:1000<s.calls
 .refine pu hHq rfl ?_
  simp[hGq]
  repeat'(first|simp[*]|apply aj|refine Up c0 rfl ?_|refine UV (F:=[]) c1 rfl ?_ ?_)
  exact au rfl
 obtain⟨kn,rfl⟩:=akp (show 0<=k by omega)
 have c2:=QB L s n kn (by omega) g1 g2 f4
 have Z1:(ju L n kn (fW,s)).1.l.length<=300:=ed L n kn _ (by simp[fW])
 have hkp:af n (1000+1026*(kn:Int)) (ju L n kn (fW,s)):=ea L n kn 1000 (fW,s) (by omega) ⟨fun p hp=>by simp[fW]at hp,by show s.calls<=1000;omega⟩
 generalize ju L n kn (fW,s)=P at*
 have c3:=FU P.1 P.2 n (by omega) (by omega)
 have hcod:=gn P.1 P.2 n
 by_cases he:(gX P.1 P.2 n).2.2=0
 .have Uf:=du (m:=P.1) (s:=P.2) (n:=n) (.inl he)
  have VR:(gX P.1 P.2 n).1.l.length<=300:=Qz P.1 P.2 n Z1
  rw[he]at Uf c3
  obtain⟨w1,w2,w3⟩:=gu Uf (by have:=hkp.2;omega) hkp.1
  have XV:(gX P.1 P.2 n).2.1.objs.length<=1024:=akf (Uf.done rfl).2.1.length_le (asq Uf.se).2.1
  generalize(gX P.1 P.2 n).1=x at*
  generalize(gX P.1 P.2 n).2.1=u at*
  have hsz:aE (.agg [.sl 2 (u.objs.map a0),int u.calls,.e0]) (bi ⟨u.objs,u.calls,[]⟩):=aE.aggL ⟨.rfl,.rfl,.nil,trivial⟩
  have c4:=nS (ts':=[bh x,.agg [.sl 2 (u.objs.map a0),int u.calls,.e0],str n]) (FU x ⟨u.objs,u.calls,[]⟩ n (by omega) (by omega)) ⟨.rfl,hsz,.rfl,trivial⟩
  rw[w3]at c4
  have c5:=g0 x (by omega)
  have c6:=g7 u.objs (by omega)
  have c7:=lQ x (by omega)
  rw[w1]at c7
  refine pu hHq rfl ?_
  simp[hGq]
  repeat'(first|simp[*]|apply aj|refine Up c0 rfl ?_|refine UV (F:=[]) c1 rfl ?_ ?_|refine Up c2 rfl ?_|refine Up c3 rfl ?_)
  refine ba (fun E=>∃i:Nat,i<=x.l.length/\E.tmps 15= .t (int i)/\E.tmps 2= .t (str n)/\E.tmps 9=tt true/\E.tmps 12= .ptr (.head 1 0) 0 0/\E.tmps 13= .ptr (.head 1 1) 0 0/\E.slots (.head 1 0)=some (bp x)/\E.slots (.head 1 1)=some (.box 31 (.agg [.t (.sl 2 (u.objs.map a0)),.t (int u.calls),.t .e0]) false)) (fun E=>match E.tmps 15 with| .t (.v (.int _ i))=>x.l.length-i.toNat|_=>0) [(.loc 12 0,.head 1 0),(.loc 13 0,.head 1 1)] rfl ?_ ?_
  .refine⟨0,by omega,?_,?_,?_,?_,?_,?_,?_⟩<;>simp
  rintro E1 ⟨i,hi,YX,e2,e9,e12,e13,s0,s1⟩ hU hS A hA
  by_cases h:i<x.l.length
  .have hx:=ajq h
   obtain⟨p,XY⟩:∃p,x.l[i]=p:=⟨_,rfl⟩
   rw[XY]at hx
   obtain⟨p1,p2,p3,p4⟩:=w2 p (ajx hx)
   have d1:=lY n p.id (by omega) (by omega) (by omega)
   have d2:=nS (ts':=[.agg [.sl 2 (u.objs.map a0),int u.calls,.e0],str (dF n p.id)]) (Er ⟨u.objs,u.calls,[]⟩ (dF n p.id) (by simp only;omega) (by simp)) ⟨hsz,.rfl,trivial⟩
   rw[p4]at d2
   have hw:IntKind.i64.wrap ((i:Int)+1)=((i+1:Nat):Int):=by rw[bx (by omega) (by omega)];omega
   have h':(i:Int)<x.l.length:=by omega
   simp[a8,YX,e12,s0]
   repeat'(first|simp[*,s0,s1,h]|apply aj|refine Up d1 rfl ?_|refine UV (F:=[]) d2 rfl ?_ ?_)
   refine hA _ (aH [(.head 1 0,.head 1 0),(.head 1 1,.head 1 1)] rfl rfl ⟨i+1,by omega,?_,?_,?_,?_,?_,?_,?_⟩ ?_)
   all_goals simp[*,s0,s1]
   all_goals omega
  .have TC:i=x.l.length:=by omega
   subst TC
   simp[a8,YX,e12,s0]
   repeat'(first|simp[*,s0,s1]|apply aj|refine UV (F:=[]) c4 rfl ?_ ?_|refine Up c5 rfl ?_|refine Up c6 rfl ?_|refine Up c7 rfl ?_)
   exact au rfl
 .have hcod:=hcod.resolve_left he
  generalize gX P.1 P.2 n=H at*
  rcases hcod with h1|h1|h1<;>rw[h1]at c3
  all_goals
   refine pu hHq rfl ?_
   simp[hGq]
   repeat'(first|simp[*]|apply aj|refine Up c0 rfl ?_|refine UV (F:=[]) c1 rfl ?_ ?_|refine Up c2 rfl ?_|refine Up c3 rfl ?_)
   exact au rfl
end
end Go.Wt
namespace Go.Proofs.YteaimhlobmaghaaGreatDoor
open Go.ChangeShapes Go.WideShapes Go.ChangeAt Go.RowKit Go.Wt
def g8{H:Type}{enc:TypeId×Value->H}{P:Program}{w:World}{base:Nat}{spare:Nat->Bool}{held:Bool}{t t' t'' t3:TypeId}{args:Array Value}{ds:List (DataW H)}{ps:List MemPlace}(h:DataW.TrodAll enc P w base spare held [t,t',t'',t3] args.toList ds ps):
  ∃v0 v1 v2 v3 d0 d1 d2 d3 p0 p1 p2 p3,args=#[v0,v1,v2,v3]/\ds=[d0,d1,d2,d3]/\ps=p0++p1++p2++p3/\DataW.Trod enc P w base spare held t v0 d0 p0/\DataW.Trod enc P w base spare held t' v1 d1 p1/\DataW.Trod enc P w base spare held t'' v2 d2 p2/\DataW.Trod enc P w base spare held t3 v3 d3 p3:=by
 obtain⟨v,vs,d,ds1,p,q,hargs,rfl,rfl,hd,hr⟩:=trodAll_cons h
 obtain⟨v1,vs1,d1,ds2,p1,q1,rfl,rfl,rfl,hd1,hr1⟩:=trodAll_cons hr
 obtain⟨v2,vs2,d2,ds3,p2,q2,rfl,rfl,rfl,hd2,hr2⟩:=trodAll_cons hr1
 obtain⟨v3,vs3,d3,ds4,p3,q3,rfl,rfl,rfl,hd3,hr3⟩:=trodAll_cons hr2
 obtain⟨rfl,rfl,rfl⟩:=trodAll_nil hr3
 exact⟨v,v1,v2,v3,d,d1,d2,d3,p,p1,p2,p3,by cases args;simp_all,rfl,by simp,hd,hd1,hd2,hd3⟩
def hu(os:Os)(started:os.Started)(H:Type)(enc:TypeId×Value->H):
  ReturnsInHanded {} Tryz.checked os 7 .any (fun w args=>(Rows.tierHealedSpec.pre enc Tryz.prog Tryz.f7 [] false w args/\laidMetH Tryz.prog qr w)/\sizedMet enc Tryz.prog Tryz.f7 (OpenSpec.ofChange Rows.tierHealedSpec) false w args)
   (Rows.tierHealedSpec.post enc Tryz.prog Tryz.f7 false true false false):=by
 refine returnsInHanded_of_change_and (C:=Tryz.checked) (X:=fun w _=>laidMetH Tryz.prog qr w) (fun _ _ _ hh h=>h.of_heap hh) Tryz.own started (by kernel_rfl) Tryz.func7
  (ChangeSpec.witness_shaped (enc:=enc) (C:=Tryz.checked) (os:=os) (X:=fun w _=>laidMetH Tryz.prog qr w) false (World.doorLaid Tryz.prog 600 os) #[.agg #[.int .i64 0,.int .i64 0,.slice none 0 0],.agg #[.slice none 0 0,.int .i64 0,.slice none 0 0],.string ⟨#[]⟩,.int .i64 0] 8 rfl (World.shaped_of_RefB (by kernel_rfl) (by kernel_rfl)) (by kernel_rfl) (by kernel_rfl) (by kernel_rfl) (Q7 os _)) ?_
 intro W base args ds gs before hval0 hW _ _ hlaid _
 have hval:∀(j:Nat) t v,Tryz.f7.params[j]?=some t->args[j]?=some v->Value.okWide Tryz.prog W .any base t v:=hval0
 have hW':=hW
 obtain⟨p,q,hA0,hV,rfl,_,_⟩:=hW
 have hA:DataW.TrodAll enc Tryz.prog W 0 (fun _=>true) true Tryz.f7.params.toList args.toList ds p:=hA0
 rw[Tryz.params7]at hA hval
 obtain⟨rfl,rfl⟩:=trodVars_none hV
 clear hA0 hval0
 simp only[List.append_nil]at hW'
 have hlt:∀x∈p,x.block<W.heap.size:=fun x hx=>by simpa using hW'.lt x hx
 have hAk:=hA
 obtain⟨v0,v1,v2,v3,d0,d1,d2,d3,p0,p1,p2,p3,rfl,rfl,rfl,t0,t1,t2,t3⟩:=g8 hA
 obtain⟨L,r0⟩:=QP (hval 0 24 v0 rfl rfl) t0
 obtain⟨s,r1⟩:=QR (hval 1 31 v1 rfl rfl) t1
 obtain⟨n,rfl⟩:=okWide_string Tryz.underlying9 (hval 2 9 v2 rfl rfl)
 obtain⟨k,rfl,rfl,rfl,_⟩:=open_int Tryz.underlying3 (hval 3 3 v3 rfl rfl) t3
 refine(QS (Go.Wt.h7 L s n k) (Q6 hlaid) (vs:=[v0,v1,.string n,.int .i64 k]) rfl (fun j v t hv ht=>?_)).mono fun e W' ⟨v,he,hb,M',hr⟩=>?_
 .match j,hv,ht with
  |0,hv,ht=>cases hv;cases ht;exact r0
  |1,hv,ht=>cases hv;cases ht;exact r1
  |2,hv,ht=>cases hv;cases ht;exact .v rfl
  |3,hv,ht=>cases hv;cases ht;exact .v rfl
  |j+4,hv,_=>cases hv
 have hv:v= .bool true:=by cases hr;rfl
 subst he
 subst hv
 refine⟨_,rfl,_,_,_,[],_,[],hW',?_,F7 Tryz.laidOut hb ?_ hAk hlt,rfl,hb.frame _,fun h=>by cases h⟩
 .exact trodAll_mk1 (shut_bool Tryz.underlying4 true)
 .exact QT (by kernel_rfl)
def tdq:(Rows.tierHealedRow.inPlace==Tryz.prog.inPlace 7)=true:=by kernel_rfl
def xtq:(Rows.tierHealedRow.unfollowed==Tryz.prog.unfollowed 7)=true:=by kernel_rfl
def Q9q:(Rows.tierHealedRow.recurses==Tryz.prog.recurses 7)=true:=by kernel_rfl
def Raq:(Rows.tierHealedRow.named==Tryz.prog.varsNamed 7)=true:=by kernel_rfl
def hB:joinedFacts Tryz.prog 7 Tryz.f7 Rows.tierHealedSpec Rows.tierHealedRow=true:=by
 unfold joinedFacts
 rw[tdq,xtq,Q9q,Raq]
 kernel_rfl
def hC:Rows.TierHealedSaid:=
 OpenClaim.holds_of_wide 7 Tryz.f7 rfl rfl rfl rfl rfl rfl rfl ⟨rfl,rfl,rfl,rfl,rfl⟩ rfl rfl rfl rfl rfl (by kernel_rfl) Tryz.func7 hB
  (of_decide_eq_true (by kernel_rfl)) (by unfold Func.isWrapper;first|(rw[if_pos (by decide+kernel)];kernel_rfl)|(rw[if_neg (by decide+kernel)];exact⟨rfl,rfl⟩))
  (fun os started H enc _=>hu os started H enc)
end Go.Proofs.YteaimhlobmaghaaGreatDoor
namespace Go.Proofs.YteaimhlobmaghaaGreatDoor
open Go.ChangeShapes Go.WideShapes Go.ChangeAt Go.RowKit Go.Wt
def hD:Tryz.prog.funcNamed "watermeet/watermeetlaw17.TierHealed" =some 7:=by kernel_rfl
def hE:Rows.tierHealedRow.wfByText (OpenSpec.ofChange Rows.tierHealedSpec)=true:=by kernel_rfl
def hF:false=Rows.tierHealedRow.goesBy Tryz.pinned.checked.prog:=by kernel_rfl
theorem healed_holds:Rows.TierHealedCardSaid:=
 Claim7.holds_tied_plain_at .later [] [.data,.data,.data,.sentinel,.sentinel,.widerDeep] true (true, "2f5f6f0e45d0dc822afc7999807d6c879bedb5611b72a16918e454af4e0011be") true
  hC (fun _ h=>by cases h) hE (fun _ h=>by cases h) tierHealed_row_tie rfl ⟨rfl,rfl⟩ z_main rfl
  (fun f fn hf hfn=>by
   obtain rfl:f=7:=Option.some.inj (hD.symm.trans hf)|>.symm
   obtain rfl:fn=Tryz.f7:=(Option.some.inj (Tryz.func7.symm.trans hfn)).symm
   exact⟨z_looks,fun j t ht=>by
    rw[Tryz.params7]at ht
    match j,ht with
    |0,ht=>cases ht;exact z_w24
    |1,ht=>cases ht;exact z_w31
    |2,ht=>cases ht;exact z_w9
    |3,ht=>cases ht;exact z_w3
    |j+4,ht=>simp at ht⟩)
  hF
#print axioms healed_holds
end Go.Proofs.YteaimhlobmaghaaGreatDoor
