/- TierOnce holds: what is fetched is batches of its piece; the store is called once at most, and not again if there is room. No condition beside the row's own (what start-up laid; how much memory an argument can take). -/
import Derived.Handed
import Derived.Lib.AtoiTie
import Derived.Sort.Walk0
import Derived.Test.YteaimhlobmaghaaGreatDoorCards
import Derived.Test.YteaimhlobmaghaaGreatDoorP25
import Derived.Test.YteaimhlobmaghaaGreatDoorProg
import Derived.Test.YteaimhlobmaghaaGreatDoorTie
set_option linter.all false
set_option maxRecDepth 10000000
set_option maxHeartbeats 0
namespace Go.Wt
section
open Go.RowKit Go.Proofs Go.Wq
def a9:ac:=(s (R 77 [M 18,M 12,H 78,B .lss 3 77 79] (V 80 k (x 0))) (s (D (s (Z 83 [M 12,M 18,A 83 84 10,F 85 0,l 86,F 16 1,l 88,B .lss 3 87 89,M 90,j 91 (M 12),j 91 (M 18),j 91 (A 92 93 10),j 91 (F 94 1),j 91 (l 95),j 91 (F 16 2),j 91 (l 97),j 91 (B .geq 3 96 98),P 91 99,M 100,j 101 (M 12),j 101 (M 18),j 101 (A 102 103 10),j 101 (L 10 104),j 101 (Y 34 [105]),j 101 (N .neq 37 106 0),P 101 107] [2,6,4,6,11,15,13,15]) (V 108 (R 10 [v fa] r) k))) (O 81 [M 18,N .add 3 81 1,e 18 (M 82)])))
def k9q:ac:=(R 5 [X 27 0,X 31 1,X 36 2,e 10 (v fa)] (R 24 [Y 9 [],e 11 (M 24)] (s (R 25 [M 11,U 25] (V 26 (R 10 [v fa] r) k)) (s (R 27 [I (.build [(z 0),(z 0),.e0] []),L 3 5,L 3 6,L 2 7,M 3,Y 10 [27,28,29,30,31],U 32] (V 33 (R 34 [M 11,e 10 (M 34)] r) k)) (R 36 [L 3 5,L 3 6,L 2 7,M 3,M 4,Y 20 [36,37,38,39,40],e 35 (M 41),E 35 0,E 35 1,E 35 2,E 35 3,e 13 (T 31 (.agg [.e0,(z 0),.e0])),e 14 (T 36 (.agg [(z 0),.e0])),e 12 (M 42),S 3 13 43,S 2 14 44,e 15 (M 45)] (s (R 46 [M 15,N .neq 37 46 0] (V 47 (R 48 [M 11,M 48,J 49 (M 12),J 49 (H 50),J 49 (N .eql 3 51 0),Q 49 52,e 10 (M 53)] r) k)) (R 55 [L 3 5,M 4,Y 33 [55,56],e 54 (M 57),E 54 0,E 54 1,e 16 (T 58 (.agg [(z 0),(z 0),(z 0),(z 0),(.v (.int .u32 0)),(z 0)])),S 6 16 58,e 17 (M 59)] (s (R 60 [M 17,U 60,M 61,j 62 (F 13 1),j 62 (l 63),j 62 (F 6 1),j 62 (l 65),j 62 (B .lss 3 64 66),P 62 67,M 68,j 69 (F 13 1),j 69 (l 70),j 69 (F 6 1),j 69 (l 72),j 69 (N .add 3 73 1),j 69 (B .gtr 3 71 74),P 69 75] (V 76 (R 10 [v fa] r) k)) (s (R 18 [C 0] (K a9)) (s (.seq (Z 109 [L 2 14,Y 35 [109],F 16 3,l 111,B .add 3 110 112,F 14 0,l 114,B .gtr 3 113 115,M 116,J 117 (F 13 1),J 117 (l 118),J 117 (F 6 1),J 117 (l 120),J 117 (B .gtr 3 119 121),Q 117 122,M 123,j 124 (F 13 1),j 124 (l 125),j 124 (N .geq 3 126 1099511627776),P 124 127] [0,3,1,3,0,6,1,6,3,6,10,12]) (V 128 (R 129 [M 11,e 10 (M 129)] r) k)) (R 131 [L 3 5,L 3 13,L 2 14,M 3,M 4,Y 20 [131,132,133,134,135],e 130 (M 136),E 130 0,E 130 1,E 130 2,E 130 3,e 20 (T 31 (.agg [.e0,(z 0),.e0])),e 21 (T 36 (.agg [(z 0),.e0])),e 19 (M 137),S 3 20 138,S 2 21 139,e 22 (M 140)] (R 141 [M 12,M 19,Y 24 [141,142],e 23 (M 143)] (R 144 [M 11,M 144,J 145 (M 22),J 145 (N .eql 37 146 0),Q 145 147,M 148,J 149 (F 20 1),J 149 (l 150),J 149 (F 13 1),J 149 (l 152),J 149 (B .eql 3 151 153),Q 149 154,M 155,J 156 (M 23),Q 156 157,e 10 (M 158)] r)))))))))))))
def laq:=xo 8 ⟨k9q,159,[.tmp 10]⟩ Tryz.func8 (by kernel_rfl)
def ce:ac:=(R 14 [B .lss 3 13 12] (s (V 14 k (x 0)) (s (D (R 15 [M 13,e 5 (M 15)] (s (Z 16 [M 0,M 5,A 16 17 10,L 10 18,M 1,M 5,A 20 21 10,L 10 22,Y 88 [19,23],U 24] [2,6,3,6,2,7,3,7]) (V 25 (R 4 [v fa] r) k)))) (O 26 [N .add 3 13 1,e 13 (M 26)]))))
def ch:ac:=(R 4 [v fa] (s (R 6 [M 0,H 6,M 1,H 8,B .neq 3 7 9] (V 10 (R 4 [v fa] r) k)) (s (R 11 [M 0,H 11,C 0] (K ce)) (R 4 [v tr] r))))
def ex:=xo 24 ⟨ch,27,[.tmp 4]⟩ Tryz.func24 (by kernel_rfl)
def bb:ac:=(R 1 [X 36 0,C 0] (s (R 3 [L 2 1,Y 75 [3],N .neq 37 4 0] (V 5 (R 2 [C 0] r) k)) (R 6 [F 1 1,l 6,Y 101 [7],e 2 (M 8)] r)))
def ci:=xo 35 ⟨bb,9,[.tmp 2]⟩ Tryz.func35 (by kernel_rfl)
def cl:ac:=(R 2 [X 79 0,X 79 1,v fa] (R 5 [F 2 0,l 5,F 3 0,l 7,B .eql 3 6 8,M 9,J 10 (F 2 1),J 10 (l 11),J 10 (F 3 1),J 10 (l 13),J 10 (B .eql 3 12 14),Q 10 15,M 16,J 17 (F 2 2),J 17 (l 18),J 17 (F 3 2),J 17 (l 20),J 17 (B .eql 3 19 21),Q 17 22,M 23,J 24 (F 2 3),J 24 (l 25),J 24 (F 3 3),J 24 (l 27),J 24 (B .eql 3 26 28),Q 24 29,M 30,J 31 (F 2 4),J 31 (l 32),J 31 (F 3 4),J 31 (l 34),J 31 (B .eql 3 33 35),Q 31 36,M 37,J 38 (F 2 5),J 38 (l 39),J 38 (F 3 5),J 38 (l 41),J 38 (B .eql 3 40 42),Q 38 43,M 44,J 45 (F 2 6),J 45 (l 46),J 45 (F 3 6),J 45 (l 48),J 45 (B .eql 3 47 49),Q 45 50,M 51,J 52 (F 2 7),J 52 (l 53),J 52 (F 3 7),J 52 (l 55),J 52 (B .eql 4 54 56),Q 52 57,M 58,J 59 (F 2 8),J 59 (l 60),J 59 (F 3 8),J 59 (l 62),J 59 (B .eql 3 61 63),Q 59 64,M 65,J 66 (F 2 9),J 66 (l 67),J 66 (F 3 9),J 66 (l 69),J 66 (Y 179 [68,70]),Q 66 71,e 4 (M 72)] r))
def ey:=xo 88 ⟨cl,73,[.tmp 4]⟩ Tryz.func88 (by kernel_rfl)
def cn:ac:=(R 14 [B .lss 3 13 12] (s (V 14 k (x 0)) (s (D (R 15 [M 13,e 5 (M 15)] (s (Z 16 [M 0,M 5,A 16 17 5,L 5 18,M 1,M 5,A 20 21 5,L 5 22,B .neq 239 19 23] [2,6,3,6,2,7,3,7]) (V 24 (R 4 [v fa] r) k)))) (O 25 [N .add 3 13 1,e 13 (M 25)]))))
def cp:ac:=(R 4 [v fa] (s (R 6 [M 0,H 6,M 1,H 8,B .neq 3 7 9] (V 10 (R 4 [v fa] r) k)) (s (R 11 [M 0,H 11,C 0] (K cn)) (R 4 [v tr] r))))
def eG:=xo 179 ⟨cp,26,[.tmp 4]⟩ Tryz.func179 (by kernel_rfl)
end
section
open Go.RowKit Go.Proofs Go.Lib Go.Wm
def e9(c:Ca)(hl:c.l.length<=1000000)(hb:∀h∈c.l,h.bytes.length<=1000000):aji 35 [dr c] (.t (int (if dG c≠0 then 0 else gw c.l))):=by
 have c1:=oF c hl hb
 have c2:=N2 c.l hl hb
 generalize dG c=e at*
 by_cases h0:e=0
 .subst h0
  refine pu ci rfl ?_
  simp[bb]
  repeat'(first|simp[*]|refine Up c1 rfl ?_|refine Up c2 rfl ?_)
  all_goals exact au rfl
 .refine pu ci rfl ?_
  simp[bb]
  repeat'(first|simp[*]|refine Up c1 rfl ?_)
  all_goals exact au rfl
section
variable{P:Program}{c:aA}{Z:Nm->Place}{E:aa}{a:Act}{w:World}{o:Oper}{D:List Deferred}
end
section
variable{P:Program}
end
def an(l:List Hd):Prop:=(l.map eF).Nodup/\∀h∈l,oE (eF h)=true
def fd(l:List Hd):(List.range l.length).all (kd l)=true↔an l:=by
 rw[ajR]
 constructor
 .intro h
  have key:∀i (hi:i<l.length),oE (eF l[i])=true/\∀x∈l.take i,eF x≠eF l[i]:=by
   intro i hi
   have:=h i (List.mem_range.2 hi)
   unfold kd at this
   rw[ajq hi]at this
   simp only[ajT,Bool.not_eq_true',List.any_eq_false,ajI]at this
   refine⟨this.1,fun x hx e=>?_⟩
   exact this.2 (eF x) ⟨x,hx,rfl⟩ ((E9 _ _).2 e.symm)
  refine⟨List.pairwise_iff_getElem.2 ?_,fun x hx=>?_⟩
  .intro i j hi hj XE
   simp only[ajJ]at hi hj
   simp only[List.getElem_map]
   exact(key j hj).2 l[i] (List.mem_take_iff_getElem.2 ⟨i,by omega,rfl⟩)
  .obtain⟨i,hi,rfl⟩:=ajL hx
   exact(key i hi).1
 .rintro⟨h1,h2⟩ i hi
  have hi:=List.mem_range.1 hi
  unfold kd
  rw[ajq hi]
  simp only[ajT,Bool.not_eq_true',List.any_eq_false,ajI]
  refine⟨h2 _ (akA hi),?_⟩
  rintro _ ⟨x,hx,rfl⟩ e
  obtain⟨j,hj,rfl⟩:=List.mem_take_iff_getElem.1 hx
  have:=List.pairwise_iff_getElem.1 h1 j i (by simp;omega) (by simpa using hi) (by omega)
  simp only[List.getElem_map]at this
  exact this ((E9 _ _).1 e).symm
def ar(c:Ca):dG c=0↔0<=c.cap/\c.cap<=1099511627776/\gw c.l<=c.cap/\an c.l:=by
 rw[<-fd]
 constructor
 .exact Ou
 .rintro⟨h1,h2,h3,h4⟩
  unfold dG
  rw[if_neg (by omega),if_neg (by omega),if_neg (by omega),if_neg (by simp[h4])]
def szN(l:List Hd):Nat:=(l.map fun h=>h.bytes.length).sum
def ag(l:List Hd):gw l=(szN l:Int):=by
 have:∀(l:List Hd) (a:Int),l.foldl (fun n h=>n+(h.bytes.length:Int)) a=a+(szN l:Int):=by
  intro l
  induction l with
  |nil=>intro a;simp[szN]
  |cons x l ih=>
   intro a
   rw[List.foldl_cons,ih]
   simp only[szN,ajQ,List.sum_cons]
   omega
 unfold gw
 rw[this]
 omega
def af(h:Hd)(l:List Hd):szN (h::l)=h.bytes.length+szN l:=by simp[szN]
theorem cr{l m:List Hd}(h:l.Perm m):szN l=szN m:=by
 induction h with
 |nil=>rfl
 |cons x _ ih=>rw[af,af,ih]
 |swap x y l=>simp only[af];omega
 |trans _ _ h1 h2=>rw[h1,h2]
def asq{l m:List Hd}(h:l.Sublist m):szN l<=szN m:=by
 induction h with
 |slnil=>exact ajz _
 |cons x _ ih=>rw[af];omega
 |cons_cons x _ ih=>rw[af,af];omega
def a4{l:List Hd}{h:Hd}(hm:h∈l):h.bytes.length<=szN l:=by
 have:=asq (List.singleton_sublist.2 hm)
 simp[szN]at this⊢
 omega
def fi{l:List Hd}(h:(l.map eF).Nodup){x y:Hd}(hx:x∈l)(hy:y∈l)(e:eF x=eF y):x=y:=by
 obtain⟨i,hi,rfl⟩:=ajL hx
 obtain⟨j,hj,rfl⟩:=ajL hy
 have hp:=List.pairwise_iff_getElem.1 h
 rcases Nat.lt_trichotomy i j with h1|h1|h1
 .have:=hp i j (by simpa using hi) (by simpa using hj) h1
  simp only[List.getElem_map]at this
  exact absurd e this
 .subst h1;rfl
 .have:=hp j i (by simpa using hj) (by simpa using hi) h1
  simp only[List.getElem_map]at this
  exact absurd e.symm this
def aI{k:Ky}{h:Hd}:eW k h=true↔eF h=k:=E9 _ _
def ct{l:List Hd}{k:Ky}{i:Nat}{h:Hd}(h1:bf (eW k) l=i)(h2:l[i]?=some h):(h::cP l k).Perm l:=by
 unfold cP
 rw[h1,if_neg (by omega),akl]
 obtain⟨hi,rfl⟩:=ajs.1 h2
 have:l.take i++l[i]::l.drop (i+1)=l:=by rw[<-aku hi,List.take_append_drop]
 conv=>rhs;rw[<-this]
 exact List.perm_middle.symm
def cN(l:List Hd)(k:Ky):(cP l k).Sublist l:=by
 unfold cP
 split
 .exact List.Sublist.refl _
 .have h:=(List.Sublist.refl (l.take (bf (eW k) l).toNat)).append (List.drop_sublist_drop_left l (Nat.le_succ (bf (eW k) l).toNat))
  rw[List.take_append_drop]at h
  exact h
def bd{l m:List Hd}(h:l.Sublist m)(ho:an m):an l:=⟨(ho.1).sublist (h.map _),fun x hx=>ho.2 x (h.subset hx)⟩
def cT{l m:List Hd}(h:l.Perm m)(ho:an m):an l:=⟨((h.map eF).nodup_iff).2 ho.1,fun x hx=>ho.2 x (h.mem_iff.1 hx)⟩
def fk{l:List Hd}{k:Ky}(ho:an l):∀x∈cP l k,eF x≠k:=by
 intro x hx e
 rcases pM (eW k) l with⟨h1,h2⟩|⟨i,h1,h2,h3,h4⟩
 .have:=h2 x (Ov hx)
  rw[aI.2 e]at this
  cases this
 .have hy:=ajq h2
  have hp:=ct h1 hy
  have:=(cT hp ho).1
  rw[ajQ,List.nodup_cons]at this
  exact this.1 (ajI.2 ⟨x,hx,e.trans (aI.1 (h3 _ hy)).symm⟩)
def bv{c d:Ca}(h:dG c=0)(hc:d.cap=c.cap)(hp:d.l.Perm c.l):dG d=0:=by
 obtain⟨h1,h2,h3,h4⟩:=(ar c).1 h
 refine(ar d).2 ⟨by omega,by omega,?_,cT hp h4⟩
 rw[ag,cr hp,<-ag]
 omega
def bz{c:Ca}{nm:ByteArray}{i:Int}(ho:dG c=0)(hf:(dB c nm i).2.2=true):(⟨nm,i,(dB c nm i).2.1⟩:Hd)∈c.l/\(dB c nm i).1.cap=c.cap/\(dB c nm i).1.l.Perm c.l:=by
 unfold dB at hf⊢
 rw[if_neg (by simp[ho])]at hf⊢
 rcases pM (eW ⟨nm,i⟩) c.l with⟨h1,h2⟩|⟨k,h1,h2,h3,h4⟩
 .rw[h1]at hf
  split at hf<;>simp at hf
 .have hy:=ajq h2
  have hp:=ct h1 hy
  have hk:=aI.1 (h3 _ hy)
  obtain⟨x,hx⟩:∃x,c.l[k]=x:=⟨_,rfl⟩
  rw[hx]at hy hp hk
  rw[h1,akl,hy]
  simp only[if_neg (show¬((k:Int)<0) by omega)]
  obtain⟨n1,n2,n3⟩:=x
  cases hk
  exact⟨ajx hy,trivial,hp⟩
def fl{c:Ca}{nm:ByteArray}{i:Int}{b:Bs}(ho:dG c=0)(hm:(⟨nm,i,b⟩:Hd)∈c.l):(dB c nm i).2.2=true/\(dB c nm i).2.1=b:=by
 have Uf:=((ar c).1 ho).2.2.2
 have h:(dB c nm i).2.2=true:=by
  unfold dB
  rw[if_neg (by simp[ho])]
  rcases pM (eW ⟨nm,i⟩) c.l with⟨h1,h2⟩|⟨k,h1,h2,h3,h4⟩
  .have:=h2 _ hm
   rw[show eW ⟨nm,i⟩ (⟨nm,i,b⟩:Hd)=true from aI.2 rfl]at this
   cases this
  .rw[h1,akl,ajq h2]
   simp only[if_neg (show¬((k:Int)<0) by omega)]
 refine⟨h,?_⟩
 have:=fi Uf.1 (bz ho h).1 hm rfl
 exact congrArg Hd.bytes this
def c7(nm:ByteArray)(s:aw):∀(bs:List Bs) (i:Nat) (c:Ca) (TV:Bs),dG c=0->(∀j x,bs[j]?=some x->(⟨nm,((i+j:Nat):Int),x⟩:Hd)∈c.l)->
  ∃d,l6 nm s bs.length i c TV=⟨s,d,TV++bs.flatten,false,0⟩/\d.cap=c.cap/\d.l.Perm c.l
 |[],i,c,TV,_,_=>⟨c,by simp[l6],rfl,List.Perm.refl _⟩
 |x::bs,i,c,TV,ho,h=>by
  obtain⟨g1,g2⟩:=fl ho (h 0 x rfl)
  simp only[Nat.add_zero]at g1 g2
  obtain⟨_,g4,g5⟩:=bz ho g1
  obtain⟨d,d1,d2,d3⟩:=c7 nm s bs (i+1) (dB c nm i).1 (TV++x) (bv ho g4 g5) (fun j y hj=>by
   have:=h (j+1) y (by simpa using hj)
   rw[show i+(j+1)=i+1+j by omega]at this
   exact g5.mem_iff.2 this)
  refine⟨d,?_,d2.trans g4,d3.trans g5⟩
  rw[akx,l6,if_pos g1,g2,d1]
  simp
def a5(nm:ByteArray)(s:aw):∀(k i:Nat) (c:Ca) (TV:Bs),dG c=0->
  (l6 nm s k i c TV).c.cap=c.cap/\(l6 nm s k i c TV).c.l.Perm c.l/\
  (((l6 nm s k i c TV).asked=false/\(l6 nm s k i c TV).s=s/\(l6 nm s k i c TV).e=0/\∃bs:List Bs,bs.length=k/\(∀j x,bs[j]?=some x->(⟨nm,((i+j:Nat):Int),x⟩:Hd)∈c.l)/\(l6 nm s k i c TV).b=TV++bs.flatten)\/
   ((l6 nm s k i c TV).asked=true/\(l6 nm s k i c TV).s=(kL s nm).1/\(l6 nm s k i c TV).b=(kL s nm).2.1/\(l6 nm s k i c TV).e=(kL s nm).2.2))
 |0,i,c,TV,ho=>⟨rfl,List.Perm.refl _,.inl ⟨rfl,rfl,rfl,[],rfl,by simp,by simp[l6]⟩⟩
 |k+1,i,c,TV,ho=>by
  rw[l6]
  by_cases hg:(dB c nm i).2.2=true
  .rw[if_pos hg]
   obtain⟨g3,g4,g5⟩:=bz ho hg
   obtain⟨a1,a2,a3⟩:=a5 nm s k (i+1) (dB c nm i).1 (TV++(dB c nm i).2.1) (bv ho g4 g5)
   refine⟨a1.trans g4,a2.trans g5,?_⟩
   rcases a3 with⟨b1,b2,b3,bs,b4,b5,b6⟩|a3
   .refine .inl ⟨b1,b2,b3,(dB c nm i).2.1::bs,by simp[b4],fun j x hj=>?_,by rw[b6];simp⟩
    match j,hj with
    |0,hj=>cases hj;simpa using g3
    |j+1,hj=>
     have:=b5 j x (by simpa using hj)
     rw[show i+1+j=i+(j+1) by omega]at this
     exact g5.mem_iff.1 this
   .exact .inr a3
  .rw[if_neg hg]
   exact⟨rfl,List.Perm.refl _,.inr ⟨rfl,rfl,rfl,rfl⟩⟩
theorem c8{p q:Hd->Bool}:∀{l:List Hd} {h:Hd},h∈l->p h=false->q h=true->(∀x,p x=true->q x=true)->szN (l.filter p)+h.bytes.length<=szN (l.filter q)
 |[],h,hm,_,_,_=>by cases hm
 |x::l,h,hm,hp,hq,hpq=>by
  have TK:szN (l.filter p)<=szN (l.filter q):=by
   refine asq ?_
   have:l.filter p=(l.filter q).filter p:=by
    rw[List.filter_filter]
    refine List.filter_congr fun y _=>?_
    cases hy:p y with
    |false=>rfl
    |true=>rw[hpq y hy];rfl
   rw[this]
   exact List.filter_sublist
  rcases akc.1 hm with rfl|hm
  .rw[List.filter_cons_of_neg (by simp[hp]),List.filter_cons_of_pos hq,af]
   omega
  .have ih:=c8 hm hp hq hpq
   by_cases h1:p x=true
   .rw[List.filter_cons_of_pos h1,List.filter_cons_of_pos (hpq x h1),af,af]
    omega
   .rw[List.filter_cons_of_neg h1]
    by_cases h2:q x=true
    .rw[List.filter_cons_of_pos h2,af]
     omega
    .rw[List.filter_cons_of_neg h2]
     exact ih
def c9{nm:ByteArray}{l:List Hd}:∀(bs:List Bs) (i:Nat),(∀j x,bs[j]?=some x->(⟨nm,((i+j:Nat):Int),x⟩:Hd)∈l)->bs.flatten.length<=szN (l.filter fun h=>decide ((i:Int)<=h.no))
 |[],i,_=>by simp
 |x::bs,i,h=>by
  have ih:=c9 bs (i+1) (fun j y hj=>by
   have:=h (j+1) y (by simpa using hj)
   rw[show i+(j+1)=i+1+j by omega]at this
   exact this)
  have h0:=h 0 x rfl
  have:=c8 (p:=fun h=>decide (((i+1:Nat):Int)<=h.no)) (q:=fun h=>decide ((i:Int)<=h.no)) h0 (by simp;omega) (by simp) (fun y hy=>by simp at hy⊢;omega)
  simp only[List.flatten_cons,ajB]
  simp only at this
  omega
def fo{nm:ByteArray}{l:List Hd}{bs:List Bs}(h:∀j x,bs[j]?=some x->(⟨nm,((0+j:Nat):Int),x⟩:Hd)∈l):bs.flatten.length<=szN l:=
 akf (c9 bs 0 h) (asq List.filter_sublist)
def dc:∀(F R:List Hd) (v:Int) (i:Nat),(szN F:Int)<=v->gV v i (F++R)=gV (v-szN F) (i+F.length) R
 |[],R,v,i,_=>by simp[szN]
 |h::F,R,v,i,hv=>by
  rw[af]at hv⊢
  rw[List.cons_append,gV,if_neg (by omega),dc F R _ (i+1) (by omega)]
  rw[akx,show i+1+F.length=i+(F.length+1) by omega]
  congr 1
  omega
def df:∀(l:List Hd) (v:Int) (i:Nat),0<=v->((gV v i l).1= -1/\(szN l:Int)<=v)\/∃n:Nat,(gV v i l).1=((i+n:Nat):Int)/\n<=l.length/\(szN (l.take n):Int)<=v
 |[],v,i,hv=> .inl ⟨rfl,by simpa[szN]using hv⟩
 |h::l,v,i,hv=>by
  rw[gV]
  by_cases hc:v-h.bytes.length<0
  .rw[if_pos hc]
   exact .inr ⟨0,rfl,Nat.zero_le _,by simpa[szN]using hv⟩
  .rw[if_neg hc]
   rcases df l (v-h.bytes.length) (i+1) (by omega)with⟨h1,h2⟩|⟨n,h1,h2,h3⟩
   .exact .inl ⟨h1,by rw[af];omega⟩
   .refine .inr ⟨n+1,by rw[h1,show i+1+n=i+(n+1) by omega],by simp;omega,?_⟩
    rw[List.take_succ_cons,af]
    omega
def dj{c:Ca}{nm:ByteArray}{no:Int}{b:Bs}(ho:dG c=0)(hk:oE ⟨nm,no⟩=true):dG (gx c nm no b).1=0/\(gx c nm no b).1.cap=c.cap:=by
 obtain⟨h1,h2,h3,h4⟩:=(ar c).1 ho
 have hs:=cN c.l ⟨nm,no⟩
 have hz:=asq hs
 rw[ag]at h3
 have hT:an (⟨nm,no,b⟩::cP c.l ⟨nm,no⟩):=by
  refine⟨?_,fun x hx=>?_⟩
  .rw[ajQ,List.nodup_cons]
   refine⟨fun hm=>?_,(bd hs h4).1⟩
   obtain⟨x,hx,e⟩:=ajI.1 hm
   exact fk h4 x hx e
  .rcases akc.1 hx with rfl|hx
   .exact hk
   .exact h4.2 x (Ov hx)
 unfold gx
 rw[if_neg (by simp[ho]),if_neg (by simp[hk])]
 split
 .exact⟨(ar _).2 ⟨h1,h2,by rw[ag];simp only;omega,bd hs h4⟩,rfl⟩
 .rcases df (⟨nm,no,b⟩::cP c.l ⟨nm,no⟩) c.cap 0 h1 with⟨r1,r2⟩|⟨r,r1,r2,r3⟩
  .rw[if_pos (by omega)]
   exact⟨(ar _).2 ⟨h1,h2,by rw[ag];exact r2,hT⟩,rfl⟩
  .rw[if_neg (by omega)]
   rw[show(gV c.cap 0 (⟨nm,no,b⟩::cP c.l ⟨nm,no⟩)).1.toNat=r by omega]
   exact⟨(ar _).2 ⟨h1,h2,by rw[ag];exact r3,bd (List.take_sublist _ _) hT⟩,rfl⟩
def dk{p:Hd->Bool}:∀{F R:List Hd},(∀x∈F,p x=false)->bf p (F++R)=if bf p R<0 then-1 else(F.length:Int)+bf p R
 |[],R,_=>by
  have:=(lw p R).1
  simp only[List.nil_append,List.length_nil]
  split<;>omega
 |x::F,R,h=>by
  have ih:=dk (F:=F) (R:=R) (fun y hy=>h y (ajW _ hy))
  have h0:=h x (ajK ..)
  rw[List.cons_append,bf,if_neg (by simp[h0]),ih,akx]
  by_cases hr:bf p R<0
  .rw[if_pos hr,if_pos hr,if_pos (by omega)]
  .rw[if_neg hr,if_neg hr,if_neg (by omega)]
   omega
theorem fr{F R:List Hd}{k:Ky}(h:∀x∈F,eF x≠k):cP (F++R) k=F++cP R k:=by
 have hf:=dk (p:=eW k) (F:=F) (R:=R) (fun x hx=>by
  cases e:eW k x with
  |false=>rfl
  |true=>exact absurd (aI.1 e) (h x hx))
 unfold cP
 rw[hf]
 by_cases hr:bf (eW k) R<0
 .rw[if_pos hr,if_pos hr,if_pos (by decide)]
 .rw[if_neg hr,if_neg hr,if_neg (by omega)]
  obtain⟨r,hr2⟩:=akp (show 0<=bf (eW k) R by omega)
  rw[hr2,show((F.length:Int)+(r:Int)).toNat=F.length+r by omega,akl]
  rw[List.take_append,List.drop_append,aju (by omega),List.drop_of_length_le (by omega)]
  rw[show F.length+r-F.length=r by omega,show F.length+r+1-F.length=r+1 by omega]
  simp
def fs{c:Ca}{nm:ByteArray}{no:Int}{b:Bs}{F R:List Hd}(ho:dG c=0)(hk:oE ⟨nm,no⟩=true)(hl:c.l=F++R)(hF:∀x∈F,eF x≠⟨nm,no⟩)(hz:(szN F:Int)+b.length<=c.cap):
  ∃R',(gx c nm no b).1.l=(⟨nm,no,b⟩::F)++R':=by
 unfold gx
 rw[if_neg (by simp[ho]),if_neg (by simp[hk]),if_neg (by omega),hl,fr hF]
 have hr:=dc (⟨nm,no,b⟩::F) (cP R ⟨nm,no⟩) c.cap 0 (by rw[af];simp only;omega)
 have TK:=Fg (cP R ⟨nm,no⟩) (c.cap-(szN (⟨nm,no,b⟩::F):Int)) (0+(⟨nm,no,b⟩::F:List Hd).length)
 rw[List.cons_append]at hr
 rw[<-hr]at TK
 split
 .exact⟨cP R ⟨nm,no⟩,rfl⟩
 .rename_i hn
  rcases TK with h1|⟨h1,_⟩
  .omega
  .refine⟨(cP R ⟨nm,no⟩).take ((gV c.cap 0 (⟨nm,no,b⟩::(F++cP R ⟨nm,no⟩))).1.toNat-(⟨nm,no,b⟩::F:List Hd).length),?_⟩
   simp only
   rw[<-List.cons_append,List.take_append,aju (by simp only[List.cons_append];omega)]
def dl(nm:ByteArray)(hnm:1<=nm.size):∀(bs:List Bs) (i:Nat) (c:Ca) (F R:List Hd),dG c=0->c.l=F++R->(∀h∈F,h.no<i)->i+bs.length<=1000000->(szN F:Int)+bs.flatten.length<=c.cap->
  dG (iY nm i bs c)=0/\(iY nm i bs c).cap=c.cap/\(∀h∈F,h∈(iY nm i bs c).l)/\∀j x,bs[j]?=some x->(⟨nm,((i+j:Nat):Int),x⟩:Hd)∈(iY nm i bs c).l
 |[],i,c,F,R,ho,hl,_,_,_=>⟨ho,rfl,fun h hh=>by rw[iY,hl];exact List.mem_append_left _ hh,by simp⟩
 |x::bs,i,c,F,R,ho,hl,hF,hi,hz=>by
  simp only[List.flatten_cons,ajB,akx]at hz hi
  have hk:oE ⟨nm,(i:Int)⟩=true:=by
   unfold oE
   simp only[ajT,akk]
   omega
  obtain⟨p1,p2⟩:=dj (b:=x) ho hk
  obtain⟨R',p3⟩:=fs (b:=x) ho hk hl (fun y hy e=>by
   have:=hF y hy
   have e:y.no=(i:Int):=congrArg Ky.no e
   omega) (by omega)
  obtain⟨q1,q2,q3,q4⟩:=dl nm hnm bs (i+1) (gx c nm i x).1 (⟨nm,i,x⟩::F) R' p1 p3 (fun h hh=>by
   rcases akc.1 hh with rfl|hh
   .simp only;omega
   .have:=hF h hh;omega) (by omega) (by rw[af,p2];simp only;omega)
  rw[iY]
  refine⟨q1,q2.trans p2,fun h hh=>q3 h (ajW _ hh),fun j y hj=>?_⟩
  match j,hj with
  |0,hj=>cases hj;exact q3 _ (ajK ..)
  |j+1,hj=>
   have:=q4 j y (by simpa using hj)
   rw[show i+1+j=i+(j+1) by omega]at this
   exact this
def dm(nm:ByteArray)(hnm:1<=nm.size):∀(bs:List Bs) (i:Nat) (c:Ca),dG c=0->i+bs.length<=1000000->dG (iY nm i bs c)=0/\(iY nm i bs c).cap=c.cap
 |[],i,c,ho,_=>⟨ho,rfl⟩
 |x::bs,i,c,ho,hi=>by
  simp only[akx]at hi
  have hk:oE ⟨nm,(i:Int)⟩=true:=by
   unfold oE
   simp only[ajT,akk]
   omega
  obtain⟨p1,p2⟩:=dj (b:=x) ho hk
  obtain⟨q1,q2⟩:=dm nm hnm bs (i+1) (gx c nm i x).1 p1 (by omega)
  exact⟨q1,q2.trans p2⟩
def du(nm:ByteArray):∀(bs:List Bs) (i:Nat) (c:Ca),(iY nm i bs c).l.length<=c.l.length+bs.length
 |[],i,c=>ajz _
 |x::bs,i,c=>by
  have h1:=du nm bs (i+1) (gx c nm i x).1
  have h2:=Fz c nm i x
  rw[iY,akx]
  omega
def b0(k:Nat)(hk:0<k):∀(f:Nat) (l:Bs),l.length<f->(gW k f l).flatten=l/\(gW k f l).length=(l.length+(k-1))/k
 |0,l,h=>by omega
 |f+1,l,h=>by
  unfold gW
  split
  .rename_i hn
   subst hn
   refine⟨rfl,?_⟩
   simp only[List.length_nil,ajX]
   exact(Nat.div_eq_of_lt (by omega)).symm
  .rename_i hn
   have hl:0<l.length:=List.length_pos_iff.2 hn
   obtain⟨h1,h2⟩:=b0 k hk f (l.drop k) (by simp only[aj9];omega)
   refine⟨by rw[List.flatten_cons,h1,List.take_append_drop],?_⟩
   rw[akx,h2,aj9]
   by_cases XW:k<=l.length
   .rw[show l.length+(k-1)=l.length-k+(k-1)+k by omega,Nat.add_div_right _ hk]
   .rw[show l.length-k+(k-1)=k-1 by omega,Nat.div_eq_of_lt (by omega)]
    rw[show l.length+(k-1)=(l.length-1)+k by omega,Nat.add_div_right _ hk,Nat.div_eq_of_lt (by omega)]
abbrev lkq(o:oBj):List UInt8:=o.name.data.toList
def fu:∀x y:List UInt8,(compareBytes x y<0↔x<y)/\(compareBytes x y=0↔x=y)
 |[],[]=>by simp[compareBytes]
 |[],_::_=>by simp[compareBytes]
 |_::_,[]=>by simp[compareBytes]
 |a::x,b::y=>by
  have ih:=fu x y
  simp only[compareBytes,List.cons_lt_cons_iff,List.cons.injEq]
  by_cases h1:a<b
  .have h2:a≠b:=fun h=>UInt8.lt_irrefl b (h▸h1)
   simp[h1,h2]
  .by_cases h3:b<a
   .have h2:a≠b:=fun h=>UInt8.lt_irrefl b (h▸h3)
    simp[h1,h2,h3]
   .have h2:a=b:=UInt8.le_antisymm (UInt8.not_lt.1 h3) (UInt8.not_lt.1 h1)
    subst h2
    simp[h1,ih]
def dT:∀x y:List UInt8,x<y\/x=y\/y<x
 |[],[]=> .inr (.inl rfl)
 |[],_::_=> .inl (List.nil_lt_cons _ _)
 |_::_,[]=> .inr (.inr (List.nil_lt_cons _ _))
 |a::x,b::y=>by
  simp only[List.cons_lt_cons_iff,List.cons.injEq]
  by_cases h1:a<b
  .exact .inl (.inl h1)
  .by_cases h3:b<a
   .exact .inr (.inr (.inl h3))
   .have h2:a=b:=UInt8.le_antisymm (UInt8.not_lt.1 h3) (UInt8.not_lt.1 h1)
    subst h2
    rcases dT x y with h|h|h<;>simp[h]
def d5{a b:ByteArray}(h:xb a b=false):b.data.toList<a.data.toList:=by
 unfold xb at h
 rw[toList_data,toList_data,Go.Proofs.bytesLess_eq]at h
 simp only[Bool.or_eq_false_iff,decide_eq_false_iff_not,beq_eq_false_iff_ne]at h
 exact((dT _ _).resolve_left h.1).resolve_left h.2
def fz{a b:ByteArray}(h:b.data.toList<a.data.toList):xb a b=false:=by
 unfold xb
 rw[toList_data,toList_data,Go.Proofs.bytesLess_eq]
 simp only[Bool.or_eq_false_iff,decide_eq_false_iff_not,beq_eq_false_iff_ne]
 exact⟨fun h2=>List.lt_irrefl _ (List.lt_trans h h2),fun h2=>List.lt_irrefl _ (h2▸h)⟩
def f0(l:List oBj):Prop:=(l.map lkq).Pairwise (· < ·)
def ca(l:List oBj):Prop:=f0 l/\∀o∈l,dX o.name=true/\o.bytes.length<=8192
def d6(l:List oBj):(List.range l.length).all (io l)=true↔ca l:=by
 rw[ajR]
 constructor
 .intro h
  have key:∀i (hi:i<l.length),dX l[i].name=true/\xb l[i].name (oz l i)=false/\l[i].bytes.length<=8192:=by
   intro i hi
   have:=h i (List.mem_range.2 hi)
   unfold io at this
   rw[ajq hi]at this
   simpa using this
  refine⟨List.pairwise_iff_getElem.2 ?_,fun o ho=>?_⟩
  .intro i j hi hj XE
   rw[ajJ]at hi hj
   have:∀d i j (hi:i<l.length) (hj:j<l.length),j=i+d+1->lkq l[i]<lkq l[j]:=by
    intro d
    induction d with
    |zero=>
     intro i j hi hj e
     have h1:=d5 (key j hj).2.1
     have h2:oz l j=l[i].name:=by
      unfold oz
      rw[if_neg (by omega)]
      simp[show j-1=i by omega,hi]
     rw[h2]at h1
     exact h1
    |succ d ih=>
     intro i j hi hj e
     have h1:=ih i (j-1) hi (by omega) (by omega)
     have h2:=d5 (key j hj).2.1
     have h3:oz l j=(l[j-1]'(by omega)).name:=by
      unfold oz
      rw[if_neg (by omega)]
      simp[show j-1<l.length by omega]
     rw[h3]at h2
     exact List.lt_trans h1 h2
   simpa using this (j-i-1) i j hi hj (by omega)
  .obtain⟨i,hi,rfl⟩:=ajL ho
   exact⟨(key i hi).1,(key i hi).2.2⟩
 .rintro⟨h1,h2⟩ i hi
  have hi:=List.mem_range.1 hi
  unfold io
  rw[ajq hi]
  have h3:=h2 _ (akA hi)
  have h4:xb l[i].name (oz l i)=false:=by
   refine fz ?_
   unfold oz
   by_cases h0:i=0
   .rw[if_pos h0]
    have hs:1<=l[i].name.size:=by
     have:=h3.1
     unfold dX at this
     simp only[ajT,akk]at this
     exact this.1.1
    have hl:l[i].name.data.toList.length=l[i].name.size:=Array.length_toList
    cases hc:l[i].name.data.toList with
    |nil=>rw[hc]at hl;simp at hl;omega
    |cons a t=>exact List.nil_lt_cons _ _
   .rw[if_neg h0]
    have:=List.pairwise_iff_getElem.1 h1 (i-1) i (by simp;omega) (by simpa using hi) (by omega)
    simpa[show i-1<l.length by omega]using this
  simp[h3.1,h4,h3.2]
def f6{s:aw}(h:bP s=0):ca s.objs/\s.objs.length<=1024/\s.faults.length<=1024/\0<=s.calls/\s.calls<1099511627776/\s.faults.any kI=false:=by
 unfold bP at h
 repeat' split at h
 all_goals try(exact absurd h (by decide))
 rename_i h1 h2 h3 h4 h5 h6
 exact⟨(d6 _).1 (by simpa using h6),by omega,by omega,by omega,by omega,by simpa using h5⟩
def f7{s:aw}(h1:ca s.objs)(h2:s.objs.length<=1024)(h3:s.faults.length<=1024)(h4:0<=s.calls)(h5:s.calls<1099511627776)(h6:s.faults.any kI=false):bP s=0:=by
 have:=(d6 s.objs).2 h1
 unfold bP
 rw[if_neg (by omega),if_neg (by omega),if_neg (by omega),if_neg (by omega),if_neg (by simp[h6]),if_neg (by simp[this])]
def f9{next last en:Int}{op:Bool}{l:List Pc}(h:gP next last en op l=true):∀p∈l,last<p.id/\p.id<next:=by
 induction l generalizing last en op with
 |nil=>simp
 |cons q l ih=>
  have hq:last<q.id/\q.id<next/\∃en' op',gP next q.id en' op' l=true:=by
   unfold gP at h
   repeat' split at h
   all_goals first|(exact absurd h (by decide))|exact⟨by omega,by omega,_,_,h⟩
  intro p hp
  rcases akc.1 hp with rfl|hp
  .exact⟨hq.1,hq.2.1⟩
  .obtain⟨e,o,h⟩:=hq.2.2
   have:=ih h p hp
   exact⟨by omega,this.2⟩
def gd{m:Mn}(h:bH m=0):∀p∈m.l,0<=p.id/\p.id<m.next:=by
 unfold bH at h
 repeat' split at h
 all_goals try(exact absurd h (by decide))
 rename_i h1 h2 h3 h4
 intro p hp
 have:=f9 (l:=m.l) (last:= -1) (by simpa using h3) p hp
 exact⟨by omega,this.2⟩
def gg(b:Bs):(ta b).length=b.length:=by
 unfold ta
 split
 .simp
 .rfl
def cb(s:aw)(nm:ByteArray):(kL s nm).2.1.length<=8192:=by
 unfold kL
 split
 .simp
 rename_i h1
 have ho:=Nz (qe (Decidable.not_not.1 h1)).1 nm
 split
 .simp
 split
 .simp
 split
 .simp
 simp only
 split
 .rw[gg];exact ho
 .exact ho
def gl{s:aw}{nm:ByteArray}(h:(kL s nm).2.2=0):bP s=0/\dX nm=true/\cV s≠1/\cV s≠2/\dq s.objs nm=true/\kL s nm=(dz s,if cV s=3 then ta (qf s.objs nm)else qf s.objs nm,0):=by
 unfold kL at h⊢
 by_cases h1:fU s (dX nm)=0
 .rw[if_neg (by simp[h1])]at h⊢
  by_cases h2:cV s=1
  .rw[if_pos h2]at h;simp at h
  rw[if_neg h2]at h⊢
  by_cases h3:cV s=2
  .rw[if_pos h3]at h;simp at h
  rw[if_neg h3]at h⊢
  cases h4:dq s.objs nm with
  |false=>rw[if_pos h4]at h;simp at h
  |true=>
   rw[if_neg (by simp)]
   exact⟨(qe h1).1,(qe h1).2,h2,h3,rfl,rfl⟩
 .rw[if_pos h1]at h;exact absurd h h1
def a6{s:aw}{c:Ca}{n:ByteArray}{p:Pc}(hz:(bQ s c n p).e=0):(d8 s c (dF n p.id) p.size).e=0/\¬na p (d8 s c (dF n p.id) p.size).b=false/\
  bQ s c n p=⟨(d8 s c (dF n p.id) p.size).s,if(d8 s c (dF n p.id) p.size).asked=true then iY (dF n p.id) 0 (fw 512 (d8 s c (dF n p.id) p.size).b) (d8 s c (dF n p.id) p.size).c else(d8 s c (dF n p.id) p.size).c,dw p.base (bk (d8 s c (dF n p.id) p.size).b),0⟩:=by
 unfold bQ at hz⊢
 generalize d8 s c (dF n p.id) p.size=a at*
 unfold ql at hz⊢
 by_cases h1:a.e=0
 .rw[if_neg (by simp[h1])]at hz⊢
  by_cases h2:na p a.b=false
  .rw[if_pos h2]at hz;simp at hz
  .rw[if_neg h2]
   exact⟨h1,h2,rfl⟩
 .rw[if_pos h1]at hz
  exact absurd hz h1
def gn{s:aw}{c:Ca}{n:ByteArray}{p:Pc}(hn:1<=(dF n p.id).size)(ho:dG c=0)(hz:(bQ s c n p).e=0):
  dG (bQ s c n p).c=0/\(bQ s c n p).c.cap=c.cap/\((bQ s c n p).s=s\/(bQ s c n p).s=dz s/\bP s=0)/\
  ((bQ s c n p).s.calls=s.calls\/p.size<=c.cap->∀s',∃d,bQ s' (bQ s c n p).c n p=⟨s',d,(bQ s c n p).l,0⟩):=by
 obtain⟨h1,h2,h3⟩:=a6 hz
 have ha:=a5 (dF n p.id) s (iw p.size) 0 c [] ho
 have Yz:l6 (dF n p.id) s (iw p.size) 0 c []=d8 s c (dF n p.id) p.size:=rfl
 rw[Yz]at ha
 rw[h3]
 clear Yz h3 hz
 generalize hA:d8 s c (dF n p.id) p.size=a at*
 clear hA
 obtain⟨a1,a2,a3⟩:=ha
 have hac:=bv ho a1 a2
 obtain⟨k1,k2,k3,k4,k5⟩:=FB h2
 have key:∀(D:Ca) (bs:List Bs),dG D=0->bs.length=iw p.size->bs.flatten=a.b->(∀j x,bs[j]?=some x->(⟨dF n p.id,((0+j:Nat):Int),x⟩:Hd)∈D.l)->∀s',∃d,bQ s' D n p=⟨s',d,dw p.base (bk a.b),0⟩:=by
  intro D bs hD hl hf hm s'
  obtain⟨d,d1,_,_⟩:=c7 (dF n p.id) s' bs 0 D [] hD hm
  refine⟨d,?_⟩
  unfold bQ d8
  rw[<-hl,d1,List.nil_append,hf]
  unfold ql
  rw[if_neg (by simp),if_neg h2,if_neg (by simp)]
 rcases a3 with⟨b1,b2,b3,bs,b4,b5,b6⟩|⟨b1,b2,b3,b4⟩
 .rw[if_neg (by simp[b1])]
  exact⟨hac,a1,.inl b2,fun _=>key a.c bs hac b4 (by rw[b6];rfl) (fun j x hj=>a2.mem_iff.2 (b5 j x hj))⟩
 .rw[b4]at h1
  obtain⟨g1,_,_,_,_,g2⟩:=gl h1
  rw[if_pos b1]
  have XJ:a.b.length<=8192:=by rw[b3];exact cb s _
  have hq:=b0 512 (by decide) (a.b.length+1) a.b (by omega)
  have hcn:(fw 512 a.b).length=iw p.size:=by
   rw[hq.2]
   unfold iw
   omega
  have Tk:(fw 512 a.b).length<=8192:=by rw[hq.2];omega
  obtain⟨p1,p2⟩:=dm _ hn (fw 512 a.b) 0 a.c hac (by omega)
  have hs:a.s=dz s:=by rw[b2,g2]
  refine⟨p1,p2.trans a1,.inr ⟨hs,g1⟩,fun hc=>?_⟩
  have hcap:p.size<=c.cap:=by
   rcases hc with hc|hc
   .simp only[hs,dz]at hc
    omega
   .exact hc
  obtain⟨q1,q2,_,q4⟩:=dl _ hn (fw 512 a.b) 0 a.c [] a.c.l hac rfl (by simp) (by omega) (by rw[hq.1];simp only[szN,aj4,List.sum_nil];omega)
  exact key _ _ q1 hcn hq.1 q4
def ea(l:Bs):∀(k a:Nat) (next:Int),∀q∈jX l k a next,next<=q.1.base/\di q.1=0
 |0,a,next=>by simp[jX]
 |k+1,a,next=>by
  unfold jX
  split
  .simp
  .rename_i h1
   simp only[Decidable.not_not]at h1
   obtain⟨b,q1,q2,q3,q4,_⟩:=DM h1
   split
   .simp
   .rename_i h2
    intro q hq
    rcases akc.1 hq with rfl|hq
    .exact⟨by simpa using h2,q4⟩
    .have ih:=ea l k _ _ q hq
     have:=DN q4
     exact⟨by omega,ih.2⟩
def go{s:aw}{c:Ca}{n:ByteArray}{p:Pc}(hz:(bQ s c n p).e=0):∀b∈(bQ s c n p).l,p.base<=b.base/\b.last<p.fin/\di b=0/\b.recs.length<=16:=by
 obtain⟨h1,h2,h3⟩:=a6 hz
 obtain⟨k1,k2,k3,k4,k5⟩:=FB h2
 rw[h3]
 intro b hb
 obtain⟨q,hq,rfl⟩:=ajI.1 hb
 obtain⟨e1,e2⟩:=ea _ _ _ _ q hq
 have:=List.any_eq_false.1 k5 q.1 (ajI.2 ⟨q,hq,rfl⟩)
 unfold gy at this
 exact⟨e1,by simpa using this,e2,(L2 hq).2⟩
def gu{next last en:Int}{op:Bool}{l:List Pc}(h:gP next last en op l=true):∀p∈l,0<=p.size/\p.size<=1099511627776:=by
 induction l generalizing last en op with
 |nil=>simp
 |cons q l ih=>
  have hq:dO q.size=false/\∃en' op',gP next q.id en' op' l=true:=by
   unfold gP at h
   repeat' split at h
   all_goals first|(exact absurd h (by decide))|exact⟨by simp_all,_,_,h⟩
  intro p hp
  rcases akc.1 hp with rfl|hp
  .have:=hq.1
   unfold dO at this
   simp only[Bool.or_eq_false_iff,decide_eq_false_iff_not]at this
   omega
  .obtain⟨e,o,h⟩:=hq.2
   exact ih h p hp
def ed{m:Mn}(h:bH m=0):m.l.length<=256/\∀p∈m.l,ON p:=by
 have hid:=gd h
 unfold bH at h
 repeat' split at h
 all_goals try(exact absurd h (by decide))
 rename_i h1 h2 h3 h4
 have hsz:=gu (l:=m.l) (last:= -1) (by simpa using h3)
 unfold dO at h2
 simp only[Bool.or_eq_true,akk,not_or]at h2
 refine⟨by omega,fun p hp=>⟨?_,hsz p hp⟩⟩
 have:=hid p hp
 omega
def ee{m:Mn}{off:Int}(h:(eQ m off).2=true):(eQ m off).1∈m.l:=by
 unfold eQ at h⊢
 split at h
 .cases h
 rename_i h1
 rw[if_neg h1]
 have:=lw (kH off) m.l
 have hi:(bf (kH off) m.l).toNat<m.l.length:=by omega
 simp only[ajq hi,Option.getD_some]
 exact akA hi
def cc{m:Mn}{s:aw}{c:Ca}{n:ByteArray}{p:Pc}(hm:bH m=0)(hs:bP s=0)(hc:dG c=0)(hn:n.size<=1000000)(hl:c.l.length<=1000)(hz:szN c.l<=30000)(hp:p∈m.l):kO s c n p 30000:=by
 obtain⟨g1,g2,_⟩:=lW hs
 have ha:=a5 (dF n p.id) s (iw p.size) 0 c [] hc
 have Yz:l6 (dF n p.id) s (iw p.size) 0 c []=d8 s c (dF n p.id) p.size:=rfl
 rw[Yz]at ha
 obtain⟨a1,a2,a3⟩:=ha
 have hb:∀h∈c.l,h.bytes.length<=30000:=fun h hh=>akf (a4 hh) hz
 refine⟨by omega,by omega,by omega,hb,by decide,?_,hn,(ed hm).2 p hp,?_,by rw[a2.length_eq];omega,fun h hh=>?_⟩
 .have:=ajZ 30000 (show c.l.length+1<=1001 by omega)
  omega
 .rcases a3 with⟨_,_,_,bs,_,b5,b6⟩|⟨_,_,b3,_⟩
  .rw[b6,List.nil_append]
   have:=fo b5
   omega
  .rw[b3]
   have:=cb s (dF n p.id)
   omega
 .have:=hb h (a2.mem_iff.1 hh)
  omega
def gv(c:Ca)(nm:ByteArray)(no:Int)(b:Bs):szN (gx c nm no b).1.l<=szN c.l+b.length:=by
 have hs:=asq (cN c.l ⟨nm,no⟩)
 unfold gx
 split
 .simp[fV,szN]
 split
 .simp[fV,szN]
 split
 .simp only;omega
 split
 .simp only[af];omega
 .have:=asq (List.take_sublist (gV c.cap 0 (⟨nm,no,b⟩::cP c.l ⟨nm,no⟩)).1.toNat (⟨nm,no,b⟩::cP c.l ⟨nm,no⟩))
  simp only[af]at this⊢
  omega
def ep(nm:ByteArray):∀(bs:List Bs) (i:Nat) (c:Ca),szN (iY nm i bs c).l<=szN c.l+bs.flatten.length
 |[],i,c=>by simp[iY]
 |x::bs,i,c=>by
  have h1:=ep nm bs (i+1) (gx c nm i x).1
  have h2:=gv c nm i x
  rw[iY,List.flatten_cons,ajB]
  omega
def g0{s:aw}{c:Ca}{n:ByteArray}{p:Pc}(ho:dG c=0)(hz:(bQ s c n p).e=0):(bQ s c n p).c.l.length<=c.l.length+20/\szN (bQ s c n p).c.l<=szN c.l+8192:=by
 obtain⟨h1,h2,h3⟩:=a6 hz
 have ha:=a5 (dF n p.id) s (iw p.size) 0 c [] ho
 have Yz:l6 (dF n p.id) s (iw p.size) 0 c []=d8 s c (dF n p.id) p.size:=rfl
 rw[Yz]at ha
 rw[h3]
 generalize d8 s c (dF n p.id) p.size=a at*
 obtain⟨a1,a2,a3⟩:=ha
 have e1:=a2.length_eq
 have e2:=cr a2
 rcases a3 with⟨b1,_⟩|⟨b1,b2,b3,b4⟩
 .rw[if_neg (by simp[b1])]
  exact⟨by simp only;omega,by simp only;omega⟩
 .rw[if_pos b1]
  have XJ:a.b.length<=8192:=by rw[b3];exact cb s _
  have hq:=b0 512 (by decide) (a.b.length+1) a.b (by omega)
  have h4:=du (dF n p.id) (fw 512 a.b) 0 a.c
  have h5:=ep (dF n p.id) (fw 512 a.b) 0 a.c
  rw[hq.1]at h5
  rw[hq.2]at h4
  exact⟨by simp only;omega,by simp only;omega⟩
theorem g6{m:Mn}{s:aw}{c:Ca}{n:ByteArray}{off:Int}(h:(kP m s c n off).e=0):ft n=0/\bH m=0/\bP s=0/\dG c=0/\(eQ m off).2=true/\kP m s c n off=bQ s c n (eQ m off).1:=by
 unfold kP at h⊢
 by_cases h1:dx [ft n,bH m,bP s,dG c]=0
 .rw[if_neg (by simp[h1])]at h⊢
  have hz:=xq h1
  simp only[akd]at hz
  have h2:fT (cJ m s c n off).e=true:=by
   cases hk:fT (cJ m s c n off).e with
   |true=>rfl
   |false=>
    rw[if_neg (by simp[hk])]at h
    simp only at h
    rw[h]at hk
    exact absurd hk (by decide)
  rw[if_pos h2]at h⊢
  unfold cJ at h⊢
  cases h3:(eQ m off).2 with
  |false=>rw[if_pos h3]at h;simp at h
  |true=>exact⟨hz.1,hz.2.1,hz.2.2.1,hz.2.2.2.1,rfl,by rw[if_neg (by simp)]⟩
 .rw[if_pos h1]at h
  exact absurd h h1
def g7{m:Mn}{s:aw}{c:Ca}{n:ByteArray}{off:Int}(h1:ft n=0)(h2:bH m=0)(h3:bP s=0)(h4:dG c=0)(h5:(eQ m off).2=true)(h6:fT (bQ s c n (eQ m off).1).e=true):kP m s c n off=bQ s c n (eQ m off).1:=by
 have hf:cJ m s c n off=bQ s c n (eQ m off).1:=by
  unfold cJ
  rw[if_neg (by simp[h5])]
 unfold kP
 rw[h1,h2,h3,h4,if_neg (by decide),hf,if_pos h6]
def g8(n:ByteArray)(i:Int):1<=(dF n i).size:=by
 unfold dF
 have:((n++⟨#[45]⟩)++oA i).data.toList.length=((n++⟨#[45]⟩)++oA i).size:=Array.length_toList
 rw[<-this]
 simp
 omega
def k8{m:Mn}{s:aw}{c:Ca}{n:ByteArray}{off:Int}(h:(kP m s c n off).e≠0):(kP m s c n off).l=[]:=by
 unfold kP at*
 split
 .rfl
 rename_i h1
 rw[if_neg h1]at h
 split
 .rename_i h2
  rw[if_pos h2]at h
  exact OU h
 .rfl
def hB{s:aw}{c:Ca}{n:ByteArray}{p:Pc}(hz:(bQ s c n p).e=0)(hb:(d8 s c (dF n p.id) p.size).b.length<=1000000):(bQ s c n p).l.length<=1000000:=by
 obtain⟨_,_,h3⟩:=a6 hz
 rw[h3]
 have:=pX p.base (bk (d8 s c (dF n p.id) p.size).b)
 have h4:(bk (d8 s c (dF n p.id) p.size).b).length<=(d8 s c (dF n p.id) p.size).b.length:=by simp[bk]
 simp only[dw,ajJ]
 omega
def hC{m:Mn}{s:aw}{c:Ca}{n:ByteArray}{off:Int}(hl:c.l.length<=60)(hz:szN c.l<=20000)(hn:n.size<=200)(h:(kP m s c n off).e=0):
  (eQ m off).2=true/\(∀b∈(kP m s c n off).l,(eQ m off).1.base<=b.base/\b.last<(eQ m off).1.fin/\di b=0/\b.recs.length<=16)/\dG (kP m s c n off).c=0/\(kP m s c n off).c.l.length<=100/\szN (kP m s c n off).c.l<=30000/\
  ((kP m s c n off).s.calls=s.calls\/(kP m s c n off).s.calls=s.calls+1)/\0<=s.calls/\s.calls<1099511627776/\ON (eQ m off).1/\(kP m s c n off).s.objs=s.objs/\(kP m s c n off).s.faults=s.faults/\(kP m s c n off).l.length<=1000000/\
  (¬((kP m s c n off).c.cap<gw (kP m s c n off).c.l+(eQ m off).1.size/\s.calls<(kP m s c n off).s.calls)->(kP m s c n off).s.calls<1099511627776->
   (kP m (kP m s c n off).s (kP m s c n off).c n off).e=0/\(kP m (kP m s c n off).s (kP m s c n off).c n off).s.calls=(kP m s c n off).s.calls/\(kP m (kP m s c n off).s (kP m s c n off).c n off).l=(kP m s c n off).l/\
   kO (kP m s c n off).s (kP m s c n off).c n (eQ m off).1 30000):=by
 obtain⟨e1,e2,e3,e4,e5,e6⟩:=g6 h
 rw[e6]at h⊢
 have hp:=ee e5
 generalize hpe:(eQ m off).1=p at*
 obtain⟨g1,g2,g3,g4⟩:=gn (g8 n p.id) e4 h
 obtain⟨z1,z2⟩:=g0 e4 h
 obtain⟨s1,s2,s3,s4,s5⟩:=lW e3
 have Ye:((bQ s c n p).s.calls=s.calls\/(bQ s c n p).s.calls=s.calls+1)/\(bQ s c n p).s.objs=s.objs/\(bQ s c n p).s.faults=s.faults:=by
  rcases g3 with h|⟨h,_⟩
  .exact⟨.inl (by rw[h]),by rw[h],by rw[h]⟩
  .exact⟨.inr (by rw[h];rfl),by rw[h];rfl,by rw[h];rfl⟩
 refine⟨e5,go h,g1,by omega,by omega,Ye.1,s3,s4,(ed e2).2 p hp,Ye.2.1,Ye.2.2,hB h (cc e2 e3 e4 (by omega) (by omega) (by omega) hp).hab,fun WE hmax=>?_⟩
 have YK:bP (bQ s c n p).s=0:=by
  rcases g3 with h|⟨h,_⟩
  .rw[h];exact e3
  .rw[h]at hmax⊢
   obtain⟨o1,o2,o3,o4,o5,o6⟩:=f6 e3
   exact f7 o1 o2 o3 (by simp only[dz];omega) hmax o6
 have hwhy:(bQ s c n p).s.calls=s.calls\/p.size<=c.cap:=by
  rcases Ye.1 with h|h
  .exact .inl h
  .right
   have h0:0<=gw (bQ s c n p).c.l:=by rw[ag];omega
   rw[g2]at WE
   have:=Classical.not_and_iff_not_or_not.1 WE
   omega
 obtain⟨d,hd⟩:=g4 hwhy (bQ s c n p).s
 have hf:kP m (bQ s c n p).s (bQ s c n p).c n off=⟨(bQ s c n p).s,d,(bQ s c n p).l,0⟩:=by
  rw[g7 e1 e2 YK g1 e5 (by rw[hpe,hd];rfl),hpe,hd]
 rw[hf]
 exact⟨rfl,rfl,rfl,cc e2 YK g1 (by omega) (by omega) (by omega) hp⟩
def hG{P:Program}{t:TypeId}(h:P.underlying t=some .bool)(d:Nat)(a b:Bool):aQ P (Op.equalIn (d+1) t (.bool a) (.bool b))=some (a==b):=by
 unfold Op.equalIn
 rw[eY,sM h]
 rfl
abbrev ad(r:fj):Array Value:=#[.int .i64 r.off,.string r.key,.string r.val,.bool r.dead,.int .i64 r.stamp]
def hH(r:fj):aQ Tryz.prog (Op.equal 239 (.agg (ad r)) (.agg (ad r)))=some true:=by
 have key:∀n,aQ Tryz.prog (Op.equalIn (n+1+1) 239 (.agg (ad r)) (.agg (ad r)))=some (r.off==r.off&&(r.key==r.key&&(r.val==r.val&&(r.dead==r.dead&&(r.stamp==r.stamp&&true))))):=by
  intro n
  refine D1 Tryz.underlying239 (by kernel_rfl) (fun f=>if f.offset=0 then .int .i64 r.off else if f.offset=1 then .string r.key else if f.offset=2 then .string r.val else if f.offset=3 then .bool r.dead else .int .i64 r.stamp)
   (fun f=>if f.offset=0 then .int .i64 r.off else if f.offset=1 then .string r.key else if f.offset=2 then .string r.val else if f.offset=3 then .bool r.dead else .int .i64 r.stamp)
   (fun f=>if f.offset=0 then r.off==r.off else if f.offset=1 then r.key==r.key else if f.offset=2 then r.val==r.val else if f.offset=3 then r.dead==r.dead else r.stamp==r.stamp) ?_
  intro f hf
  simp only[akc,List.mem_nil_iff,or_false]at hf
  rcases hf with rfl|rfl|rfl|rfl|rfl
  .exact⟨by decide,by kernel_rfl,by kernel_rfl,mY Tryz.underlying3 _ _ _⟩
  .exact⟨by decide,by kernel_rfl,by kernel_rfl,Ma Tryz.underlying9 _ _ _⟩
  .exact⟨by decide,by kernel_rfl,by kernel_rfl,Ma Tryz.underlying9 _ _ _⟩
  .exact⟨by decide,by kernel_rfl,by kernel_rfl,hG Tryz.underlying4 _ _ _⟩
  .exact⟨by decide,by kernel_rfl,by kernel_rfl,mY Tryz.underlying3 _ _ _⟩
 have hb:∀s:ByteArray,(s==s)=true:=fun s=>by
  show(s.data==s.data)=true
  simp
 have h2:aQ Tryz.prog (Op.equal 239 (.agg (ad r)) (.agg (ad r)))=some (r.off==r.off&&(r.key==r.key&&(r.val==r.val&&(r.dead==r.dead&&(r.stamp==r.stamp&&true))))):=key (Op.maxDepth-2)
 rw[h2,hb,hb]
 simp
def hI(x y:Operand)(p:fj):aX Tryz.prog .neq 239 x y (.t (recT p)) (.t (recT p))=val (tt false):=by
 have hq:Tryz.prog.eqGuardType Tryz.prog.depth 239=false:=by kernel_rfl
 have h:aX Tryz.prog .neq 239 x y (.t (recT p)) (.t (recT p))=bU (aQ Tryz.prog (do eqGuard .neq 239 x y (.agg (ad p)) (.agg (ad p));binOp .neq 239 (.agg (ad p)) (.agg (ad p)))):=rfl
 rw[h,eY]
 have hg:aQ Tryz.prog (eqGuard .neq 239 x y (.agg (ad p)) (.agg (ad p)))=some ():=by
  simp only[eqGuard,Bool.not_true,ajU,ajS]
  rw[eY,sL]
  simp only[ake]
  rw[eY,sL]
  simp only[ake,hq]
  rfl
 have hb:aQ Tryz.prog (binOp .neq 239 (.agg (ad p)) (.agg (ad p)))=some (.bool false):=by
  have e:binOp .neq 239 (.agg (ad p)) (.agg (ad p))=(do pure (.bool (!(<-Op.equal 239 (.agg (ad p)) (.agg (ad p)))))):=rfl
  rw[e,eY,hH]
  rfl
 rw[hg,ake,hb]
 rfl
def hJ(l:List fj)(hn:l.length<=1000000):aji 179 [.sl 5 (l.map recT),.sl 5 (l.map recT)] (tt true):=by
 refine pu eG rfl ?_
 simp[cp]
 skip
 refine ba (fun E=>∃i:Nat,i<=l.length/\E.tmps 13= .t (int i)/\E.tmps 12= .t (int l.length)/\E.tmps 0= .t (.sl 5 (l.map recT))/\E.tmps 1= .t (.sl 5 (l.map recT))) (fun E=>match E.tmps 13 with| .t (.v (.int _ i))=>l.length-i.toNat|_=>0) [] rfl ?_ ?_
 .refine⟨0,by omega,?_,?_,?_,?_⟩<;>simp
 rintro E1 ⟨i,hi,e13,e12,e0,e1⟩ hU hS A hA
 simp[*,cn]
 repeat'(first|simp[*]|(apply aN<;>intro h))
 .have hx:=ajq h
  obtain⟨x,Tm⟩:∃x,l[i]=x:=⟨_,rfl⟩
  rw[Tm]at hx
  have c1:=fun a b=>hI a b x
  have hw:IntKind.i64.wrap ((i:Int)+1)=((i+1:Nat):Int):=by rw[bx (by omega) (by omega)];omega
  repeat' simp[*,c1]
  refine hA _ (aH [] rfl rfl ⟨i+1,by omega,?_,?_,?_,?_⟩ ?_)
  all_goals simp[*]
  all_goals omega
 .skip
  all_goals exact au rfl
def hK(b:aF)(hn:b.recs.length<=1000000):aji 88 [aG b,aG b] (tt true):=by
 have c1:=hJ b.recs hn
 have hE:∀x y,aX Tryz.prog .eql 4 x y (.t (bo b.txn)) (.t (bo b.txn))=val (tt true):=fun x y=>by cases b.txn<;>kernel_rfl
 refine pu ey rfl ?_
 simp[cl]
 repeat'(first|simp[*]|apply aj|refine Up c1 rfl ?_)
 all_goals exact au rfl
def hL(l:List aF)(hn:l.length<=1000000)(hb:∀b∈l,b.recs.length<=1000000):aji 24 [kE l,kE l] (tt true):=by
 refine pu ex rfl ?_
 simp[ch]
 skip
 refine ba (fun E=>∃i:Nat,i<=l.length/\E.tmps 13= .t (int i)/\E.tmps 12= .t (int l.length)/\E.tmps 0= .t (kE l)/\E.tmps 1= .t (kE l)) (fun E=>match E.tmps 13 with| .t (.v (.int _ i))=>l.length-i.toNat|_=>0) [] rfl ?_ ?_
 .refine⟨0,by omega,?_,?_,?_,?_⟩<;>simp
 rintro E1 ⟨i,hi,e13,e12,e0,e1⟩ hU hS A hA
 simp[*,ce]
 repeat'(first|simp[*]|(apply aN<;>intro h))
 .have hx:=ajq h
  obtain⟨x,Tm⟩:∃x,l[i]=x:=⟨_,rfl⟩
  rw[Tm]at hx
  have c1:=hK x (hb x (ajx hx))
  have hw:IntKind.i64.wrap ((i:Int)+1)=((i+1:Nat):Int):=by rw[bx (by omega) (by omega)];omega
  repeat'(first|simp[*]|refine Up c1 rfl ?_)
  refine hA _ (aH [] rfl rfl ⟨i+1,by omega,?_,?_,?_,?_⟩ ?_)
  all_goals simp[*]
  all_goals omega
 .skip
  all_goals exact au rfl
def er(l:List Hd)(hb:∀h∈l,h.bytes.length<=140737488355328):∀i,i<=l.length->0<=gw (l.take i)/\gw (l.take i)<=140737488355328*i
 |0,_=>by simp[gw]
 |i+1,hi=>by
  have hx:=ajq (show i<l.length by omega)
  have ih:=er l hb i (by omega)
  have:=hb _ (ajx hx)
  rw[fO hx,EH]
  omega
def hN(l:List Hd)(hl:l.length<=60)(hb:∀h∈l,h.bytes.length<=140737488355328):aji 110 [.sl 3 (l.map br)] (.t (int (gw l))):=by
 refine pu KB rfl ?_
 simp[Ch]
 refine ba (fun E=>∃i:Nat,i<=l.length/\E.tmps 6= .t (.sl 3 (l.map br))/\E.tmps 7= .t (int l.length)/\E.tmps 8= .t (int i)/\E.tmps 3= .t (int (gw (l.take i)))) (fun E=>match E.tmps 8 with| .t (.v (.int _ i))=>l.length-i.toNat|_=>0) [] rfl ?_ ?_
 .refine⟨0,by omega,?_,?_,?_,?_⟩<;>simp[gw]
 rintro E1 ⟨i,hi,e6,e7,e8,e3⟩ hU hS A hA
 have hsz:=er l hb i hi
 simp[Cg,e7,e8]
 refine aN (fun h=>?_) (fun h=>?_)
 .have hx:=ajq h
  obtain⟨x,Tm⟩:∃x,l[i]=x:=⟨_,rfl⟩
  rw[Tm]at hx
  have VT:gw (l.take (i+1))=gw (l.take i)+x.bytes.length:=by rw[fO hx,EH]
  have hxb:=hb x (ajx hx)
  generalize gw (l.take i)=n at*
  have hw:IntKind.i64.wrap (n+x.bytes.length)=n+x.bytes.length:=bx (by omega) (by omega)
  have Ui:IntKind.i64.wrap ((i:Int)+1)=((i+1:Nat):Int):=by rw[bx (by omega) (by omega)];omega
  repeat' simp[*]
  refine hA _ (aH [] rfl rfl ⟨i+1,by omega,?_,?_,?_,?_⟩ ?_)<;>first|(simp[*];done)|(simp[e8];omega)
 .have:i=l.length:=by omega
  subst this
  rw[akg]at e3
  repeat' simp[*]
  exact au rfl
def aP(c:Ca):Bool:=decide (c.l.length<=60)&&decide (gw c.l<=20000)
def hO(c:Ca)(hb:∀h∈c.l,h.bytes.length<=140737488355328):aji 41 [dr c] (.t (bo (aP c))):=by
 unfold aP
 have hs:((c.l.length:Int)<=60)↔c.l.length<=60:=by omega
 by_cases hl:c.l.length<=60
 .have c1:=hN c.l hl hb
  refine pu J9 rfl ?_
  simp[BG]
  repeat'(first|simp[*]|apply aj|refine Up c1 rfl ?_)
  all_goals exact au rfl
 .refine pu J9 rfl ?_
  simp[BG]
  repeat'(first|simp[*]|apply aj)
  all_goals exact au rfl
def a7:Lg:=⟨0,0,[]⟩
def aR(m:Mn)(s:aw)(c:Ca)(n:ByteArray):Bool:=qq m&&(kR s&&(aP c&&decide (n.size<=200)))
def hP:aE (.agg [int 0,int 0,.e0]) (aO a7):=aE.aggL ⟨.rfl,.rfl,.nil,trivial⟩
def hQ(m:Mn)(s:aw)(c:Ca)(n:ByteArray)(hb:∀h∈c.l,h.bytes.length<=140737488355328):aji 10 [aO a7,bh m,bi s,dr c,str n] (.t (bo (aR m s c n))):=by
 have c1:=Qr a7
 have c2:=Qs m
 have c3:=Qt s
 have c4:=hO c hb
 rw[show jt a7=true from rfl]at c1
 unfold aR
 generalize qq m=b2 at*
 generalize kR s=b3 at*
 generalize aP c=b4 at*
 have hs:((n.size:Int)<=200)↔n.size<=200:=by omega
 cases b2<;>cases b3<;>cases b4
 all_goals
  refine pu JY rfl ?_
  simp[Bm]
  repeat'(first|simp[*]|apply aj|refine Up c1 rfl ?_|refine Up c2 rfl ?_|refine Up c3 rfl ?_|refine Up c4 rfl ?_)
  all_goals exact au rfl
def hR{m:Mn}{s:aw}{c:Ca}{n:ByteArray}(h:aR m s c n=true):m.l.length<=300/\c.l.length<=60/\szN c.l<=20000/\n.size<=200:=by
 unfold aR qq aP at h
 simp only[ajT,akk]at h
 obtain⟨f1,_,⟨f3,f4⟩,f5⟩:=h
 rw[ag]at f4
 exact⟨f1,f3,by omega,f5⟩
end
section
open Go.RowKit Go.ChangeShapes Go.WideShapes Go.Deep Go.Proofs
section
variable{H:Type}{enc:TypeId×Value->H}{w:World}{base:Nat}
abbrev a8:List Sh:=[.str,fx,xQ]
def hX:jd Tryz.prog 20 36=some [fx,.sl true a8]:=by kernel_rfl
def hY(cs:List ab)(h0:cs.length=a8.length)(h:∀(j:Nat) (s:Sh) (c:ab),a8[j]?=some s->cs[j]?=some c->cU s c):∃x:Hd,.agg cs=br x:=by
 obtain⟨a,b,c,rfl⟩:=xS h0
 obtain⟨a',rfl⟩:=(h 0 _ _ rfl rfl).str_inv
 obtain⟨b',rfl⟩:=(h 1 _ _ rfl rfl).int_inv
 obtain⟨c',rfl⟩:=(h 2 _ _ rfl rfl).by_inv
 exact⟨⟨a',b',c'⟩,rfl⟩
def h7{v:Value}{d:DataW H}{p:List MemPlace}(hv:Value.okWide Tryz.prog w .any base 36 v)(h:DataW.Trod enc Tryz.prog w 0 (fun _=>true) true 36 v d p):∃c:Ca,aM w (fun _=>False) v (dr c):=by
 obtain⟨ts,h1,h2,h3⟩:=xT (P:=Tryz.prog) (t:=36) (shs:=[fx,.sl true a8]) (base:=base) (v:=v) Tryz.underlying36 hX hv h
 obtain⟨a,b,rfl⟩:=xR h1
 obtain⟨a',rfl⟩:=(h2 0 _ _ rfl rfl).int_inv
 obtain⟨l,rfl⟩:=(h2 1 _ _ rfl rfl).sl_inv hY
 exact⟨⟨a',l⟩,h3⟩
def ev{P:Program}{e:TypeId}:∀{l:List (DataW H)} {d:DataW H},d∈l->∀n∈d.weights P e,n∈DataW.weightsAll P e l
 |x::l,d,hd,n,hn=>by
  rw[DataW.weightsAll,ajG]
  rcases akc.1 hd with rfl|hd
  .exact .inl hn
  .exact .inr (ev hd n hn)
def ie:Tryz.prog.cellsOf 34=1:=by kernel_rfl
def it:Tryz.prog.cellsOf 59=1:=by kernel_rfl
def iv:Tryz.prog.cellsOf 136=3:=by kernel_rfl
def ix:Tryz.prog.bytesOf 5=1:=by kernel_rfl
def i0{v:Value}{n:Nat}{x:DataW H×List MemPlace}{l:Bs}(h:DataW.trod enc Tryz.prog w 0 (fun _=>true) true n 59 [v]=some x)(hr:aM w (fun _=>False) v (aS l))(hw:∀k∈x.1.weights Tryz.prog 59,k<=reachBytes):l.length<=140737488355328:=by
 obtain⟨ts,V9⟩:∃ts,ts=l.map aC:=⟨_,rfl⟩
 have Tk:ts.length=l.length:=by rw[V9,ajJ]
 have hr:aM w (fun _=>False) v (.sl 1 (l.map aC)):=hr
 rw[<-V9]at hr
 cases hr with
 |sl0=>simp at Tk;omega
 |sl u hM hb hn hc hm hu h1 h2=>
  rcases open_slice Tryz.underlying59 h with⟨hv,_⟩|⟨a,len,cap,m,n',D,Pl,hv,hb,XB,V0,Vu,hxx,hi⟩
  .simp at hv
  .simp only[List.cons.injEq,Value.slice.injEq,and_true]at hv
   subst hxx
   have h3:=hw (((List.range len).map D).length+((List.range (m-len)).map fun j=>D (len+j)).length*1) (by
    simp only[DataW.weights,Tryz.underlying59,ix]
    simp)
   simp only[ajJ,List.length_range]at h3
   have:reachBytes<=140737488355328:=by decide
   omega
def i1{v:Value}{d:DataW H}{p:List MemPlace}{c:Ca}(h:DataW.Trod enc Tryz.prog w 0 (fun _=>true) true 36 v d p)(hr:aM w (fun _=>False) v (dr c))(hw:∀n∈d.weights Tryz.prog 36,n<=reachBytes):∀x∈c.l,x.bytes.length<=140737488355328:=by
 obtain⟨fuel,h⟩:=h
 obtain⟨T,hT⟩:∃T,T=[int c.cap,.sl 3 (c.l.map br)]:=⟨_,rfl⟩
 have hr:aM w (fun _=>False) v (.agg [int c.cap,.sl 3 (c.l.map br)]):=hr
 rw[<-hT]at hr
 cases hr with
 |agg hl h1 Tn=>
 rename_i vs
 subst hT
 match vs,hl with
 |[v0,v1],_=>
 have r1:=Tn 1 v1 _ rfl rfl
 have h:DataW.trod enc Tryz.prog w 0 (fun _=>true) true fuel 36 [v0,v1]=some (d,p):=h
 obtain⟨xs,n,rfl,hx,TA,VR,hf⟩:=DataW.trod_struct Tryz.underlying36 h
 have f1:DataW.trod enc Tryz.prog w 0 (fun _=>true) true n 34 (([v0,v1].drop 1).take (Tryz.prog.cellsOf 34))=xs[1]?:=hf 1 _ rfl
 have VR:xs.length=2:=VR
 obtain⟨x1,hx1⟩:∃x1,xs[1]?=some x1:=⟨_,ajq (by omega)⟩
 rw[hx1,ie]at f1
 have f1:DataW.trod enc Tryz.prog w 0 (fun _=>true) true n 34 [v1]=some x1:=f1
 have hwe:∀k∈x1.1.weights Tryz.prog 34,k<=reachBytes:=by
  intro k hk
  refine hw k ?_
  have hd:d= .agg (xs.map (·.1)):=congrArg Prod.fst hx
  rw[hd]
  simp only[DataW.weights,Tryz.underlying36]
  exact DataW.weights_mem_each (j:=1) rfl (by rw[ajw,hx1];rfl) k hk
 obtain⟨ts,V9⟩:∃ts,ts=c.l.map br:=⟨_,rfl⟩
 rw[<-V9]at r1
 intro y hy
 cases r1 with
 |sl0=>
  have:=List.map_eq_nil_iff.1 V9.symm
  rw[this]at hy
  cases hy
 |sl u hM hb hn hc hm hu h2 h3=>
  rcases open_slice Tryz.underlying34 f1 with⟨hv,_⟩|⟨a,len,cap,m,n',D,Pl,hv,hb,XB,V0,Vu,hxx,hi⟩
  .simp at hv
  .simp only[List.cons.injEq,Value.slice.injEq,and_true,ajr]at hv
   obtain⟨hva,W6,_⟩:=hv
   obtain⟨k,hk,rfl⟩:=ajL hy
   have hkt:ts[k]?=some (br c.l[k]):=by rw[V9,ajw,ajq hk];rfl
   have U6:k<len:=by
    rw[<-W6,V9,ajJ]
    exact hk
   have hkm:k<m:=by rw[Vu];split<;>omega
   obtain⟨cs',e1,e2⟩:=hi k hkm
   obtain⟨_,e3,e4⟩:=World.cells?_some e1
   rw[iv]at e3 e4
   obtain⟨ys,n2,_,hyx,_,X6,hyf⟩:=DataW.trod_struct Tryz.underlying136 e2
   match cs',e3 with
   |[c0,c1,c2],_=>
   have g2:DataW.trod enc Tryz.prog w 0 (fun _=>true) true n2 59 (([c0,c1,c2].drop 2).take (Tryz.prog.cellsOf 59))=ys[2]?:=hyf 2 _ rfl
   have X6:ys.length=3:=X6
   obtain⟨y2,hy2⟩:∃y2,ys[2]?=some y2:=⟨_,ajq (by omega)⟩
   rw[hy2,it]at g2
   have g2:DataW.trod enc Tryz.prog w 0 (fun _=>true) true n2 59 [c2]=some y2:=g2
   have q1:=hu k _ 2 (aS c.l[k].bytes) hkt rfl
   have q2:=h3 k _ 2 (aS c.l[k].bytes) hkt rfl
   have q3:=e4 2 (by omega)
   rw[<-hva,addr_add,addr_add,q1]at q3
   have q3:u k 2=c2:=by simpa using q3
   rw[q3]at q2
   refine i0 g2 q2 fun j hj=>hwe j ?_
   subst hxx
   simp only[DataW.weights,Tryz.underlying34,akc,ajG]
   right
   left
   refine ev (d:=D k) (ajI.2 ⟨k,List.mem_range.2 U6,rfl⟩) j ?_
   have hD:D k= .agg (ys.map (·.1)):=congrArg Prod.fst hyx
   rw[hD]
   simp only[DataW.weights,Tryz.underlying136]
   exact DataW.weights_mem_each (j:=2) rfl (by rw[ajw,hy2];rfl) j hj
end
end
section
open Go.RowKit Go.Proofs Go.Lib Go.Wm
def h8(m:Mn)(s:aw)(c:Ca)(n:ByteArray)(off:Int)(hb:∀h∈c.l,h.bytes.length<=140737488355328):aji 8 [bh m,bi s,dr c,str n,int off] (tt true):=by
 have c0:=h9
 have cF:=nS (ts':=[.agg [int 0,int 0,.e0],bh m,bi s,dr c,str n]) (hQ m s c n hb) ⟨hP,.rfl,.rfl,.rfl,.rfl,trivial⟩
 cases hf:aR m s c n with
 |false=>
  rw[hf]at cF
  refine pu laq rfl ?_
  simp[k9q]
  repeat'(first|simp[*]|refine Up c0 rfl ?_|(refine UV (F:=[]) cF rfl ?_ ?_;(· simp[*])))
  exact au rfl
 |true=>
 rw[hf]at cF
 obtain⟨f1,f2,f3,f4⟩:=hR hf
 have c1:=OW m s c n off 30000 (by omega) (by omega) (fun h hh=>by have:=a4 hh;omega) (fun hc hat=>by
  have hz:=xq hc
  simp only[akd]at hz
  exact cc hz.2.1 hz.2.2.1 hz.2.2.2.1 (by omega) (by omega) (by omega) (ee hat))
 have TK:=@k8 m s c n off
 have hlaw:=fun h=>hC (m:=m) (s:=s) (c:=c) (n:=n) (off:=off) f2 f3 f4 h
 generalize kP m s c n off=R at*
 by_cases he:R.e=0
 .obtain⟨w1,w2,w3,w4,w5,w6,w7,w8,w9,w10,w11,w12,w13⟩:=hlaw he
  have c2:=D0 m off (by omega)
  rw[w1]at c2
  have c4:=e9 R.c (by omega) (fun h hh=>by have:=a4 hh;omega)
  rw[w3]at c4
  simp only[ne_eq,akB,ajS]at c4
  have hsz:0<=gw R.c.l/\gw R.c.l<=30000:=by rw[ag];omega
  have hq:=w9.size
  have c6:=hL R.l w12 (fun b hb=>by have:=(w2 b hb).2.2.2;omega)
  rw[he]at c1
  have c5:¬(R.c.cap<gw R.c.l+(eQ m off).1.size/\s.calls<R.s.calls)->R.s.calls<1099511627776->aji 20 [bh m,bi R.s,dr R.c,str n,int off] (.tup [.t (kE R.l),.t (bi (kP m R.s R.c n off).s),.t (dr (kP m R.s R.c n off).c),.t (int 0)])/\(kP m R.s R.c n off).s.calls=R.s.calls:=by
   intro q1 q2
   obtain⟨v1,v2,v3,v4⟩:=w13 q1 q2
   have c5:=OW m R.s R.c n off 30000 (by omega) (by omega) (fun h hh=>by have:=a4 hh;omega) (fun _ _=>v4)
   rw[v1,v3]at c5
   exact⟨c5,v2⟩
  clear w13 hlaw TK
  generalize kP m R.s R.c n off=R2 at*
  generalize(eQ m off).1=p at*
  have hw3:IntKind.i64.wrap (gw R.c.l+p.size)=gw R.c.l+p.size:=bx (by omega) (by omega)
  have hw4:IntKind.i64.wrap (s.calls+1)=s.calls+1:=bx (by omega) (by omega)
  have k1:¬R.s.calls<s.calls:=by omega
  have k2:¬s.calls+1<R.s.calls:=by omega
  refine pu laq rfl ?_
  simp[k9q]
  repeat'(first|simp[*]|apply aj|refine Up c0 rfl ?_|(refine UV (F:=[]) cF rfl ?_ ?_;(· simp[*]))|refine Up c1 rfl ?_|refine Up c2 rfl ?_)
  refine ba (fun E=>∃i:Nat,i<=R.l.length/\E.tmps 18= .t (int i)/\E.tmps 3= .t (str n)/\E.tmps 4= .t (int off)/\E.tmps 11=tt true/\E.tmps 12= .t (kE R.l)/\E.tmps 5= .ptr (.head 1 0) 0 0/\E.tmps 6= .ptr (.head 1 1) 0 0/\E.tmps 13= .ptr (.head 1 2) 0 0/\E.tmps 14= .ptr (.head 1 3) 0 0/\E.tmps 16= .ptr (.head 1 4) 0 0/\E.slots (.head 1 0)=some (bp m)/\E.slots (.head 1 1)=some (bA s)/\E.slots (.head 1 2)=some (bA R.s)/\E.slots (.head 1 3)=some (.box 36 (.t (dr R.c)) false)/\E.slots (.head 1 4)=some (eS p)) (fun E=>match E.tmps 18 with| .t (.v (.int _ i))=>R.l.length-i.toNat|_=>0) [(.loc 5 0,.head 1 0),(.loc 6 0,.head 1 1),(.loc 13 0,.head 1 2),(.loc 14 0,.head 1 3),(.loc 16 0,.head 1 4)] rfl ?_ ?_
  .refine⟨0,by omega,?_,?_,?_,?_,?_,?_,?_,?_,?_,?_,?_,?_,?_,?_,?_⟩<;>simp
  rintro E1 ⟨i,hi,Ue,e3,e4,Wd,e12,e5,e6,e13,YY,Wg,s0,s1,s2,s3,s4⟩ hU hS A hA
  by_cases h:i<R.l.length
  .have hx:=ajq h
   obtain⟨b,XZ⟩:∃b,R.l[i]=b:=⟨_,rfl⟩
   rw[XZ]at hx
   obtain⟨b1,b2,b3,b4⟩:=w2 b (ajx hx)
   have d1:=wG b (by omega)
   rw[b3]at d1
   have hw:IntKind.i64.wrap ((i:Int)+1)=((i+1:Nat):Int):=by rw[bx (by omega) (by omega)];omega
   have h':(i:Int)<R.l.length:=by omega
   have n1:¬b.base<p.base:=by omega
   have n2:¬p.fin<=b.last:=by omega
   simp[a9,Ue,e12]
   repeat'(first|simp[*,s0,s1,s2,s3,s4,h]|apply aj|refine Up d1 rfl ?_)
   refine hA _ (aH [(.head 1 0,.head 1 0),(.head 1 1,.head 1 1),(.head 1 2,.head 1 2),(.head 1 3,.head 1 3),(.head 1 4,.head 1 4)] rfl rfl ⟨i+1,by omega,?_,?_,?_,?_,?_,?_,?_,?_,?_,?_,?_,?_,?_,?_,?_⟩ ?_)
   all_goals simp[*,s0,s1,s2,s3,s4]
   all_goals omega
  .have TC:i=R.l.length:=by omega
   subst TC
   simp[a9,Ue,e12]
   by_cases g1:R.c.cap<gw R.c.l+p.size
   .by_cases g2:s.calls<R.s.calls
    .repeat'(first|simp[*,s0,s1,s2,s3,s4]|apply aj|refine Up c4 rfl ?_)
     exact au rfl
    .by_cases g3:1099511627776<=R.s.calls
     .repeat'(first|simp[*,s0,s1,s2,s3,s4]|apply aj|refine Up c4 rfl ?_)
      exact au rfl
     .obtain⟨c5,v2⟩:=c5 (fun h=>g2 h.2) (by omega)
      repeat'(first|simp[*,s0,s1,s2,s3,s4]|apply aj|refine Up c4 rfl ?_|refine Up c5 rfl ?_|refine Up c6 rfl ?_)
      exact au rfl
   .by_cases g3:1099511627776<=R.s.calls
    .repeat'(first|simp[*,s0,s1,s2,s3,s4]|apply aj|refine Up c4 rfl ?_)
     exact au rfl
    .obtain⟨c5,v2⟩:=c5 (fun h=>g1 h.1) (by omega)
     repeat'(first|simp[*,s0,s1,s2,s3,s4]|apply aj|refine Up c4 rfl ?_|refine Up c5 rfl ?_|refine Up c6 rfl ?_)
     exact au rfl
 .rw[TK he]at c1
  refine pu laq rfl ?_
  simp[k9q]
  repeat'(first|simp[*]|apply aj|refine Up c0 rfl ?_|(refine UV (F:=[]) cF rfl ?_ ?_;(· simp[*]))|refine Up c1 rfl ?_)
  exact au rfl
end
end Go.Wt
namespace Go.Proofs.YteaimhlobmaghaaGreatDoor
open Go.ChangeShapes Go.WideShapes Go.ChangeAt Go.RowKit Go.Wt
def i2(os:Os)(started:os.Started)(H:Type)(enc:TypeId×Value->H):
  ReturnsInHanded {} Tryz.checked os 8 .any (fun w args=>(Rows.tierOnceSpec.pre enc Tryz.prog Tryz.f8 [] false w args/\laidMetH Tryz.prog qr w)/\sizedMet enc Tryz.prog Tryz.f8 (OpenSpec.ofChange Rows.tierOnceSpec) false w args)
   (Rows.tierOnceSpec.post enc Tryz.prog Tryz.f8 false true false false):=by
 refine returnsInHanded_of_change_and (C:=Tryz.checked) (X:=fun w _=>laidMetH Tryz.prog qr w) (fun _ _ _ hh h=>h.of_heap hh) Tryz.own started (by kernel_rfl) Tryz.func8
  (ChangeSpec.witness_shaped (enc:=enc) (C:=Tryz.checked) (os:=os) (X:=fun w _=>laidMetH Tryz.prog qr w) false (World.doorLaid Tryz.prog 600 os) #[.agg #[.int .i64 0,.int .i64 0,.slice none 0 0],.agg #[.slice none 0 0,.int .i64 0,.slice none 0 0],.agg #[.int .i64 0,.slice none 0 0],.string ⟨#[]⟩,.int .i64 0] 8 rfl (World.shaped_of_RefB (by kernel_rfl) (by kernel_rfl)) (by kernel_rfl) (by kernel_rfl) (by kernel_rfl) (Q7 os _)) ?_
 intro W base args ds gs before hval0 hW _ hwt hlaid _
 have hval:∀(j:Nat) t v,Tryz.f8.params[j]?=some t->args[j]?=some v->Value.okWide Tryz.prog W .any base t v:=hval0
 have hW':=hW
 obtain⟨p,q,hA0,hV,rfl,_,_⟩:=hW
 have hA:DataW.TrodAll enc Tryz.prog W 0 (fun _=>true) true Tryz.f8.params.toList args.toList ds p:=hA0
 rw[Tryz.params8]at hA hval
 obtain⟨rfl,rfl⟩:=trodVars_none hV
 clear hA0 hval0
 simp only[List.append_nil]at hW'
 have hlt:∀x∈p,x.block<W.heap.size:=fun x hx=>by simpa using hW'.lt x hx
 have hAk:=hA
 obtain⟨v0,v1,v2,v3,v4,d0,d1,d2,d3,d4,p0,p1,p2,p3,p4,rfl,rfl,rfl,t0,t1,t2,t3,t4⟩:=QU hA
 obtain⟨m,r0⟩:=QQ (hval 0 27 v0 rfl rfl) t0
 obtain⟨s,r1⟩:=QR (hval 1 31 v1 rfl rfl) t1
 obtain⟨c,r2⟩:=h7 (hval 2 36 v2 rfl rfl) t2
 obtain⟨n,rfl⟩:=okWide_string Tryz.underlying9 (hval 3 9 v3 rfl rfl)
 obtain⟨k,rfl,rfl,rfl,_⟩:=open_int Tryz.underlying3 (hval 4 3 v4 rfl rfl) t4
 have hcz:=i1 t2 r2 (fun x hx=>by
  have:=List.all_eq_true.1 hwt x (DataW.weights_mem_each (j:=2) rfl rfl x hx)
  simpa using this)
 refine(QS (Go.Wt.h8 m s c n k hcz) (Q6 hlaid) (vs:=[v0,v1,v2,.string n,.int .i64 k]) rfl (fun j v t hv ht=>?_)).mono fun e W' ⟨v,he,hb,M',hr⟩=>?_
 .match j,hv,ht with
  |0,hv,ht=>cases hv;cases ht;exact r0
  |1,hv,ht=>cases hv;cases ht;exact r1
  |2,hv,ht=>cases hv;cases ht;exact r2
  |3,hv,ht=>cases hv;cases ht;exact .v rfl
  |4,hv,ht=>cases hv;cases ht;exact .v rfl
  |j+5,hv,_=>cases hv
 have hv:v= .bool true:=by cases hr;rfl
 subst he
 subst hv
 refine⟨_,rfl,_,_,_,[],_,[],hW',?_,F7 Tryz.laidOut hb ?_ hAk hlt,rfl,hb.frame _,fun h=>by cases h⟩
 .exact trodAll_mk1 (shut_bool Tryz.underlying4 true)
 .exact QT (by kernel_rfl)
def j0:(Rows.tierOnceRow.inPlace==Tryz.prog.inPlace 8)=true:=by kernel_rfl
def kk:(Rows.tierOnceRow.unfollowed==Tryz.prog.unfollowed 8)=true:=by kernel_rfl
def kn:(Rows.tierOnceRow.recurses==Tryz.prog.recurses 8)=true:=by kernel_rfl
def ks:(Rows.tierOnceRow.named==Tryz.prog.varsNamed 8)=true:=by kernel_rfl
def kt:joinedFacts Tryz.prog 8 Tryz.f8 Rows.tierOnceSpec Rows.tierOnceRow=true:=by
 unfold joinedFacts
 rw[j0,kk,kn,ks]
 kernel_rfl
def ku:Rows.TierOnceSaid:=
 OpenClaim.holds_of_wide 8 Tryz.f8 rfl rfl rfl rfl rfl rfl rfl ⟨rfl,rfl,rfl,rfl,rfl⟩ rfl rfl rfl rfl rfl (by kernel_rfl) Tryz.func8 kt
  (of_decide_eq_true (by kernel_rfl)) (by unfold Func.isWrapper;first|(rw[if_pos (by decide+kernel)];kernel_rfl)|(rw[if_neg (by decide+kernel)];exact⟨rfl,rfl⟩))
  (fun os started H enc _=>i2 os started H enc)
end Go.Proofs.YteaimhlobmaghaaGreatDoor
namespace Go.Proofs.YteaimhlobmaghaaGreatDoor
open Go.ChangeShapes Go.WideShapes Go.ChangeAt Go.RowKit Go.Wt
def kv:Tryz.prog.wantsStandIn 36=false:=by kernel_rfl
def k0:Tryz.prog.funcNamed "watermeet/watermeetlaw17.TierOnce" =some 8:=by kernel_rfl
def k6:Rows.tierOnceRow.wfByText (OpenSpec.ofChange Rows.tierOnceSpec)=true:=by kernel_rfl
def k7:false=Rows.tierOnceRow.goesBy Tryz.pinned.checked.prog:=by kernel_rfl
theorem once_holds:Rows.TierOnceCardSaid:=
 Claim7.holds_tied_plain_at .later [] [.data,.data,.data,.sentinel,.sentinel,.widerDeep] true (true, "2f5f6f0e45d0dc822afc7999807d6c879bedb5611b72a16918e454af4e0011be") true
  ku (fun _ h=>by cases h) k6 (fun _ h=>by cases h) tierOnce_row_tie rfl ⟨rfl,rfl⟩ z_main rfl
  (fun f fn hf hfn=>by
   obtain rfl:f=8:=Option.some.inj (k0.symm.trans hf)|>.symm
   obtain rfl:fn=Tryz.f8:=(Option.some.inj (Tryz.func8.symm.trans hfn)).symm
   exact⟨z_looks,fun j t ht=>by
    rw[Tryz.params8]at ht
    match j,ht with
    |0,ht=>cases ht;exact z_w27
    |1,ht=>cases ht;exact z_w31
    |2,ht=>cases ht;exact kv
    |3,ht=>cases ht;exact z_w9
    |4,ht=>cases ht;exact z_w3
    |j+5,ht=>simp at ht⟩)
  k7
#print axioms once_holds
end Go.Proofs.YteaimhlobmaghaaGreatDoor
