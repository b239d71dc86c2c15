/- TierSpoilt holds: an object that is spoilt by one byte tells nothing, and leaves nothing in the cache. No condition beside the row's own (what start-up laid). -/
import Derived.Lib.AtoiTie
import Derived.Lib.EndianBits
import Derived.Sort.Walk0
import Derived.Test.YteaimhlobmaghaaGreatDoorCards
import Derived.Test.YteaimhlobmaghaaGreatDoorP25
import Derived.Test.YteaimhlobmaghaaGreatDoorProg
import Derived.Test.YteaimhlobmaghaaGreatDoorTie
set_option linter.all false
set_option maxRecDepth 10000000
set_option maxHeartbeats 0
namespace Go.Wm
theorem crcFrom_cons(v:Nat)(c:UInt8)(l:List UInt8):crcFrom v (c::l)=crcFrom (cbyte v c) l:=rfl
def cstep_zero{v:Nat}(h:v<4294967296)(h0:cstep v=0):v=0:=by
 unfold cstep at h0
 split at h0
 .have:v/2=poly:=xor_zero h0
  unfold poly at this
  omega
 .omega
def csteps_zero:∀n v,v<4294967296->csteps n v=0->v=0
 |0,_,_,h=>h
 |n+1,_,h,h0=>cstep_zero h (csteps_zero n _ (cstep_lt h) h0)
def csteps_inj{n a b:Nat}(ha:a<4294967296)(hb:b<4294967296)(h:csteps n a=csteps n b):a=b:=by
 have:csteps n (a^^^b)=0:=by rw[csteps_xor,h,Nat.xor_self]
 exact xor_zero (csteps_zero n _ (xor_lt32 ha hb) this)
def cbyte_inj{a b:Nat}(ha:a<4294967296)(hb:b<4294967296){x y:UInt8}(h:cbyte a x=cbyte b y):a^^^x.toNat=b^^^y.toNat:=
 csteps_inj (xor_lt32 ha (byte_lt32 x)) (xor_lt32 hb (byte_lt32 y)) h
def crcFrom_inj:∀(l:List UInt8) {a b:Nat},a<4294967296->b<4294967296->crcFrom a l=crcFrom b l->a=b
 |[],_,_,_,_,h=>h
 |c::l,a,b,ha,hb,h=>by
  have h2:=cbyte_inj ha hb (crcFrom_inj l (cbyte_lt ha c) (cbyte_lt hb c) h)
  have h3:(a^^^c.toNat)^^^c.toNat=(b^^^c.toNat)^^^c.toNat:=by rw[h2]
  simpa[Nat.xor_assoc]using h3
def crcOf_other(l m:List UInt8){x y:UInt8}(h:x≠y):crcOf (l++x::m)≠crcOf (l++y::m):=by
 intro e
 have e1:(crcOf (l++x::m))^^^ones=(crcOf (l++y::m))^^^ones:=by rw[e]
 simp only[crcOf,Nat.xor_assoc,Nat.xor_self,Nat.xor_zero]at e1
 rw[crcFrom_append,crcFrom_append]at e1
 rw[crcFrom_cons,crcFrom_cons]at e1
 have hv:=crcFrom_lt l ones ones_lt
 have h2:=cbyte_inj hv hv (crcFrom_inj m (cbyte_lt hv x) (cbyte_lt hv y) e1)
 have h3:crcFrom ones l^^^(crcFrom ones l^^^x.toNat)=crcFrom ones l^^^(crcFrom ones l^^^y.toNat):=by rw[h2]
 rw[<-Nat.xor_assoc,<-Nat.xor_assoc,Nat.xor_self,Nat.zero_xor,Nat.zero_xor]at h3
 exact h (UInt8.toNat_inj.1 h3)
end Go.Wm
namespace Go.Wt
section
open Go.RowKit Go.Proofs Go.Wq
def s6:ac:=(R 4 [X 24 0,e 8 (v fa)] (R 34 [Y 9 [],e 9 (M 34)] (s (R 35 [M 9,U 35] (V 36 (R 8 [v fa] r) k)) (s (R 37 [L 3 4,I (.build [(z 0),(z 0),.e0] []),I (.build [.e0,(z 0),.e0] []),I (.build [(z 0),.e0] []),M 1,Y 10 [37,38,39,40,41],U 42,M 43,j 44 (M 3),j 44 (I (.bin .eql 5 (t 45) (.const (.int .u8 0)))),P 44 46,M 47,j 48 (M 2),j 48 (N .lss 3 49 0),P 48 50] (V 51 (R 52 [M 9,e 8 (M 52)] r) k)) (R 54 [L 3 4,I (.build [(z 0),(z 0),.e0] []),I (.build [.e0,(z 0),.e0] []),M 1,Y 11 [54,55,56,57],e 53 (M 58),E 53 0,E 53 1,E 53 2,e 10 (T 27 (.agg [(z 0),(z 0),.e0])),e 11 (T 31 (.agg [.e0,(z 0),.e0])),S 3 10 59,S 3 11 60,e 12 (M 61)] (s (R 62 [M 12,N .neq 37 62 0,M 63,j 64 (F 11 0),j 64 (l 65),j 64 (H 66),j 64 (N .neq 3 67 1),P 64 68,M 69,j 70 (F 10 2),j 70 (l 71),j 70 (H 72),j 70 (N .neq 3 73 1),P 70 74,M 75,j 76 (M 2),j 76 (F 11 0),j 76 (l 78),j 76 (I (.eadr (t 79) (c 0) 2)),j 76 (F 80 1),j 76 (l 81),j 76 (H 82),j 76 (B .geq 3 77 83),P 76 84] (V 85 (R 86 [M 9,M 86,J 87 (M 12),J 87 (N .neq 37 88 0),J 87 (M 89),j 90 (M 2),j 90 (N .geq 3 91 0),J 87 (P 90 92),Q 87 93,e 8 (M 94)] r) k)) (R 96 [I (.call 28 [(c 20000)]),e 95 (M 96),E 95 0,E 95 1,e 13 (T 36 (.agg [(z 0),.e0])),S 2 13 97,e 14 (M 98)] (s (Z 100 [L 3 10,L 3 11,L 2 13,M 1,F 10 2,l 104,I (.eadr (t 105) (c 0) 6),F 106 1,l 107,Y 20 [100,101,102,103,108],e 99 (M 109),E 99 0,E 99 1,E 99 2,E 99 3,e 16 (T 31 (.agg [.e0,(z 0),.e0])),e 17 (T 36 (.agg [(z 0),.e0])),e 15 (M 110),S 3 16 111,S 2 17 112,e 18 (M 113)] [0,1,0,2,1,2,0,5,1,5,2,5,0,6,1,6,2,6,0,8,1,8,2,8,0,15,1,15,2,15,5,15,6,15,8,15,9,15,0,16,1,16,2,16,5,16,6,16,8,16,9,16,15,16]) (R 114 [I (.lits 5 false 1 0 [(.v (.int .u8 0))] []),F 11 0,l 115,I (.eadr (t 116) (c 0) 2),F 117 1,l 118,I (.app 5 1 (.v (.int .u8 0)) (t 114) (t 119)),e 19 (M 120)] (R 121 [M 19,M 2,M 19,M 2,A 123 124 1,l 125,M 3,B .xor 5 126 127,A 121 122 1,S 1 129 128] (R 130 [L 3 11,e 20 (T 31 (.agg [.e0,(z 0),.e0])),S 3 20 130] (R 131 [F 11 0,l 131,I (.eadr (t 132) (c 0) 2),F 133 0,l 134,M 19,I (.build [(.v (.string ⟨#[]⟩)),.e0] [(0,1,(t 135)),(1,1,(t 136))]),I (.lits 65 true 2 1 [(.v (.string ⟨#[]⟩)),.e0] [(0,2,(t 137))]),F 20 0,S 1 139 138] (s (Z 141 [L 3 10,L 3 20,L 2 13,M 1,F 10 2,l 145,I (.eadr (t 146) (c 0) 6),F 147 1,l 148,Y 20 [141,142,143,144,149],e 140 (M 150),E 140 0,E 140 1,E 140 2,E 140 3,e 22 (T 31 (.agg [.e0,(z 0),.e0])),e 23 (T 36 (.agg [(z 0),.e0])),e 21 (M 151),S 3 22 152,S 2 23 153,e 24 (M 154)] [0,1,0,2,1,2,0,5,1,5,2,5,0,6,1,6,2,6,0,8,1,8,2,8,0,15,1,15,2,15,5,15,6,15,8,15,9,15,0,16,1,16,2,16,5,16,6,16,8,16,9,16,15,16]) (s (R 155 [M 14,N .neq 37 155 0,M 156,j 157 (M 18),j 157 (N .neq 37 158 0),P 157 159,M 160,j 161 (M 24),j 161 (N .neq 37 162 20),P 161 163,M 164,j 165 (M 21),j 165 (H 166),j 165 (N .neq 3 167 0),P 165 168,M 169,j 170 (F 23 1),j 170 (l 171),j 170 (H 172),j 170 (N .neq 3 173 0),P 170 174,M 175,j 176 (F 22 1),j 176 (l 177),j 176 (F 20 1),j 176 (l 179),j 176 (N .add 3 180 1),j 176 (B .neq 3 178 181),P 176 182] (V 183 (R 8 [v fa] r) k)) (s (Z 185 [L 3 10,L 3 11,L 2 23,M 1,F 10 2,l 189,I (.eadr (t 190) (c 0) 6),F 191 1,l 192,Y 20 [185,186,187,188,193],e 184 (M 194),E 184 0,E 184 1,E 184 2,E 184 3,e 26 (T 31 (.agg [.e0,(z 0),.e0])),e 27 (T 36 (.agg [(z 0),.e0])),e 25 (M 195),S 3 26 196,S 2 27 197,e 28 (M 198)] [0,1,0,2,1,2,0,5,1,5,2,5,0,6,1,6,2,6,0,8,1,8,2,8,0,15,1,15,2,15,5,15,6,15,8,15,9,15,0,16,1,16,2,16,5,16,6,16,8,16,9,16,15,16]) (s (Z 200 [L 3 10,L 3 20,L 2 27,M 1,F 10 2,l 204,I (.eadr (t 205) (c 0) 6),F 206 1,l 207,Y 20 [200,201,202,203,208],e 199 (M 209),E 199 0,E 199 1,E 199 2,E 199 3,e 30 (T 31 (.agg [.e0,(z 0),.e0])),e 31 (T 36 (.agg [(z 0),.e0])),e 29 (M 210),S 3 30 211,S 2 31 212,e 32 (M 213)] [0,1,0,2,1,2,0,5,1,5,2,5,0,6,1,6,2,6,0,8,1,8,2,8,0,15,1,15,2,15,5,15,6,15,8,15,9,15,0,16,1,16,2,16,5,16,6,16,8,16,9,16,15,16]) (R 214 [M 15,M 25,Y 24 [214,215],M 216,J 217 (M 15),J 217 (M 29),J 217 (Y 24 [218,219]),Q 217 220,e 33 (M 221)] (R 222 [M 9,M 222,J 223 (M 28),J 223 (N .eql 37 224 0),Q 223 225,M 226,J 227 (M 32),J 227 (N .eql 37 228 0),Q 227 229,M 230,J 231 (F 30 1),J 231 (l 232),J 231 (F 20 1),J 231 (l 234),J 231 (B .eql 3 233 235),Q 231 236,M 237,J 238 (M 33),Q 238 239,e 8 (M 240)] r))))))))))))))))))
def kvq:=xo 6 ⟨s6,241,[.tmp 8]⟩ Tryz.func6 (by kernel_rfl)
def ch:ac:=(R 14 [B .lss 3 13 12] (s (V 14 k (x 0)) (s (D (R 15 [M 13,e 5 (M 15)] (s (Z 16 [M 0,M 5,A 16 17 10,L 10 18,M 1,M 5,A 20 21 10,L 10 22,Y 88 [19,23],U 24] [2,6,3,6,2,7,3,7]) (V 25 (R 4 [v fa] r) k)))) (O 26 [N .add 3 13 1,e 13 (M 26)]))))
def ci:ac:=(R 4 [v fa] (s (R 6 [M 0,H 6,M 1,H 8,B .neq 3 7 9] (V 10 (R 4 [v fa] r) k)) (s (R 11 [M 0,H 11,C 0] (K ch)) (R 4 [v tr] r))))
def eG:=xo 24 ⟨ci,27,[.tmp 4]⟩ Tryz.func24 (by kernel_rfl)
def cl:ac:=(R 2 [X 79 0,X 79 1,v fa] (R 5 [F 2 0,l 5,F 3 0,l 7,B .eql 3 6 8,M 9,J 10 (F 2 1),J 10 (l 11),J 10 (F 3 1),J 10 (l 13),J 10 (B .eql 3 12 14),Q 10 15,M 16,J 17 (F 2 2),J 17 (l 18),J 17 (F 3 2),J 17 (l 20),J 17 (B .eql 3 19 21),Q 17 22,M 23,J 24 (F 2 3),J 24 (l 25),J 24 (F 3 3),J 24 (l 27),J 24 (B .eql 3 26 28),Q 24 29,M 30,J 31 (F 2 4),J 31 (l 32),J 31 (F 3 4),J 31 (l 34),J 31 (B .eql 3 33 35),Q 31 36,M 37,J 38 (F 2 5),J 38 (l 39),J 38 (F 3 5),J 38 (l 41),J 38 (B .eql 3 40 42),Q 38 43,M 44,J 45 (F 2 6),J 45 (l 46),J 45 (F 3 6),J 45 (l 48),J 45 (B .eql 3 47 49),Q 45 50,M 51,J 52 (F 2 7),J 52 (l 53),J 52 (F 3 7),J 52 (l 55),J 52 (B .eql 4 54 56),Q 52 57,M 58,J 59 (F 2 8),J 59 (l 60),J 59 (F 3 8),J 59 (l 62),J 59 (B .eql 3 61 63),Q 59 64,M 65,J 66 (F 2 9),J 66 (l 67),J 66 (F 3 9),J 66 (l 69),J 66 (Y 179 [68,70]),Q 66 71,e 4 (M 72)] r))
def e5:=xo 88 ⟨cl,73,[.tmp 4]⟩ Tryz.func88 (by kernel_rfl)
def cn:ac:=(R 14 [B .lss 3 13 12] (s (V 14 k (x 0)) (s (D (R 15 [M 13,e 5 (M 15)] (s (Z 16 [M 0,M 5,A 16 17 5,L 5 18,M 1,M 5,A 20 21 5,L 5 22,B .neq 239 19 23] [2,6,3,6,2,7,3,7]) (V 24 (R 4 [v fa] r) k)))) (O 25 [N .add 3 13 1,e 13 (M 25)]))))
def cp:ac:=(R 4 [v fa] (s (R 6 [M 0,H 6,M 1,H 8,B .neq 3 7 9] (V 10 (R 4 [v fa] r) k)) (s (R 11 [M 0,H 11,C 0] (K cn)) (R 4 [v tr] r))))
def e6:=xo 179 ⟨cp,26,[.tmp 4]⟩ Tryz.func179 (by kernel_rfl)
end
section
open Go.RowKit Go.Proofs Go.Lib Go.Wm
abbrev k0q(o:oBj):List UInt8:=o.name.data.toList
def a6:∀x y:List UInt8,(compareBytes x y<0↔x<y)/\(compareBytes x y=0↔x=y)
 |[],[]=>by simp[compareBytes]
 |[],_::_=>by simp[compareBytes]
 |_::_,[]=>by simp[compareBytes]
 |a::x,b::y=>by
  have ih:=a6 x y
  simp only[compareBytes,List.cons_lt_cons_iff,List.cons.injEq]
  by_cases h1:a<b
  .have h2:a≠b:=fun h=>UInt8.lt_irrefl b (h▸h1)
   simp[h1,h2]
  .by_cases h3:b<a
   .have h2:a≠b:=fun h=>UInt8.lt_irrefl b (h▸h3)
    simp[h1,h2,h3]
   .have h2:a=b:=UInt8.le_antisymm (UInt8.not_lt.1 h3) (UInt8.not_lt.1 h1)
    subst h2
    simp[h1,ih]
def e7{a b:ByteArray}(h:a.data.toList=b.data.toList):a=b:=ByteArray.ext (akh h)
def cr:∀x y:List UInt8,x<y\/x=y\/y<x
 |[],[]=> .inr (.inl rfl)
 |[],_::_=> .inl (List.nil_lt_cons _ _)
 |_::_,[]=> .inr (.inr (List.nil_lt_cons _ _))
 |a::x,b::y=>by
  simp only[List.cons_lt_cons_iff,List.cons.injEq]
  by_cases h1:a<b
  .exact .inl (.inl h1)
  .by_cases h3:b<a
   .exact .inr (.inr (.inl h3))
   .have h2:a=b:=UInt8.le_antisymm (UInt8.not_lt.1 h3) (UInt8.not_lt.1 h1)
    subst h2
    rcases cr x y with h|h|h<;>simp[h]
def ct{a b:ByteArray}(h:xb a b=false):b.data.toList<a.data.toList:=by
 unfold xb at h
 rw[toList_data,toList_data,Go.Proofs.bytesLess_eq]at h
 simp only[Bool.or_eq_false_iff,decide_eq_false_iff_not,beq_eq_false_iff_ne]at h
 exact((cr _ _).resolve_left h.1).resolve_left h.2
def e8{a b:ByteArray}(h:b.data.toList<a.data.toList):xb a b=false:=by
 unfold xb
 rw[toList_data,toList_data,Go.Proofs.bytesLess_eq]
 simp only[Bool.or_eq_false_iff,decide_eq_false_iff_not,beq_eq_false_iff_ne]
 exact⟨fun h2=>List.lt_irrefl _ (List.lt_trans h h2),fun h2=>List.lt_irrefl _ (h2▸h)⟩
def aR(l:List oBj):Prop:=(l.map k0q).Pairwise (· < ·)
def e9(l:List oBj)(s:ByteArray):Prop:=∃o∈l,o.name=s
def cN(l:List oBj):Prop:=aR l/\∀o∈l,dX o.name=true/\o.bytes.length<=8192
def fd(l:List oBj):(List.range l.length).all (io l)=true↔cN l:=by
 rw[ajR]
 constructor
 .intro h
  have key:∀i (hi:i<l.length),dX l[i].name=true/\xb l[i].name (oz l i)=false/\l[i].bytes.length<=8192:=by
   intro i hi
   have:=h i (List.mem_range.2 hi)
   unfold io at this
   rw[ajq hi]at this
   simpa using this
  refine⟨List.pairwise_iff_getElem.2 ?_,fun o ho=>?_⟩
  .intro i j hi hj XE
   rw[ajJ]at hi hj
   have:∀d i j (hi:i<l.length) (hj:j<l.length),j=i+d+1->k0q l[i]<k0q l[j]:=by
    intro d
    induction d with
    |zero=>
     intro i j hi hj e
     have h1:=ct (key j hj).2.1
     have h2:oz l j=l[i].name:=by
      unfold oz
      rw[if_neg (by omega)]
      simp[show j-1=i by omega,hi]
     rw[h2]at h1
     exact h1
    |succ d ih=>
     intro i j hi hj e
     have h1:=ih i (j-1) hi (by omega) (by omega)
     have h2:=ct (key j hj).2.1
     have h3:oz l j=(l[j-1]'(by omega)).name:=by
      unfold oz
      rw[if_neg (by omega)]
      simp[show j-1<l.length by omega]
     rw[h3]at h2
     exact List.lt_trans h1 h2
   simpa using this (j-i-1) i j hi hj (by omega)
  .obtain⟨i,hi,rfl⟩:=ajL ho
   exact⟨(key i hi).1,(key i hi).2.2⟩
 .rintro⟨h1,h2⟩ i hi
  have hi:=List.mem_range.1 hi
  unfold io
  rw[ajq hi]
  have h3:=h2 _ (akA hi)
  have h4:xb l[i].name (oz l i)=false:=by
   refine e8 ?_
   unfold oz
   by_cases h0:i=0
   .rw[if_pos h0]
    have hs:1<=l[i].name.size:=by
     have:=h3.1
     unfold dX at this
     simp only[ajT,akk]at this
     exact this.1.1
    have hl:l[i].name.data.toList.length=l[i].name.size:=Array.length_toList
    cases hc:l[i].name.data.toList with
    |nil=>rw[hc]at hl;simp at hl;omega
    |cons a t=>exact List.nil_lt_cons _ _
   .rw[if_neg h0]
    have:=List.pairwise_iff_getElem.1 h1 (i-1) i (by simp;omega) (by simpa using hi) (by omega)
    simpa[show i-1<l.length by omega]using this
  simp[h3.1,h4,h3.2]
def fi{s:aw}(h1:cN s.objs)(h2:s.objs.length<=1024)(h3:s.faults.length<=1024)(h4:0<=s.calls)(h5:s.calls<1099511627776)(h6:s.faults.any kI=false):bP s=0:=by
 have:=(fd s.objs).2 h1
 unfold bP
 rw[if_neg (by omega),if_neg (by omega),if_neg (by omega),if_neg (by omega),if_neg (by simp[h6]),if_neg (by simp[this])]
def a9{l:List oBj}{s:ByteArray}(hs:aR l):∀(k i j:Nat),i<=j->j<=l.length->j-i<k->(∀a (h:a<l.length),a<i->k0q l[a]<s.data.toList)->(∀a (h:a<l.length),j<=a->¬k0q l[a]<s.data.toList)->
  (∀a (h:a<l.length),a<kK l s k i j->k0q l[a]<s.data.toList)/\∀a (h:a<l.length),kK l s k i j<=a->¬k0q l[a]<s.data.toList
 |0,i,j,_,_,h,_,_=>by omega
 |k+1,i,j,XE,hj,hk,h1,h2=>by
  rw[kK]
  by_cases h:i<j
  .rw[if_pos h]
   have hm:(i+j)/2<l.length:=by omega
   have hx:(l.map (·.name)).getD ((i+j)/2) es=l[(i+j)/2].name:=by simp[hm]
   rw[hx]
   have hc:=(a6 (k0q l[(i+j)/2]) s.data.toList).1
   have hp:=List.pairwise_iff_getElem.1 hs
   by_cases hr:j6 l[(i+j)/2].name s<0
   .rw[if_pos hr]
    refine a9 hs k _ j (by omega) hj (by omega) (fun a ha hlt=>?_) h2
    by_cases e:a=(i+j)/2
    .subst e;exact hc.1 hr
    .have:=hp a ((i+j)/2) (by simpa using ha) (by simpa using hm) (by omega)
     exact List.lt_trans (by simpa using this) (hc.1 hr)
   .rw[if_neg hr]
    refine a9 hs k i _ (by omega) (by omega) (by omega) h1 (fun a ha TK hlt=>?_)
    by_cases e:a=(i+j)/2
    .subst e;exact hr (hc.2 hlt)
    .have:=hp ((i+j)/2) a (by simpa using hm) (by simpa using ha) (by omega)
     exact hr (hc.2 (List.lt_trans (by simpa using this) hlt))
  .rw[if_neg h]
   exact⟨h1,fun a ha TK=>h2 a ha (by omega)⟩
def fk{l:List oBj}{s:ByteArray}(h:dq l s=true):∃o,l[cA l s]?=some o/\o.name=s:=by
 unfold dq at h
 split at h
 .rename_i o ho
  exact⟨o,ho,e7 ((a6 _ _).2.1 (ajC h))⟩
 .cases h
def fl{l:List oBj}{s:ByteArray}(hs:aR l)(h:e9 l s):dq l s=true:=by
 obtain⟨o,ho,rfl⟩:=h
 obtain⟨i,hi,rfl⟩:=ajL ho
 obtain⟨h1,h2⟩:=a9 (s:=l[i].name) hs (l.length+1) 0 l.length (by omega) (by omega) (by omega) (fun a _ h=>by omega) (fun a _ h=>by omega)
 have TK:cA l l[i].name<=i:=by
  rcases Nat.lt_or_ge i (cA l l[i].name)with h|h
  .exact absurd (h1 i hi h) (List.lt_irrefl _)
  .exact h
 have hge:¬cA l l[i].name<i:=by
  intro h
  have h3:=List.pairwise_iff_getElem.1 hs (cA l l[i].name) i (by simp;omega) (by simpa using hi) h
  exact h2 (cA l l[i].name) (by omega) (ajz _) (by simpa using h3)
 unfold dq
 rw[show cA l l[i].name=i by omega,ajq hi]
 simp only[akk]
 exact(a6 _ _).2.2 rfl
section
variable{P:Program}{c:aA}{Z:Nm->Place}{E:aa}{a:Act}{w:World}{o:Oper}{D:List Deferred}
end
section
variable{P:Program}
end
def fo{next last en:Int}{op:Bool}{l:List Pc}(h:gP next last en op l=true):∀p∈l,last<p.id/\p.id<next:=by
 induction l generalizing last en op with
 |nil=>simp
 |cons q l ih=>
  have hq:last<q.id/\q.id<next/\∃en' op',gP next q.id en' op' l=true:=by
   unfold gP at h
   repeat' split at h
   all_goals first|(exact absurd h (by decide))|exact⟨by omega,by omega,_,_,h⟩
  intro p hp
  rcases akc.1 hp with rfl|hp
  .exact⟨hq.1,hq.2.1⟩
  .obtain⟨e,o,h⟩:=hq.2.2
   have:=ih h p hp
   exact⟨by omega,this.2⟩
def fr{m:Mn}(h:bH m=0):∀p∈m.l,0<=p.id/\p.id<m.next:=by
 unfold bH at h
 repeat' split at h
 all_goals try(exact absurd h (by decide))
 rename_i h1 h2 h3 h4
 intro p hp
 have:=fo (l:=m.l) (last:= -1) (by simpa using h3) p hp
 exact⟨by omega,this.2⟩
def an(l:List Hd):Prop:=(l.map eF).Nodup/\∀h∈l,oE (eF h)=true
def fs(l:List Hd):(List.range l.length).all (kd l)=true↔an l:=by
 rw[ajR]
 constructor
 .intro h
  have key:∀i (hi:i<l.length),oE (eF l[i])=true/\∀x∈l.take i,eF x≠eF l[i]:=by
   intro i hi
   have:=h i (List.mem_range.2 hi)
   unfold kd at this
   rw[ajq hi]at this
   simp only[ajT,Bool.not_eq_true',List.any_eq_false,ajI]at this
   refine⟨this.1,fun x hx e=>?_⟩
   exact this.2 (eF x) ⟨x,hx,rfl⟩ ((E9 _ _).2 e.symm)
  refine⟨List.pairwise_iff_getElem.2 ?_,fun x hx=>?_⟩
  .intro i j hi hj XE
   simp only[ajJ]at hi hj
   simp only[List.getElem_map]
   exact(key j hj).2 l[i] (List.mem_take_iff_getElem.2 ⟨i,by omega,rfl⟩)
  .obtain⟨i,hi,rfl⟩:=ajL hx
   exact(key i hi).1
 .rintro⟨h1,h2⟩ i hi
  have hi:=List.mem_range.1 hi
  unfold kd
  rw[ajq hi]
  simp only[ajT,Bool.not_eq_true',List.any_eq_false,ajI]
  refine⟨h2 _ (akA hi),?_⟩
  rintro _ ⟨x,hx,rfl⟩ e
  obtain⟨j,hj,rfl⟩:=List.mem_take_iff_getElem.1 hx
  have:=List.pairwise_iff_getElem.1 h1 j i (by simp;omega) (by simpa using hi) (by omega)
  simp only[List.getElem_map]at this
  exact this ((E9 _ _).1 e).symm
def ar(c:Ca):dG c=0↔0<=c.cap/\c.cap<=1099511627776/\gw c.l<=c.cap/\an c.l:=by
 rw[<-fs]
 constructor
 .exact Ou
 .rintro⟨h1,h2,h3,h4⟩
  unfold dG
  rw[if_neg (by omega),if_neg (by omega),if_neg (by omega),if_neg (by simp[h4])]
def szN(l:List Hd):Nat:=(l.map fun h=>h.bytes.length).sum
def asq(l:List Hd):gw l=(szN l:Int):=by
 have:∀(l:List Hd) (a:Int),l.foldl (fun n h=>n+(h.bytes.length:Int)) a=a+(szN l:Int):=by
  intro l
  induction l with
  |nil=>intro a;simp[szN]
  |cons x l ih=>
   intro a
   rw[List.foldl_cons,ih]
   simp only[szN,ajQ,List.sum_cons]
   omega
 unfold gw
 rw[this]
 omega
def af(h:Hd)(l:List Hd):szN (h::l)=h.bytes.length+szN l:=by simp[szN]
theorem cT{l m:List Hd}(h:l.Perm m):szN l=szN m:=by
 induction h with
 |nil=>rfl
 |cons x _ ih=>rw[af,af,ih]
 |swap x y l=>simp only[af];omega
 |trans _ _ h1 h2=>rw[h1,h2]
def aI{l m:List Hd}(h:l.Sublist m):szN l<=szN m:=by
 induction h with
 |slnil=>exact ajz _
 |cons x _ ih=>rw[af];omega
 |cons_cons x _ ih=>rw[af,af];omega
def c7{l:List Hd}{h:Hd}(hm:h∈l):h.bytes.length<=szN l:=by
 have:=aI (List.singleton_sublist.2 hm)
 simp[szN]at this⊢
 omega
def fu{l:List Hd}(h:(l.map eF).Nodup){x y:Hd}(hx:x∈l)(hy:y∈l)(e:eF x=eF y):x=y:=by
 obtain⟨i,hi,rfl⟩:=ajL hx
 obtain⟨j,hj,rfl⟩:=ajL hy
 have hp:=List.pairwise_iff_getElem.1 h
 rcases Nat.lt_trichotomy i j with h1|h1|h1
 .have:=hp i j (by simpa using hi) (by simpa using hj) h1
  simp only[List.getElem_map]at this
  exact absurd e this
 .subst h1;rfl
 .have:=hp j i (by simpa using hj) (by simpa using hi) h1
  simp only[List.getElem_map]at this
  exact absurd e.symm this
def a5{k:Ky}{h:Hd}:eW k h=true↔eF h=k:=E9 _ _
def c9{l:List Hd}{k:Ky}{i:Nat}{h:Hd}(h1:bf (eW k) l=i)(h2:l[i]?=some h):(h::cP l k).Perm l:=by
 unfold cP
 rw[h1,if_neg (by omega),akl]
 obtain⟨hi,rfl⟩:=ajs.1 h2
 have:l.take i++l[i]::l.drop (i+1)=l:=by rw[<-aku hi,List.take_append_drop]
 conv=>rhs;rw[<-this]
 exact List.perm_middle.symm
def dc(l:List Hd)(k:Ky):(cP l k).Sublist l:=by
 unfold cP
 split
 .exact List.Sublist.refl _
 .have h:=(List.Sublist.refl (l.take (bf (eW k) l).toNat)).append (List.drop_sublist_drop_left l (Nat.le_succ (bf (eW k) l).toNat))
  rw[List.take_append_drop]at h
  exact h
def bb{l m:List Hd}(h:l.Sublist m)(ho:an m):an l:=⟨(ho.1).sublist (h.map _),fun x hx=>ho.2 x (h.subset hx)⟩
def df{l m:List Hd}(h:l.Perm m)(ho:an m):an l:=⟨((h.map eF).nodup_iff).2 ho.1,fun x hx=>ho.2 x (h.mem_iff.1 hx)⟩
def fz{l:List Hd}{k:Ky}(ho:an l):∀x∈cP l k,eF x≠k:=by
 intro x hx e
 rcases pM (eW k) l with⟨h1,h2⟩|⟨i,h1,h2,h3,h4⟩
 .have:=h2 x (Ov hx)
  rw[a5.2 e]at this
  cases this
 .have hy:=ajq h2
  have hp:=c9 h1 hy
  have:=(df hp ho).1
  rw[ajQ,List.nodup_cons]at this
  exact this.1 (ajI.2 ⟨x,hx,e.trans (a5.1 (h3 _ hy)).symm⟩)
def bd{c d:Ca}(h:dG c=0)(hc:d.cap=c.cap)(hp:d.l.Perm c.l):dG d=0:=by
 obtain⟨h1,h2,h3,h4⟩:=(ar c).1 h
 refine(ar d).2 ⟨by omega,by omega,?_,df hp h4⟩
 rw[asq,cT hp,<-asq]
 omega
def bv{c:Ca}{nm:ByteArray}{i:Int}(ho:dG c=0)(hf:(dB c nm i).2.2=true):(⟨nm,i,(dB c nm i).2.1⟩:Hd)∈c.l/\(dB c nm i).1.cap=c.cap/\(dB c nm i).1.l.Perm c.l:=by
 unfold dB at hf⊢
 rw[if_neg (by simp[ho])]at hf⊢
 rcases pM (eW ⟨nm,i⟩) c.l with⟨h1,h2⟩|⟨k,h1,h2,h3,h4⟩
 .rw[h1]at hf
  split at hf<;>simp at hf
 .have hy:=ajq h2
  have hp:=c9 h1 hy
  have hk:=a5.1 (h3 _ hy)
  obtain⟨x,hx⟩:∃x,c.l[k]=x:=⟨_,rfl⟩
  rw[hx]at hy hp hk
  rw[h1,akl,hy]
  simp only[if_neg (show¬((k:Int)<0) by omega)]
  obtain⟨n1,n2,n3⟩:=x
  cases hk
  exact⟨ajx hy,trivial,hp⟩
def f0{c:Ca}{nm:ByteArray}{i:Int}{b:Bs}(ho:dG c=0)(hm:(⟨nm,i,b⟩:Hd)∈c.l):(dB c nm i).2.2=true/\(dB c nm i).2.1=b:=by
 have Uf:=((ar c).1 ho).2.2.2
 have h:(dB c nm i).2.2=true:=by
  unfold dB
  rw[if_neg (by simp[ho])]
  rcases pM (eW ⟨nm,i⟩) c.l with⟨h1,h2⟩|⟨k,h1,h2,h3,h4⟩
  .have:=h2 _ hm
   rw[show eW ⟨nm,i⟩ (⟨nm,i,b⟩:Hd)=true from a5.2 rfl]at this
   cases this
  .rw[h1,akl,ajq h2]
   simp only[if_neg (show¬((k:Int)<0) by omega)]
 refine⟨h,?_⟩
 have:=fu Uf.1 (bv ho h).1 hm rfl
 exact congrArg Hd.bytes this
def dj(nm:ByteArray)(s:aw):∀(bs:List Bs) (i:Nat) (c:Ca) (TV:Bs),dG c=0->(∀j x,bs[j]?=some x->(⟨nm,((i+j:Nat):Int),x⟩:Hd)∈c.l)->
  ∃d,l6 nm s bs.length i c TV=⟨s,d,TV++bs.flatten,false,0⟩/\d.cap=c.cap/\d.l.Perm c.l
 |[],i,c,TV,_,_=>⟨c,by simp[l6],rfl,List.Perm.refl _⟩
 |x::bs,i,c,TV,ho,h=>by
  obtain⟨g1,g2⟩:=f0 ho (h 0 x rfl)
  simp only[Nat.add_zero]at g1 g2
  obtain⟨_,g4,g5⟩:=bv ho g1
  obtain⟨d,d1,d2,d3⟩:=dj nm s bs (i+1) (dB c nm i).1 (TV++x) (bd ho g4 g5) (fun j y hj=>by
   have:=h (j+1) y (by simpa using hj)
   rw[show i+(j+1)=i+1+j by omega]at this
   exact g5.mem_iff.2 this)
  refine⟨d,?_,d2.trans g4,d3.trans g5⟩
  rw[akx,l6,if_pos g1,g2,d1]
  simp
def a7(nm:ByteArray)(s:aw):∀(k i:Nat) (c:Ca) (TV:Bs),dG c=0->
  (l6 nm s k i c TV).c.cap=c.cap/\(l6 nm s k i c TV).c.l.Perm c.l/\
  (((l6 nm s k i c TV).asked=false/\(l6 nm s k i c TV).s=s/\(l6 nm s k i c TV).e=0/\∃bs:List Bs,bs.length=k/\(∀j x,bs[j]?=some x->(⟨nm,((i+j:Nat):Int),x⟩:Hd)∈c.l)/\(l6 nm s k i c TV).b=TV++bs.flatten)\/
   ((l6 nm s k i c TV).asked=true/\(l6 nm s k i c TV).s=(kL s nm).1/\(l6 nm s k i c TV).b=(kL s nm).2.1/\(l6 nm s k i c TV).e=(kL s nm).2.2))
 |0,i,c,TV,ho=>⟨rfl,List.Perm.refl _,.inl ⟨rfl,rfl,rfl,[],rfl,by simp,by simp[l6]⟩⟩
 |k+1,i,c,TV,ho=>by
  rw[l6]
  by_cases hg:(dB c nm i).2.2=true
  .rw[if_pos hg]
   obtain⟨g3,g4,g5⟩:=bv ho hg
   obtain⟨a1,a2,a3⟩:=a7 nm s k (i+1) (dB c nm i).1 (TV++(dB c nm i).2.1) (bd ho g4 g5)
   refine⟨a1.trans g4,a2.trans g5,?_⟩
   rcases a3 with⟨b1,b2,b3,bs,b4,b5,b6⟩|a3
   .refine .inl ⟨b1,b2,b3,(dB c nm i).2.1::bs,by simp[b4],fun j x hj=>?_,by rw[b6];simp⟩
    match j,hj with
    |0,hj=>cases hj;simpa using g3
    |j+1,hj=>
     have:=b5 j x (by simpa using hj)
     rw[show i+1+j=i+(j+1) by omega]at this
     exact g5.mem_iff.1 this
   .exact .inr a3
  .rw[if_neg hg]
   exact⟨rfl,List.Perm.refl _,.inr ⟨rfl,rfl,rfl,rfl⟩⟩
theorem dk{p q:Hd->Bool}:∀{l:List Hd} {h:Hd},h∈l->p h=false->q h=true->(∀x,p x=true->q x=true)->szN (l.filter p)+h.bytes.length<=szN (l.filter q)
 |[],h,hm,_,_,_=>by cases hm
 |x::l,h,hm,hp,hq,hpq=>by
  have TK:szN (l.filter p)<=szN (l.filter q):=by
   refine aI ?_
   have:l.filter p=(l.filter q).filter p:=by
    rw[List.filter_filter]
    refine List.filter_congr fun y _=>?_
    cases hy:p y with
    |false=>rfl
    |true=>rw[hpq y hy];rfl
   rw[this]
   exact List.filter_sublist
  rcases akc.1 hm with rfl|hm
  .rw[List.filter_cons_of_neg (by simp[hp]),List.filter_cons_of_pos hq,af]
   omega
  .have ih:=dk hm hp hq hpq
   by_cases h1:p x=true
   .rw[List.filter_cons_of_pos h1,List.filter_cons_of_pos (hpq x h1),af,af]
    omega
   .rw[List.filter_cons_of_neg h1]
    by_cases h2:q x=true
    .rw[List.filter_cons_of_pos h2,af]
     omega
    .rw[List.filter_cons_of_neg h2]
     exact ih
def dl{nm:ByteArray}{l:List Hd}:∀(bs:List Bs) (i:Nat),(∀j x,bs[j]?=some x->(⟨nm,((i+j:Nat):Int),x⟩:Hd)∈l)->bs.flatten.length<=szN (l.filter fun h=>decide ((i:Int)<=h.no))
 |[],i,_=>by simp
 |x::bs,i,h=>by
  have ih:=dl bs (i+1) (fun j y hj=>by
   have:=h (j+1) y (by simpa using hj)
   rw[show i+(j+1)=i+1+j by omega]at this
   exact this)
  have h0:=h 0 x rfl
  have:=dk (p:=fun h=>decide (((i+1:Nat):Int)<=h.no)) (q:=fun h=>decide ((i:Int)<=h.no)) h0 (by simp;omega) (by simp) (fun y hy=>by simp at hy⊢;omega)
  simp only[List.flatten_cons,ajB]
  simp only at this
  omega
def f5{nm:ByteArray}{l:List Hd}{bs:List Bs}(h:∀j x,bs[j]?=some x->(⟨nm,((0+j:Nat):Int),x⟩:Hd)∈l):bs.flatten.length<=szN l:=
 akf (dl bs 0 h) (aI List.filter_sublist)
def dm:∀(F R:List Hd) (v:Int) (i:Nat),(szN F:Int)<=v->gV v i (F++R)=gV (v-szN F) (i+F.length) R
 |[],R,v,i,_=>by simp[szN]
 |h::F,R,v,i,hv=>by
  rw[af]at hv⊢
  rw[List.cons_append,gV,if_neg (by omega),dm F R _ (i+1) (by omega)]
  rw[akx,show i+1+F.length=i+(F.length+1) by omega]
  congr 1
  omega
def du:∀(l:List Hd) (v:Int) (i:Nat),0<=v->((gV v i l).1= -1/\(szN l:Int)<=v)\/∃n:Nat,(gV v i l).1=((i+n:Nat):Int)/\n<=l.length/\(szN (l.take n):Int)<=v
 |[],v,i,hv=> .inl ⟨rfl,by simpa[szN]using hv⟩
 |h::l,v,i,hv=>by
  rw[gV]
  by_cases hc:v-h.bytes.length<0
  .rw[if_pos hc]
   exact .inr ⟨0,rfl,Nat.zero_le _,by simpa[szN]using hv⟩
  .rw[if_neg hc]
   rcases du l (v-h.bytes.length) (i+1) (by omega)with⟨h1,h2⟩|⟨n,h1,h2,h3⟩
   .exact .inl ⟨h1,by rw[af];omega⟩
   .refine .inr ⟨n+1,by rw[h1,show i+1+n=i+(n+1) by omega],by simp;omega,?_⟩
    rw[List.take_succ_cons,af]
    omega
def dT{c:Ca}{nm:ByteArray}{no:Int}{b:Bs}(ho:dG c=0)(hk:oE ⟨nm,no⟩=true):dG (gx c nm no b).1=0/\(gx c nm no b).1.cap=c.cap:=by
 obtain⟨h1,h2,h3,h4⟩:=(ar c).1 ho
 have hs:=dc c.l ⟨nm,no⟩
 have hz:=aI hs
 rw[asq]at h3
 have hT:an (⟨nm,no,b⟩::cP c.l ⟨nm,no⟩):=by
  refine⟨?_,fun x hx=>?_⟩
  .rw[ajQ,List.nodup_cons]
   refine⟨fun hm=>?_,(bb hs h4).1⟩
   obtain⟨x,hx,e⟩:=ajI.1 hm
   exact fz h4 x hx e
  .rcases akc.1 hx with rfl|hx
   .exact hk
   .exact h4.2 x (Ov hx)
 unfold gx
 rw[if_neg (by simp[ho]),if_neg (by simp[hk])]
 split
 .exact⟨(ar _).2 ⟨h1,h2,by rw[asq];simp only;omega,bb hs h4⟩,rfl⟩
 .rcases du (⟨nm,no,b⟩::cP c.l ⟨nm,no⟩) c.cap 0 h1 with⟨r1,r2⟩|⟨r,r1,r2,r3⟩
  .rw[if_pos (by omega)]
   exact⟨(ar _).2 ⟨h1,h2,by rw[asq];exact r2,hT⟩,rfl⟩
  .rw[if_neg (by omega)]
   rw[show(gV c.cap 0 (⟨nm,no,b⟩::cP c.l ⟨nm,no⟩)).1.toNat=r by omega]
   exact⟨(ar _).2 ⟨h1,h2,by rw[asq];exact r3,bb (List.take_sublist _ _) hT⟩,rfl⟩
def d4{p:Hd->Bool}:∀{F R:List Hd},(∀x∈F,p x=false)->bf p (F++R)=if bf p R<0 then-1 else(F.length:Int)+bf p R
 |[],R,_=>by
  have:=(lw p R).1
  simp only[List.nil_append,List.length_nil]
  split<;>omega
 |x::F,R,h=>by
  have ih:=d4 (F:=F) (R:=R) (fun y hy=>h y (ajW _ hy))
  have h0:=h x (ajK ..)
  rw[List.cons_append,bf,if_neg (by simp[h0]),ih,akx]
  by_cases hr:bf p R<0
  .rw[if_pos hr,if_pos hr,if_pos (by omega)]
  .rw[if_neg hr,if_neg hr,if_neg (by omega)]
   omega
theorem f7{F R:List Hd}{k:Ky}(h:∀x∈F,eF x≠k):cP (F++R) k=F++cP R k:=by
 have hf:=d4 (p:=eW k) (F:=F) (R:=R) (fun x hx=>by
  cases e:eW k x with
  |false=>rfl
  |true=>exact absurd (a5.1 e) (h x hx))
 unfold cP
 rw[hf]
 by_cases hr:bf (eW k) R<0
 .rw[if_pos hr,if_pos hr,if_pos (by decide)]
 .rw[if_neg hr,if_neg hr,if_neg (by omega)]
  obtain⟨r,hr2⟩:=akp (show 0<=bf (eW k) R by omega)
  rw[hr2,show((F.length:Int)+(r:Int)).toNat=F.length+r by omega,akl]
  rw[List.take_append,List.drop_append,aju (by omega),List.drop_of_length_le (by omega)]
  rw[show F.length+r-F.length=r by omega,show F.length+r+1-F.length=r+1 by omega]
  simp
def f8{c:Ca}{nm:ByteArray}{no:Int}{b:Bs}{F R:List Hd}(ho:dG c=0)(hk:oE ⟨nm,no⟩=true)(hl:c.l=F++R)(hF:∀x∈F,eF x≠⟨nm,no⟩)(hz:(szN F:Int)+b.length<=c.cap):
  ∃R',(gx c nm no b).1.l=(⟨nm,no,b⟩::F)++R':=by
 unfold gx
 rw[if_neg (by simp[ho]),if_neg (by simp[hk]),if_neg (by omega),hl,f7 hF]
 have hr:=dm (⟨nm,no,b⟩::F) (cP R ⟨nm,no⟩) c.cap 0 (by rw[af];simp only;omega)
 have TK:=Fg (cP R ⟨nm,no⟩) (c.cap-(szN (⟨nm,no,b⟩::F):Int)) (0+(⟨nm,no,b⟩::F:List Hd).length)
 rw[List.cons_append]at hr
 rw[<-hr]at TK
 split
 .exact⟨cP R ⟨nm,no⟩,rfl⟩
 .rename_i hn
  rcases TK with h1|⟨h1,_⟩
  .omega
  .refine⟨(cP R ⟨nm,no⟩).take ((gV c.cap 0 (⟨nm,no,b⟩::(F++cP R ⟨nm,no⟩))).1.toNat-(⟨nm,no,b⟩::F:List Hd).length),?_⟩
   simp only
   rw[<-List.cons_append,List.take_append,aju (by simp only[List.cons_append];omega)]
def d5(nm:ByteArray)(hnm:1<=nm.size):∀(bs:List Bs) (i:Nat) (c:Ca) (F R:List Hd),dG c=0->c.l=F++R->(∀h∈F,h.no<i)->i+bs.length<=1000000->(szN F:Int)+bs.flatten.length<=c.cap->
  dG (iY nm i bs c)=0/\(iY nm i bs c).cap=c.cap/\(∀h∈F,h∈(iY nm i bs c).l)/\∀j x,bs[j]?=some x->(⟨nm,((i+j:Nat):Int),x⟩:Hd)∈(iY nm i bs c).l
 |[],i,c,F,R,ho,hl,_,_,_=>⟨ho,rfl,fun h hh=>by rw[iY,hl];exact List.mem_append_left _ hh,by simp⟩
 |x::bs,i,c,F,R,ho,hl,hF,hi,hz=>by
  simp only[List.flatten_cons,ajB,akx]at hz hi
  have hk:oE ⟨nm,(i:Int)⟩=true:=by
   unfold oE
   simp only[ajT,akk]
   omega
  obtain⟨p1,p2⟩:=dT (b:=x) ho hk
  obtain⟨R',p3⟩:=f8 (b:=x) ho hk hl (fun y hy e=>by
   have:=hF y hy
   have e:y.no=(i:Int):=congrArg Ky.no e
   omega) (by omega)
  obtain⟨q1,q2,q3,q4⟩:=d5 nm hnm bs (i+1) (gx c nm i x).1 (⟨nm,i,x⟩::F) R' p1 p3 (fun h hh=>by
   rcases akc.1 hh with rfl|hh
   .simp only;omega
   .have:=hF h hh;omega) (by omega) (by rw[af,p2];simp only;omega)
  rw[iY]
  refine⟨q1,q2.trans p2,fun h hh=>q3 h (ajW _ hh),fun j y hj=>?_⟩
  match j,hj with
  |0,hj=>cases hj;exact q3 _ (ajK ..)
  |j+1,hj=>
   have:=q4 j y (by simpa using hj)
   rw[show i+1+j=i+(j+1) by omega]at this
   exact this
def d6(nm:ByteArray)(hnm:1<=nm.size):∀(bs:List Bs) (i:Nat) (c:Ca),dG c=0->i+bs.length<=1000000->dG (iY nm i bs c)=0/\(iY nm i bs c).cap=c.cap
 |[],i,c,ho,_=>⟨ho,rfl⟩
 |x::bs,i,c,ho,hi=>by
  simp only[akx]at hi
  have hk:oE ⟨nm,(i:Int)⟩=true:=by
   unfold oE
   simp only[ajT,akk]
   omega
  obtain⟨p1,p2⟩:=dT (b:=x) ho hk
  obtain⟨q1,q2⟩:=d6 nm hnm bs (i+1) (gx c nm i x).1 p1 (by omega)
  exact⟨q1,q2.trans p2⟩
def ea(nm:ByteArray):∀(bs:List Bs) (i:Nat) (c:Ca),(iY nm i bs c).l.length<=c.l.length+bs.length
 |[],i,c=>ajz _
 |x::bs,i,c=>by
  have h1:=ea nm bs (i+1) (gx c nm i x).1
  have h2:=Fz c nm i x
  rw[iY,akx]
  omega
def bz(k:Nat)(hk:0<k):∀(f:Nat) (l:Bs),l.length<f->(gW k f l).flatten=l/\(gW k f l).length=(l.length+(k-1))/k
 |0,l,h=>by omega
 |f+1,l,h=>by
  unfold gW
  split
  .rename_i hn
   subst hn
   refine⟨rfl,?_⟩
   simp only[List.length_nil,ajX]
   exact(Nat.div_eq_of_lt (by omega)).symm
  .rename_i hn
   have hl:0<l.length:=List.length_pos_iff.2 hn
   obtain⟨h1,h2⟩:=bz k hk f (l.drop k) (by simp only[aj9];omega)
   refine⟨by rw[List.flatten_cons,h1,List.take_append_drop],?_⟩
   rw[akx,h2,aj9]
   by_cases XW:k<=l.length
   .rw[show l.length+(k-1)=l.length-k+(k-1)+k by omega,Nat.add_div_right _ hk]
   .rw[show l.length-k+(k-1)=k-1 by omega,Nat.div_eq_of_lt (by omega)]
    rw[show l.length+(k-1)=(l.length-1)+k by omega,Nat.add_div_right _ hk,Nat.div_eq_of_lt (by omega)]
def f9(b:Bs):(ta b).length=b.length:=by
 unfold ta
 split
 .simp
 .rfl
def b0(s:aw)(nm:ByteArray):(kL s nm).2.1.length<=8192:=by
 unfold kL
 split
 .simp
 rename_i h1
 have ho:=Nz (qe (Decidable.not_not.1 h1)).1 nm
 split
 .simp
 split
 .simp
 split
 .simp
 simp only
 split
 .rw[f9];exact ho
 .exact ho
def gd{s:aw}{nm:ByteArray}(h:(kL s nm).2.2=0):bP s=0/\dX nm=true/\cV s≠1/\cV s≠2/\dq s.objs nm=true/\kL s nm=(dz s,if cV s=3 then ta (qf s.objs nm)else qf s.objs nm,0):=by
 unfold kL at h⊢
 by_cases h1:fU s (dX nm)=0
 .rw[if_neg (by simp[h1])]at h⊢
  by_cases h2:cV s=1
  .rw[if_pos h2]at h;simp at h
  rw[if_neg h2]at h⊢
  by_cases h3:cV s=2
  .rw[if_pos h3]at h;simp at h
  rw[if_neg h3]at h⊢
  cases h4:dq s.objs nm with
  |false=>rw[if_pos h4]at h;simp at h
  |true=>
   rw[if_neg (by simp)]
   exact⟨(qe h1).1,(qe h1).2,h2,h3,rfl,rfl⟩
 .rw[if_pos h1]at h;exact absurd h h1
def ed{s:aw}{c:Ca}{n:ByteArray}{p:Pc}(hz:(bQ s c n p).e=0):(d8 s c (dF n p.id) p.size).e=0/\¬na p (d8 s c (dF n p.id) p.size).b=false/\
  bQ s c n p=⟨(d8 s c (dF n p.id) p.size).s,if(d8 s c (dF n p.id) p.size).asked=true then iY (dF n p.id) 0 (fw 512 (d8 s c (dF n p.id) p.size).b) (d8 s c (dF n p.id) p.size).c else(d8 s c (dF n p.id) p.size).c,dw p.base (bk (d8 s c (dF n p.id) p.size).b),0⟩:=by
 unfold bQ at hz⊢
 generalize d8 s c (dF n p.id) p.size=a at*
 unfold ql at hz⊢
 by_cases h1:a.e=0
 .rw[if_neg (by simp[h1])]at hz⊢
  by_cases h2:na p a.b=false
  .rw[if_pos h2]at hz;simp at hz
  .rw[if_neg h2]
   exact⟨h1,h2,rfl⟩
 .rw[if_pos h1]at hz
  exact absurd hz h1
def gg{s:aw}{c:Ca}{n:ByteArray}{p:Pc}(hn:1<=(dF n p.id).size)(ho:dG c=0)(hz:(bQ s c n p).e=0):
  dG (bQ s c n p).c=0/\(bQ s c n p).c.cap=c.cap/\((bQ s c n p).s=s\/(bQ s c n p).s=dz s/\bP s=0)/\
  ((bQ s c n p).s.calls=s.calls\/p.size<=c.cap->∀s',∃d,bQ s' (bQ s c n p).c n p=⟨s',d,(bQ s c n p).l,0⟩):=by
 obtain⟨h1,h2,h3⟩:=ed hz
 have ha:=a7 (dF n p.id) s (iw p.size) 0 c [] ho
 have Yz:l6 (dF n p.id) s (iw p.size) 0 c []=d8 s c (dF n p.id) p.size:=rfl
 rw[Yz]at ha
 rw[h3]
 clear Yz h3 hz
 generalize hA:d8 s c (dF n p.id) p.size=a at*
 clear hA
 obtain⟨a1,a2,a3⟩:=ha
 have hac:=bd ho a1 a2
 obtain⟨k1,k2,k3,k4,k5⟩:=FB h2
 have key:∀(D:Ca) (bs:List Bs),dG D=0->bs.length=iw p.size->bs.flatten=a.b->(∀j x,bs[j]?=some x->(⟨dF n p.id,((0+j:Nat):Int),x⟩:Hd)∈D.l)->∀s',∃d,bQ s' D n p=⟨s',d,dw p.base (bk a.b),0⟩:=by
  intro D bs hD hl hf hm s'
  obtain⟨d,d1,_,_⟩:=dj (dF n p.id) s' bs 0 D [] hD hm
  refine⟨d,?_⟩
  unfold bQ d8
  rw[<-hl,d1,List.nil_append,hf]
  unfold ql
  rw[if_neg (by simp),if_neg h2,if_neg (by simp)]
 rcases a3 with⟨b1,b2,b3,bs,b4,b5,b6⟩|⟨b1,b2,b3,b4⟩
 .rw[if_neg (by simp[b1])]
  exact⟨hac,a1,.inl b2,fun _=>key a.c bs hac b4 (by rw[b6];rfl) (fun j x hj=>a2.mem_iff.2 (b5 j x hj))⟩
 .rw[b4]at h1
  obtain⟨g1,_,_,_,_,g2⟩:=gd h1
  rw[if_pos b1]
  have XJ:a.b.length<=8192:=by rw[b3];exact b0 s _
  have hq:=bz 512 (by decide) (a.b.length+1) a.b (by omega)
  have hcn:(fw 512 a.b).length=iw p.size:=by
   rw[hq.2]
   unfold iw
   omega
  have Tk:(fw 512 a.b).length<=8192:=by rw[hq.2];omega
  obtain⟨p1,p2⟩:=d6 _ hn (fw 512 a.b) 0 a.c hac (by omega)
  have hs:a.s=dz s:=by rw[b2,g2]
  refine⟨p1,p2.trans a1,.inr ⟨hs,g1⟩,fun hc=>?_⟩
  have hcap:p.size<=c.cap:=by
   rcases hc with hc|hc
   .simp only[hs,dz]at hc
    omega
   .exact hc
  obtain⟨q1,q2,_,q4⟩:=d5 _ hn (fw 512 a.b) 0 a.c [] a.c.l hac rfl (by simp) (by omega) (by rw[hq.1];simp only[szN,aj4,List.sum_nil];omega)
  exact key _ _ q1 hcn hq.1 q4
def gl{next last en:Int}{op:Bool}{l:List Pc}(h:gP next last en op l=true):∀p∈l,0<=p.size/\p.size<=1099511627776:=by
 induction l generalizing last en op with
 |nil=>simp
 |cons q l ih=>
  have hq:dO q.size=false/\∃en' op',gP next q.id en' op' l=true:=by
   unfold gP at h
   repeat' split at h
   all_goals first|(exact absurd h (by decide))|exact⟨by simp_all,_,_,h⟩
  intro p hp
  rcases akc.1 hp with rfl|hp
  .have:=hq.1
   unfold dO at this
   simp only[Bool.or_eq_false_iff,decide_eq_false_iff_not]at this
   omega
  .obtain⟨e,o,h⟩:=hq.2
   exact ih h p hp
def gn{m:Mn}(h:bH m=0):m.l.length<=256/\∀p∈m.l,ON p:=by
 have hid:=fr h
 unfold bH at h
 repeat' split at h
 all_goals try(exact absurd h (by decide))
 rename_i h1 h2 h3 h4
 have hsz:=gl (l:=m.l) (last:= -1) (by simpa using h3)
 unfold dO at h2
 simp only[Bool.or_eq_true,akk,not_or]at h2
 refine⟨by omega,fun p hp=>⟨?_,hsz p hp⟩⟩
 have:=hid p hp
 omega
def go{m:Mn}{s:aw}{c:Ca}{n:ByteArray}{p:Pc}(hm:bH m=0)(hs:bP s=0)(hc:dG c=0)(hn:n.size<=1000000)(hl:c.l.length<=1000)(hz:szN c.l<=30000)(hp:p∈m.l):kO s c n p 30000:=by
 obtain⟨g1,g2,_⟩:=lW hs
 have ha:=a7 (dF n p.id) s (iw p.size) 0 c [] hc
 have Yz:l6 (dF n p.id) s (iw p.size) 0 c []=d8 s c (dF n p.id) p.size:=rfl
 rw[Yz]at ha
 obtain⟨a1,a2,a3⟩:=ha
 have hb:∀h∈c.l,h.bytes.length<=30000:=fun h hh=>akf (c7 hh) hz
 refine⟨by omega,by omega,by omega,hb,by decide,?_,hn,(gn hm).2 p hp,?_,by rw[a2.length_eq];omega,fun h hh=>?_⟩
 .have:=ajZ 30000 (show c.l.length+1<=1001 by omega)
  omega
 .rcases a3 with⟨_,_,_,bs,_,b5,b6⟩|⟨_,_,b3,_⟩
  .rw[b6,List.nil_append]
   have:=f5 b5
   omega
  .rw[b3]
   have:=b0 s (dF n p.id)
   omega
 .have:=hb h (a2.mem_iff.1 hh)
  omega
def gu(c:Ca)(nm:ByteArray)(no:Int)(b:Bs):szN (gx c nm no b).1.l<=szN c.l+b.length:=by
 have hs:=aI (dc c.l ⟨nm,no⟩)
 unfold gx
 split
 .simp[fV,szN]
 split
 .simp[fV,szN]
 split
 .simp only;omega
 split
 .simp only[af];omega
 .have:=aI (List.take_sublist (gV c.cap 0 (⟨nm,no,b⟩::cP c.l ⟨nm,no⟩)).1.toNat (⟨nm,no,b⟩::cP c.l ⟨nm,no⟩))
  simp only[af]at this⊢
  omega
def ee(nm:ByteArray):∀(bs:List Bs) (i:Nat) (c:Ca),szN (iY nm i bs c).l<=szN c.l+bs.flatten.length
 |[],i,c=>by simp[iY]
 |x::bs,i,c=>by
  have h1:=ee nm bs (i+1) (gx c nm i x).1
  have h2:=gu c nm i x
  rw[iY,List.flatten_cons,ajB]
  omega
def gv{s:aw}{c:Ca}{n:ByteArray}{p:Pc}(ho:dG c=0)(hz:(bQ s c n p).e=0):(bQ s c n p).c.l.length<=c.l.length+20/\szN (bQ s c n p).c.l<=szN c.l+8192:=by
 obtain⟨h1,h2,h3⟩:=ed hz
 have ha:=a7 (dF n p.id) s (iw p.size) 0 c [] ho
 have Yz:l6 (dF n p.id) s (iw p.size) 0 c []=d8 s c (dF n p.id) p.size:=rfl
 rw[Yz]at ha
 rw[h3]
 generalize d8 s c (dF n p.id) p.size=a at*
 obtain⟨a1,a2,a3⟩:=ha
 have e1:=a2.length_eq
 have e2:=cT a2
 rcases a3 with⟨b1,_⟩|⟨b1,b2,b3,b4⟩
 .rw[if_neg (by simp[b1])]
  exact⟨by simp only;omega,by simp only;omega⟩
 .rw[if_pos b1]
  have XJ:a.b.length<=8192:=by rw[b3];exact b0 s _
  have hq:=bz 512 (by decide) (a.b.length+1) a.b (by omega)
  have h4:=ea (dF n p.id) (fw 512 a.b) 0 a.c
  have h5:=ee (dF n p.id) (fw 512 a.b) 0 a.c
  rw[hq.1]at h5
  rw[hq.2]at h4
  exact⟨by simp only;omega,by simp only;omega⟩
def ca{m:Mn}{s:aw}{c:Ca}{n:ByteArray}{off:Int}(h1:ft n=0)(h2:bH m=0)(h3:bP s=0)(h4:dG c=0)(h5:(eQ m off).2=true)(h6:fT (bQ s c n (eQ m off).1).e=true):kP m s c n off=bQ s c n (eQ m off).1:=by
 have hf:cJ m s c n off=bQ s c n (eQ m off).1:=by
  unfold cJ
  rw[if_neg (by simp[h5])]
 unfold kP
 rw[h1,h2,h3,h4,if_neg (by decide),hf,if_pos h6]
def g0(n:ByteArray)(i:Int):1<=(dF n i).size:=by
 unfold dF
 have:((n++⟨#[45]⟩)++oA i).data.toList.length=((n++⟨#[45]⟩)++oA i).size:=Array.length_toList
 rw[<-this]
 simp
 omega
def g6(a b:Int):bits .or .u64 a b=bits .or .u64 b a:=by
 show IntKind.u64.wrap ((BitVec.ofInt 64 a|||BitVec.ofInt 64 b).toNat:Int)=IntKind.u64.wrap ((BitVec.ofInt 64 b|||BitVec.ofInt 64 a).toNat:Int)
 rw[BitVec.or_comm]
def a8(n:Nat)(x:UInt8)(h:n<281474976710656):bits .or .u64 (IntKind.u64.wrap ((n:Int)*256)) x.toNat=((n*256+x.toNat:Nat):Int):=by
 have hx:=x.toNat_lt
 rw[u64_wrap_id _ (by omega) (by omega),g6,u64_or8 _ _ (by omega) (by omega) (by omega) (by omega) (by omega)]
 omega
def cb(a b c d:UInt8):dW [a,b,c,d]=((((a.toNat*256+b.toNat)*256+c.toNat)*256+d.toNat:Nat):Int):=by
 have ha:=a.toNat_lt
 have hb:=b.toNat_lt
 have hc:=c.toNat_lt
 have hd:=d.toNat_lt
 show bits .or .u64 (IntKind.u64.wrap (bits .or .u64 (IntKind.u64.wrap (bits .or .u64 (IntKind.u64.wrap (bits .or .u64 (IntKind.u64.wrap (((0:Nat):Int)*256)) a.toNat*256)) b.toNat*256)) c.toNat*256)) d.toNat=_
 rw[a8 0 a (by omega),a8 _ b (by omega),a8 _ c (by omega),a8 _ d (by omega)]
 omega
def cc(n:Nat)(h:n<4294967296):dW (cg n)=n:=by
 unfold cg
 rw[cb]
 simp only[UInt8.toNat_ofNat']
 omega
def g7:∀{l m:Bs},l.length=4->m.length=4->dW l=dW m->l=m
 |[a,b,c,d],[a',b',c',d'],_,_,h=>by
  rw[cb,cb]at h
  have ha:=a.toNat_lt
  have hb:=b.toNat_lt
  have hc:=c.toNat_lt
  have hd:=d.toNat_lt
  have ha':=a'.toNat_lt
  have TR:=b'.toNat_lt
  have hc':=c'.toNat_lt
  have VO:=d'.toNat_lt
  have e1:a=a':=UInt8.toNat_inj.1 (by omega)
  have e2:b=b':=UInt8.toNat_inj.1 (by omega)
  have e3:c=c':=UInt8.toNat_inj.1 (by omega)
  have e4:d=d':=UInt8.toNat_inj.1 (by omega)
  rw[e1,e2,e3,e4]
def aP(l:Bs):(eB l).length=l.length+4:=by simp[eB,cg]
def g8(l:Bs):gk (eB l)=0/\bk (eB l)=l:=by
 have hB:bk (eB l)=l:=by
  unfold bk
  rw[aP,show l.length+4-4=l.length by omega]
  unfold eB
  rw[List.take_left]
 refine⟨?_,hB⟩
 unfold gk
 rw[hB,aP,if_neg (by omega),show l.length+4-4=l.length by omega]
 unfold eB
 rw[List.drop_left,cc _ (crcOf_lt l),if_pos rfl]
def hu(x y:UInt8)(h:y≠0):x^^^y≠x:=by
 intro e
 apply h
 have:x^^^(x^^^y)=x^^^x:=by rw[e]
 simpa[<-UInt8.xor_assoc]using this
def hC(l:Bs)(k:Nat)(h:k<l.length)(y:UInt8):∃a b,l=a++l[k]::b/\l.set k y=a++y::b:=by
 refine⟨l.take k,l.drop (k+1),?_,?_⟩
 .rw[<-aku h,List.take_append_drop]
 .rw[List.set_eq_take_append_cons_drop,if_pos h]
def hG(l:Bs)(k:Nat)(y:UInt8)(hk:k<(eB l).length)(hy:(eB l)[k]?≠some y):gk ((eB l).set k y)≠0:=by
 have hl:=aP l
 unfold gk bk
 rw[List.length_set,hl,if_neg (by omega),show l.length+4-4=l.length by omega]
 have key:dW (((eB l).set k y).drop l.length)≠((crcOf (((eB l).set k y).take l.length):Nat):Int):=by
  unfold eB at hy⊢
  by_cases h:k<l.length
  .rw[akt h,ajq h]at hy
   have hy:l[k]≠y:=fun e=>hy (by rw[e])
   rw[List.set_append_left _ _ h,List.drop_left' (List.length_set ..),List.take_left' (List.length_set ..),cc _ (crcOf_lt l)]
   obtain⟨a,b,e1,e2⟩:=hC l k h y
   rw[e2]
   have:=crcOf_other a b (x:=l[k]) (y:=y) hy
   rw[<-e1]at this
   omega
  .rw[akw (by omega)]at hy
   rw[List.set_append_right _ _ (by omega),List.drop_left,List.take_left]
   intro e
   have:=g7 (by simp[cg]) (by simp[cg]) (e.trans (cc _ (crcOf_lt l)).symm)
   apply hy
   have h4:k-l.length<(cg (crcOf l)).length:=by simp[cg];omega
   have hg:((cg (crcOf l)).set (k-l.length) y)[k-l.length]?=(cg (crcOf l))[k-l.length]?:=by rw[this]
   rw[List.getElem?_set_self h4]at hg
   exact hg.symm
 rw[if_neg key]
 decide
def ep(l:Bs):∀(k a:Nat) (next base:Int),base<=next->base<=pY base (jX l k a next)
 |0,a,next,base,_=>by simp[jX,pY]
 |k+1,a,next,base,h=>by
  unfold jX
  split
  .simp[pY]
  .rename_i h1
   simp only[Decidable.not_not]at h1
   obtain⟨b,q1,q2,q3,q4,_⟩:=DM h1
   split
   .simp[pY]
   .rename_i h2
    have:=DN q4
    have ih:=ep l k (eh l a).2.1.toNat ((eh l a).1.last+1) ((eh l a).1.last+1) (Int.le_refl _)
    rw[pY]
    simp only
    omega
def er(l:Bs):∀(k a:Nat) (next base:Int),∀q∈jX l k a next,q.1.last<pY base (jX l k a next)
 |0,a,next,base=>by simp[jX]
 |k+1,a,next,base=>by
  unfold jX
  split
  .simp
  .rename_i h1
   split
   .simp
   .intro q hq
    rw[pY]
    rcases akc.1 hq with rfl|hq
    .have:=ep l k (eh l a).2.1.toNat ((eh l a).1.last+1) ((eh l a).1.last+1) (Int.le_refl _)
     simp only
     omega
    .exact er l k _ _ _ q hq
def ev{l:List bL}{p:bL×Int}(h:p∈dY l):∃i t,l[i]?=some p.1/\l[i+1]?=some t/\p.2=t.base:=by
 obtain⟨i,hi⟩:=List.getElem?_of_mem h
 unfold dY at hi
 rw[List.getElem?_zip_eq_some]at hi
 obtain⟨h1,h2⟩:=hi
 rw[ajw,ajt]at h2
 obtain⟨t,h2,h3⟩:=h2
 rw[aka,Nat.add_comm]at h2
 exact⟨i,t,h1,h2,h3.symm⟩
def hH{L:Lg}{p:bL×Int}(h:cj L=0)(hp:p∈dY L.segs):iQ p.1.base p.1.bytes=p.1.bytes.length/\∀b∈dw p.1.base p.1.bytes,b.last<p.2:=by
 obtain⟨i,t,h1,h2,h3⟩:=ev hp
 unfold cj at h
 repeat' split at h
 all_goals try(exact absurd h (by decide))
 rename_i _ g _
 simp only[Bool.not_eq_false,ajR]at g
 have a1:=g i (List.mem_range.2 (ajs.1 h1).1)
 have a2:=g (i+1) (List.mem_range.2 (ajs.1 h2).1)
 unfold kF at a1 a2
 rw[h1]at a1
 rw[h2]at a2
 simp only[ajT,Nat.add_sub_cancel,h1,Bool.or_eq_true,akk]at a1 a2
 have w:=a1.2.1
 unfold sJ at w
 simp only[ajT,akk]at w
 have f:=a2.2.2.resolve_left (by omega)
 unfold sK at f
 simp only[ajT,akk]at f
 refine⟨w.2,fun b hb=>?_⟩
 obtain⟨q,hq,rfl⟩:=ajI.1 hb
 have:=er _ _ _ _ p.1.base q hq
 have hf:=f.2
 unfold jY at hf
 unfold cO at hf
 rw[h3]
 omega
def hI(o:oBj):dq [o] o.name=true/\qf [o] o.name=o.bytes:=by
 have h:dq [o] o.name=true:=fl (by simp[aR]) ⟨o,ajK ..,rfl⟩
 refine⟨h,?_⟩
 obtain⟨x,h1,h2⟩:=fk h
 unfold qf
 rw[h1]
 have:=ajx h1
 simp only[List.mem_singleton]at this
 rw[this]
def ce{nm:ByteArray}{b:Bs}{k:Int}(hn:dX nm=true)(hb:b.length<=8192)(h0:0<=k)(h1:k<1099511627776):bP ⟨[⟨nm,b⟩],k,[]⟩=0:=
 fi ⟨by simp[aR],fun o ho=>by simp only[List.mem_singleton]at ho;subst ho;exact⟨hn,hb⟩⟩ (by simp) (by simp) h0 h1 (by simp)
def ex{nm:ByteArray}{b:Bs}{k size:Int}{c:Ca}(hn:dX nm=true)(hb:b.length<=8192)(h0:0<=k)(h1:k<1099511627776)(hc:c.l=[])(hs:0<size):d8 ⟨[⟨nm,b⟩],k,[]⟩ c nm size=⟨⟨[⟨nm,b⟩],k+1,[]⟩,c,b,true,0⟩:=by
 have hg:(dB c nm (0:Nat)).2.2=false:=by
  unfold dB
  split
  .rfl
  .rw[hc]
   rfl
 have ho:kL ⟨[⟨nm,b⟩],k,[]⟩ nm=(⟨[⟨nm,b⟩],k+1,[]⟩,b,0):=by
  have TT:=ce hn hb h0 h1
  obtain⟨f1,f2⟩:=hI ⟨nm,b⟩
  simp only at f1 f2
  unfold kL fU
  rw[TT,hn]
  simp only[f1,f2]
  rfl
 unfold d8
 obtain⟨j,hj⟩:∃j,iw size=j+1:=⟨iw size-1,by unfold iw;omega⟩
 rw[hj,l6,if_neg (by rw[hg];decide),ho]
abbrev ag:Ca:=⟨20000,[]⟩
structure ey(L:Lg)(n:ByteArray)(p:Pc)(b:Bs)(m:Mn):Prop where
 mv:fI L fW xL n=(m,⟨[⟨dF n 0,eB b⟩],1,[]⟩,0)
 ml:m.l=[p]
 pid:p.id=0
 ps:p.state=2
 bf:p.base<p.fin
 sz:p.size=b.length+4
 sum:p.sum=(crcOf b:Nat)
 iQ:iQ p.base b=b.length
 late:(dw p.base b).any (gy p)=false
 mE:bH m=0
 pE:ft n=0
 nB:dX (dF n 0)=true
 bl:b.length<=5000
def hJ{m:Mn}{base fin size:Int}(h:qc m base fin size=0):dO base=false/\dO fin=false/\dO size=false/\base<fin:=by
 unfold qc at h
 by_cases h0:bH m=0
 .rw[if_neg (by simp[h0])]at h
  by_cases h1:dO base=true
  .rw[if_pos h1]at h;simp at h
  rw[if_neg h1]at h
  by_cases h2:dO fin=true
  .rw[if_pos h2]at h;simp at h
  rw[if_neg h2]at h
  by_cases h3:dO size=true
  .rw[if_pos h3]at h;simp at h
  rw[if_neg h3]at h
  by_cases h4:fin<=base
  .rw[if_pos h4]at h;simp at h
  exact⟨by simpa using h1,by simpa using h2,by simpa using h3,by omega⟩
 .rw[if_pos h0]at h
  exact absurd h h0
def hK{L:Lg}{n:ByteArray}(hL:∀s∈L.segs,s.bytes.length<=5000)(h:(fI L fW xL n).2.2=0):∃p b m,ey L n p b m:=by
 have hv:fI L fW xL n=fI L fW xL n:=rfl
 conv at hv=>rhs;unfold fI
 by_cases h1:dx [ft n,cj L,bH fW,bP xL]=0
 .rw[if_neg (by simp[h1])]at hv
  have hz:=xq h1
  simp only[akd]at hz
  obtain⟨z1,z2,z3,z4,_⟩:=hz
  by_cases h2:fT (cm L fW xL n).2.2=true
  .rw[if_pos h2]at hv
   have hv':=hv
   unfold cm at hv
   cases hx:m6 fW L with
   |none=>rw[hx]at hv;rw[hv]at h;simp at h
   |some q=>
    rw[hx]at hv
    simp only at hv
    have hq:q∈dY L.segs:=List.mem_of_find?_eq_some hx
    obtain⟨g1,g2⟩:=hH z2 hq
    obtain⟨i,t,i1,_,_⟩:=ev hq
    have XJ:=hL _ (ajx i1)
    obtain⟨sg,en⟩:=q
    simp only at g1 g2 XJ
    unfold oD cI j8 at hv
    by_cases h3:qc fW sg.base en ((sg.bytes.length:Int)+4)=0
    .have h3':qc fW (dy sg en).base (dy sg en).fin (dy sg en).size=0:=h3
     simp only[h3',if_true]at hv
     rw[if_neg (by simp)]at hv
     obtain⟨b2,b3,b4,b5⟩:=hJ h3
     have e0:fW.next=0:=rfl
     have e1:fW.ver=0:=rfl
     have e2:fW.l=[]:=rfl
     rw[e0,e1,e2]at hv
     by_cases h4:(iX xL (dF n 0) (eB sg.bytes)).2=0
     .rw[if_neg (by simp[h4])]at hv
      have hp:=h4
      unfold iX at hp
      by_cases h5:fU xL (dX (dF n 0))=0
      .have Yu:=(qe h5).2
       have UD:(iX xL (dF n 0) (eB sg.bytes)).1=⟨[⟨dF n 0,eB sg.bytes⟩],1,[]⟩:=by
        unfold iX
        rw[if_neg (by simp[h5]),if_neg (by rw[aP];omega),if_neg (by simp[xL])]
        rfl
       rw[UD]at hv
       by_cases h6:bH ⟨0+1,0+1,[]++[⟨0,sg.base,en,(sg.bytes.length:Int)+4,(crcOf sg.bytes:Nat),1⟩]⟩=0
       .have hd:gq ⟨0+1,0+1,[]++[⟨0,(dy sg en).base,(dy sg en).fin,(dy sg en).size,(dy sg en).sum,1⟩]⟩ 0=(⟨2,1,[⟨0,sg.base,en,(sg.bytes.length:Int)+4,(crcOf sg.bytes:Nat),2⟩]⟩,0):=by
         unfold gq
         rw[if_neg (by simpa[dy]using h6)]
         simp[bf,eT,dy]
        rw[hd]at hv
        refine⟨⟨0,sg.base,en,(sg.bytes.length:Int)+4,(crcOf sg.bytes:Nat),2⟩,sg.bytes,_,⟨hv,rfl,rfl,rfl,by simp only;omega,rfl,rfl,g1,?_,?_,z1,Yu,XJ⟩⟩
        .rw[List.any_eq_false]
         intro b hb
         have:=g2 b hb
         simp[gy]
         omega
        .unfold bH
         simp only[gP,b2,b3,b4,ajS,ajU]
         rw[if_neg (by decide),if_neg (by decide),if_neg]
         .rw[if_neg (by simp)]
         .have:¬sg.base<0:=by
           unfold dO at b2
           simp at b2
           omega
          simp[this]
          omega
       .exfalso
        unfold gq at hv
        rw[if_pos (by simpa[dy]using h6)]at hv
        rw[hv]at h
        exact h6 (by simpa[dy]using h)
      .rw[if_pos h5]at hp
       exact absurd hp h5
     .rw[if_pos h4]at hv
      rw[hv]at h
      exact absurd h h4
    .exfalso
     have h3':¬qc fW (dy sg en).base (dy sg en).fin (dy sg en).size=0:=h3
     simp only[if_neg h3']at hv
     rw[if_pos h3']at hv
     rw[hv]at h
     exact h3' h
  .rw[if_neg h2]at hv
   rw[hv]at h
   simp only at h
   rw[h]at h2
   exact absurd rfl h2
 .rw[if_pos h1]at hv
  rw[hv]at h
  exact absurd h h1
def hM{L:Lg}{n:ByteArray}{p:Pc}{b:Bs}{m:Mn}(M:ey L n p b m){k:Nat}{y:UInt8}(hn:n.size<=200)(hk:k<(eB b).length)(hy:(eB b)[k]?≠some y):
  ∃cG d,kP m ⟨[⟨dF n 0,eB b⟩],1,[]⟩ ag n p.base=⟨⟨[⟨dF n 0,eB b⟩],2,[]⟩,cG,dw p.base b,0⟩/\
   kP m ⟨[⟨dF n 0,(eB b).set k y⟩],1,[]⟩ ag n p.base=⟨⟨[⟨dF n 0,(eB b).set k y⟩],2,[]⟩,ag,[],20⟩/\
   kP m ⟨[⟨dF n 0,(eB b).set k y⟩],1,[]⟩ cG n p.base=⟨⟨[⟨dF n 0,(eB b).set k y⟩],1,[]⟩,d,dw p.base b,0⟩/\
   eQ m p.base=(p,true)/\p∈m.l/\bP ⟨[⟨dF n 0,eB b⟩],1,[]⟩=0/\bP ⟨[⟨dF n 0,(eB b).set k y⟩],1,[]⟩=0/\dG ag=0/\dG cG=0/\cG.l.length<=1000/\szN cG.l<=30000:=by
 have hat:eQ m p.base=(p,true):=by
  unfold eQ
  rw[M.ml]
  have:kH p.base p=true:=by
   unfold kH
   simp only[ajT,akk]
   exact⟨M.ps,Int.le_refl _,M.bf⟩
  simp[bf,this]
 have Tj:=aP b
 have TZ:(eB b).length<=8192:=by have:=M.bl;omega
 have Uu:((eB b).set k y).length<=8192:=by rw[List.length_set];exact TZ
 have Uq:=ce (k:=1) M.nB TZ (by decide) (by decide)
 have T8:=ce (k:=1) M.nB Uu (by decide) (by decide)
 have Ws:dG ag=0:=by decide
 have hsz:0<p.size:=by rw[M.sz];omega
 have hnm:dF n p.id=dF n 0:=by rw[M.pid]
 have hA1:=ex (size:=p.size) (c:=ag) (k:=1) M.nB TZ (by decide) (by decide) rfl hsz
 have hA2:=ex (size:=p.size) (c:=ag) (k:=1) M.nB Uu (by decide) (by decide) rfl hsz
 obtain⟨o1,o2⟩:=g8 b
 have Uf:na p (eB b)=true:=by
  unfold na
  rw[o1,o2,Tj,M.sz,M.sum,M.iQ,M.late]
  simp
 have hbad:na p ((eB b).set k y)=false:=by
  unfold na
  rw[decide_eq_false (hG b k y hk hy)]
  rfl
 obtain⟨cG,hcG⟩:∃cG,cG=iY (dF n 0) 0 (fw 512 (eB b)) ag:=⟨_,rfl⟩
 have hF1:bQ ⟨[⟨dF n 0,eB b⟩],1,[]⟩ ag n p=⟨⟨[⟨dF n 0,eB b⟩],1+1,[]⟩,cG,dw p.base b,0⟩:=by
  unfold bQ
  rw[hnm,hA1]
  unfold ql
  rw[if_neg (by simp),if_neg (by simp[Uf]),if_pos rfl,o2,hcG]
 have hF2:bQ ⟨[⟨dF n 0,(eB b).set k y⟩],1,[]⟩ ag n p=⟨⟨[⟨dF n 0,(eB b).set k y⟩],1+1,[]⟩,ag,[],20⟩:=by
  unfold bQ
  rw[hnm,hA2]
  unfold ql
  rw[if_neg (by simp),if_pos hbad]
  have:tf ag (dF n 0)=ag:=by
   unfold tf
   rw[Ws,if_neg (by simp)]
   rfl
  rw[this]
 have hz:(bQ ⟨[⟨dF n 0,eB b⟩],1,[]⟩ ag n p).e=0:=by rw[hF1]
 obtain⟨a1,a2,a3,a4⟩:=gg (g0 n p.id) Ws hz
 obtain⟨s1,s2⟩:=gv Ws hz
 rw[hF1]at a1 a2 a4 s1 s2
 simp only at a1 a2 a4 s1 s2
 obtain⟨d,hd⟩:=a4 (.inr (by rw[M.sz];have:=M.bl;show(b.length:Int)+4<=20000;omega)) ⟨[⟨dF n 0,(eB b).set k y⟩],1,[]⟩
 have hat2:(eQ m p.base).2=true:=by rw[hat]
 refine⟨cG,d,?_,?_,?_,hat,by rw[M.ml];exact ajK ..,Uq,T8,Ws,a1,by simp at s1;omega,by simp[szN]at s2⊢;omega⟩
 .rw[ca M.pE M.mE Uq Ws hat2 (by rw[hat,hF1];rfl),hat,hF1]
  rfl
 .rw[ca M.pE M.mE T8 Ws hat2 (by rw[hat,hF2];rfl),hat,hF2]
  rfl
 .rw[ca M.pE M.mE T8 a1 hat2 (by rw[hat,hd];rfl),hat,hd]
def hN{P:Program}{t:TypeId}(h:P.underlying t=some .bool)(d:Nat)(a b:Bool):aQ P (Op.equalIn (d+1) t (.bool a) (.bool b))=some (a==b):=by
 unfold Op.equalIn
 rw[eY,sM h]
 rfl
abbrev ad(r:fj):Array Value:=#[.int .i64 r.off,.string r.key,.string r.val,.bool r.dead,.int .i64 r.stamp]
def hO(r:fj):aQ Tryz.prog (Op.equal 239 (.agg (ad r)) (.agg (ad r)))=some true:=by
 have key:∀n,aQ Tryz.prog (Op.equalIn (n+1+1) 239 (.agg (ad r)) (.agg (ad r)))=some (r.off==r.off&&(r.key==r.key&&(r.val==r.val&&(r.dead==r.dead&&(r.stamp==r.stamp&&true))))):=by
  intro n
  refine D1 Tryz.underlying239 (by kernel_rfl) (fun f=>if f.offset=0 then .int .i64 r.off else if f.offset=1 then .string r.key else if f.offset=2 then .string r.val else if f.offset=3 then .bool r.dead else .int .i64 r.stamp)
   (fun f=>if f.offset=0 then .int .i64 r.off else if f.offset=1 then .string r.key else if f.offset=2 then .string r.val else if f.offset=3 then .bool r.dead else .int .i64 r.stamp)
   (fun f=>if f.offset=0 then r.off==r.off else if f.offset=1 then r.key==r.key else if f.offset=2 then r.val==r.val else if f.offset=3 then r.dead==r.dead else r.stamp==r.stamp) ?_
  intro f hf
  simp only[akc,List.mem_nil_iff,or_false]at hf
  rcases hf with rfl|rfl|rfl|rfl|rfl
  .exact⟨by decide,by kernel_rfl,by kernel_rfl,mY Tryz.underlying3 _ _ _⟩
  .exact⟨by decide,by kernel_rfl,by kernel_rfl,Ma Tryz.underlying9 _ _ _⟩
  .exact⟨by decide,by kernel_rfl,by kernel_rfl,Ma Tryz.underlying9 _ _ _⟩
  .exact⟨by decide,by kernel_rfl,by kernel_rfl,hN Tryz.underlying4 _ _ _⟩
  .exact⟨by decide,by kernel_rfl,by kernel_rfl,mY Tryz.underlying3 _ _ _⟩
 have hb:∀s:ByteArray,(s==s)=true:=fun s=>by
  show(s.data==s.data)=true
  simp
 have h2:aQ Tryz.prog (Op.equal 239 (.agg (ad r)) (.agg (ad r)))=some (r.off==r.off&&(r.key==r.key&&(r.val==r.val&&(r.dead==r.dead&&(r.stamp==r.stamp&&true))))):=key (Op.maxDepth-2)
 rw[h2,hb,hb]
 simp
def hP(x y:Operand)(p:fj):aX Tryz.prog .neq 239 x y (.t (recT p)) (.t (recT p))=val (tt false):=by
 have hq:Tryz.prog.eqGuardType Tryz.prog.depth 239=false:=by kernel_rfl
 have h:aX Tryz.prog .neq 239 x y (.t (recT p)) (.t (recT p))=bU (aQ Tryz.prog (do eqGuard .neq 239 x y (.agg (ad p)) (.agg (ad p));binOp .neq 239 (.agg (ad p)) (.agg (ad p)))):=rfl
 rw[h,eY]
 have hg:aQ Tryz.prog (eqGuard .neq 239 x y (.agg (ad p)) (.agg (ad p)))=some ():=by
  simp only[eqGuard,Bool.not_true,ajU,ajS]
  rw[eY,sL]
  simp only[ake]
  rw[eY,sL]
  simp only[ake,hq]
  rfl
 have hb:aQ Tryz.prog (binOp .neq 239 (.agg (ad p)) (.agg (ad p)))=some (.bool false):=by
  have e:binOp .neq 239 (.agg (ad p)) (.agg (ad p))=(do pure (.bool (!(<-Op.equal 239 (.agg (ad p)) (.agg (ad p)))))):=rfl
  rw[e,eY,hO]
  rfl
 rw[hg,ake,hb]
 rfl
def hQ(l:List fj)(hn:l.length<=1000000):aji 179 [.sl 5 (l.map recT),.sl 5 (l.map recT)] (tt true):=by
 refine pu e6 rfl ?_
 simp[cp]
 skip
 refine ba (fun E=>∃i:Nat,i<=l.length/\E.tmps 13= .t (int i)/\E.tmps 12= .t (int l.length)/\E.tmps 0= .t (.sl 5 (l.map recT))/\E.tmps 1= .t (.sl 5 (l.map recT))) (fun E=>match E.tmps 13 with| .t (.v (.int _ i))=>l.length-i.toNat|_=>0) [] rfl ?_ ?_
 .refine⟨0,by omega,?_,?_,?_,?_⟩<;>simp
 rintro E1 ⟨i,hi,e13,e12,e0,e1⟩ hU hS A hA
 simp[*,cn]
 repeat'(first|simp[*]|(apply aN<;>intro h))
 .have hx:=ajq h
  obtain⟨x,Tm⟩:∃x,l[i]=x:=⟨_,rfl⟩
  rw[Tm]at hx
  have c1:=fun a b=>hP a b x
  have hw:IntKind.i64.wrap ((i:Int)+1)=((i+1:Nat):Int):=by rw[bx (by omega) (by omega)];omega
  repeat' simp[*,c1]
  refine hA _ (aH [] rfl rfl ⟨i+1,by omega,?_,?_,?_,?_⟩ ?_)
  all_goals simp[*]
  all_goals omega
 .skip
  all_goals exact au rfl
def hR(b:aF)(hn:b.recs.length<=1000000):aji 88 [aG b,aG b] (tt true):=by
 have c1:=hQ b.recs hn
 have hE:∀x y,aX Tryz.prog .eql 4 x y (.t (bo b.txn)) (.t (bo b.txn))=val (tt true):=fun x y=>by cases b.txn<;>kernel_rfl
 refine pu e5 rfl ?_
 simp[cl]
 repeat'(first|simp[*]|apply aj|refine Up c1 rfl ?_)
 all_goals exact au rfl
def hY(l:List aF)(hn:l.length<=1000000)(hb:∀b∈l,b.recs.length<=1000000):aji 24 [kE l,kE l] (tt true):=by
 refine pu eG rfl ?_
 simp[ci]
 skip
 refine ba (fun E=>∃i:Nat,i<=l.length/\E.tmps 13= .t (int i)/\E.tmps 12= .t (int l.length)/\E.tmps 0= .t (kE l)/\E.tmps 1= .t (kE l)) (fun E=>match E.tmps 13 with| .t (.v (.int _ i))=>l.length-i.toNat|_=>0) [] rfl ?_ ?_
 .refine⟨0,by omega,?_,?_,?_,?_⟩<;>simp
 rintro E1 ⟨i,hi,e13,e12,e0,e1⟩ hU hS A hA
 simp[*,ch]
 repeat'(first|simp[*]|(apply aN<;>intro h))
 .have hx:=ajq h
  obtain⟨x,Tm⟩:∃x,l[i]=x:=⟨_,rfl⟩
  rw[Tm]at hx
  have c1:=hR x (hb x (ajx hx))
  have hw:IntKind.i64.wrap ((i:Int)+1)=((i+1:Nat):Int):=by rw[bx (by omega) (by omega)];omega
  repeat'(first|simp[*]|refine Up c1 rfl ?_)
  refine hA _ (aH [] rfl rfl ⟨i+1,by omega,?_,?_,?_,?_⟩ ?_)
  all_goals simp[*]
  all_goals omega
 .skip
  all_goals exact au rfl
def h7(x y:UInt8):bits .xor .u8 (x.toNat:Int) (y.toNat:Int)=((x^^^y).toNat:Int):=by
 have hx:=x.toNat_lt
 have hy:=y.toNat_lt
 have h:bits .xor .u8 (x.toNat:Int) (y.toNat:Int)=IntKind.u8.wrap ((BitVec.ofInt 8 (x.toNat:Int)^^^BitVec.ofInt 8 (y.toNat:Int)).toNat:Int):=rfl
 have e1:(BitVec.ofInt 8 (x.toNat:Int)).toNat=x.toNat:=by rw[BitVec.toNat_ofInt];omega
 have e2:(BitVec.ofInt 8 (y.toNat:Int)).toNat=y.toNat:=by rw[BitVec.toNat_ofInt];omega
 rw[h,BitVec.toNat_xor,e1,e2,UInt8.toNat_xor]
 have h3:x.toNat^^^y.toNat<2^8:=Nat.xor_lt_two_pow hx hy
 have h4:IntKind.u8.wrap ((x.toNat^^^y.toNat:Nat):Int)=((x.toNat^^^y.toNat:Nat):Int)%256:=by simp[IntKind.wrap,IntKind.bits,IntKind.signed]
 rw[h4]
 omega
def h6(L:Lg)(n:ByteArray)(at':Int)(y:UInt8):aji 6 [aO L,str n,int at',aC y] (tt true):=by
 have c0:=h9
 have c1:=nS (ts':=[aO L,.agg [int 0,int 0,.e0],.agg [.e0,int 0,.e0],.agg [int 0,.e0],str n]) (Qv L fW xL n) ⟨.rfl,FY,Qe,.rfl,.rfl,trivial⟩
 cases hf:tF L fW xL n with
 |false=>
  rw[hf]at c1
  refine pu kvq rfl ?_
  simp[s6]
  repeat'(first|simp[*]|apply aj|refine Up c0 rfl ?_|(refine UV (F:=[]) c1 rfl ?_ ?_;(· simp[*])))
  exact au rfl
 |true=>
 rw[hf]at c1
 unfold tF at hf
 simp only[ajT,akk]at hf
 obtain⟨f1,f2,f3,f4⟩:=hf
 obtain⟨g1,g2⟩:=Qw f1
 by_cases y0:y=0
 .subst y0
  refine pu kvq rfl ?_
  simp[s6]
  repeat'(first|simp[*]|apply aj|refine Up c0 rfl ?_|(refine UV (F:=[]) c1 rfl ?_ ?_;(· simp[*])))
  exact au rfl
 have y1:¬y.toNat=0:=fun h=>y0 (UInt8.toNat_inj.1 h)
 by_cases a0:at'<0
 .refine pu kvq rfl ?_
  simp[s6]
  repeat'(first|simp[*]|apply aj|refine Up c0 rfl ?_|(refine UV (F:=[]) c1 rfl ?_ ?_;(· simp[*])))
  exact au rfl
 obtain⟨k,rfl⟩:=akp (show 0<=at' by omega)
 have a1:¬(k:Int)<0:=by omega
 have a2:0<=(k:Int):=by omega
 have c2:=nS (ts':=[aO L,.agg [int 0,int 0,.e0],.agg [.e0,int 0,.e0],str n]) (bE L fW xL n (by omega) (fun s hs=>by have:=g2 s hs;omega) (by decide) (by omega)) ⟨.rfl,FY,Qe,.rfl,trivial⟩
 by_cases he:(fI L fW xL n).2.2=0
 .obtain⟨p,b,m,M⟩:=hK g2 he
  rw[M.mv]at c2
  simp only at c2
  have hm:=M.ml
  obtain⟨ver,next,l⟩:=m
  simp only at hm
  subst hm
  have Tj:=aP b
  have XJ:=M.bl
  by_cases hk:k<(eB b).length
  .have hv:=ajq hk
   obtain⟨v,Yx⟩:∃v,(eB b)[k]=v:=⟨_,rfl⟩
   rw[Yx]at hv
   have TW:(eB b)[k]?≠some (v^^^y):=by
    rw[hv]
    intro h
    exact hu v y y0 (Option.some.inj h).symm
   obtain⟨cG,d,l1,l2,l3,hat,Vj,Uq,T8,Ws,hcG,z1,z2⟩:=hM M (by omega) hk TW
   have c3:=OH 20000
   rw[show tg 20000=(ag,0)from by kernel_rfl]at c3
   have hlb:∀b'∈dw p.base b,b'.recs.length<=1000000:=fun b' TR=>by
    obtain⟨q,hq,rfl⟩:=ajI.1 TR
    have:=(L2 hq).2
    omega
   have hll:(dw p.base b).length<=1000000:=by
    have:=pX p.base b
    simp only[dw,ajJ]
    omega
   have c8:=hY (dw p.base b) hll hlb
   have hmE:=M.mE
   have TE:∀(s:aw) (c:Ca),bP s=0->dG c=0->c.l.length<=1000->szN c.l<=30000->(dx [ft n,bH ⟨ver,next,[p]⟩,bP s,dG c]=0->(eQ ⟨ver,next,[p]⟩ p.base).2=true->kO s c n (eQ ⟨ver,next,[p]⟩ p.base).1 30000):=by
    intro s c h1 h2 h3 h4 _ _
    rw[hat]
    exact go hmE h1 h2 (by omega) h3 h4 Vj
   have c4:=OW ⟨ver,next,[p]⟩ ⟨[⟨dF n 0,eB b⟩],1,[]⟩ ag n p.base 30000 (by simp) (by simp) (by simp) (TE _ _ Uq Ws (by simp) (by simp[szN]))
   have c5:=OW ⟨ver,next,[p]⟩ ⟨[⟨dF n 0,(eB b).set k (v^^^y)⟩],1,[]⟩ ag n p.base 30000 (by simp) (by simp) (by simp) (TE _ _ T8 Ws (by simp) (by simp[szN]))
   have c6:=OW ⟨ver,next,[p]⟩ ⟨[⟨dF n 0,(eB b).set k (v^^^y)⟩],1,[]⟩ cG n p.base 30000 (by simp) (by omega) (fun h hh=>by have:=c7 hh;omega) (TE _ _ T8 hcG z1 z2)
   rw[l1]at c4
   rw[l2]at c5
   rw[l3]at c6
   simp only at c4 c5 c6
   have k1:(k:Int)<(eB b).length:=by omega
   have k2:¬((eB b).length:Int)<=k:=by omega
   have hx:=h7 v y
   have hlim:(eB b).length<=100000000:=by omega
   clear Tj XJ TE Uq T8 hcG z1 z2 hat Vj l1 l2 l3 TW hmE hlb hll M
   generalize eB b=S at*
   have VX:List.take S.length ((S.map aC).set k (.v (.int .u8 ((v.toNat^^^y.toNat:Nat):Int))))=(S.set k (v^^^y)).map aC:=by
    rw[aju (by simp),List.map_set,<-UInt8.toNat_xor]
   generalize hX:S.set k (v^^^y)=X at*
   clear hX
   refine pu kvq rfl ?_
   simp[s6]
   repeat'(first|simp[*,az,ax,aB,aa.more,aa.viewPs,DV.noview,LIM]|apply aj|refine Up c0 rfl ?_|(refine UV (F:=[]) c1 rfl ?_ ?_;(· simp[*,az,ax,aB,aa.more,aa.viewPs,DV.noview,LIM]))|(refine UV (F:=[]) c2 rfl ?_ ?_;(· simp[*,az,ax,aB,aa.more,aa.viewPs,DV.noview,LIM]))|refine Up c3 rfl ?_|refine Up c4 rfl ?_|(refine UV (F:=[]) c5 rfl ?_ ?_;(· simp[*,az,ax,aB,aa.more,aa.viewPs,DV.noview,LIM]))|(refine UV (F:=[]) c6 rfl ?_ ?_;(· simp[*,az,ax,aB,aa.more,aa.viewPs,DV.noview,LIM]))|refine Up c8 rfl ?_)
   all_goals exact au rfl
  .have k1:¬(k:Int)<(eB b).length:=by omega
   have k2:((eB b).length:Int)<=k:=by omega
   clear Tj M
   refine pu kvq rfl ?_
   simp[s6]
   repeat'(first|simp[*]|apply aj|refine Up c0 rfl ?_|(refine UV (F:=[]) c1 rfl ?_ ?_;(· simp[*]))|(refine UV (F:=[]) c2 rfl ?_ ?_;(· simp[*])))
   exact au rfl
 .generalize fI L fW xL n=P at*
  refine pu kvq rfl ?_
  simp[s6]
  repeat'(first|simp[*]|apply aj|refine Up c0 rfl ?_|(refine UV (F:=[]) c1 rfl ?_ ?_;(· simp[*]))|(refine UV (F:=[]) c2 rfl ?_ ?_;(· simp[*])))
  exact au rfl
end
end Go.Wt
namespace Go.Proofs.YteaimhlobmaghaaGreatDoor
open Go.ChangeShapes Go.WideShapes Go.ChangeAt Go.RowKit Go.Wt
def h8{H:Type}{enc:TypeId×Value->H}{P:Program}{w:World}{base:Nat}{spare:Nat->Bool}{held:Bool}{t t' t'' t3:TypeId}{args:Array Value}{ds:List (DataW H)}{ps:List MemPlace}(h:DataW.TrodAll enc P w base spare held [t,t',t'',t3] args.toList ds ps):
  ∃v0 v1 v2 v3 d0 d1 d2 d3 p0 p1 p2 p3,args=#[v0,v1,v2,v3]/\ds=[d0,d1,d2,d3]/\ps=p0++p1++p2++p3/\DataW.Trod enc P w base spare held t v0 d0 p0/\DataW.Trod enc P w base spare held t' v1 d1 p1/\DataW.Trod enc P w base spare held t'' v2 d2 p2/\DataW.Trod enc P w base spare held t3 v3 d3 p3:=by
 obtain⟨v,vs,d,ds1,p,q,hargs,rfl,rfl,hd,hr⟩:=trodAll_cons h
 obtain⟨v1,vs1,d1,ds2,p1,q1,rfl,rfl,rfl,hd1,hr1⟩:=trodAll_cons hr
 obtain⟨v2,vs2,d2,ds3,p2,q2,rfl,rfl,rfl,hd2,hr2⟩:=trodAll_cons hr1
 obtain⟨v3,vs3,d3,ds4,p3,q3,rfl,rfl,rfl,hd3,hr3⟩:=trodAll_cons hr2
 obtain⟨rfl,rfl,rfl⟩:=trodAll_nil hr3
 exact⟨v,v1,v2,v3,d,d1,d2,d3,p,p1,p2,p3,by cases args;simp_all,rfl,by simp,hd,hd1,hd2,hd3⟩
end Go.Proofs.YteaimhlobmaghaaGreatDoor
namespace Go.Proofs.YteaimhlobmaghaaGreatDoor
open Go.ChangeShapes Go.WideShapes Go.ChangeAt Go.RowKit Go.Wt
def ie{n:Int}(h:(Lit.int .u8 n).wf=true):∃y:UInt8,n=(y.toNat:Int):=by
 have h5:=(Lit.wf_int_iff .u8 n).1 h
 have e1:IntKind.u8.min=0:=by decide
 have e2:IntKind.u8.max=255:=by decide
 rw[e1,e2]at h5
 have h3:(UInt8.ofNat n.toNat).toNat=n.toNat:=UInt8.toNat_ofNat_of_lt (by show n.toNat<256;omega)
 exact⟨UInt8.ofNat n.toNat,by rw[h3];omega⟩
def it(os:Os)(started:os.Started)(H:Type)(enc:TypeId×Value->H):
  ReturnsInHanded {} Tryz.checked os 6 .any (fun w args=>(Rows.tierSpoiltSpec.pre enc Tryz.prog Tryz.f6 [] false w args/\laidMetH Tryz.prog qr w)/\sizedMet enc Tryz.prog Tryz.f6 (OpenSpec.ofChange Rows.tierSpoiltSpec) false w args)
   (Rows.tierSpoiltSpec.post enc Tryz.prog Tryz.f6 false true false false):=by
 refine returnsInHanded_of_change_and (C:=Tryz.checked) (X:=fun w _=>laidMetH Tryz.prog qr w) (fun _ _ _ hh h=>h.of_heap hh) Tryz.own started (by kernel_rfl) Tryz.func6
  (ChangeSpec.witness_shaped (enc:=enc) (C:=Tryz.checked) (os:=os) (X:=fun w _=>laidMetH Tryz.prog qr w) false (World.doorLaid Tryz.prog 600 os) #[.agg #[.int .i64 0,.int .i64 0,.slice none 0 0],.string ⟨#[]⟩,.int .i64 0,.int .u8 0] 8 rfl (World.shaped_of_RefB (by kernel_rfl) (by kernel_rfl)) (by kernel_rfl) (by kernel_rfl) (by kernel_rfl) (Q7 os _)) ?_
 intro W base args ds gs before hval0 hW _ _ hlaid _
 have hval:∀(j:Nat) t v,Tryz.f6.params[j]?=some t->args[j]?=some v->Value.okWide Tryz.prog W .any base t v:=hval0
 have hW':=hW
 obtain⟨p,q,hA0,hV,rfl,_,_⟩:=hW
 have hA:DataW.TrodAll enc Tryz.prog W 0 (fun _=>true) true Tryz.f6.params.toList args.toList ds p:=hA0
 rw[Tryz.params6]at hA hval
 obtain⟨rfl,rfl⟩:=trodVars_none hV
 clear hA0 hval0
 simp only[List.append_nil]at hW'
 have hlt:∀x∈p,x.block<W.heap.size:=fun x hx=>by simpa using hW'.lt x hx
 have hAk:=hA
 obtain⟨v0,v1,v2,v3,d0,d1,d2,d3,p0,p1,p2,p3,rfl,rfl,rfl,t0,t1,t2,t3⟩:=h8 hA
 obtain⟨L,r0⟩:=QP (hval 0 24 v0 rfl rfl) t0
 obtain⟨n,rfl⟩:=okWide_string Tryz.underlying9 (hval 1 9 v1 rfl rfl)
 obtain⟨k,rfl,rfl,rfl,_⟩:=open_int Tryz.underlying3 (hval 2 3 v2 rfl rfl) t2
 obtain⟨y,rfl,rfl,rfl,hy⟩:=open_int Tryz.underlying5 (hval 3 5 v3 rfl rfl) t3
 obtain⟨y,rfl⟩:=ie hy
 refine(QS (Go.Wt.h6 L n k y) (Q6 hlaid) (vs:=[v0,.string n,.int .i64 k,.int .u8 y.toNat]) rfl (fun j v t hv ht=>?_)).mono fun e W' ⟨v,he,hb,M',hr⟩=>?_
 .match j,hv,ht with
  |0,hv,ht=>cases hv;cases ht;exact r0
  |1,hv,ht=>cases hv;cases ht;exact .v rfl
  |2,hv,ht=>cases hv;cases ht;exact .v rfl
  |3,hv,ht=>cases hv;cases ht;exact .v rfl
  |j+4,hv,_=>cases hv
 have hv:v= .bool true:=by cases hr;rfl
 subst he
 subst hv
 refine⟨_,rfl,_,_,_,[],_,[],hW',?_,F7 Tryz.laidOut hb ?_ hAk hlt,rfl,hb.frame _,fun h=>by cases h⟩
 .exact trodAll_mk1 (shut_bool Tryz.underlying4 true)
 .exact QT (by kernel_rfl)
def iv:(Rows.tierSpoiltRow.inPlace==Tryz.prog.inPlace 6)=true:=by kernel_rfl
def ix:(Rows.tierSpoiltRow.unfollowed==Tryz.prog.unfollowed 6)=true:=by kernel_rfl
def i0:(Rows.tierSpoiltRow.recurses==Tryz.prog.recurses 6)=true:=by kernel_rfl
def i2:(Rows.tierSpoiltRow.named==Tryz.prog.varsNamed 6)=true:=by kernel_rfl
def j0:joinedFacts Tryz.prog 6 Tryz.f6 Rows.tierSpoiltSpec Rows.tierSpoiltRow=true:=by
 unfold joinedFacts
 rw[iv,ix,i0,i2]
 kernel_rfl
def kk:Rows.TierSpoiltSaid:=
 OpenClaim.holds_of_wide 6 Tryz.f6 rfl rfl rfl rfl rfl rfl rfl ⟨rfl,rfl,rfl,rfl,rfl⟩ rfl rfl rfl rfl rfl (by kernel_rfl) Tryz.func6 j0
  (of_decide_eq_true (by kernel_rfl)) (by unfold Func.isWrapper;first|(rw[if_pos (by decide+kernel)];kernel_rfl)|(rw[if_neg (by decide+kernel)];exact⟨rfl,rfl⟩))
  (fun os started H enc _=>it os started H enc)
end Go.Proofs.YteaimhlobmaghaaGreatDoor
namespace Go.Proofs.YteaimhlobmaghaaGreatDoor
open Go.ChangeShapes Go.WideShapes Go.ChangeAt Go.RowKit Go.Wt
def kn:Tryz.prog.wantsStandIn 5=false:=by kernel_rfl
def ks:Tryz.prog.funcNamed "watermeet/watermeetlaw17.TierSpoilt" =some 6:=by kernel_rfl
def kt:Rows.tierSpoiltRow.wfByText (OpenSpec.ofChange Rows.tierSpoiltSpec)=true:=by kernel_rfl
def ku:false=Rows.tierSpoiltRow.goesBy Tryz.pinned.checked.prog:=by kernel_rfl
theorem spoilt_holds:Rows.TierSpoiltCardSaid:=
 Claim7.holds_tied_plain_at .later [] [.data,.data,.data,.sentinel,.sentinel,.widerDeep] true (true, "2f5f6f0e45d0dc822afc7999807d6c879bedb5611b72a16918e454af4e0011be") true
  kk (fun _ h=>by cases h) kt (fun _ h=>by cases h) tierSpoilt_row_tie rfl ⟨rfl,rfl⟩ z_main rfl
  (fun f fn hf hfn=>by
   obtain rfl:f=6:=Option.some.inj (ks.symm.trans hf)|>.symm
   obtain rfl:fn=Tryz.f6:=(Option.some.inj (Tryz.func6.symm.trans hfn)).symm
   exact⟨z_looks,fun j t ht=>by
    rw[Tryz.params6]at ht
    match j,ht with
    |0,ht=>cases ht;exact z_w24
    |1,ht=>cases ht;exact z_w9
    |2,ht=>cases ht;exact z_w3
    |3,ht=>cases ht;exact kn
    |j+4,ht=>simp at ht⟩)
  ku
#print axioms spoilt_holds
end Go.Proofs.YteaimhlobmaghaaGreatDoor
