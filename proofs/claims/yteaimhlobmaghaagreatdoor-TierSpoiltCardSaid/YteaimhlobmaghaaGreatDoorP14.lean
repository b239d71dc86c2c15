/- A part of the proof of a tier statement (the last text closes it): lemmas without condition. -/
import Derived.Test.YteaimhlobmaghaaGreatDoorP13
import Derived.Shelf.LaysC
import Derived.Shelf.LaysM
import Derived.Shelf.Slices.Cells
import Derived.Shelf.Slices.CompactS
import Derived.Shelf.Slices.In.SortNone
import Derived.Shelf.Small.Bits
import Derived.Shelf.Small.Strs
import Derived.Shelf.Small.Wraps
import Derived.Shelf.Sort.Plain
import Derived.Shelf.Strconv.Atoi
import Derived.Shelf.Strconv.AtoiAll
import Derived.Shelf.Strconv.AtoiErrFast
import Derived.Shelf.Strconv.AtoiFail
import Derived.Shelf.Strconv.AtoiInnerAll
import Derived.Shelf.Strconv.AtoiLong
import Derived.Shelf.Strconv.Clone
import Derived.Shelf.Strconv.ErrVarAll
import Derived.Shelf.Strconv.Itoa0
import Derived.Shelf.Strconv.Itoa1
import Derived.Shelf.Strconv.Itoa2
import Derived.Shelf.Strconv.Itoa3
import Derived.Shelf.Strconv.Lower
import Derived.Shelf.Strconv.ParseInt10
import Derived.Shelf.Strconv.ParseIntEmpty
import Derived.Shelf.Strconv.ParseUint10
import Derived.Shelf.Strconv.ParseUint10Any
import Derived.Shelf.Strconv.ParseUint10Empty
import Derived.Shelf.Strconv.RangeError
import Derived.Shelf.Strconv.SyntaxError
import Derived.Shelf.Strconv.ToError
import Derived.Shelf.Strconv.ToErrorRange
import Derived.Shelf.Strings.Prefix
set_option linter.all false
set_option maxRecDepth 10000000
set_option maxHeartbeats 0
namespace Go.Wt
section
open Go.RowKit Go.Proofs Go.Wq
def vR:ac:=(R 39 [B .lss 3 38 37] (s (V 39 k (x 0)) (s (D (R 40 [A 36 38 1,l 40,e 10 (M 41)] (s (Z 43 [l 2,l 2,G 44,F 45 0,L 3 46,M 10,Y 84 [47,48],e 42 (M 49),E 42 0,E 42 1,G 43,F 52 0,S 3 53 50,e 6 (M 51)] [0,1,0,4,0,6]) (O 54 [M 6,Y 52 [54]])))) (O 56 [N .add 3 38 1,e 38 (M 56)]))))
def rP:ac:=(R 12 [L 3 0,l 1,I (.bin .add 9 (t 13) (.const (.string ⟨#[45]⟩))),Y 82 [12,14],e 11 (M 15),E 11 0,E 11 1,E 11 2,e 4 (T 31 (.agg [.e0,(z 0),.e0])),S 3 4 16,e 5 (M 17),e 6 (M 18)] (R 19 [l 2,L 3 4,G 19,F 21 0,S 3 22 20] (R 23 [M 6,Y 52 [23]] (R 26 [L 3 3,l 1,M 5,Y 83 [26,27,28],e 25 (M 29),E 25 0,E 25 1,e 7 (T 27 (.agg [(z 0),(z 0),.e0])),S 3 7 30,e 8 (M 31)] (R 32 [l 2,L 3 7,G 32,F 34 5,S 3 35 33] (R 36 [M 8,H 36,C 0] (K vR)))))))
def vS:=xo 81 ⟨rP,57,[]⟩ Tryz.func81 (by kernel_rfl)
def nW:ac:=(R 2 [X 31 0,X 9 1,T 31 (.agg [.e0,(z 0),.e0]),v n,C 0] (s (R 12 [L 3 2,l 3,I (.len true (t 13)),N .leq 3 14 64,Y 91 [12,15],e 7 (M 16)] (R 17 [M 7,N .neq 37 17 0] (V 18 (R 19 [I (.build [.e0,(z 0),.e0] []),M 7,S 3 4 19,e 5 (v n),e 6 (M 20)] r) k))) (R 21 [L 3 2,Y 93 [21],e 8 (T 142 (.v (.pointer none))),S 1 8 22] (R 9 [T 128 .e0] (R 24 [l 8,I (.mkfn 165 [(t 8),(t 3),(t 9)]),I (.call 129 [(t 24),(t 25),(.func 167)]),e 23 (M 26),E 23 0,E 23 1,e 10 (T 31 (.agg [.e0,(z 0),.e0])),S 3 10 27,e 11 (M 28)] (s (R 29 [M 11,N .neq 37 29 0] (V 30 (R 31 [L 3 10,M 11,S 3 4 31,e 5 (v n),e 6 (M 32)] r) k)) (s (Z 33 [L 3 10,l 9,S 3 4 33,e 5 (M 34),e 6 (C 0)] [0,1,1,2]) r)))))))
def pI:=xo 82 ⟨nW,35,[.cell 4 3 true,.tmp 5,.tmp 6]⟩ Tryz.func82 (by kernel_rfl)
def BW:ac:=(R 40 [B .lss 3 39 38] (s (V 40 k (x 0)) (s (D (R 41 [A 37 39 1,l 41,e 9 (M 42)] (R 44 [M 9,M 1,I (.bin .add 9 (t 45) (.const (.string ⟨#[45]⟩))),Y 168 [44,46],e 43 (M 47),E 43 0,E 43 1,e 10 (M 48),e 11 (M 49)] (R 51 [M 10,Y 169 [51],e 50 (M 52),E 50 0,E 50 1,e 12 (T 3 (z 0)),S 1 12 53,e 13 (M 54)] (s (R 55 [M 11,U 55,M 56,j 57 (M 13),j 57 (I (.bin .neq 213 (t 58) (.const .nilIface))),P 57 59,M 60,j 61 (l 12),j 61 (Y 97 [62]),P 61 63,M 64,j 65 (M 1),j 65 (l 12),j 65 (Y 30 [66,67]),j 65 (M 9),j 65 (B .neq 9 68 69),P 65 70,M 71,j 72 (F 6 2),j 72 (l 73),j 72 (I (.mkfn 170 [(t 12)])),j 72 (Y 70 [74,75]),P 72 76] (V 77 (x 1) k)) (O 78 [M 7,M 9,I (.lits 9 false 1 1 [(.v (.string ⟨#[]⟩))] [(0,1,(t 79))]),I (.app 9 1 (.v (.string ⟨#[]⟩)) (t 78) (t 80)),e 7 (M 81)])))))) (O 82 [N .add 3 39 1,e 39 (M 82)]))))
def rQ:ac:=(s (R 37 [M 2,H 37,C 0] (K BW)) (R 83 [M 7,Y 171 [83]] (s (Z 85 [L 3 6,M 7,Y 172 [86],S 3 6 85,e 7 (M 87)] [0,2]) r)))
def rR:ac:=(R 6 [e 3 (X 27 0),T 27 (.agg [(z 0),(z 0),.e0]),v n] (s (R 14 [L 3 3,Y 32 [14],N .neq 37 15 0] (V 16 (R 17 [I (.build [(z 0),(z 0),.e0] []),S 3 6 17,e 7 (v n)] r) k)) (s (Z 18 [F 3 0,l 18,F 3 1,l 20,L 3 3,Y 122 [22],I (.build [(z 0),(z 0),.e0] [(0,1,(t 19)),(1,1,(t 21)),(2,1,(t 23))]),S 3 6 24] [1,3,1,4,3,4,1,5,3,5]) (s (R 25 [F 6 2,l 25,H 26,F 3 2,l 28,H 29,B .lss 3 27 30] (V 31 (O 32 [F 3 0,l 32,N .add 3 33 1,I (.mm false (t 34) (c 1099511627776)),F 6 0,S 1 36 35]) k)) rQ))))
def vT:=xo 83 ⟨rR,88,[.cell 6 3 true,.tmp 7]⟩ Tryz.func83 (by kernel_rfl)
def rS:ac:=(R 2 [X 31 0,X 9 1,T 31 (.agg [.e0,(z 0),.e0]),C 0] (s (.seq (Z 8 [L 3 2,l 3,Y 92 [9],Y 91 [8,10],e 6 (M 11)] [0,1,0,2]) (R 12 [M 6,N .neq 37 12 0] (V 13 (R 14 [I (.build [.e0,(z 0),.e0] []),M 6,S 3 4 14,e 5 (M 15)] r) k))) (R 16 [L 3 2,Y 93 [16],e 7 (T 142 (.v (.pointer none))),S 1 7 17] (R 18 [l 7,I (.mkfn 173 [(t 7),(t 3)]),I (.call 129 [(t 18),(t 19),(.func 167)]),E 20 0,E 20 1,S 3 4 21,e 5 (M 22)] r))))
def vU:=xo 84 ⟨rS,23,[.cell 4 3 true,.tmp 5]⟩ Tryz.func84 (by kernel_rfl)
def BX:ac:=(R 4 [v fa] (R 5 [M 0,I (.b2s (t 5)),M 1,I (.b2s (t 7)),B .eql 9 6 8,e 4 (M 9)] r))
def Km:=xo 89 ⟨BX,10,[.tmp 4]⟩ Tryz.func89 (by kernel_rfl)
def BY:ac:=(R 4 [N .lss 3 3 16] (s (V 4 k (x 0)) (s (D (R 5 [M 3,e 2 (M 5)] (O 6 [M 2,M 2,I (.conv .u32 (t 7)),Y 180 [8],I (.aadr (t 1) (t 6) 16 1),S 1 10 9]))) (O 11 [N .add 3 3 1,e 3 (M 11)]))))
def BZ:ac:=(R 0 [v (.const .nilFunc)] (R 1 [T 223 (.agg [(.v (.int .u32 0)),(.v (.int .u32 0)),(.v (.int .u32 0)),(.v (.int .u32 0)),(.v (.int .u32 0)),(.v (.int .u32 0)),(.v (.int .u32 0)),(.v (.int .u32 0)),(.v (.int .u32 0)),(.v (.int .u32 0)),(.v (.int .u32 0)),(.v (.int .u32 0)),(.v (.int .u32 0)),(.v (.int .u32 0)),(.v (.int .u32 0)),(.v (.int .u32 0))])] (s (R 3 [C 0] (K BY)) (R 12 [I (.mkfn 181 [(t 1)]),e 0 (M 12)] r))))
def Kn:=xo 90 ⟨BZ,13,[.tmp 0]⟩ Tryz.func90 (by kernel_rfl)
def rT:ac:=(R 2 [X 31 0,e 4 (C 0)] (s (R 6 [L 3 2,Y 45 [6],e 5 (M 7)] (R 8 [M 5,N .neq 37 8 0] (V 9 (R 10 [M 5,e 4 (M 10)] r) k))) (s (R 11 [M 1,U 11] (V 12 (R 4 [C 1] r) k)) (R 4 [C 0] r))))
def vV:=xo 91 ⟨rT,13,[.tmp 4]⟩ Tryz.func91 (by kernel_rfl)
def B0:ac:=(R 2 [v fa] (R 3 [M 0,I (.bin .neq 9 (t 3) (.const (.string ⟨#[]⟩))),M 4,J 5 (M 0),J 5 (I (.len true (t 6))),J 5 (N .leq 3 7 64),Q 5 8,M 9,J 10 (M 0),J 10 (I (.call 113 [(t 11),(.func 182)])),J 10 (U 12),Q 10 13,e 2 (M 14)] r))
def Ko:=xo 92 ⟨B0,15,[.tmp 2]⟩ Tryz.func92 (by kernel_rfl)
def vW:ac:=(s (Z 23 [M 3,M 3,F 1 0,l 25,Y 185 [26],F 1 2,l 28,Y 186 [29],G 23,F 31 0,F 32 0,S 1 33 27,G 24,F 34 0,F 35 2,S 1 36 30] [3,6,4,6]) (R 37 [M 3,G 37,F 38 0,F 39 1,l 40,N .add 3 41 1,G 37,F 43 0,F 44 1,S 1 45 42] (R 46 [M 3,e 2 (M 46)] r)))
def vX:ac:=(R 1 [X 31 0,v (.const (.pointer none))] (R 5 [L 3 1,I (.build [.e0,(z 0),.e0,(z 0)] [(0,3,(t 5))]),X 145 6,e 3 (M 7)] (s (R 8 [F 1 2,l 8,I (.mkfn 184 [(t 1)]),Y 183 [9,10],e 4 (M 11)] (R 12 [M 4,N .geq 3 12 0] (V 13 (O 14 [M 3,F 1 2,l 15,M 4,A 16 17 2,F 18 1,l 19,G 14,F 21 3,S 1 22 20]) k))) vW)))
def Kp:=xo 93 ⟨vX,47,[.tmp 2]⟩ Tryz.func93 (by kernel_rfl)
def B1:ac:=(R 4 [C 0,v fa] (R 6 [M 0,G 6,F 7 0,F 8 0,l 9,M 1,I (.call 187 [(t 10),(t 11),(.func 188)]),E 12 0,E 12 1,e 4 (M 13),e 5 (M 14)] r))
def Kq:=xo 94 ⟨B1,15,[.tmp 4,.tmp 5]⟩ Tryz.func94 (by kernel_rfl)
def Kr:ac:=(R 2 [v n] (s (R 3 [M 0,I (.bin .eql 59 (t 3) n)] (V 4 (R 2 [v n] r) k)) (R 5 [I (.lits 5 false 1 0 [(.v (.int .u8 0))] []),M 0,I (.app 5 1 (.v (.int .u8 0)) (t 5) (t 6)),e 2 (M 7)] r)))
def B2:=xo 95 ⟨Kr,8,[.tmp 2]⟩ Tryz.func95 (by kernel_rfl)
def B3:ac:=(R 2 [v fa] (R 3 [M 0,N .lss 3 3 0,M 4,j 5 (M 0),j 5 (N .gtr 3 6 1099511627776),P 5 7,e 2 (M 8)] r))
def Ks:=xo 97 ⟨B3,9,[.tmp 2]⟩ Tryz.func97 (by kernel_rfl)
def mR:ac:=(R 9 [B .lss 3 8 7] (s (V 9 k (x 0)) (s (D (R 10 [M 8,e 5 (M 10)] (R 11 [M 1,M 0,M 5,A 12 13 6,L 6 14,I (.callv (t 11) [(t 15)])] (V 16 (R 17 [M 5,e 4 (M 17)] r) k)))) (O 18 [N .add 3 8 1,e 8 (M 18)]))))
def mS:ac:=(R 4 [C 0] (s (R 6 [M 0,H 6,C 0] (K mR)) (R 4 [v (.const (.int .i64 (-1)))] r)))
def nX:=xo 98 ⟨mS,19,[.tmp 4]⟩ Tryz.func98 (by kernel_rfl)
def rU:ac:=(R 2 [X 58 0,v fa] (R 4 [F 2 5,l 4,N .eql 3 5 2,M 6,J 7 (F 2 1),J 7 (l 8),J 7 (l 1),J 7 (B .leq 3 9 10),Q 7 11,M 12,J 13 (l 1),J 13 (F 2 2),J 13 (l 15),J 13 (B .lss 3 14 16),Q 13 17,e 3 (M 18)] r))
def Kt:=xo 99 ⟨rU,19,[.tmp 3]⟩ Tryz.func99 (by kernel_rfl)
def rV:ac:=(R 1 [X 79 0,v n,C 0] (s (R 5 [L 10 1,Y 190 [5],U 6] (V 7 (R 2 [v n,C 1] r) k)) (R 8 [L 10 1,Y 191 [8],e 4 (M 9)] (s (R 10 [M 4,H 10,N .gtr 3 11 2048] (V 12 (R 2 [v n,C 2] r) k)) (R 2 [e 13 (M 4),M 13,C 0] r)))))
def vY:=xo 100 ⟨rV,14,[.tmp 2,.tmp 3]⟩ Tryz.func100 (by kernel_rfl)
def B4:ac:=(R 9 [B .lss 3 8 7] (s (V 9 k (x 0)) (s (D (R 10 [A 6 8 3,L 3 10,e 5 (T 136 (.agg [(.v (.string ⟨#[]⟩)),(z 0),.e0])),S 3 5 11] (O 12 [M 3,F 5 2,l 13,H 14,B .add 3 12 15,e 3 (M 16)]))) (O 17 [N .add 3 8 1,e 8 (M 17)]))))
def B5:ac:=(R 2 [C 0] (R 3 [C 0] (s (R 6 [M 0,H 6,C 0] (K B4)) (R 18 [M 3,e 2 (M 18)] r))))
def Ku:=xo 101 ⟨B5,19,[.tmp 2]⟩ Tryz.func101 (by kernel_rfl)
def B6:ac:=(R 4 [T 24 (.agg [(z 0),(z 0),.e0]),C 0] (s (R 6 [M 0,M 1,Y 115 [6,7],U 8] (V 9 (R 10 [I (.build [(z 0),(z 0),.e0] []),S 3 4 10,e 5 (C 1)] r) k)) (R 11 [M 0,M 1,M 1,I (.build [(z 0),.e0] [(0,1,(t 13))]),I (.lits 61 true 2 1 [(z 0),.e0] [(0,2,(t 14))]),I (.build [(z 0),(z 0),.e0] [(0,1,(t 11)),(1,1,(t 12)),(2,1,(t 15))]),S 3 4 16,e 5 (C 0)] r)))
def Kv:=xo 102 ⟨B6,17,[.cell 4 3 true,.tmp 5]⟩ Tryz.func102 (by kernel_rfl)
def vZ:ac:=(s (.block 0 (R 18 [M 6,N .neq 37 18 0,e 17 (M 19)] (V 17 (R 20 [I (.build [(z 0),(z 0),.e0] []),M 6,S 3 4 20,e 5 (M 21)] r) (s (Z 23 [F 3 0,l 23,L 3 2,Y 192 [25],B .lss 3 24 26,e 22 (M 27)] [1,2,1,3]) (V 22 (R 28 [I (.build [(z 0),(z 0),.e0] []),S 3 4 28,e 5 (C 71)] r) (s (Z 30 [L 10 3,Y 193 [30],F 2 0,l 32,B .gtr 3 31 33,e 29 (M 34)] [0,3,1,3]) (V 29 (R 35 [I (.build [(z 0),(z 0),.e0] []),S 3 4 35,e 5 (C 70)] r) k))))))) (R 36 [L 3 2,Y 194 [36],e 7 (M 37)] (s (.seq (Z 39 [F 2 2,l 39,M 7,A 40 41 2,L 2 42,L 10 3,F 2 0,l 45,Y 195 [43,44,46],e 38 (M 47),E 38 0,E 38 1,e 8 (T 61 (.agg [(z 0),.e0])),S 2 8 48,e 9 (M 49)] [1,5,3,5,4,5,1,7,3,7,4,7,5,7,1,12,3,12,4,12,5,12,7,12,8,12]) (R 50 [M 9,N .eql 37 50 0] (V 51 (s (Z 52 [L 3 2,F 2 2,l 53,M 7,I (.ssl (t 54) none (some (t 55)) 2),Y 71 [56],L 2 8,I (.lits 61 true 2 1 [(z 0),.e0] [(0,2,(t 58))]),I (.app 61 2 (.agg [(z 0),.e0]) (t 57) (t 59)),Y 196 [52,60],S 3 4 61,e 5 (C 0)] [0,2,0,4,0,5,0,6,2,6,4,6,5,6,0,7,2,7,4,7,5,7,0,8]) r) k))) (s (R 62 [F 2 2,l 62,H 63,N .eql 3 64 256] (V 65 (R 66 [I (.build [(z 0),(z 0),.e0] []),S 3 4 66,e 5 (C 2)] r) k)) (R 68 [F 3 0,l 68,L 10 3,I (.lits 79 true 10 1 [(z 0),(z 0),(z 0),(z 0),(z 0),(z 0),(z 0),(.v (.bool false)),(z 0),.e0] [(0,10,(t 70))]),F 2 0,l 72,Y 197 [69,71,73],e 67 (M 74),E 67 0,E 67 1,e 10 (T 61 (.agg [(z 0),.e0])),S 2 10 75,e 6 (M 76)] (s (R 77 [M 6,N .neq 37 77 0] (V 78 (R 79 [I (.build [(z 0),(z 0),.e0] []),M 6,S 3 4 79,e 5 (M 80)] r) k)) (s (Z 81 [L 3 2,F 2 2,l 82,Y 71 [83],L 2 10,I (.lits 61 true 2 1 [(z 0),.e0] [(0,2,(t 85))]),I (.app 61 2 (.agg [(z 0),.e0]) (t 84) (t 86)),Y 196 [81,87],S 3 4 88,e 5 (C 0)] [0,2,0,3,0,4,2,4,3,4,0,5,2,5,3,5,0,6]) r)))))))
def v9:ac:=(R 2 [X 24 0,X 79 1,T 24 (.agg [(z 0),(z 0),.e0]),C 0] (R 11 [L 3 2,Y 44 [11],e 6 (M 12)] (s (R 13 [M 6,N .eql 37 13 0] (V 14 (O 15 [L 10 3,Y 34 [15],e 6 (M 16)]) k)) vZ)))
def B7:=xo 103 ⟨v9,89,[.cell 4 3 true,.tmp 5]⟩ Tryz.func103 (by kernel_rfl)
def B8:ac:=(R 2 [T 79 (.agg [(z 0),(z 0),(z 0),(z 0),(z 0),(z 0),(z 0),(.v (.bool false)),(z 0),.e0])] (R 3 [v (.const (.string ⟨#[48,49,50,51,52,53,54,55,56,57,48,49,50,51,52,53,54,55,56,57,48,49,50,51,52,53,54,55,56,57,48,49,50,51,52,53,54,55,56,57,48,49,50,51,52,53,54,55,56,57,48,49,50,51,52,53,54,55,56,57,48,49,50,51]⟩))] (R 5 [M 0,M 3,M 3,I (.build [(z 0),(.v (.string ⟨#[]⟩)),(.v (.string ⟨#[]⟩)),(.v (.bool false)),(z 0)] [(0,1,(t 5)),(1,1,(t 6)),(2,1,(t 7))]),I (.lits 239 true 5 1 [(z 0),(.v (.string ⟨#[]⟩)),(.v (.string ⟨#[]⟩)),(.v (.bool false)),(z 0)] [(0,5,(t 8))]),e 4 (M 9)] (R 10 [M 0,M 0,M 0,M 4,I (.build [(z 0),(z 0),(z 0),(z 0),(z 0),(z 0),(z 0),(.v (.bool false)),(z 0),.e0] [(0,1,(t 10)),(1,1,(t 11)),(2,1,(t 12)),(4,1,(.const (.int .i64 (-1)))),(9,1,(t 13))]),S 10 2 14] r))))
def Kw:=xo 104 ⟨B8,15,[.cell 2 10 true]⟩ Tryz.func104 (by kernel_rfl)
def B9:ac:=(R 50 [L 3 2,l 1,F 2 1,l 52,I (.mm true (t 51) (t 53)),l 0,Y 109 [50,54,55],e 49 (M 56),E 49 0,E 49 1,e 9 (M 57),e 10 (M 58)] (R 59 [M 10,Y 52 [59]] (O 61 [M 9,S 1 6 61])))
def Cb:ac:=(s (R 22 [L 3 3,Y 74 [22]] (D (.rangef (t 23) [24] (O 7 [T 58 (.agg [(z 0),(z 0),(z 0),(z 0),(.v (.int .u32 0)),(z 0)]),S 6 7 24]) (.block 2 (s (R 25 [l 1,F 2 1,l 26,B .geq 3 25 27] (V 28 (x 1) k)) (s (R 29 [F 7 2,l 29,l 1,B .leq 3 30 31] (V 32 (x 2) k)) (R 33 [l 4,Y 43 [33],Y 52 [34]] (R 36 [l 5,L 6 7,Y 77 [36,37],e 8 (M 38)] (s (Z 39 [M 8,I (.mkfn 108 [(t 1)]),Y 107 [39,40],l 0,Y 106 [41,42],S 1 6 43] [2,3]) (s (R 44 [l 6,H 44,N .gtr 3 45 0] (V 46 r k)) (O 47 [F 7 2,l 47,S 1 1 48]))))))))))) B9)
def Cc:ac:=(s (.block 0 (R 12 [l 0,N .lss 3 12 0,e 11 (M 13)] (V 11 (O 14 [I (.call 52 [(c 1)])]) (s (Z 16 [l 1,L 3 2,L 3 3,Y 18 [17,18],B .lss 3 16 19,e 15 (M 20)] [0,1,0,2,1,2,0,3]) (V 15 (O 21 [I (.call 52 [(c 90)])]) k))))) Cb)
def Kx:=xo 105 ⟨Cc,62,[]⟩ Tryz.func105 (by kernel_rfl)
def Cd:ac:=(R 3 [X 3 1,v n] (R 5 [T 3 (z 0),.xx ⟨none,.store 1 (t 5) (c 0),none⟩] (R 7 [M 0,I (.mkfn 199 [(t 5),(t 3)]),Y 198 [7,8],e 6 (M 9)] (s (R 10 [M 6,N .lss 3 10 0] (V 11 (R 12 [M 0,e 4 (M 12)] r) k)) (R 13 [M 0,M 6,I (.mm true (t 14) (c 1)),I (.ssl (t 13) none (some (t 15)) 10),e 4 (M 16)] r)))))
def Kz:=xo 106 ⟨Cd,17,[.tmp 4]⟩ Tryz.func106 (by kernel_rfl)
def Ce:ac:=(s (R 16 [M 6,M 0,H 17,B .lss 3 16 18] (V 19 k (x 0))) (s (D (R 22 [M 0,M 6,A 22 23 10,L 10 24,e 7 (T 79 (.agg [(z 0),(z 0),(z 0),(z 0),(z 0),(z 0),(z 0),(.v (.bool false)),(z 0),.e0])),S 10 7 25] (R 26 [M 1,L 10 7,I (.callv (t 26) [(t 27)]),U 28] (V 29 (R 30 [M 0,M 5,L 10 7,A 30 31 10,S 10 33 32] (O 34 [M 5,N .add 3 34 1,e 5 (M 35)])) k)))) (O 20 [M 6,N .add 3 20 1,e 6 (M 21)])))
def jh:ac:=(R 4 [v n] (R 8 [M 0,M 1,Y 198 [8,9],e 5 (M 10)] (s (R 11 [M 5,I (.bin .eql 3 (t 11) (.const (.int .i64 (-1))))] (V 12 (R 13 [M 0,e 4 (M 13)] r) k)) (s (R 14 [M 5,N .add 3 14 1,e 6 (M 15)] (K Ce)) (R 36 [M 0,M 5,I (.ssl (t 36) (some (t 37)) none 10),.xx ⟨none,.stuck,none⟩] (R 39 [M 0,M 5,I (.ssl (t 39) none (some (t 40)) 10),e 4 (M 41)] r))))))
def Cf:ac:=(R 2 [X 79 0,v fa] (R 4 [F 2 1,l 4,l 1,B .lss 3 5 6,e 3 (M 7)] r))
def KA:=xo 108 ⟨Cf,8,[.tmp 3]⟩ Tryz.func108 (by kernel_rfl)
def Cg:ac:=(R 9 [B .lss 3 8 7] (s (V 9 k (x 0)) (s (D (R 10 [A 6 8 3,L 3 10,e 5 (T 136 (.agg [(.v (.string ⟨#[]⟩)),(z 0),.e0])),S 3 5 11] (O 12 [M 3,F 5 2,l 13,H 14,B .add 3 12 15,e 3 (M 16)]))) (O 17 [N .add 3 8 1,e 8 (M 17)]))))
def Ch:ac:=(R 2 [C 0] (R 3 [C 0] (s (R 6 [M 0,H 6,C 0] (K Cg)) (R 18 [M 3,e 2 (M 18)] r))))
def KB:=xo 110 ⟨Ch,19,[.tmp 2]⟩ Tryz.func110 (by kernel_rfl)
def Ci:ac:=(R 9 [B .lss 3 8 7] (s (V 9 k (x 0)) (s (D (R 10 [M 8,e 5 (M 10)] (R 11 [M 1,M 0,M 5,A 12 13 1,l 14,I (.callv (t 11) [(t 15)])] (V 16 (R 17 [M 5,e 4 (M 17)] r) k)))) (O 18 [N .add 3 8 1,e 8 (M 18)]))))
def Cj:ac:=(R 4 [C 0] (s (R 6 [M 0,H 6,C 0] (K Ci)) (R 4 [v (.const (.int .i64 (-1)))] r)))
def KC:=xo 111 ⟨Cj,19,[.tmp 4]⟩ Tryz.func111 (by kernel_rfl)
def Ck:ac:=(R 2 [v fa] (R 3 [M 0,N .neq 37 3 0,e 2 (M 4)] r))
def KD:=xo 112 ⟨Ck,5,[.tmp 2]⟩ Tryz.func112 (by kernel_rfl)
def wc:ac:=(R 4 [v fa] (R 5 [M 0,M 1,Y 202 [5,6],N .geq 3 7 0,e 4 (M 8)] r))
def Cl:=xo 113 ⟨wc,9,[.tmp 4]⟩ Tryz.func113 (by kernel_rfl)
def Cm:ac:=(R 2 [v fa] (R 3 [M 0,I (.bin .lss 21 (t 3) (.const (.int .i32 33))),M 4,j 5 (M 0),j 5 (I (.bin .gtr 21 (t 6) (.const (.int .i32 126)))),P 5 7,e 2 (M 8)] r))
def KE:=xo 114 ⟨Cm,9,[.tmp 2]⟩ Tryz.func114 (by kernel_rfl)
def Cn:ac:=(R 4 [v fa] (R 5 [M 0,N .geq 3 5 256,M 6,J 7 (M 0),J 7 (N .leq 3 8 4096),Q 7 9,M 10,J 11 (M 1),J 11 (Y 203 [12]),Q 11 13,e 4 (M 14)] r))
def KF:=xo 115 ⟨Cn,15,[.tmp 4]⟩ Tryz.func115 (by kernel_rfl)
def Co:ac:=(R 1 [X 61 0,v fa] (R 6 [L 2 1,Y 153 [6],e 5 (M 7),E 5 0,E 5 1,e 3 (M 8),e 4 (M 9)] (R 10 [F 1 0,l 10,Y 203 [11],M 12,J 13 (M 4),J 13 (F 1 1),J 13 (l 15),J 13 (H 16),J 13 (B .eql 3 14 17),Q 13 18,e 2 (M 19)] r)))
def KG:=xo 116 ⟨Co,20,[.tmp 2]⟩ Tryz.func116 (by kernel_rfl)
def Cp:ac:=(R 2 [X 61 0,X 61 1,v fa] (s (Z 5 [F 3 0,l 5,F 2 0,l 7,B .gtr 3 6 8,M 9,J 10 (F 3 0),J 10 (l 11),J 10 (L 2 2),J 10 (Y 204 [13]),J 10 (B .geq 3 12 14),Q 10 15,e 4 (M 16)] [1,3,7,8,7,9]) r))
def KH:=xo 117 ⟨Cp,17,[.tmp 4]⟩ Tryz.func117 (by kernel_rfl)
def Cq:ac:=(R 1 [X 119 0,v fa] (R 3 [F 1 0,l 3,N .lss 3 4 0,M 5,j 6 (F 1 1),j 6 (l 7),j 6 (N .lss 3 8 1),P 6 9,M 10,j 11 (F 1 1),j 11 (l 12),j 11 (N .gtr 3 13 3),P 11 14,e 2 (M 15)] r))
def KI:=xo 118 ⟨Cq,16,[.tmp 2]⟩ Tryz.func118 (by kernel_rfl)
def Cr:ac:=(R 4 [v fa] (R 5 [M 0,M 1,Y 183 [5,6],N .geq 3 7 0,e 4 (M 8)] r))
def KJ:=xo 119 ⟨Cr,9,[.tmp 4]⟩ Tryz.func119 (by kernel_rfl)
def Cs:ac:=(R 2 [v fa] (R 3 [M 0,N .eql 37 3 0,M 4,j 5 (M 0),j 5 (N .eql 37 6 140),P 5 7,M 8,j 9 (M 0),j 9 (N .eql 37 10 141),P 9 11,M 12,j 13 (M 0),j 13 (N .eql 37 14 20),P 13 15,e 2 (M 16)] r))
def KL:=xo 121 ⟨Cs,17,[.tmp 2]⟩ Tryz.func121 (by kernel_rfl)
def Cu:ac:=(R 1 [X 27 0,v n] (R 4 [I (.call 124 [(c 2)]),e 3 (T 114 (.v .nilFunc)),S 1 3 4] (R 5 [F 1 2,l 5,Y 206 [6],I (.mkfn 207 [(t 3)]),Y 205 [7,8],e 2 (M 9)] r)))
def KM:=xo 122 ⟨Cu,10,[.tmp 2]⟩ Tryz.func122 (by kernel_rfl)
def Cv:ac:=(s (R 4 [M 3,F 1 2,l 5,H 6,B .lss 3 4 7] (V 8 k (x 0))) (s (D (s (.seq (Z 11 [M 0,F 1 2,l 12,M 3,N .sub 3 14 1,A 13 15 2,L 2 16,F 1 2,l 18,M 3,A 19 20 2,F 21 0,l 22] [2,8,5,8,6,8,2,10,5,10,6,10,2,12,5,12,6,12]) (O 24 [I (.callv (t 11) [(t 17),(t 23)]),U 24])) (V 25 r k))) (O 9 [M 3,N .add 3 9 1,e 3 (M 10)])))
def Cw:ac:=(R 3 [C 1] (K Cv))
def KN:=xi 123 ⟨Cw,26,[]⟩ Tryz.func123 (by kernel_rfl)
def Cx:ac:=(R 1 [X 3 0,v (.const .nilFunc)] (R 3 [I (.mkfn 208 [(t 1)]),e 2 (M 3)] r))
def KO:=xo 124 ⟨Cx,4,[.tmp 2]⟩ Tryz.func124 (by kernel_rfl)
def Cy:ac:=(R 2 [v n] (R 3 [M 0,M 0,H 4,M 0,H 6,I (.ssl3 (t 3) (t 5) (t 7) 6),e 2 (M 8)] r))
def KP:=xo 125 ⟨Cy,9,[.tmp 2]⟩ Tryz.func125 (by kernel_rfl)
def Cz:ac:=(R 5 [X 59 0,v (.const .nilFunc)] (R 7 [I (.mkfn 127 [(t 1),(t 2),(t 3),(t 4),(t 5)]),e 6 (M 7)] r))
def KQ:=xo 126 ⟨Cz,8,[.tmp 6]⟩ Tryz.func126 (by kernel_rfl)
def we:ac:=(Z 20 [l 1,G 20,F 21 0,F 22 0,l 23,l 2,l 3,l 4,Y 95 [27],I (.build [(.v (.string ⟨#[]⟩)),.e0] [(0,1,(t 26)),(1,1,(t 28))]),A 24 25 2,S 2 30 29] [0,5,4,5,0,6,4,6,5,6,0,7,4,7,5,7,6,7,0,8,4,8,5,8,6,8])
def wg:ac:=(s (R 5 [l 0,U 5] (V 6 (Z 7 [l 1,l 1,G 8,F 9 0,F 10 0,l 11,l 2,I (.build [(.v (.string ⟨#[]⟩)),.e0] []),I (.lits 65 true 2 1 [(.v (.string ⟨#[]⟩)),.e0] [(0,2,(t 14))]),Y 128 [12,13,15],G 7,F 17 0,F 18 0,S 1 19 16] [0,1,0,5,0,6,1,6,5,6,0,8,1,8,5,8,6,8,0,9]) k)) we)
def CA:=xo 127 ⟨wg,31,[]⟩ Tryz.func127 (by kernel_rfl)
def eO:ac:=(R 6 [T 31 (.agg [.e0,(z 0),.e0]),C 0] (s (R 8 [M 0,G 8,F 9 3,l 10] (.block 0 (R 13 [N .eql 3 11 1,e 12 (M 13)] (V 12 (R 14 [M 0,G 14,F 15 0,L 3 16,S 3 6 17,e 7 (C 140)] r) (R 19 [N .eql 3 11 3,e 18 (M 19)] (V 18 (R 20 [M 2,I (.callv (t 20) [])] (R 22 [M 0,G 22,F 23 0,L 3 24,S 3 6 25,e 7 (C 140)] r)) k)))))) (R 26 [M 1,I (.callv (t 26) [])] (s (R 28 [M 0,G 28,F 29 3,l 30,N .eql 3 31 2] (V 32 (R 33 [M 0,G 33,F 34 0,L 3 35,S 3 6 36,e 7 (C 140)] r) k)) (R 37 [M 0,G 37,F 38 0,L 3 39,S 3 6 40,e 7 (C 0)] r)))))
def fe:=xo 129 ⟨eO,41,[.cell 6 3 true,.tmp 7]⟩ Tryz.func129 (by kernel_rfl)
def CB:ac:=(s (R 21 [M 8,N .geq 3 21 0] (V 22 k (x 0))) (s (D (O 25 [M 7,M 1,M 8,B .shr 179 26 27,I (.conv .u8 (t 28)),I (.lits 5 false 1 1 [(.v (.int .u8 0))] [(0,1,(t 29))]),I (.app 5 1 (.v (.int .u8 0)) (t 25) (t 30)),e 7 (M 31)])) (O 23 [M 8,N .sub 3 23 8,e 8 (M 24)])))
def CC:ac:=(R 6 [v n] (R 9 [M 0,Y 95 [9],e 7 (M 10)] (s (R 11 [M 2,N .lss 3 11 1,M 12,j 13 (M 2),j 13 (N .gtr 3 14 8),P 13 15] (V 16 (R 17 [M 7,e 6 (M 17)] r) k)) (s (R 18 [M 2,N .sub 3 18 1,I (.bin .mul 3 (c 8) (t 19)),e 8 (M 20)] (K CB)) (R 32 [M 7,e 6 (M 32)] r)))))
def KR:=xo 130 ⟨CC,33,[.tmp 6]⟩ Tryz.func130 (by kernel_rfl)
def CD:ac:=(R 64 [F 4 0,l 64,N .add 3 65 1,F 4 1,l 67,M 12,I (.build [(z 0),(z 0),.e0] [(0,1,(t 66)),(1,1,(t 68)),(2,1,(t 69))]),S 3 8 70,e 9 (C 0)] r)
def nY:ac:=(R 4 [X 27 0,X 3 1,e 8 (T 27 (.agg [(z 0),(z 0),.e0])),e 9 (C 0)] (s (R 13 [L 3 4,Y 32 [13],e 10 (M 14)] (R 15 [M 10,N .neq 37 15 0] (V 16 (R 17 [I (.build [(z 0),(z 0),.e0] []),M 10,S 3 8 17,e 9 (M 18)] r) k))) (R 19 [F 4 2,l 19,I (.mkfn 211 [(t 5)]),Y 98 [20,21],e 11 (M 22)] (s (.seq (s (Z 23 [M 11,N .lss 3 23 0,M 24,j 25 (I (.asl (.global 0) 4 2 true)),j 25 (F 4 2),j 25 (l 27),j 25 (M 11),j 25 (A 28 29 6),j 25 (F 30 5),j 25 (l 31),j 25 (M 2),j 25 (I (.build [(z 0),(z 0)] [(0,1,(t 32)),(1,1,(t 33))])),j 25 (Y 212 [26,34]),j 25 (U 35),P 25 36,M 37,j 38 (M 3),j 38 (M 11)] []) (O 41 [j 38 (I (.callv (t 39) [(t 40)])),j 38 (U 41),P 38 42])) (V 43 (R 44 [I (.build [(z 0),(z 0),.e0] []),S 3 8 44,e 9 (C 150)] r) k)) (s (R 45 [F 4 0,l 45,N .eql 3 46 1099511627776] (V 47 (R 48 [I (.build [(z 0),(z 0),.e0] []),S 3 8 48,e 9 (C 2)] r) k)) (R 49 [F 4 2,l 49,Y 206 [50],e 12 (M 51)] (s (R 52 [M 12,M 11,M 2,A 52 53 6,F 55 5,S 1 56 54] (R 57 [M 2,N .eql 3 57 4] (V 58 (O 59 [M 12,M 11,M 11,N .add 3 61 1,Y 213 [59,60,62],e 12 (M 63)]) k))) CD)))))))
def KS:=xo 131 ⟨nY,71,[.cell 8 3 true,.tmp 9]⟩ Tryz.func131 (by kernel_rfl)
def CE:ac:=(R 2 [v fa] (R 2 [v tr] r))
def KT:=xo 132 ⟨CE,3,[.tmp 2]⟩ Tryz.func132 (by kernel_rfl)
def CF:ac:=(R 9 [B .lss 3 8 7] (s (V 9 k (x 0)) (s (D (R 10 [A 6 8 6,L 6 10,e 4 (T 58 (.agg [(z 0),(z 0),(z 0),(z 0),(.v (.int .u32 0)),(z 0)])),S 6 4 11] (R 12 [F 4 5,l 12,N .eql 3 13 2,M 14,J 15 (M 0),J 15 (L 6 4),J 15 (I (.callv (t 16) [(t 17)])),J 15 (U 18),Q 15 19] (V 20 r k)))) (O 21 [N .add 3 8 1,e 8 (M 21)]))))
def CG:ac:=(R 5 [F 1 2,l 5,H 6,C 0] (K CF))
def KU:=xi 148 ⟨CG,22,[]⟩ Tryz.func148 (by kernel_rfl)
def CH:ac:=(R 1 [X 136 0,T 192 (.agg [(.v (.string ⟨#[]⟩)),(z 0)])] (R 3 [F 1 0,l 3,F 1 1,l 5,I (.build [(.v (.string ⟨#[]⟩)),(z 0)] [(0,1,(t 4)),(1,1,(t 6))]),S 2 2 7] r))
def KV:=xo 149 ⟨CH,8,[.cell 2 2 true]⟩ Tryz.func149 (by kernel_rfl)
def CI:ac:=(R 1 [X 192 0,v fa] (R 3 [F 1 0,l 3,I (.bin .neq 9 (t 4) (.const (.string ⟨#[]⟩))),M 5,J 6 (F 1 1),J 6 (l 7),J 6 (N .geq 3 8 0),Q 6 9,M 10,J 11 (F 1 1),J 11 (l 12),J 11 (N .leq 3 13 1099511627776),Q 11 14,e 2 (M 15)] r))
def KW:=xo 150 ⟨CI,16,[.tmp 2]⟩ Tryz.func150 (by kernel_rfl)
def lE:ac:=(s (R 15 [M 8,N .mul 3 15 512,M 2,B .lss 3 16 17] (V 18 k (x 0))) (s (D (R 22 [M 0,G 22,F 23 3,L 2 24,M 1,M 8,Y 218 [25,26,27],e 21 (M 28),E 21 0,E 21 1,E 21 2,e 9 (T 36 (.agg [(z 0),.e0])),S 2 9 29,e 10 (M 30),e 11 (M 31)] (s (R 32 [M 11,U 32] (V 33 (R 35 [M 0,G 35,F 36 0,L 3 37,M 1,Y 29 [38,39],e 34 (M 40),E 34 0,E 34 1,E 34 2,e 12 (T 31 (.agg [.e0,(z 0),.e0])),S 3 12 41,e 13 (M 42),e 14 (M 43)] (R 44 [M 0,L 3 12,G 44,F 46 0,S 3 47 45] (R 48 [M 14,Y 52 [48]] (R 6 [e 50 (M 13),M 50,v tr] r)))) k)) (R 51 [M 0,L 2 9,G 51,F 53 3,S 2 54 52] (O 55 [M 6,M 10,I (.app 5 1 (.v (.int .u8 0)) (t 55) (t 56)),e 6 (M 57)]))))) (O 19 [M 8,N .add 3 19 1,e 8 (M 20)])))
def wi:ac:=(R 6 [v n,v fa] (s (R 8 [C 0] (K lE)) (R 6 [e 58 (M 6),M 58,v fa] r)))
def CJ:=xo 151 ⟨wi,59,[.tmp 6,.tmp 7]⟩ Tryz.func151 (by kernel_rfl)
def rW:ac:=(R 2 [v n,C 0] (R 7 [M 0,H 7,N .sub 3 8 4,e 4 (M 9)] (s (R 10 [M 4,N .lss 3 10 0] (V 11 (R 2 [v n,C 10] r) k)) (s (R 13 [M 0,M 4,I (.call 219 [(t 13),(t 14),(c 4)]),e 12 (M 15),E 12 0,E 12 1,e 5 (M 16),e 6 (M 17)] (R 18 [M 6,N .neq 37 18 0,M 19,j 20 (M 5),j 20 (M 0),j 20 (M 4),j 20 (I (.ssl (t 22) none (some (t 23)) 1)),j 20 (Y 27 [24]),j 20 (I (.conv .u64 (t 25))),j 20 (B .neq 179 21 26),P 20 27] (V 28 (R 2 [v n,C 20] r) k))) (R 29 [M 0,M 4,I (.ssl (t 29) none (some (t 30)) 1),I (.app 5 1 (.v (.int .u8 0)) n (t 31)),e 2 (M 32),e 3 (C 0)] r)))))
def wj:=xo 152 ⟨rW,33,[.tmp 2,.tmp 3]⟩ Tryz.func152 (by kernel_rfl)
def wk:ac:=(R 1 [X 61 0,T 47 .e0,T 3 (z 0)] (s (R 6 [L 2 1,Y 220 [6]] (.block 0 (.rangef (t 7) [8,9] (R 4 [T 79 (.agg [(z 0),(z 0),(z 0),(z 0),(z 0),(z 0),(z 0),(.v (.bool false)),(z 0),.e0]),S 10 4 8] (O 5 [M 9])) (D (O 10 [l 2,L 10 4,I (.lits 79 true 10 1 [(z 0),(z 0),(z 0),(z 0),(z 0),(z 0),(z 0),(.v (.bool false)),(z 0),.e0] [(0,10,(t 11))]),I (.app 79 10 (.agg [(z 0),(z 0),(z 0),(z 0),(z 0),(z 0),(z 0),(.v (.bool false)),(z 0),.e0]) (t 10) (t 12)),M 5,S 1 2 13,S 1 3 14]))))) (s (Z 15 [l 2,l 3,S 1 2 15,S 1 3 16] [0,1,1,2]) r)))
def CK:=xo 153 ⟨wk,17,[.cell 2 1 false,.cell 3 1 false]⟩ Tryz.func153 (by kernel_rfl)
def wl:ac:=(R 4 [v fa] (R 5 [M 0,M 1,Y 198 [5,6],N .geq 3 7 0,e 4 (M 8)] r))
def CL:=xo 154 ⟨wl,9,[.tmp 4]⟩ Tryz.func154 (by kernel_rfl)
def CM:ac:=(R 2 [X 79 0,v fa] (R 4 [F 2 1,l 4,F 1 2,l 6,B .geq 3 5 7,e 3 (M 8)] r))
def KX:=xo 155 ⟨CM,9,[.tmp 3]⟩ Tryz.func155 (by kernel_rfl)
def wm:ac:=(R 2 [X 36 0,X 9 1,T 36 (.agg [(z 0),.e0])] (s (R 6 [L 2 2,Y 75 [6],N .neq 37 7 0] (V 8 (R 9 [I (.build [(z 0),.e0] []),S 2 4 9] r) k)) (R 10 [F 2 1,l 10,Y 222 [11],I (.mkfn 223 [(t 3)]),Y 221 [12,13],e 5 (M 14)] (R 15 [F 2 0,l 15,M 5,I (.build [(z 0),.e0] [(0,1,(t 16)),(1,1,(t 17))]),S 2 4 18] r))))
def CN:=xo 156 ⟨wm,19,[.cell 4 2 true]⟩ Tryz.func156 (by kernel_rfl)
def CO:ac:=(R 4 [v n] (s (R 7 [M 1,N .lss 3 7 1] (V 8 (R 4 [v n] r) k)) (R 5 [T 201 .e0] (s (R 9 [M 0,Y 95 [9],M 1,Y 224 [10,11]] (.block 0 (.rangef (t 12) [13] (O 6 [M 13]) (D (O 14 [l 5,M 6,I (.lits 59 false 1 1 [.e0] [(0,1,(t 15))]),I (.app 59 1 .e0 (t 14) (t 16)),S 1 5 17]))))) (R 18 [l 5,e 4 (M 18)] r)))))
def KY:=xo 157 ⟨CO,19,[.tmp 4]⟩ Tryz.func157 (by kernel_rfl)
def nZ:ac:=(R 60 [F 4 0,l 60,M 11,I (.build [(z 0),.e0] [(0,1,(t 61)),(1,1,(t 62))]),S 2 8 63,e 9 (C 0)] r)
def n8:ac:=(R 8 [e 4 (X 36 0),T 36 (.agg [(z 0),.e0]),C 0] (R 15 [M 1,M 2,I (.build [(.v (.string ⟨#[]⟩)),(z 0)] [(0,1,(t 15)),(1,1,(t 16))]),e 10 (T 192 (.agg [(.v (.string ⟨#[]⟩)),(z 0)])),S 2 10 17] (s (R 18 [L 2 4,Y 75 [18],N .neq 37 19 0,M 20,j 21 (L 2 10),j 21 (Y 150 [22]),j 21 (U 23),P 21 24] (V 25 (R 26 [I (.build [(z 0),.e0] []),S 2 8 26,e 9 (C 1)] r) k)) (R 28 [L 2 4,L 2 10,Y 225 [28,29],e 27 (M 30),E 27 0,E 27 1,e 11 (M 31),e 12 (M 32)] (s (R 33 [M 3,H 33,F 4 0,l 35,B .gtr 3 34 36] (V 37 (R 38 [F 4 0,l 38,M 11,I (.build [(z 0),.e0] [(0,1,(t 39)),(1,1,(t 40))]),S 2 8 41,e 9 (C 0)] r) k)) (R 42 [M 11,M 1,M 2,M 3,Y 95 [45],I (.build [(.v (.string ⟨#[]⟩)),(z 0),.e0] [(0,1,(t 43)),(1,1,(t 44)),(2,1,(t 46))]),I (.lits 136 true 3 1 [(.v (.string ⟨#[]⟩)),(z 0),.e0] [(0,3,(t 47))]),I (.call 226 [(t 42),(c 0),(t 48)]),e 11 (M 49)] (R 50 [F 4 0,l 50,e 13 (T 3 (z 0)),S 1 13 51] (R 52 [M 11,I (.mkfn 228 [(t 13)]),Y 227 [52,53],e 14 (M 54)] (s (R 55 [M 14,N .geq 3 55 0] (V 56 (O 57 [M 11,M 14,I (.ssl (t 57) none (some (t 58)) 3),e 11 (M 59)]) k)) nZ)))))))))
def pJ:=xo 158 ⟨n8,64,[.cell 8 2 true,.tmp 9]⟩ Tryz.func158 (by kernel_rfl)
def CP:ac:=(R 12 [B .lss 3 11 10] (s (V 12 k (x 0)) (s (D (R 13 [A 9 11 2,L 2 13,e 4 (T 65 (.agg [(.v (.string ⟨#[]⟩)),.e0])),S 2 4 14] (R 15 [F 4 0,l 15,l 1,Y 166 [16,17]] (V 18 (O 19 [l 2,F 4 0,l 20,I (.lits 9 false 1 1 [(.v (.string ⟨#[]⟩))] [(0,1,(t 21))]),I (.app 9 1 (.v (.string ⟨#[]⟩)) (t 19) (t 22)),S 1 2 23]) k)))) (O 24 [N .add 3 11 1,e 11 (M 24)]))))
def CQ:ac:=(R 5 [l 0,G 5,F 6 0,F 7 0,l 8,H 9,C 0] (K CP))
def KZ:=xo 165 ⟨CQ,25,[]⟩ Tryz.func165 (by kernel_rfl)
def CR:ac:=k
def K0:=xo 167 ⟨CR,0,[]⟩ Tryz.func167 (by kernel_rfl)
def CS:ac:=(R 2 [X 58 0,v fa] (R 4 [F 2 0,l 4,l 1,B .eql 3 5 6,e 3 (M 7)] r))
def K1:=xo 170 ⟨CS,8,[.tmp 3]⟩ Tryz.func170 (by kernel_rfl)
def wn:ac:=(R 5 [l 0,l 1,Y 94 [5,6],e 4 (M 7),E 4 0,E 4 1,e 2 (M 8),e 3 (M 9)] (R 10 [M 3] (V 10 (Z 11 [l 0,l 0,G 12,F 13 0,F 14 0,l 15,M 2,M 2,N .add 3 18 1,Y 174 [16,17,19],G 11,F 21 0,F 22 0,S 1 23 20] [0,1,0,5,0,9]) k)))
def CT:=xo 173 ⟨wn,24,[]⟩ Tryz.func173 (by kernel_rfl)
end
end Go.Wt
namespace Go.Proofs
open Go.Shelf Go.RowKit Go.Sort Go.Lib
def Tryz.rn:Ren:=⟨fun|99=>166|103=>168|106=>243|125=>240|128=>280|129=>281|171=>96|172=>169|190=>171|194=>172|205=>300|206=>235|210=>236|213=>282|243=>189|244=>237|245=>238|246=>244|247=>266|258=>239|265=>307|279=>267|280=>268|281=>269|282=>270|287=>298|302=>271|303=>272|304=>273|305=>274|306=>275|307=>276|308=>277|309=>278|310=>279|316=>299|317=>308|318=>309|319=>310|320=>311|321=>320|322=>321|329=>302|330=>303|333=>301|334=>304|335=>305|336=>306|337=>323|338=>324|344=>322|n=>n,fun|24=>210|31=>128|37=>59|46=>225|51=>56|53=>179|75=>213|76=>214|80=>365|85=>298|127=>345|131=>146|143=>346|145=>348|167=>297|168=>300|171=>312|173=>314|175=>322|182=>304|183=>305|210=>326|212=>336|213=>337|218=>328|222=>332|228=>349|229=>97|232=>362|233=>363|n=>n,fun|15=>1|16=>2|17=>4|18=>5|19=>6|n=>n⟩
def Tryz.lays103:Lays.n103 Tryz.prog Tryz.rn:=by repeat'(first|kernel_rfl|(intro w;kernel_rfl)|constructor)
def Tryz.laysM171:LaysM.n171 Tryz.prog Tryz.rn:=by repeat'(first|kernel_rfl|(intro w;kernel_rfl)|constructor)
def Tryz.laysC172:LaysC.n172 Tryz.prog Tryz.rn:=by repeat'(first|kernel_rfl|(intro w;kernel_rfl)|constructor)
def Tryz.lays190:Lays.n190 Tryz.prog Tryz.rn:=by repeat'(first|kernel_rfl|(intro w;kernel_rfl)|constructor)
def Tryz.lays99:Lays.n99 Tryz.prog Tryz.rn:=by repeat'(first|kernel_rfl|(intro w;kernel_rfl)|constructor)
def Tryz.lays194:Lays.n194 Tryz.prog Tryz.rn:=by repeat'(first|kernel_rfl|(intro w;kernel_rfl)|constructor)
def Tryz.strings_CutPrefix(s p:ByteArray)(w:World):
  Calls Tryz.prog 168 #[.string s,.string p] w fun e w'=>e= .returned (.tuple #[.string ⟨(Lib.trimPrefix s.data.toList p.data.toList).toArray⟩,.bool (Lib.hasPrefix s.data.toList p.data.toList)])/\w'=w:=Any.strings_CutPrefix Tryz.lays103 s p w
def Tryz.strconv_Itoa(n:Int)(h0: -9223372036854775808<=n)(h1:n<=9223372036854775807)(w:World)(htab:Lib.TabIs Tryz.prog w "internal/strconv.uint64pow10" .u64 Lib.pow10Tab):
  Calls Tryz.prog 96 #[.int .i64 n] w fun e w'=>e= .returned (.string ⟨(Lib.itoa n).toArray⟩)/\∃k os,w'=grow (w.drewN k) os:=Any.strconv_Itoa Tryz.laysM171 n h0 h1 w htab
def Tryz.strconv_Atoi_ok(s:ByteArray)(hmax:s.size<=9223372036854775806)(v:Int)(h:Lib.atoiAll s.data.toList= .ok v)(w:World):
  Calls Tryz.prog 169 #[.string s] w fun e w'=>e= .returned (.tuple #[.int .i64 v,.nilIface])/\(w'=w\/∃t,w'=Lib.bytesWorld w 5 t):=Any.strconv_Atoi_ok Tryz.laysC172 s hmax v h w
def Tryz.strconv_Atoi_range_var(s:ByteArray)(hlim:s.size<=281474976710656)(h:Lib.atoiAll s.data.toList= .range)(tp:TypeId)(p:Value)(w:World)(hvar:w.var? Tryz.prog "strconv.ErrRange" =some #[.iface tp p]):
  Calls Tryz.prog 169 #[.string s] w fun e w'=>∃N,e= .returned (.tuple #[.int .i64 (Lib.atoiSat s.data.toList),.iface 300 (.pointer (some ⟨N,0,none⟩))])/\w.heap.size<=N/\w'.heap[N]?=some (.cells #[.string ⟨#[65,116,111,105]⟩,.string s,.iface tp p] 326 (0,0))/\Below w.heap.size w w':=Any.strconv_Atoi_range_var Tryz.laysC172 s hlim h tp p w hvar
def Tryz.slices_Sort_string(blk off cap:Nat)(ss:List (List UInt8))(w:World)(hH:Holds encStr w blk off ss.toArray)(hblk:blk<w.heap.size)(hsz:ss.length<4611686018427387904):
  Calls Tryz.prog 171 #[.slice (some ⟨blk,off,none⟩) ss.length cap] w fun e w'=>
   e= .returned (.tuple #[])/\∃n os,w'=grow (putRow encStr (Sort.ahead w n) blk off (ss.mergeSort fun x y=>decide (x<=y)).toArray) os:=Any.slices_Sort_string Tryz.lays190 blk off cap ss w hH hblk hsz
def Tryz.strings_HasPrefix(s p:ByteArray)(w:World):
  Calls Tryz.prog 166 #[.string s,.string p] w fun e w'=>e= .returned (.bool (Lib.hasPrefix s.data.toList p.data.toList))/\w'=w:=Any.strings_HasPrefix Tryz.lays99 s p w
def Tryz.slices_Compact_string(blk off cap:Nat)(zs:List (List UInt8))(w:World)(hH:Holds encStr w blk off zs.toArray)(hsz:zs.length<=9223372036854775807)(hcap:zs.length<=cap):
  Calls Tryz.prog 172 #[.slice (some ⟨blk,off,none⟩) zs.length cap] w fun e w'=>e= .returned (.slice (some ⟨blk,off,none⟩) (Lib.compact zs).length cap)/\∃q,w'=putRow encStr (Sort.ahead w q) blk off (Lib.compact zs++List.replicate (zs.length-(Lib.compact zs).length) []).toArray:=Any.slices_Compact_string Tryz.lays194 blk off cap zs w hH hsz hcap
def Tryz.slices_Compact_string_empty(a:Option Addr)(cap:Nat)(w:World):
  Calls Tryz.prog 172 #[.slice a 0 cap] w fun e w'=>e= .returned (.slice a 0 cap)/\w'=w:=Any.slices_Compact_string_empty Tryz.lays194 a cap w
def Tryz.slices_Sort_string_none(p:Option Addr)(cap:Nat)(w:World):
  Calls Tryz.prog 171 #[.slice p 0 cap] w fun e w'=>e= .returned (.tuple #[])/\w'=w:=Any.slices_Sort_string_none Tryz.lays190 p cap w
end Go.Proofs
namespace Go.Wt
section
open Go.RowKit
variable{P:Program}
structure CU(c:aA)(n:Nat):Prop where
 n:c.n=n
 dl:∃l,c.dl=some l/\l<=c.w0.heap.size
def cM(P:Program)(n:Nat)(code:Code)(E:aa)(K:Exit->aa->Prop):Prop:=∀(c:aA) (Z:Nm->Place) (a:Act) (w:World),CU c n->ai c Z E a w->
 bV (FW none) 0 P code (fun e a' w'=>∃Z' E',K e E'/\ai c Z' E' a' w') a w
def K2(hm:P.follows .mixedOrders=true){n:Nat}{code:Code}{s:ac}(hc:aZ P n true code=some s){E:aa}{K:Exit->aa->Prop}(hw:W P bu s E K):cM P n code E K:=by
 intro c Z a w hk0 hs
 obtain⟨l,hl,TK⟩:=hk0.dl
 have hn:=hk0.n
 subst hn
 have hY:jH P bu (fun Z9 (_:aa)=>Z9=c):=fun _ _ _ _ _ _ _ _ _ _ h=>h.elim
 refine uO gD (uP hm) iI (my rfl) (fun _ _ _ h=>h) hm (nN c (fun l' XX=>by rw[hl]at XX;cases XX;exact TK)) (fun _ _ hc=>by subst hc;rw[hl];rfl) hY code s hc c E _ _ Z _ w rfl (fun _ _ _ _ _ _ _ hf=>hf.elim) (fun Z9 e E Z1 a1 w1 hc hk Uq=>?_) hs hw
 subst hc
 exact⟨Z1,E,hk,Uq⟩
def cM.mono{n:Nat}{code:Code}{E:aa}{K K':Exit->aa->Prop}(h:cM P n code E K)(hk:∀e E,K e E->K' e E):cM P n code E K':=fun c Z a w h1 h2=>
 mz (h c Z a w h1 h2) fun _ _ _ ⟨Z',E',q1,q2⟩=>⟨Z',E',hk _ _ q1,q2⟩
def bN{n:Nat}{x y:Code}{E:aa}{K:Exit->aa->Prop}(h:cM P n x E (fY (fun E'=>cM P n y E' K) K)):cM P n (.seq x y) E K:=by
 intro c Z a w h1 h2
 refine nM (mz (h c Z a w h1 h2) fun e a' w' ⟨Z',E',q1,q2⟩=>?_)
 cases e with
 |normal=>exact q1 c Z' a' w' h1 q2
 |_=>exact⟨Z',E',q1,q2⟩
def CV{n id:Nat}{x:Code}{E:aa}{K:Exit->aa->Prop}(h:cM P n x E (i6 id K)):cM P n (.block id x) E K:=by
 intro c Z a w h1 h2
 refine zf (mz (h c Z a w h1 h2) fun e a' w' ⟨Z',E',q1,q2⟩=>?_)
 cases e with
 |exit i=>
  by_cases hi:i=id
  .simp only[Exit.inBlock,hi,if_true]
   simp only[i6,hi,if_true]at q1
   exact⟨Z',E',q1,q2⟩
  .simp only[Exit.inBlock,hi,ajS]
   simp only[i6,hi,ajS]at q1
   exact⟨Z',E',q1,q2⟩
 |_=>exact⟨Z',E',q1,q2⟩
def wo{n:Nat}{E:aa}{K:Exit->aa->Prop}(h:K .ret E):cM P n .ret E K:=fun _ Z _ _ _ h2=>fb<|wpIn_ret ⟨Z,E,h,h2⟩
def K3{n:Nat}{b:Code}{E:aa}{K:Exit->aa->Prop}(I:aa->Prop)(m:aa->Nat)(ρ:List (Nm×Nm))(h0:bw ρ=true)(hI:I (E.canon ρ))
  (T9:∀E1,I E1->cM P n b E1 (fY (fun E'=>∃ρ,bw ρ=true/\I (E'.canon ρ)/\m (E'.canon ρ)<m E1) K)):cM P n (.loop b) E K:=by
 intro c Z a w h1 h2
 obtain⟨Z0,WQ⟩:=nH h2 h0
 refine zg (fun j a w=>∃E1 Z1,m E1=j/\I E1/\ai c Z1 E1 a w) (m (E.canon ρ)) ⟨E.canon ρ,Z0,rfl,hI,WQ⟩ ?_
 rintro j a1 w1 ⟨E1,Z1,rfl,hI1,Uq⟩
 refine mz (T9 E1 hI1 c Z1 a1 w1 h1 Uq) fun e a2 w2 ⟨Z2,E2,q1,q2⟩=>?_
 cases e with
 |normal=>
  obtain⟨ρ2,g1,g2,g3⟩:=q1
  obtain⟨Z3,Ug⟩:=nH q2 g1
  exact⟨m (E2.canon ρ2),g3,E2.canon ρ2,Z3,rfl,g2,Ug⟩
 |_=>exact⟨Z2,E2,q1,q2⟩
def K4(hm:P.follows .mixedOrders=true){n id:Nat}{ops:Array Oper}{sl:List aT}{G:Nat->Rc}{E:aa}{K:Exit->aa->Prop}(Tj:ops.toList.mapM (fM P n ops)=some sl)(Vk:∀i,iG (G i))
  (hw:jI P bu ops sl G (K .normal) ops.size (Array.replicate ops.size false) E):cM P n (.region id ops true) E K:=by
 intro c Z a w h1 h2
 obtain⟨l,hl,TK⟩:=h1.dl
 have hn:=h1.n
 subst hn
 exact fb<|wpIn_region_any hm (uE (Rl:=fun Z9 _=>Z9=c) (nN c (fun l' XX=>by rw[hl]at XX;cases XX;exact TK)) gD (sl:=sl) (G:=G) Tj Vk (fun E Z a w _ hk hs=>⟨Z,E,hk,hs⟩) _ _ E Z a _ rfl hw h2.drew)
def c1:Code->Code| .seq x _=>x| .block _ x=>x| .loop x=>x| .scope x=>x| .cond _ x _=>x|c=>c
def c2:Code->Code| .seq _ y=>y| .cond _ _ y=>y|c=>c
theorem CW{f:FuncId}{fn:Func}{code:Code}{rs:List cy}(hf:P.funcs[f]?=some fn)(Vk:(fn.name== "runtime.NumGoroutine")=false)
  (hb:fn.body=some code) (hr:i8 P fn=some rs) (k:Ct) (hn:k.ds.length<=fn.ntmps) (hw:cM P fn.ntmps code k.env (Fin rs (Ends k))):ay P f k:=by
 refine⟨⟨fn,code,hf,Vk,hb⟩,fun c Z w vs Wf Tr hl hv=>?_⟩
 refine callsIn_wide (n:=0).1 (pn hf hb trivial ?_)
 let c':aA:={c with n:=fn.ntmps,dl:=some w.heap.size}
 have Uv:w.heap.size=c'.w0.heap.size:=by show w.heap.size=c.w0.heap.size;rw[Wf]
 have Wi:SimW c' Z k.env w:=⟨Tr.size,Tr.os,Tr.tape,Tr.output,Tr.old,Tr.m0,Tr.row,Tr.inj,Tr.fix,Tr.gl⟩
 have hA:ai c' Z k.env {tmps:=vs.toArray++Array.replicate (fn.ntmps-vs.toArray.size) undef,defers:=[]} w:=by
  refine⟨Wi,fun t=>?_,by show(vs.toArray++Array.replicate (fn.ntmps-vs.toArray.size) undef).size=fn.ntmps;simp;omega,[],rfl,by simp,by simp⟩
  show ah Z k.env.used w (ae c' Z k.env.slots) _ (k.ds.getD t .junk)
  by_cases ht:t<vs.length
  .have Xi:t<k.ds.length:=by omega
   have e1:(vs.toArray++Array.replicate (fn.ntmps-vs.toArray.size) undef).getD t undef=vs[t]:=by
    rw[ajM,akv]
    simp[ht]
   have e2:k.ds.getD t .junk=k.ds[t]:=by simp[Xi]
   rw[e1,e2]
   exact hv t _ _ (ajq ht) (ajq Xi)
  .have e2:k.ds.getD t .junk= .junk:=by simp[aj2 (show k.ds.length<=t by omega)]
   rw[e2]
   exact .junk
 have Tx:∀(E:aa) (Z1:Nm->Place) (a1:Act) (w1:World) (o:Option DV),fZ E rs=o->ml (Ends k) E o->ai c' Z1 E a1 w1->LeavesInM Fence.wide 0 P fn a1.tmps (fun e w'=>∃v,e= .returned v/\∃(Z':Nm->Place) (E':aa),E'.slots=k.out/\SimW c Z' E' w'/\ah Z' E'.used w' (ae c Z' E'.slots) v k.d) a1.defers .returning w1:=by
  intro E Z1 a1 w1 o ho hk Uq
  cases o with
  |none=>exact hk.elim
  |some d=>
   obtain⟨bs,Xn,WF,Yh⟩:=Uq.df
   rw[Xn]
   refine rj bs w1 WF (fun b hb=>(Yh b hb).2) (fun w' g1 g2 g3 g4 g5=>?_)
   have T8:=Uq.taken (fun b hb=>⟨by obtain⟨l,q1,q2⟩:=(Yh b hb).1;cases q1;rw[<-Uv];exact q2,(Yh b hb).2⟩) g1 g2 g3 g4 g5
   obtain⟨v,h1,h2⟩:=rh T8 hr ho
   have hk:(∃ρ,bw ρ=true/\(E.canon ρ).slots=k.out/\bZ (E.outD ρ d) k.d)\/(d= .t .e0/\k.d= .osl (.loc 0 0) 0/\∃ρ e m,bw ρ=true/\0<m/\k.new=[.rows e m [] false]/\(E.canon ρ).used (.loc 0 0)=false/\(E.canon ρ).slots=aU [] k.rows' []):=by
    rcases hk with⟨ρ,hρ,Tj,hd⟩|hk|hk
    .exact .inl ⟨ρ,hρ,Tj,hd▸.rfl⟩
    .exact .inr hk
    .exact .inl hk
   rcases hk with⟨ρ,hρ,Tj,hd⟩|⟨rfl,hd,ρ,e,m,hρ,VM,Ub,VI,Tj⟩
   .obtain⟨Z',h3,h4,h5,h6⟩:=kY T8 hρ
    refine⟨v,h1,v,rfl,Z',E.canon ρ,Tj,?_,?_⟩
    .exact⟨h3.size,h3.os,h3.tape,h3.output,h3.old,h3.m0,h3.row,h3.inj,h3.fix,h3.gl⟩
    .exact ah.le hd (uQ T8 h4 h5 h6 h2)
   .obtain⟨Z',h3,h4,h5,h6⟩:=kY T8 hρ
    obtain⟨ad,rfl⟩:=h2.e0_inv
    obtain⟨Z2,q1,q2,q3⟩:=h3.new (w':=w') (s:= .loc 0 0) (r:= .rows e m [] false) (pl:=⟨0,0,m⟩) VI rfl (ajz _) rfl rfl rfl (fun _ _=>rfl) (fun hr=>by simp[Row.real]at hr) (by
     intro Z' U' M' hU hM
     exact .inl ⟨rfl,rfl,rfl,VM⟩)
    refine⟨_,h1,_,rfl,Z2,(E.canon ρ).upd [(.loc 0 0,some (.rows e m [] false))],?_,⟨q3.size,q3.os,q3.tape,q3.output,q3.old,q3.m0,q3.row,q3.inj,q3.fix,q3.gl⟩,?_⟩
    .funext s
     rw[bM,dV,Tj]
     show _=aU [] k.rows' k.new s
     rw[Ub]
     by_cases hs:s= .loc 0 0
     .subst hs;rfl
     .rw[if_neg hs]
      cases s with
      |loc d i=>
       simp only[aU]
       by_cases UU:d=0
       .subst UU
        cases i with
        |zero=>exact absurd rfl hs
        |succ i=>simp
       .simp[UU]
      |_=>rfl
    .rw[hd]
     have:=ah.osl (Z:=Z2) (U:=((E.canon ρ).upd [(.loc 0 0,some (.rows e m [] false))]).used) (w:=w') (M:=ae c' Z2 ((E.canon ρ).upd [(.loc 0 0,some (.rows e m [] false))]).slots) (s:= .loc 0 0) (n:=0) (ad:=ad) (by
      rw[bJ,dV];simp) (by rw[q2];exact ajz _) (by rw[q2];intro hh;exact absurd hh (by simp))
     rw[q2]at this
     exact this
 refine mz (hw c' Z _ w ⟨rfl,_,rfl,by rw[Uv];exact ajz _⟩ hA) fun e a1 w1 ⟨Z1,E,hk,Uq⟩=>?_
 cases e with
 |normal=>exact Tx E Z1 a1 w1 _ rfl hk Uq
 |ret=>exact Tx E Z1 a1 w1 _ rfl hk Uq
 |_=>exact hk.elim
@[simp] theorem n9(n:aa->Prop)(K:Exit->aa->Prop)(E:aa):fY n K .normal E=n E:=rfl
@[simp] theorem S9(n:aa->Prop)(K:Exit->aa->Prop)(E:aa):fY n K .ret E=K .ret E:=rfl
@[simp] theorem Ta(n:aa->Prop)(K:Exit->aa->Prop)(i:Nat)(E:aa):fY n K (.exit i) E=K (.exit i) E:=rfl
@[simp] theorem Tb(i:Nat)(K:Exit->aa->Prop)(E:aa):i6 i K .normal E=K .normal E:=rfl
@[simp] theorem Tc(i:Nat)(K:Exit->aa->Prop)(E:aa):i6 i K .ret E=K .ret E:=rfl
@[simp] theorem Td(i j:Nat)(K:Exit->aa->Prop)(E:aa):i6 i K (.exit j) E=if j=i then K .normal E else K (.exit j) E:=rfl
def b9(hm:P.follows .mixedOrders=true){n:Nat}{code:Code}{s:ac}(hc:aZ P n true code=some s){E:aa}{K:Exit->aa->Prop}(hw:aY P bu K [.code s] E):cM P n code E K:=K2 hm hc hw
def d1:ac->ac| .seq x _=>x| .block _ x=>x| .loop x=>x| .cond _ x _=>x|c=>c
def d2:ac->ac| .seq _ y=>y| .cond _ _ y=>y|c=>c
def K5{n:Nat}{b:Code}{E:aa}{K:Exit->aa->Prop}(I:aa->Prop)(m:aa->Nat)(ρ:List (Nm×Nm))(h0:bw ρ=true)(h1:I (E.canon ρ))
  (h2:∀E1,I E1->E1.used=(fun s=>(ρ.map (·.2)).contains s)->(∀s,(ρ.map (·.2)).contains s=false->E1.slots s=none)->
   ∀A:aa->Prop,(∀E',qI I m (ρ.map (·.2)) (m E1) E'->A E')->cM P n b E1 (fY A K)):cM P n (.loop b) E K:=by
 refine K3 (fun E1=>I E1/\E1.used=(fun s=>(ρ.map (·.2)).contains s)/\∀s,(ρ.map (·.2)).contains s=false->E1.slots s=none) m ρ h0 ⟨h1,(fA E ρ).1,(fA E ρ).2⟩ fun E1 hi=>?_
 refine h2 E1 hi.1 hi.2.1 hi.2.2 _ fun E' ⟨ρ',q1,q2,q3,q4⟩=>⟨ρ',q1,⟨q3,by rw[<-q2];exact(fA E' ρ').1,by rw[<-q2];exact(fA E' ρ').2⟩,q4⟩
end
section
open Go.RowKit
variable{P:Program}{a:Act}{w:World}{o:Oper}{rd:Option Nat}{K:Act->World->Prop}{Q:Exit->Act->World->Prop}
def kB(U7:∀c,o.op≠.defer c){v:Value}{w':World}(Ti:(execOp a.eval o).run P w= .ok (.value v) w')(hK:K (a.put o.dst v) w'):o.wpIn (FW rd) 0 P a w K Q:=by
 refine⟨fun _ _=>trivial,?_⟩
 rw[Oper.semAt_eq _ _ _ U7,Ti]
 exact hK
def gJ{ops:Array Oper}{rest:List Oper}(hg:o.guard=none)(h:o.wpIn (FW rd) 0 P a w (wpListIn (FW rd) 0 P ops Q rest) Q):wpListIn (FW rd) 0 P ops Q (o::rest) a w:=by
 unfold wpListIn
 rw[if_pos (by simp[Region.wanted,hg])]
 exact h
def pK{ops:Array Oper}(h:Q .normal a w):wpListIn (FW rd) 0 P ops Q [] a w:=h
def CX{n id:Nat}{ops:Array Oper}{E:aa}{K:Exit->aa->Prop}(h:∀(c:aA) (Z:Nm->Place) (a:Act) (w:World),CU c n->ai c Z E a w->
  wpListIn (FW none) 0 P ops (fun e a' w'=>∃Z' E',K e E'/\ai c Z' E' a' w') ops.toList a w):cM P n (.region id ops false) E K:=fun c Z a w h1 h2=>
 fb<|wpIn_region_list (h c Z a w h1 h2)
def K6{c:aA}{Z:Nm->Place}{E:aa}(h:ai c Z E a w){s:Nm}{e:TypeId}{m:Nat}{l l':List ab}(Tj:E.slots s=some (.rows e m l false)){cs cs':List Value}(hcap:0<(Z s).cap)(hg:w.heap[(Z s).blk]?=some (.cells cs.toArray e (0,0)))
  (Tk:cs'.length=cs.length) (XX:l'.length<=(Z s).cap) (hR:aV w (ae c Z E.slots) m cs' l'):ai c Z (E.upd [(s,some (.rows e m l' false))]) a (w.setRow (Z s).blk cs'.toArray):=by
 have hB:=(h.row s _ Tj).2.1
 refine h.set (w':=w.setRow (Z s).blk cs'.toArray) (r':= .rows e m l' false) Tj rfl (by simpa[Row.real]using hcap) (by simp) rfl rfl rfl (fun b hb=>setRow_other w _ b _ hb) ?_
 intro M' US
 have ZD:=setRow_heap w (Z s).blk _ cs'.toArray e _ hg
 have Xf:aV (w.setRow (Z s).blk cs'.toArray) M' m cs' l':=
  hR.mono (by simp) (fun b hlt hM=>⟨setRow_other w _ b _ (fun e=>hM (.inr ⟨s,_,Tj,rfl,by simpa[Row.real]using hcap,e.symm⟩)),US b hlt hM⟩)
 rcases hB with⟨h0,_⟩|⟨cs0,_,q1,q2,q3,q4,q5,q6,_⟩
 .omega
 .rw[hg]at q1
  simp only[ajr,Obj.cells.injEq,List.toArray_inj]at q1
  have q1:cs=cs0:=by have:=congrArg Array.toList q1.1;simpa using this
  subst q1
  exact .inr ⟨cs',hcap,ZD,q2,q3,by rw[Tk];exact q4,XX,q6,Xf.1,Xf.2⟩
def K7{z:Array Value}{n:Nat}{v:Value}(hz:∀x∈z.toList,x.oneCell'=true)(hv:v∈(Builtin.zeroCells z n).toList):v.oneCell'=true:=by
 simp only[Builtin.zeroCells,Array.toList_map,ajI]at hv
 obtain⟨i,hi,rfl⟩:=hv
 have hs:0<z.size:=by
  rcases Nat.eq_zero_or_pos z.size with h|h
  .rw[h]at hi;simp at hi
  .exact h
 have hm:i%z.size<z.size:=Nat.mod_lt _ hs
 rw[getElem!_pos z (i%z.size) hm]
 exact hz _ (by simp)
def ws{t e ty:TypeId}{z:Value}(ht:P.underlying t=some (.slice e))(hz:(zeroValue e).run P w= .ok z w)(h1:∀x∈z.cells.toList,x.oneCell'=true){b o n cap:Nat}{cs:List Value}{te:TypeId}(hn:0<n)
  (hg:w.heap[b]?=some (.cells cs.toArray te (0,0))) (VC:o+n*z.cells.size<=cs.length):
  (Builtin.clear_ #[t] ty #[.slice (some ⟨b,o,none⟩) n cap]).run P w= .ok (.tuple #[]) (w.setRow b (cs.take o++(Builtin.zeroCells z.cells n).toList++cs.drop (o+n*z.cells.size)).toArray):=by
 have hs:(Builtin.zeroCells z.cells n).toList.length=n*z.cells.size:=by simp[Builtin.zeroCells]
 have TT:=run_storeCells_at P b o te (Builtin.zeroCells z.cells n).toList 0 cs.toArray w hg (by simpa[hs]using VC) (fun v hv=>K7 h1 hv)
 simp only[Nat.add_zero,hs]at TT
 obtain⟨k,rfl⟩:∃k,n=k+1:=⟨n-1,by omega⟩
 simp[Builtin.clear_,ajD ht,hz,TT]
end
section
open Go.RowKit
variable{P:Program}{a:Act}{w:World}
def rX{d:Nat}{v:Value}(h:d<a.tmps.size):(a.put (some d) v).eval (.tmp d)=v:=by
 simp[Act.put,Act.eval,ajM,h]
def CY{d t:Nat}{v:Value}(h:t≠d):(a.put (some d) v).eval (.tmp t)=a.eval (.tmp t):=by
 simp[Act.put,Act.eval,ajM,akj,Ne.symm h]
def K8{E:aa}{s:Nm}{r:Row}(h:E.slots s=some r)(hu:E.used s=true):E.upd [(s,some r)]=E:=by
 refine aa.ext' rfl (funext fun x=>?_) (funext fun x=>?_)
 .rw[bM,dV]
  by_cases hx:x=s
  .subst hx;simp[h]
  .simp[hx]
 .rw[bJ,dV]
  by_cases hx:x=s
  .subst hx;simp[hu]
  .simp[hx]
def K9{n id x y d1 d2 d3:Nat}{t e ty1 ty2 ty3 ty4:TypeId}{m:Nat}{zt:ab}{p1 p2 p3 p4:String}{af1 af2 af3 af4:Array Edge}{E:aa}{K:Exit->aa->Prop}{s:Nm}{l:List ab}{i:Nat}
  (ht:P.underlying t=some (.slice e)) (hm:bm P e=some m) (hz:cu P e=some zt) (hzm:zt.cells.length=m) (hd1:d1<n) (hd2:d2<n) (hd3:d3<n) (hy:y≠d1) (Wx:d1≠d2)
  (ex:E.tmps x= .osl s l.length) (ey:E.tmps y= .t (.v (.int .i64 i))) (Tj:E.slots s=some (.rows e m l false)) (hi:i<=l.length)
  (hK:K .normal ((((E.put d1 (.osl s l.length)).put d2 (.t (.v (.int .i64 i)))).put d3 .junk).upd [(s,some (.rows e m (l.take i) false))])):
  cM P n (.region id #[⟨some d1,.move (.tmp x),ty1,p1,af1,none⟩,⟨some d2,.move (.tmp y),ty2,p2,af2,none⟩,⟨some d3,.slice t (.tmp d1) (some (.tmp d2)) none none,ty3,p3,af3,none⟩,
   ⟨none,.call {callee:= .builtin .clear,args:=#[.tmp d3],argTypes:=#[t]},ty4,p4,af4,none⟩] false) E K:=by
 refine CX fun c Z a w hc hs=>?_
 have hn:=hc.n
 subst hn
 refine gJ rfl (kB (by simp) (v:=a.eval (.tmp x)) (w':=w) rfl ?_)
 have Uq:ai c Z (E.put d1 (.osl s l.length)) (a.put (some d1) (a.eval (.tmp x))) w:=by
  have:=hs.ev (.tmp x)
  rw[show E.ev (.tmp x)=E.tmps x from rfl,ex]at this
  exact hs.put (dst:=some d1) (by simpa using hd1) this
 refine gJ rfl (kB (by simp) (v:=(a.put (some d1) (a.eval (.tmp x))).eval (.tmp y)) (w':=w) rfl ?_)
 generalize ha1:a.put (some d1) (a.eval (.tmp x))=a1 at*
 have T8:ai c Z ((E.put d1 (.osl s l.length)).put d2 (.t (.v (.int .i64 i)))) (a1.put (some d2) (a1.eval (.tmp y))) w:=by
  have:=Uq.ev (.tmp y)
  rw[show(E.put d1 (.osl s l.length)).ev (.tmp y)=E.tmps y from if_neg hy,ey]at this
  exact Uq.put (dst:=some d2) (by simpa using hd2) this
 generalize ha2:a1.put (some d2) (a1.eval (.tmp y))=a2 at*
 have hv1:a2.eval (.tmp d1)=a.eval (.tmp x):=by
  rw[<-ha2,CY Wx,<-ha1,rX (by rw[hs.sz];exact hd1)]
 have hx:=hs.ev (.tmp x)
 rw[show E.ev (.tmp x)=E.tmps x from rfl,ex]at hx
 obtain⟨ad,hv,hU,hcap,V2⟩:=hx.osl_inv
 have Ti:=nE (dst:=some d3) (ty:=ty3) (pos:=p3) (after:=af3) (g:=none) T8 (by simpa using hd3) ht hm (x:= .tmp d1) (lo:=some (.tmp d2)) (hi:=none) (ad:=ad) (len:=l.length) (cap:=(Z s).cap) (l:=i) (u:=l.length) (hv1.trans hv) hcap
  (by simp[dS,aa.ev]) (by simp[dS]) (by omega) (by omega) (by omega)
 refine gJ rfl (kB (by simp) Ti ?_)
 have Ug:=T8.put (dst:=some d3) (v:= .slice (if(Z s).cap=((i:Int)).toNat then ad else ad.map (·.add (((i:Int)).toNat*m))) (((l.length:Int)).toNat-((i:Int)).toNat) ((Z s).cap-((i:Int)).toNat)) (d:= .junk) (by simpa using hd3) .junk
 have Yc:∀(a3:Act) (v w'),(Builtin.clear_ #[t] ty4 #[a3.eval (.tmp d3)]).run P w= .ok v w'->(execOp a3.eval ⟨none,.call {callee:= .builtin .clear,args:=#[.tmp d3],argTypes:=#[t]},ty4,p4,af4,none⟩).run P w= .ok (.value v) w':=by
  intro a3 v w' h
  simp only[execOp,resolve,invoke,builtin,ajH,aj0,ajF,List.map_toArray,ajQ,aj4,h]
 generalize hv3:Value.slice (if(Z s).cap=((i:Int)).toNat then ad else ad.map (·.add (((i:Int)).toNat*m))) (((l.length:Int)).toNat-((i:Int)).toNat) ((Z s).cap-((i:Int)).toNat)=v3 at*
 have Wc:(a2.put (some d3) v3).eval (.tmp d3)=v3:=rX (by rw[T8.sz];exact hd3)
 have aah:(((E.put d1 (.osl s l.length)).put d2 (.t (.v (.int .i64 i)))).put d3 .junk).slots s=some (.rows e m l false):=Tj
 by_cases TC:i=l.length
 .subst TC
  have TA:(Builtin.clear_ #[t] ty4 #[v3]).run P w= .ok (.tuple #[]) w:=by
   subst hv3
   rw[Nat.sub_self]
   split<;>(cases ad<;>simp[Builtin.clear_,ajD ht])
  refine gJ rfl (kB (by simp) (Yc _ _ _ (by rw[Wc];exact TA)) ?_)
  refine pK ⟨Z,_,hK,?_⟩
  rw[akg]
  rw[K8 aah (Ug.row s _ aah).1]
  exact Ug
 .have hlt:i<l.length:=by omega
  have Ws:0<(Z s).cap:=by omega
  have TW:¬(Z s).cap=((i:Int)).toNat:=by simp;omega
  rcases(Ug.row s _ aah).2.1 with⟨q0,_⟩|⟨cs,_,q1,q2,q3,q4,q5,q6,q7,q8⟩
  .omega
  obtain⟨VH,zv,z1,z2,_,z3⟩:=nF (M:=ae c Z E.slots) (U:=E.used) (Z:=Z) (w:=w) hz
  obtain⟨u1,u2,_⟩:=z3.cells_inv rfl
  have YG:zv.cells.size=m:=by
   have:(DV.t zt).cells.length=zt.cells.length:=by cases zt<;>simp[DV.cells,ab.cells]
   rw[<-Array.length_toList,u1,this,hzm]
  have hzr:(zeroValue e).run P w= .ok zv w:=by simp[zeroValue,typeInfo,z1,z2,Sem.run]
  have afF:=V2 Ws
  subst afF
  rw[if_neg TW]at hv3
  simp only[akl,akq]at hv3
  have ae3:i*m+(l.length-i)*m=l.length*m:=by rw[<-Nat.add_mul];congr 1;omega
  have VC:i*m+(l.length-i)*zv.cells.size<=cs.length:=by
   rw[YG,ae3,q4]
   exact ajZ _ q5
  have TA:=ws (t:=t) (e:=e) (ty:=ty4) (z:=zv) (b:=(Z s).blk) (o:=i*m) (n:=l.length-i) (cap:=(Z s).cap-i) ht hzr (fun v hv=>by rw[<-mq];exact u2 v hv) (by omega) q1 VC
  have hv4:v3= .slice (some ⟨(Z s).blk,i*m,none⟩) (l.length-i) ((Z s).cap-i):=by
   rw[<-hv3]
   simp[Addr.add]
   try exact fun h=>h.symm
  rw[<-hv4]at TA
  refine gJ rfl (kB (by simp) (Yc _ _ _ (by rw[Wc];exact TA)) ?_)
  refine pK ⟨Z,_,hK,?_⟩
  have Xa:(cs.take (i*m)++(Builtin.zeroCells zv.cells (l.length-i)).toList++cs.drop (i*m+(l.length-i)*zv.cells.size)).length=cs.length:=by
   have:(Builtin.zeroCells zv.cells (l.length-i)).toList.length=(l.length-i)*zv.cells.size:=by simp[Builtin.zeroCells]
   simp only[ajB,ajA,aj9,this]
   omega
  refine K6 Ug aah Ws q1 Xa (by rw[ajA];omega) ?_
  refine aV.ext (aV.take ⟨q7,q8⟩ i) fun j hj=>?_
  have hj2:j<i*m:=by
   rw[ajA]at hj
   exact ajY hj (ajZ _ (by omega))
  rw[aj1,akt (by rw[ajA];omega),List.getElem?_take_of_lt hj2]
end
end Go.Wt
