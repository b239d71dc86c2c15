/- A part of the proof of a tier statement (the last text closes it): lemmas without condition. -/
import Derived.Test.YteaimhlobmaghaaGreatDoorP08
import Derived.RangeFuncLeaves
set_option linter.all false
set_option maxRecDepth 10000000
set_option maxHeartbeats 0
namespace Go.Wt
section
open Go.RowKit
variable{P:Program}{F:Fence}{n:Nat}{Q:Exit->Act->World->Prop}{a:Act}{w:World}
def bV(F:Fence)(n:Nat)(P:Program)(c:Code)(Q:Exit->Act->World->Prop)(a:Act)(w:World):Prop:=
 ∀(b:Frame) (k:List Item) (cs:List Frame),b.roundOf=F.round->F.fn b.fn->F.room (cs.length+1+n)->(∃fn,P.funcs[b.fn]?=some fn)->
  ∃e a' w',Q e a' w'/\ArrivesIn (Machine.fenced P F) P (lone (b.atR a (.code c::k)) cs w) b k cs e a' w'
def fb{c:Code}(h:c.wpIn F n P Q a w):bV F n P c Q a w:=fun b k cs h1 h2 h3 _=>h b k cs h1 h2 h3
def mz{c:Code}{Q':Exit->Act->World->Prop}(h:bV F n P c Q a w)(hq:∀e a w,Q e a w->Q' e a w):bV F n P c Q' a w:=
 fun b k cs h1 h2 h3 h4=>let⟨e,a',w',q,r⟩:=h b k cs h1 h2 h3 h4;⟨e,a',w',hq _ _ _ q,r⟩
def nM{x y:Code}(h:bV F n P x (Exit.then (bV F n P y Q) Q) a w):bV F n P (.seq x y) Q a w:=by
 intro b k cs h1 h2 h3 h4
 have h0:(lone (b.atR a (.code (.seq x y)::k)) cs w).fenced P F:=fenced_calm h2 h3 rfl
 obtain⟨e,a1,w1,hq,TI⟩:=h b (.code y::k) cs h1 h2 h3 h4
 cases e with
 |normal=>
  obtain⟨e2,a2,w2,Wk,Vw⟩:=hq b k cs h1 h2 h3 h4
  exact⟨e2,a2,w2,Wk,.of_steps (.head h0 stepR_seq TI) Vw⟩
 |_=>exact⟨_,a1,w1,hq,.of_steps (.one h0 stepR_seq) (.pass (x:= .code y) rfl (fun _ _=> .inl (by simp)) TI)⟩
def HW{c:Operand}{x y:Code}{t:Bool}(hc:a.eval c= .bool t)(h:bV F n P (if t then x else y) Q a w):bV F n P (.cond c x y) Q a w:=
 fun b k cs h1 h2 h3 h4=>let⟨e,a',w',q,r⟩:=h b k cs h1 h2 h3 h4;⟨e,a',w',q,.of_steps (.one (fenced_calm h2 h3 rfl) (stepR_cond hc)) r⟩
def zf{id:Nat}{c:Code}(h:bV F n P c (Exit.inBlock id Q) a w):bV F n P (.block id c) Q a w:=by
 intro b k cs h1 h2 h3 h4
 have h0:(lone (b.atR a (.code (.block id c)::k)) cs w).fenced P F:=fenced_calm h2 h3 rfl
 obtain⟨e,a1,w1,hq,TI⟩:=h b (.inBlock id::k) cs h1 h2 h3 h4
 cases e with
 |normal=>exact⟨.normal,a1,w1,hq,.head h0 stepR_block (StepsIn.trans TI (.one (fenced_calm h2 h3 rfl) stepR_inBlock))⟩
 |exit i=>
  by_cases hi:i=id
  .simp only[Exit.inBlock,hi,if_true]at hq
   exact⟨.normal,a1,w1,hq,.head h0 stepR_block (TI.1 k (by simp[exitTo,hi]))⟩
  .simp only[Exit.inBlock,hi,ajS]at hq
   have hb:(id==i)=false:=by simpa using fun e=>hi e.symm
   have hx:exitTo i (.inBlock id::k)=exitTo i k:=by simp[exitTo,hb]
   exact⟨.exit i,a1,w1,hq,fun k' hk=> .head h0 stepR_block (TI.1 k' (by rw[hx];exact hk)),
    fun hr hk=>let⟨k1,q1,q2⟩:=TI.2 hr (by rw[hx];exact hk);⟨k1,q1,.head h0 stepR_block q2⟩⟩
 |goto l=>
  have hx:gotoIn l (.inBlock id::k)=gotoIn l k:=by simp[gotoIn]
  exact⟨_,a1,w1,hq,fun k' hk=> .head h0 stepR_block (TI.1 k' (by rw[hx];exact hk)),
   fun hr hk=>let⟨k1,q1,q2⟩:=TI.2 hr (by rw[hx];exact hk);⟨k1,q1,.head h0 stepR_block q2⟩⟩
 |_=>exact⟨_,a1,w1,hq,.of_steps (.one h0 stepR_block) TI⟩
def zg{c:Code}(I:Nat->Act->World->Prop)(m:Nat)(h0:I m a w)(round:∀m a w,I m a w->bV F n P c (Exit.then (fun a' w'=>∃m',m'<m/\I m' a' w') Q) a w):bV F n P (.loop c) Q a w:=by
 intro b k cs h1 h2 h3 h4
 have key:∀j a w,I j a w->∃e a' w',Q e a' w'/\ArrivesIn (Machine.fenced P F) P (lone (b.atR a (.code c:: .inLoop c::k)) cs w) b k cs e a' w':=by
  intro j
  induction j using Nat.strongRecOn with
  |_ j ih=>
   intro a w hI
   obtain⟨e,a1,w1,hq,TI⟩:=round j a w hI b (.inLoop c::k) cs h1 h2 h3 h4
   cases e with
   |normal=>
    obtain⟨m',hlt,hI'⟩:=hq
    obtain⟨e2,a2,w2,Wk,Vw⟩:=ih m' hlt a1 w1 hI'
    exact⟨e2,a2,w2,Wk,.of_steps (StepsIn.trans TI (.one (fenced_calm h2 h3 rfl) stepR_inLoop)) Vw⟩
   |_=>exact⟨_,a1,w1,hq,.pass (x:= .inLoop c) rfl (fun _ _=> .inl (by simp)) TI⟩
 obtain⟨e,a',w',hq,TI⟩:=key m a w h0
 exact⟨e,a',w',hq,.of_steps (.one (fenced_calm h2 h3 rfl) stepR_loop) TI⟩
def qX{b:Frame}{a:Act}{k:List Item}{cs:List Frame}{w:World}{x:Code}:step P (lone (b.atR a (.code (.scope x)::k)) cs w)= .next (lone (b.atR a (.code x:: .inScope x::k)) cs w):=
 step_lone_go (by simp[stepG,stepG.exec,Frame.atR])
def HX{b:Frame}{a:Act}{k:List Item}{cs:List Frame}{w:World}{x:Code}:step P (lone (b.atR a (.inScope x::k)) cs w)= .next (lone (b.atR a k) cs w):=
 step_lone_go (by simp[stepG,stepG.exec,Frame.atR])
def HY{x:Code}(h:bV F n P x (Exit.noGoto Q) a w):bV F n P (.scope x) Q a w:=by
 intro b k cs h1 h2 h3 h4
 have h0:(lone (b.atR a (.code (.scope x)::k)) cs w).fenced P F:=fenced_calm h2 h3 rfl
 obtain⟨e,a1,w1,hq,TI⟩:=h b (.inScope x::k) cs h1 h2 h3 h4
 cases e with
 |normal=>exact⟨.normal,a1,w1,hq,.head h0 qX (StepsIn.trans TI (.one (fenced_calm h2 h3 rfl) HX))⟩
 |exit id'=>
  have hx:exitTo id' (.inScope x::k)=exitTo id' k:=by simp[exitTo]
  exact⟨.exit id',a1,w1,hq,fun k' hk=> .head h0 qX (TI.1 k' (by rw[hx];exact hk)),
   fun VY hk=>let⟨k₁,q1,q2⟩:=TI.2 VY (by rw[hx];exact hk);⟨k₁,q1,.head h0 qX q2⟩⟩
 |goto l=>exact hq.elim
 |_=>exact⟨_,a1,w1,hq,.of_steps (.one h0 qX) TI⟩
def HZ(F:Fence)(n:Nat)(P:Program)(l:Nat)(Q:Exit->Act->World->Prop)(a':Act):Ending->World->Prop
 | .returned _,w3=>∃Za w4,(Instr.endLoop l).run P w3= .ok Za w4/\(match Za with|none=>Q .normal a' w4|some c=>bV F n P c Q a' w4)
 | .panicked Vx,w3=>Q (.panic Vx) a' w3
 | .outgrown,_=>False
def zh{g:Operand}{ps:Array Tmp}{assign body:Code}
  (h:∀fn,F.fn fn->(∃Fn,P.funcs[fn]?=some Fn)->∃(l:Nat) (mark:List Deferred) (w1:World) (d:Deferred) (w1':World) (f:FuncId) (args:Array Value) (w2:World),
   (Instr.enterLoop fn a.tmps ps assign body F.round).run P w= .ok (l,mark) w1/\(resolve a.eval (rangeCall g l) 0).run P w1= .ok d w1'/\
   (∀f',Target.leads P w1' d.target d.args=some f'->F.fn f')/\(invoke d.target d.args).run P w1'= .ok (.enter f args) w2/\(F.depth.isSome=true->1<=n)/\
   CallsIn F (n-1) P f args w2 (HZ F n P l Q {a with defers:=mark++a.defers})):bV F n P (.rangeFunc g ps assign body) Q a w:=by
 intro b k cs hro hb hr hx
 obtain⟨l,mark,w1,d,w1',f,args,w2,he,Ur,ac3,afi,hn,hF,T5⟩:=h b.fn hb hx
 rw[<-hro]at he
 have h0:(lone (b.atR a (.code (.rangeFunc g ps assign body)::k)) cs w).fenced P F:=by
  refine fenced_lone (.inl hb) (fun f' hf'=>ac3 f' ?_) (Fence.room_le hr (by omega))
  have TL:=Frame.eval_atR b a (.code (.rangeFunc g ps assign body)::k)
  simp only[Frame.atR]at TL
  simp only[Frame.about,Frame.atR,he,TL,Ur]at hf'
  exact hf'
 have UZ:=stepR_rangeFunc (P:=P) (b:=b) (a:=a) (k:=k) (cs:=cs) (w:=w) he Ur afi
 obtain⟨A,hA⟩:∃A:Act,A={a with defers:=mark++a.defers}:=⟨_,rfl⟩
 rw[<-hA]at UZ T5
 have Tv:F.room ((b.atR A (.inRangeFunc l::k)::cs).length+1+(n-1)):=Fence.room_enter hr hn
 obtain⟨e,w3,fr,hR,Zh,hfn,Vz⟩:=T5 (b.atR A (.inRangeFunc l::k)::cs) Tv
 cases e with
 |outgrown=>exact hR.elim
 |returned v=>
  have hl:(lone fr (b.atR A (.inRangeFunc l::k)::cs) w3).fenced P F:=fenced_leaving (hfn▸hF) Tv Vz
  obtain⟨Za,w4,hend,hj⟩:=hR
  have aax:StepsIn (Machine.fenced P F) P (lone (b.atR a (.code (.rangeFunc g ps assign body)::k)) cs w) (lone (b.atR A ((Za.map Item.code).toList++k)) cs w4):=by
   refine .head h0 UZ (StepsIn.trans Zh (.head hl ?_ (.one (fenced_calm (fr:=b.atR A (.endRangeFunc l::k)) hb hr rfl) (stepR_endRangeFunc hend))))
   rw[<-finish_atR_inRangeFunc l v];exact step_leave_returned Vz
  cases Za with
  |none=>exact⟨.normal,_,w4,hj,aax⟩
  |some c=>
   obtain⟨e',a'',w5,hq,TI⟩:=hj b k cs hro hb hr hx
   exact⟨e',a'',w5,hq,.of_steps aax TI⟩
 |panicked Vx=>
  have hl:(lone fr (b.atR A (.inRangeFunc l::k)::cs) w3).fenced P F:=fenced_leaving (hfn▸hF) Tv Vz
  refine⟨.panic Vx,_,w3,hR,.inRangeFunc l::k,.head h0 UZ (StepsIn.trans Zh (.one hl ?_))⟩
  rw[<-Frame.raise_atR];exact step_leave_panicked Vz
def H0(P:Program)(l:Nat)(R:Ending->World->Prop):Exit->Act->World->Prop
 | .normal,_,w=>∃v w',(Instr.endRound l none).run P w= .ok v w'/\R (.returned v) w'
 | .ret,_,w=>∃v w',(Instr.endRound l (some .ret)).run P w= .ok v w'/\R (.returned v) w'
 | .exit id,_,w=>∃v w',(Instr.endRound l (some (.exit id))).run P w= .ok v w'/\R (.returned v) w'
 | .panic ch,a,w=>a.defers=[]/\R (.panicked ch) w
 |_,_,_=>False
def H1{l:Nat}{f:FuncId}{tmps:Array Value}{assign body:Code}{w:World}{R:Ending->World->Prop}(hF:F.fn f)(hx:∃fn,P.funcs[f]?=some fn)
  (h:bV (F.inRound l) n P assign (Exit.then (fun a1 w1=>∃w2,(Instr.beginRound l).run P w1= .ok () w2/\bV (F.inRound l) n P body (H0 P l R) a1 w2) (fun _ _ _=>False)) {tmps:=tmps,defers:=[]} w):
  RoundIn F n P l f tmps assign body w R:=by
 refine⟨hF,fun c cs hr=>?_⟩
 let b:Frame:={(default:Frame)with fn:=f,kind:= .normal,roundOf:=some l}
 have V1:Frame.round l f tmps assign body .normal=b.atR {tmps:=tmps,defers:=[]} [.code assign,.beginRound,.code body]:=by simp[Frame.round,Frame.atR,b]
 have VY:(F.inRound l).room ((c::cs).length+1+n):=hr
 have hF':(F.inRound l).fn b.fn:=hF
 obtain⟨e,a1,w1,hq,TI⟩:=h b [.beginRound,.code body] (c::cs) rfl hF' VY hx
 rw[<-V1]at TI
 cases e with
 |normal=>
  obtain⟨w2,hbr,V7⟩:=hq
  have s1:StepsIn (Machine.fenced P (F.inRound l)) P (lone (b.atR a1 [.beginRound,.code body]) (c::cs) w1) (lone (b.atR a1 [.code body]) (c::cs) w2):=
   .one (fenced_calm (fr:=b.atR a1 [.beginRound,.code body]) hF' VY rfl) (stepR_beginRound rfl hbr)
  obtain⟨e2,a2,w3,Wk,Vw⟩:=V7 b [] (c::cs) rfl hF' VY hx
  have s2:=StepsIn.trans TI s1
  cases e2 with
  |normal=>
   obtain⟨v,w4,hend,hR⟩:=Wk
   exact⟨.returned v,w4,hR,s2.trans (StepsIn.trans Vw (.one (fenced_calm (fr:=b.atR a2 []) hF' VY rfl) (stepR_round_end rfl rfl hend)))⟩
  |ret=>
   obtain⟨v,w4,hend,hR⟩:=Wk
   obtain⟨k1,hs⟩:=Vw.2 rfl
   exact⟨.returned v,w4,hR,s2.trans (StepsIn.trans hs (.one (fenced_calm (fr:=b.atR a2 (.code .ret::k1)) hF' VY rfl) (stepR_round_ret rfl rfl hend)))⟩
  |exit id=>
   obtain⟨v,w4,hend,hR⟩:=Wk
   obtain⟨k1,hk,hs⟩:=Vw.2 rfl rfl
   exact⟨.returned v,w4,hR,s2.trans (StepsIn.trans hs (.one (fenced_calm (fr:=b.atR a2 (.code (.exit id)::k1)) hF' VY rfl) (stepR_round_exit rfl rfl hk hend)))⟩
  |panic ch=>
   obtain⟨hd,hR⟩:=Wk
   obtain⟨W4,hs⟩:=Vw
   have Vz:({b.atR a2 W4 with mode:= .panicking ch}:Frame).leaving P w3 (.panicked ch):=⟨rfl,hd,hx⟩
   exact⟨.panicked ch,w3,hR,s2.trans (StepsIn.trans hs (.one (fenced_leaving (F:=F.inRound l) (n:=n) hF' VY Vz) (step_leave_panicked Vz)))⟩
  |_=>exact Wk.elim
 |_=>exact hq.elim
def zi{f:FuncId}{fn:Func}{c:Code}{args:Array Value}{R:Ending->World->Prop}(hf:P.funcs[f]?=some fn)(hb:fn.body=some c)(hF:F.fn f)
  (h:bV F n P c (bodyPost P fn R) {tmps:=args++Array.replicate (fn.ntmps-args.size) undef,defers:=[]} w) (hro:F.round=none:=by rfl):CallsIn F n P f args w R:=by
 refine⟨hF,fun cs hr=>?_⟩
 let b:Frame:={(default:Frame)with fn:=f,kind:= .normal,roundOf:=none}
 have UZ:Frame.enter P f args .normal=b.atR {tmps:=args++Array.replicate (fn.ntmps-args.size) undef,defers:=[]} [.code c]:=by simp[Frame.enter,Frame.atR,hf,hb,b]
 obtain⟨e,a',w',hq,TI⟩:=h b [] cs hro.symm hF hr ⟨fn,hf⟩
 rw[<-UZ]at TI
 cases e with
 |normal=>
  obtain⟨hd,v,VY,hR⟩:=hq
  exact⟨.returned v,w',_,hR,StepsIn.trans TI (.one (fenced_calm (fr:=b.atR a' []) hF hr rfl) (stepR_end rfl)),rfl,rfl,hd,rfl,fn,hf,VY⟩
 |ret=>
  obtain⟨hd,v,VY,hR⟩:=hq
  obtain⟨W4,hs⟩:=TI.1 rfl
  exact⟨.returned v,w',_,hR,hs,rfl,rfl,hd,rfl,fn,hf,VY⟩
 |panic Vx=>
  obtain⟨hd,hR⟩:=hq
  obtain⟨W4,hs⟩:=TI
  exact⟨.panicked Vx,w',_,hR,hs,rfl,rfl,hd,fn,hf⟩
 |outgrown=>exact⟨.outgrown,w',b,hq,TI.resolve_left (by simp[b]),rfl,trivial⟩
 |_=>exact hq.elim
def pn{f:FuncId}{fn:Func}{c:Code}{args:Array Value}{R:Ending->World->Prop}(hf:P.funcs[f]?=some fn)(hb:fn.body=some c)(hF:F.fn f)
  (h:bV F n P c (bodyPostM F n P fn R) {tmps:=args++Array.replicate (fn.ntmps-args.size) undef,defers:=[]} w) (hro:F.round=none:=by rfl):CallsIn F n P f args w R:=by
 refine⟨hF,fun cs hr=>?_⟩
 let b:Frame:={(default:Frame)with fn:=f,kind:= .normal,roundOf:=none}
 have UZ:Frame.enter P f args .normal=b.atR {tmps:=args++Array.replicate (fn.ntmps-args.size) undef,defers:=[]} [.code c]:=by simp[Frame.enter,Frame.atR,hf,hb,b]
 obtain⟨e,a',w',hq,TI⟩:=h b [] cs hro.symm hF hr ⟨fn,hf⟩
 rw[<-UZ]at TI
 cases e with
 |normal=>
  obtain⟨e',ZX,Z7,hR,hs,hfn,hl⟩:=leaves_stepsInM a'.defers .returning w' {b.atR a' []with mode:= .returning} cs rfl rfl rfl hf rfl hF hr hq
  exact⟨e',ZX,Z7,hR,ComesIn.of_steps (StepsIn.trans TI (.one (fenced_calm (fr:=b.atR a' []) hF hr rfl) (stepR_end rfl))) hs,hfn,hl⟩
 |ret=>
  obtain⟨W4,WQ⟩:=TI.1 rfl
  obtain⟨e',ZX,Z7,hR,hs,hfn,hl⟩:=leaves_stepsInM a'.defers .returning w' {b.atR a' W4 with mode:= .returning} cs rfl rfl rfl hf rfl hF hr hq
  exact⟨e',ZX,Z7,hR,ComesIn.of_steps WQ hs,hfn,hl⟩
 |panic Vx=>
  obtain⟨W4,WQ⟩:=TI
  obtain⟨e',ZX,Z7,hR,hs,hfn,hl⟩:=leaves_stepsInM a'.defers (.panicking Vx) w' {b.atR a' W4 with mode:= .panicking Vx} cs rfl rfl rfl hf rfl hF hr hq
  exact⟨e',ZX,Z7,hR,ComesIn.of_steps WQ hs,hfn,hl⟩
 |outgrown=>exact⟨.outgrown,w',b,hq,TI.resolve_left (by simp[b]),rfl,trivial⟩
 |_=>exact hq.elim
end
section
open Go.RowKit
variable{P:Program}{C:aD}{c:aA}{Z:Nm->Place}{E:aa}{a:Act}{w:World}
def SimW.noloop(h:SimW c Z E w){L:Nat}{rec:Loop}(hl:w.heap[L]?=some (.loop rec)){s:Nm}{r:Row}(hs:E.slots s=some r)(Tz:r.real (Z s)=true):(Z s).blk≠L:=by
 intro he
 have hB:=(h.row s r hs).2.1
 rw[he.symm]at hl
 cases r with
 |box e d fz=>obtain⟨cs,h1,_⟩:=hB;rw[hl]at h1;cases h1
 |rows e m l fz=>
  simp[Row.real]at Tz
  rcases hB with⟨h1,_⟩|⟨cs,_,h1,_⟩
  .omega
  .rw[hl]at h1;cases h1
 |obj ob fz=>
  cases ob with
  |mp es c=>obtain⟨ents,h1,_⟩:=hB;rw[hl]at h1;cases h1
  |it str p=>have h1:w.heap[(Z s).blk]?=some (.stringIter str p):=hB;rw[hl]at h1;cases h1
  |dfr=>exact hB
def SimW.noloop'(h:SimW c Z E w){L:Nat}{rec:Loop}(hl:w.heap[L]?=some (.loop rec)):¬Own Z E.slots L:=by
 rintro⟨s,r,h1,h2,h3,h4⟩
 exact h.noloop hl h1 h3 h4
def ai.move(h:ai c Z E a w){c':aA}{w':World}(h':SimW c' Z E w')(hn:c'.n=c.n)(Uv:∀l,c.dl=some l->∃l',c'.dl=some l'/\l'<=l)(hs:w.heap.size<=w'.heap.size)
  (hw:∀b,b<w.heap.size->¬ae c Z E.slots b->w'.heap[b]?=w.heap[b]?/\¬ae c' Z E.slots b) (hd:∀b:Nat,w.heap[b]?=some (Obj.deferred (some []))->w'.heap[b]?=some (Obj.deferred (some []))):ai c' Z E a w' where
 toSimW:=h'
 tm t:=(h.tm t).mono hs hw (fun _ hu=>⟨hu,rfl⟩)
 sz:=by rw[hn];exact h.sz
 df:=by
  obtain⟨bs,h1,WF,h2⟩:=h.df
  refine⟨bs,h1,WF,fun b hb=>⟨?_,hd b (h2 b hb).2⟩⟩
  obtain⟨l,h3,h4⟩:=(h2 b hb).1
  obtain⟨l',h5,h6⟩:=Uv l h3
  exact⟨l',h5,akf h6 h4⟩
def ai.nodf(h:ai c Z E a w)(hd:c.dl=none):a.defers=[]:=by
 obtain⟨bs,h1,_,h2⟩:=h.df
 cases bs with
 |nil=>exact h1
 |cons b bs=>
  obtain⟨l,h3,_⟩:=(h2 b ajK).1
  rw[hd]at h3;cases h3
def ai.rebase(h:ai c Z E a w)(Uv:c.dl=none)(w':World){L:Nat}{rec W5:Loop}(hl:w.heap[L]?=some (.loop rec))(hM:ae c Z E.slots L)(V8:w'=w.putObj L (.loop W5)):
  ai (cw w' (ae c Z E.slots) (Own Z E.slots) c.n c.pin) Z E a w':=by
 have hlt:∀b,ae c Z E.slots b->b<w.heap.size:=by
  rintro b (⟨h1,_⟩|h1)
  .exact ajY (h.m0 b h1) h.size
  .exact h.toSimW.own_lt h1
 subst V8
 have VJ:∀b,b≠L->(w.putObj L (.loop W5)).heap[b]?=w.heap[b]?:=fun b hb=>World.putObj_heap_other hb
 have hw:∀b,b<w.heap.size->¬ae c Z E.slots b->(w.putObj L (.loop W5)).heap[b]?=w.heap[b]?/\¬ae (cw (w.putObj L (.loop W5)) (ae c Z E.slots) (Own Z E.slots) c.n c.pin) Z E.slots b:=by
  intro b _ hb
  refine⟨VJ b fun e=>hb (e▸hM),?_⟩
  rintro(⟨h1,_⟩|h1)
  .exact hb h1
  .exact hb (.inr h1)
 refine h.move ?_ rfl (fun l hl=>by rw[Uv]at hl;cases hl) (by simp) hw (fun b hb=>?_)
 .refine h.toSimW.move (c':=cw (w.putObj L (.loop W5)) (ae c Z E.slots) (Own Z E.slots) c.n c.pin) (w':=w.putObj L (.loop W5)) rfl (by simp) (ajz _) rfl rfl rfl (fun _ _ _=>rfl) (fun b hb=>by show b<(w.putObj L (.loop W5)).heap.size;rw[World.putObj_size];exact hlt b hb) hw (fun s r hs Tz=>?_) (h.toSimW.lay_to fun b hb hM=>⟨(hw b hb hM).1,fun hx=>hM (.inr hx),fun h0=>hM h0⟩)
  refine⟨VJ _ (h.toSimW.noloop hl hs Tz),fun Us=> .inl ⟨s,r,hs,Us,Tz,rfl⟩,?_⟩
  by_cases Us:r.mut=true
  .exact .inl ⟨s,r,hs,Us,Tz,rfl⟩
  .exact .inr (h.toSimW.frozen_nm hs Us Tz)
 .rw[VJ b fun e=>by subst e;rw[hl]at hb;cases hb];exact hb
def zj{U:Nm->Bool}{M:Nat->Prop}{n:Nat}:∀(ps:List Nat) (us:List Value) (x:List DV) (tmps:Array Value) (f:Nat->DV),us.length=ps.length->x.length=ps.length->ps.all (· <n)=true->tmps.size=n->
  (∀t,ah Z U w M (tmps.getD t undef) (f t))->(∀(j:Nat) (v:Value) (t:DV),us[j]?=some v->x[j]?=some t->ah Z U w M v t)->
  ((ps.zip us).foldl (fun tmps (t,a)=>tmps.setIfInBounds t a) tmps).size=n/\∀t,ah Z U w M (((ps.zip us).foldl (fun tmps (t,a)=>tmps.setIfInBounds t a) tmps).getD t undef) (mg ps x f t)
 |[],us,x,tmps,f,_,_,_,hn,h,_=>⟨hn,h⟩
 |p::ps,[],x,tmps,f,hu,_,_,_,_,_=>by simp at hu
 |p::ps,u::us,[],tmps,f,_,hx,_,_,_,_=>by simp at hx
 |p::ps,u::us,y::x,tmps,f,hu,hx,hp,hn,h,hr=>by
  simp only[List.all_cons,ajT,akk]at hp
  simp only[List.zip_cons_cons,List.foldl_cons]
  refine zj ps us x (tmps.setIfInBounds p u) _ (by simpa using hu) (by simpa using hx) hp.2 (by simpa using hn) (fun t=>?_) (fun j v tr hv ht=>hr (j+1) v tr (by simpa using hv) (by simpa using ht))
  have WS:p<tmps.size:=by rw[hn];exact hp.1
  by_cases ht:t=p
  .subst ht
   simp only[if_true]
   have:=hr 0 u y rfl rfl
   simpa[ajM,akj,WS]using this
  .simp only[ht,ajS]
   have:=h t
   simpa[ajM,akj,Ne.symm ht]using this
def cC:Exit->Option Code
 | .ret=>some .ret
 | .exit id=>some (.exit id)
 |_=>none
def lh(P:Program)(C:aD)(n L:Nat)(code:Code)(s:ac):Prop:=∀(q:Value->aa->Prop) (c:aA) (E:aa) (K:Exit->aa->Prop) (Q:Exit->Act->World->Prop) (Z:Nm->Place) (a:Act) (w:World),c.n=n->c.dl=none->
 (∀u E Z a w,q u E->ai c Z E a w->Q (.panic (gf u)) a w)->(∀e E Z a w,K e E->ai c Z E a w->Q e a w)->ai c Z E a w->W P (C.wq q) s E K->bV (FW (some L)) 0 P code Q a w
def mw.put{w1 w2:World}{M1 O1 M2 O2:Nat->Prop}{L:Nat}{o:Obj}(h:mw w1 M1 O1 w2 M2 O2)(hL:O1 L):mw w1 M1 O1 (w2.putObj L o) M2 O2:=
 ⟨by rw[World.putObj_size];exact h.size,h.os,h.tape,h.output,fun b hb ho=>(World.putObj_heap_other (k:=b) (fun e=>ho (by rw[e];exact hL))).trans (h.keep b hb ho),h.all,h.own,fun b hb=>by rw[World.putObj_size];exact h.lt b hb⟩
def zk{R:gh}{w1:World}(hR:pk R w1){ca cb:Code}{sa sb:ac}(hA:lh P C R.n R.L ca sa)(hB:lh P C R.n R.L cb sb){rec:Loop}(hca:rec.assign=ca)(hcb:rec.body=cb)(TT:rec.state= .ready){ps:List Nat}(WS:rec.params=ps.toArray)(hpn:ps.all (· <R.n)=true)
  {f0:Nat->DV} {U0:Nm->Bool} (hU0:∀s,U0 s=true->s.fixed=true) (aeG:rec.tmps.size=R.n) (Ze:∀t,ah R.pin U0 R.w0 R.M1 (rec.tmps.getD t undef) (f0 t)) (hX1:∀b,R.X1 b->R.M1 b)
  {E1:aa} {M O:Nat->Prop} (h:Rest R E1 Z w M O) (hh:∀s,U0 s=true->E1.used s=true) (hl:w.heap[R.L]?=some (.loop rec)) {us:List Value} {x:List DV} (XV:us.length=ps.length) (VR:x.length=ps.length)
  (VI:∀(j:Nat) (v:Value) (t:DV),us[j]?=some v->x[j]?=some t->ah Z E1.used w M v t) {KK G:Exit->aa->Prop} {q Gp:Value->aa->Prop} (hx:∃fn,P.funcs[rec.fn]?=some fn) (hq:∀u E3,q u E3->∃ρ,bw ρ=true/\Gp u (E3.canon ρ)) (hKK:∀e E3,KK e E3->cQ e/\∃ρ,bw ρ=true/\G e (E3.canon ρ))
  (hW:W P C.noY sa ⟨mg ps x f0,E1.slots,E1.used⟩ (fun e E2=>e= .normal/\W P (C.wq q) sb E2 KK)):
  yZ P R.L us w fun e w2=>∃M2 O2,mw w M O w2 M2 O2/\((∃ex E3 Z3,G ex E3/\Rest R E3 Z3 w2 M2 O2/\e= .returned (.bool (cC ex).isNone)/\cQ ex/\
   w2.heap[R.L]?=some (.loop {rec with state:=if(cC ex).isNone then .ready else .done,pending:=cC ex}))\/
   ∃u E3 Z3,e= .panicked (gf u)/\Gp u E3/\Rest R E3 Z3 w2 M2 O2/\∃W5,w2.heap[R.L]?=some (.loop W5)):=by
 subst hca hcb
 have aeW:us.toArray.size=rec.params.size:=by rw[WS];simp[XV]
 refine⟨_,_,_,_,run_yield hl aeW,H1 trivial hx ?_⟩
 have Yz:(rec.params.zip us.toArray).foldl (fun tmps (t,a)=>tmps.setIfInBounds t a) rec.tmps=(ps.zip us).foldl (fun tmps (t,a)=>tmps.setIfInBounds t a) rec.tmps:=by
  rw[WS,<-Array.foldl_toList]
  congr 1
  simp
 have hML:M R.L:=h.oM _ ((h.o _).2 (.inr rfl))
 have hOL:¬Own Z E1.slots R.L:=h.sim.noloop' hl
 have aeJ:∀t,ah Z E1.used w M (rec.tmps.getD t undef) (f0 t):=by
  intro t
  refine(Ze t).mono h.size (fun b hb hM=>⟨h.old b hb fun hx=>hM (hX1 b hx),fun h1=>hM (h.m2 b hb h1)⟩) (fun s hs=>⟨hh s hs,?_⟩)
  exact h.sim.fix s (hU0 s hs) (hh s hs)
 obtain⟨hsz,aeI⟩:=zj ps us x rec.tmps f0 XV VR hpn aeG aeJ VI
 have adD:ae (cw w M (Own Z E1.slots) R.n R.pin) Z E1.slots=M:=funext fun b=>propext h.mutM
 have hsA:ai (cw w M (Own Z E1.slots) R.n R.pin) Z ⟨mg ps x f0,E1.slots,E1.used⟩ {tmps:=(rec.params.zip us.toArray).foldl (fun tmps (t,a)=>tmps.setIfInBounds t a) rec.tmps,defers:=[]} w:=by
  refine⟨h.sim.congr rfl rfl,fun t=>?_,?_,[],rfl,by simp,by simp⟩
  .rw[Yz]
   show ah Z E1.used w (ae (cw w M (Own Z E1.slots) R.n R.pin) Z E1.slots) _ _
   rw[adD]
   exact aeI t
  .rw[Yz];exact hsz
 refine hA (fun _ _=>False) _ _ _ _ Z _ w rfl rfl (fun _ _ _ _ _ hf=>hf.elim) (fun e E2 Z2 a2 w2 hk T8=>?_) hsA hW
 obtain⟨rfl,Ui⟩:=hk
 have Yt:∀b,Own Z2 E2.slots b->Own Z E1.slots b\/w.heap.size<=b:=fun b hb=>T8.toSimW.own_x hb
 have afK:R.L<w.heap.size:=(ajy.1 hl).1
 have Xa:w2.heap[R.L]?=some (.loop rec):=by
  have:=T8.old R.L afK hOL
  exact this.trans hl
 have afI:ae (cw w M (Own Z E1.slots) R.n R.pin) Z2 E2.slots R.L:= .inl ⟨hML,hOL⟩
 have abA:¬Own Z2 E2.slots R.L:=T8.toSimW.noloop' Xa
 refine⟨_,run_beginRound Xa TT,?_⟩
 obtain⟨YE,Xs⟩:∃w',w'=w2.putObj R.L (.loop {rec with state:= .busy}):=⟨_,rfl⟩
 have hsB:=T8.rebase rfl YE Xa afI Xs
 have ac4:YE.heap[R.L]?=some (.loop {rec with state:= .busy}):=by
  rw[Xs];exact World.putObj_heap_same (ajy.1 Xa).1
 have acQ:∀b,b≠R.L->YE.heap[b]?=w2.heap[b]?:=fun b hb=>by rw[Xs];exact World.putObj_heap_other hb
 have aho:YE.heap.size=w2.heap.size:=by rw[Xs];simp
 rw[<-Xs]
 have YC:∀(E3:aa) (Z3:Nm->Place) (a3:Act) (w3:World) (ρ:List (Nm×Nm)),ai (cw YE (ae (cw w M (Own Z E1.slots) R.n R.pin) Z2 E2.slots) (Own Z2 E2.slots) R.n R.pin) Z3 E3 a3 w3->bw ρ=true->
   ∃Z4 M4 O4,Rest R (E3.canon ρ) Z4 w3 M4 O4/\mw w M O w3 M4 O4/\w3.heap[R.L]?=some (.loop {rec with state:= .busy}):=by
  intro E3 Z3 a3 w3 ρ Ug hρ
  obtain⟨Z4,YM⟩:=nH Ug hρ
  have YQ:w3.heap[R.L]?=some (.loop {rec with state:= .busy}):=by
   have:=Ug.old R.L (ajy.1 ac4).1 abA
   exact this.trans ac4
  have Zt:∀b,Own Z4 (E3.canon ρ).slots b->Own Z2 E2.slots b\/YE.heap.size<=b:=fun b hb=>YM.toSimW.own_x hb
  have agm:YE.heap.size<=w3.heap.size:=Ug.size
  have ahn:w.heap.size<=w2.heap.size:=T8.size
  have ZB:∀b,b<w.heap.size->¬Own Z E1.slots b->b≠R.L->w3.heap[b]?=w.heap[b]?:=by
   intro b hb ho hbL
   have YN:¬Own Z2 E2.slots b:=fun h1=>by
    rcases Yt b h1 with h2|h2
    .exact ho h2
    .omega
   have e1:=Ug.old b (by show b<YE.heap.size;omega) YN
   have e2:=T8.old b hb ho
   exact e1.trans ((acQ b hbL).trans e2)
  obtain⟨M4,hM4⟩:∃M4,M4=ae (cw YE (ae (cw w M (Own Z E1.slots) R.n R.pin) Z2 E2.slots) (Own Z2 E2.slots) R.n R.pin) Z4 (E3.canon ρ).slots:=⟨_,rfl⟩
  have hm4:∀b,M4 b↔((M b/\¬Own Z E1.slots b)/\¬Own Z2 E2.slots b)\/Own Z4 (E3.canon ρ).slots b:=by
   intro b
   rw[hM4]
   constructor
   .rintro(⟨(h1|h1),h2⟩|h1)
    .exact .inl ⟨h1,h2⟩
    .exact absurd h1 h2
    .exact .inr h1
   .rintro(⟨h1,h2⟩|h1)
    .exact .inl ⟨.inl h1,h2⟩
    .exact .inr h1
  have YN:∀b,b<w.heap.size->¬Own Z E1.slots b->¬Own Z2 E2.slots b:=fun b hb h1 h2=>by
   rcases Yt b h2 with h3|h3
   .exact h1 h3
   .omega
  have ho4:∀b,b<w.heap.size->¬Own Z E1.slots b->¬Own Z4 (E3.canon ρ).slots b:=fun b hb h1 h2=>by
   rcases Zt b h2 with h3|h3
   .exact YN b hb h1 h3
   .omega
  have ac0:∀b,M4 b->b<w3.heap.size:=by
   intro b hb
   rcases(hm4 b).1 hb with⟨⟨h1,_⟩,_⟩|h1
   .have:=h.lt b h1;omega
   .exact YM.toSimW.own_lt h1
  have aas:R.D<w.heap.size:=(ajy.1 h.dk).1
  have hOD:¬Own Z E1.slots R.D:=fun h1=>h.dm (h.oM _ ((h.o _).2 (.inl h1)))
  have T2:Rest R (E3.canon ρ) Z4 w3 M4 (fun b=>Own Z4 (E3.canon ρ).slots b\/b=R.L):=by
   refine⟨?_,fun b=>Iff.rfl,?_,ac0,?_,?_,?_,?_,?_,?_,?_,?_,?_,?_⟩
   .have V8:∀b,b<w3.heap.size->¬M4 b->w3.heap[b]?=w3.heap[b]?/\¬ae (cw w3 M4 (Own Z4 (E3.canon ρ).slots) R.n R.pin) Z4 (E3.canon ρ).slots b:=by
     intro b _ hb
     refine⟨rfl,?_⟩
     rintro(⟨h1,_⟩|h1)
     .exact hb h1
     .exact hb ((hm4 b).2 (.inr h1))
    refine YM.toSimW.move rfl (ajz _) (ajz _) rfl rfl rfl (fun _ _ _=>rfl) ac0 (fun b hb hM=>V8 b hb (by rw[hM4];exact hM)) (fun s r hs Tz=>⟨rfl,fun Us=> .inl ⟨s,r,hs,Us,Tz,rfl⟩,?_⟩) (YM.toSimW.lay_to fun b hb hM=>⟨rfl,fun hx=>hM (.inr hx),fun h0=>by have h0:M4 b:=h0;rw[hM4]at h0;exact hM h0⟩)
    by_cases Us:r.mut=true
    .exact .inl ⟨s,r,hs,Us,Tz,rfl⟩
    .refine .inr fun h1=>?_
     have h1:M4 (Z4 s).blk:=h1
     rw[hM4]at h1
     exact YM.toSimW.frozen_nm hs Us Tz h1
   .rintro b (hb|rfl)
    .exact(hm4 b).2 (.inr hb)
    .exact(hm4 _).2 (.inl ⟨⟨hML,hOL⟩,abA⟩)
   .have:=h.size;omega
   .rw[YM.os]
    show YE.os=_
    rw[Xs]
    exact(show w2.os=R.w0.os from(T8.os).trans h.os)
   .rw[YM.tape]
    show YE.tape=_
    rw[Xs]
    exact(show w2.tape=R.w0.tape from(T8.tape).trans h.tape)
   .rw[YM.output]
    show YE.output=_
    rw[Xs]
    exact(show w2.output=R.w0.output from(T8.output).trans h.output)
   .intro b hb hx
    have ho:¬Own Z E1.slots b:=fun h1=>by
     rcases h.x1 b h1 with h2|h2
     .exact hx h2
     .omega
    rw[ZB b (ajY hb h.size) ho (fun e=>by have:=hR.L;omega)]
    exact h.old b hb hx
   .intro b hb hx
    have ho:¬Own Z E1.slots b:=fun h1=>by
     rcases h.x1 b h1 with h2|h2
     .exact hx h2
     .have:=hR.m1 b hb;omega
    have hMb:=h.m1 b hb hx
    exact(hm4 b).2 (.inl ⟨⟨hMb,ho⟩,YN b (h.lt b hMb) ho⟩)
   .intro b hb h1
    rcases(hm4 b).1 h1 with⟨⟨h2,_⟩,_⟩|h2
    .exact h.m2 b hb h2
    .by_cases ho:Own Z E1.slots b
     .exact h.m2 b hb (h.oM b ((h.o b).2 (.inl ho)))
     .exact absurd h2 (ho4 b (ajY hb h.size) ho)
   .intro b hb
    rcases Zt b hb with h1|h1
    .rcases Yt b h1 with h2|h2
     .exact h.x1 b h2
     .have:=h.size;exact .inr (by omega)
    .have:=h.size;exact .inr (by omega)
   .rw[ZB R.D aas hOD (Ne.symm hR.LD)];exact h.dk
   .intro h1
    rcases(hm4 _).1 h1 with⟨⟨h2,_⟩,_⟩|h2
    .exact h.dm h2
    .exact ho4 _ aas hOD h2
  have Wl:mw w M O w3 M4 (fun b=>Own Z4 (E3.canon ρ).slots b\/b=R.L):=by
   refine⟨by omega,?_,?_,?_,?_,?_,?_,?_⟩
   .exact(T2.os).trans h.os.symm
   .exact(T2.tape).trans h.tape.symm
   .exact(T2.output).trans h.output.symm
   .intro b hb ho
    have h1:¬Own Z E1.slots b:=fun h2=>ho ((h.o b).2 (.inl h2))
    have h2:b≠R.L:=fun e=>ho ((h.o b).2 (.inr e))
    exact ZB b hb h1 h2
   .intro b
    rw[hm4 b]
    constructor
    .rintro(⟨⟨h1,h2⟩,h3⟩|h1)
     .by_cases hbL:b=R.L
      .exact .inr (.inr hbL)
      .refine .inl ⟨h1,fun h4=>?_⟩
       rcases(h.o b).1 h4 with h5|h5
       .exact h2 h5
       .exact hbL h5
     .exact .inr (.inl h1)
    .rintro(⟨h1,h2⟩|h1|h1)
     .have h3:¬Own Z E1.slots b:=fun h4=>h2 ((h.o b).2 (.inl h4))
      exact .inl ⟨⟨h1,h3⟩,YN b (h.lt b h1) h3⟩
     .exact .inr h1
     .subst h1
      exact .inl ⟨⟨hML,hOL⟩,abA⟩
   .rintro b (hb|hb)
    .rcases Zt b hb with h1|h1
     .rcases Yt b h1 with h2|h2
      .exact .inl ((h.o b).2 (.inl h2))
      .exact .inr h2
     .exact .inr (by omega)
    .exact .inl ((h.o b).2 (.inr hb))
   .rintro b (hb|hb)
    .exact YM.toSimW.own_lt hb
    .rw[hb];exact(ajy.1 YQ).1
  exact⟨Z4,M4,_,T2,Wl,YQ⟩
 refine hB q _ _ _ _ Z2 _ YE rfl rfl (fun u E3 Z3 a3 w3 hk Ug=>?_) (fun e E3 Z3 a3 w3 hk Ug=>?_) hsB Ui
 .obtain⟨ρ,hρ,hG⟩:=hq u E3 hk
  obtain⟨Z4,M4,O4,T2,Wl,YQ⟩:=YC E3 Z3 a3 w3 ρ Ug hρ
  exact⟨Ug.nodf rfl,M4,O4,Wl,.inr ⟨u,_,Z4,rfl,hG,T2,_,YQ⟩⟩
 obtain⟨UE,ρ,hρ,hG⟩:=hKK e E3 hk
 obtain⟨Z4,M4,O4,T2,Wl,YQ⟩:=YC E3 Z3 a3 w3 ρ Ug hρ
 have hend:(Instr.endRound R.L (cC e)).run P w3= .ok (.bool (cC e).isNone) (w3.putObj R.L (.loop {rec with state:=if(cC e).isNone then .ready else .done,pending:=cC e})):=run_endRound (P:=P) (r:={rec with state:= .busy}) (cC e) YQ
 have UD:=T2.put hR.L hR.LD (o:={rec with state:=if(cC e).isNone then .ready else .done,pending:=cC e}) YQ
 have XC:(w3.putObj R.L (.loop {rec with state:=if(cC e).isNone then .ready else .done,pending:=cC e})).heap[R.L]?=some (.loop {rec with state:=if(cC e).isNone then .ready else .done,pending:=cC e}):=World.putObj_heap_same (ajy.1 YQ).1
 have abj:=Wl.put (o:= .loop {rec with state:=if(cC e).isNone then .ready else .done,pending:=cC e}) ((h.o _).2 (.inr rfl))
 cases e with
 |normal=>exact⟨_,_,hend,M4,_,abj,.inl ⟨.normal,_,Z4,hG,UD,rfl,trivial,XC⟩⟩
 |ret=>exact⟨_,_,hend,M4,_,abj,.inl ⟨.ret,_,Z4,hG,UD,rfl,trivial,XC⟩⟩
 |exit id=>exact⟨_,_,hend,M4,_,abj,.inl ⟨.exit id,_,Z4,hG,UD,rfl,trivial,XC⟩⟩
 |_=>exact UE.elim
end
section
open Go.RowKit
variable{P:Program}{C:aD}{c:aA}{Z:Nm->Place}{E:aa}{a:Act}{w:World}
def SimW.canonW(h:SimW c Z E w){ρ:List (Nm×Nm)}(hρ:bw ρ=true):∃Z',SimW c Z' (E.canon ρ) w:=by
 have h1:ai c Z {E with tmps:=fun _=> .junk} {tmps:=Array.replicate c.n undef,defers:=[]} w:=⟨h.congr rfl rfl,fun _=> .junk,by simp,[],rfl,by simp,by simp⟩
 obtain⟨Z',h2⟩:=nH h1 hρ
 exact⟨Z',h2.toSimW.congr rfl rfl⟩
theorem qY{l1 l2:List Nat}(h:l1.map (fun b=>({target:= .collected b,args:=#[]}:Deferred))=l2.map (fun b=>{target:= .collected b,args:=#[]})):l1=l2:=by
 induction l1 generalizing l2 with
 |nil=>cases l2 with
  |nil=>rfl
  |cons x l2=>simp at h
 |cons x l1 ih=>cases l2 with
  |nil=>simp at h
  |cons y l2=>
   simp only[ajQ,List.cons.injEq,Deferred.mk.injEq,Target.collected.injEq,and_true]at h
   rw[h.1,ih h.2]
theorem qZ(k:Ct):∀s,k.env.used s=true->s.fixed=true:=by
 intro s hs
 cases s with
 |arg i=>rfl
 |glob g=>rfl
 |yl=>rfl
 |loc d i=>simp[Ct.env,Ct.used0]at hs
 |head l i=>simp[Ct.env,Ct.used0]at hs
def H2(h:ai c Z E a w){caps:List DV}{ts:List DV}{F:List Nm}(hv:E.viewps caps=some (ts,F)){vs:List Value}(hl:vs.length=caps.length)
  (hp:∀(i:Nat) (v:Value) (d:DV),vs[i]?=some v->caps[i]?=some d->ah Z E.used w (ae c Z E.slots) v d) {M':Nat->Prop} (hM:∀b,M' b->ae c Z E.slots b)
  (hF:∀s∈F,∀r,E.slots s=some r->r.real (Z s)=true->¬M' (Z s).blk):
  vs.length=ts.length/\∀(i:Nat) (v:Value) (t:DV),vs[i]?=some v->ts[i]?=some t->uH w M' v t:=by
 simp only[aa.viewps,ajt,ajV]at hv
 obtain⟨ps,h1,rfl,rfl⟩:=hv
 obtain⟨h2,h3⟩:=ec h1
 refine⟨by simp;omega,fun i v t UC hti=>?_⟩
 simp only[ajw,ajt]at hti
 obtain⟨p,Xj,rfl⟩:=hti
 have TC:i<caps.length:=by
  have:=(ajs.1 Xj).1
  omega
 have hci:=ajq TC
 have Tu:=h3 i _ p hci Xj
 have TE:∀s∈p.2,s∈ps.flatMap (·.2):=fun s hs=>List.mem_flatMap.2 ⟨p,ajx Xj,hs⟩
 have Tn:=hp i v _ UC hci
 have hM0:∀b,¬ae c Z E.slots b->¬M' b:=fun b hb TR=>hb (hM b TR)
 have Zu:(E.view caps[i]).map (fun p=>(DV.t p.1,p.2))=some p->uH w M' v p.1:=by
  intro Tu
  obtain⟨⟨x,rd⟩,hx,rfl⟩:=ajt.1 Tu
  refine .t (h.toSimW.view hM Tn (x:=x) (rd:=rd) hx fun s hs hcap hb=>?_)
  obtain⟨e,m,l,fz,Tj⟩:=ia hx s hs
  exact hF s (TE s hs) _ Tj (by simpa[Row.real]using hcap) hb
 generalize caps[i]=d at Tu Tn Zu
 cases d with
 |ptr s k j=>
  simp only[aa.viewp]at Tu
  split at Tu
  .rename_i hk
   subst hk
   split at Tu
   .rename_i e x fz Tj
    simp only[ajr]at Tu
    subst Tu
    obtain⟨rfl,hU⟩:=Tn.ptr_inv
    obtain⟨_,⟨cs,hg,hl,h1,Uh⟩,_⟩:=h.row s _ Tj
    have TA:(DV.t x).cells=x.cells.map .t:=by cases x<;>rfl
    have Ty:∀(i:Nat) (cc:ab),x.cells[i]?=some cc->∃hi:i<cs.length,ah Z E.used w (ae c Z E.slots) cs[i] (.t cc):=by
     intro i cc Uw
     have hi:i<cs.length:=by rw[hl,TA,ajJ];exact(ajs.1 Uw).1
     exact⟨hi,Uh i _ _ (ajq hi) (by rw[TA,ajw,Uw];rfl)⟩
    have:=ah.tp (Z:=fun _=>⟨0,0,0⟩) (U:=fun _=>false) (w:=w) (M:=M') (b:=(Z s).blk) (o:=0) (j:=j) (x:=x) (fun i=>cs.getD i undef) (hF s (TE s (by simp)) _ Tj rfl) (ajy.1 hg).1 (fun i cc Uw=>by
      obtain⟨hi,_⟩:=Ty i cc Uw
      rw[gb hg];simp[hi]) (fun i cc Uw=>by
      obtain⟨hi,hr⟩:=Ty i cc Uw
      rw[<-hr.t_inv.one];exact h1 _ (akA hi)) (fun i cc Uw=>by
      obtain⟨hi,hr⟩:=Ty i cc Uw
      simp only[aj5,ajq hi,Option.getD_some]
      exact hr.t_inv.mono (ajz _) (fun b _ hb=>⟨rfl,hM0 b hb⟩))
    simp only[Nat.zero_mul,ajX]at this⊢
    exact this
   .simp at Tu
  .simp at Tu
 |tp x j=>
  simp only[aa.viewp,ajr]at Tu
  subst Tu
  cases Tn with
  |tp u hMb hb hu h1 h2=>exact .tp u (hM0 _ hMb) hb hu h1 (fun i cc Uw=>(h2 i cc Uw).mono (ajz _) (fun b _ hb=>⟨rfl,hM0 b hb⟩))
 |_=>exact Zu Tu
def H3(XM:∀f ts xs,C.it P f ts xs->fD P f ts xs){ca cb:Code}{sa sb:ac}(hA:∀L,lh P C c.n L ca sa)(hB:∀L,lh P C c.n L cb sb){g:Operand}{ps:List Nat}(hpn:ps.all (· <c.n)=true)(Uv:∃l,c.dl=some l/\l<=c.w0.heap.size)
  {K:Exit->aa->Prop} {Q:Exit->Act->World->Prop} (h:ai c Z E a w) (hw:W P C (.rangef g ps sa sb) E K) (hK:∀e ups Z' a' w',K e (E.upd ups)->ai c Z' (E.upd ups) a' w'->Q e a' w') (hQ:∀u ups Z' a' w',C.pq u (E.upd ups)->ai c Z' (E.upd ups) a' w'->Q (.panic (gf u)) a' w')
  (afj:∀(f:FuncId) (caps:List DV) (F S:List Nm) (k:Ct) (d:Nat),E.ev g= .fn f caps->cL E caps k S F->C.ri P f k.ds (jz k) (qG P C E S k ps sa sb) (mj E S F k d K)->bV (FW none) 0 P (Code.rangeFunc g ps.toArray ca cb) Q a w):
  bV (FW none) 0 P (Code.rangeFunc g ps.toArray ca cb) Q a w:=by
 rcases hw with hw|⟨f,caps,F,S,k,d,h1,hm,hri⟩
 rotate_left
 .exact afj f caps F S k d h1 hm hri
 obtain⟨f,caps,ts,F,xs,S,k,d,I,h1,h2,h3,h4,hm,h5,h6,h7⟩:=hw
 have Wn:∀s∈F,E.used s=true:=fun s hs=>by
  obtain⟨r,hr⟩:=akb.1 (hm.fu s hs)
  exact(h.row s r hr).1
 have VF:ai c Z (E.upd (am E F)) a w:=h.freeze Wn
 have Ut:=hm.goes
 obtain⟨Z3,Wb,WI⟩:=VF.toSimW.enter Ut
 have Ug:SimW (cS c Z (E.upd (am E F)) w (aL S k.gs)) (bS Z (aL S k.gs)) k.env w:=Z3.congr hm.slots hm.used
 rw[hm.slots]at WI
 have YV:∀b,ae c Z (E.upd (am E F)).slots b->ae c Z E.slots b:=by
  rintro b (hb|⟨s,r,h4,h5,h6,h7⟩)
  .exact .inl hb
  .obtain⟨r0,h8,h9⟩:=eL h4
   rcases h9 with rfl|rfl
   .exact .inr ⟨s,r,h8,h5,h6,h7⟩
   .rw[dU]at h5;simp at h5
 have hF:∀s∈F,∀r,E.slots s=some r->r.real (Z s)=true->¬ae c Z (E.upd (am E F)).slots (Z s).blk:=by
  rintro s hs r Tj Tz (⟨TZ,Uu⟩|⟨s2,r2,h4,h5,h6,h7⟩)
  .exact((h.row s r Tj).2.2 Tz).2.elim Uu (fun hh=>hh TZ)
  .obtain⟨r0,h8,h9⟩:=eL h4
   rcases h9 with rfl|rfl
   .have:=h.inj s2 s r2 r h8 Tj h5 h6 Tz h7
    subst this
    rw[bM,fB,if_pos hs]at h4
    simp only[ajt]at h4
    obtain⟨y,_,UI⟩:=h4
    rw[<-UI,dU]at h5
    simp at h5
   .rw[dU]at h5;simp at h5
 have Ww:∀b,ae c Z (E.upd (am E F)).slots b->b<w.heap.size:=by
  rintro b (⟨hb,_⟩|hb)
  .exact ajY (VF.m0 b hb) VF.size
  .exact VF.toSimW.own_lt hb
 have hXo:∀b,(cS c Z (E.upd (am E F)) w (aL S k.gs)).X b->Own (bS Z (aL S k.gs)) k.env.slots b:=by
  rintro b ⟨s,s',r,g1,g2,g3,g4,g5⟩
  refine⟨s',r.ren (aL S k.gs),?_,by rw[ko];exact g3,?_,?_⟩
  .rw[<-hm.slots];exact Ut.slot' g1 g2
  .rw[ic,Ut.pl VF.toSimW g1];exact g4
  .rw[Ut.pl VF.toSimW g1];exact g5
 have hx:=h.ev g
 rw[h1]at hx
 generalize Yx:a.eval g=gv at hx
 cases hx with
 |fn hl hp=>
 rename_i vs
 have hit:=XM _ _ _ h3
 refine zh fun fn hfn Yc=>?_
 obtain⟨rec,Ua⟩:∃rec:Loop,rec={state:= .ready,pending:=none,fn,tmps:=a.tmps,params:=ps.toArray,assign:=ca,body:=cb,defers:=w.heap.size}:=⟨_,rfl⟩
 obtain⟨W1,XL⟩:∃W1,W1=(w.alloc (.deferred (some []))).alloc (.loop rec):=⟨_,rfl⟩
 have aeM:W1.heap.size=w.heap.size+2:=by rw[XL];simp
 have U4:∀b,b<w.heap.size->W1.heap[b]?=w.heap[b]?:=by
  intro b hb
  rw[XL,ako _ _ (by simp;omega),ako _ _ hb]
 have hL1:W1.heap[w.heap.size+1]?=some (.loop rec):=by
  rw[XL]
  have:=heap_alloc_new (w.alloc (.deferred (some []))) (.loop rec)
  simpa using this
 have hD1:W1.heap[w.heap.size]?=some (.deferred (some [])):=by
  rw[XL,ako _ _ (by simp),heap_alloc_new]
 let R:gh:=⟨w,ae c Z (E.upd (am E F)).slots,(cS c Z (E.upd (am E F)) w (aL S k.gs)).X,c.n,bS Z (aL S k.gs),w.heap.size+1,w.heap.size⟩
 have hR:pk R W1:=⟨Ww,Nat.le_succ _,ajz _,by show w.heap.size+1≠w.heap.size;omega,by show w.heap.size<=_;omega,by show w.heap.size<_;omega,fun p hp=>Ug.gl.2 p hp⟩
 have Vi:∀b,ae c Z (E.upd (am E F)).slots b->ae (cS c Z (E.upd (am E F)) w (aL S k.gs)) (bS Z (aL S k.gs)) k.env.slots b:=by
  intro b hb
  by_cases hX:(cS c Z (E.upd (am E F)) w (aL S k.gs)).X b
  .exact .inr (hXo b hX)
  .exact .inl ⟨hb,hX⟩
 have T2:Rest R k.env (bS Z (aL S k.gs)) W1 (fun b=>ae c Z (E.upd (am E F)).slots b\/b=w.heap.size+1) (fun b=>Own (bS Z (aL S k.gs)) k.env.slots b\/b=w.heap.size+1):=by
  refine⟨?_,fun b=>Iff.rfl,?_,?_,by show w.heap.size<=_;omega,by rw[XL];rfl,by rw[XL];rfl,by rw[XL];rfl,fun b hb _=>U4 b hb,fun b hb _=> .inl hb,?_,fun b hb=>Ug.own_x hb,hD1,?_⟩
  .refine Ug.move rfl (by omega) (ajz _) rfl rfl rfl (fun _ _ _=>rfl) ?_ (fun b hb hM=>⟨U4 b hb,?_⟩) (fun s r hs Tz=>?_) (Ug.lay_to fun b hb hM=>⟨U4 b hb,fun hx=>hM (.inr hx),fun h0=>by
    rcases h0 with g1|g1
    .exact hM (Vi b g1)
    .omega⟩)
   .rintro b (hb|hb)
    .have:=Ww b hb;show b<W1.heap.size;omega
    .show b<W1.heap.size;omega
   .rintro(⟨g1|g1,_⟩|g1)
    .exact hM (Vi b g1)
    .omega
    .exact hM (.inr g1)
   .have hlt:=(Ug.row s r hs).2.1.lt Tz
    refine⟨U4 _ hlt,fun Us=> .inl ⟨s,r,hs,Us,Tz,rfl⟩,?_⟩
    by_cases Us:r.mut=true
    .exact .inl ⟨s,r,hs,Us,Tz,rfl⟩
    .refine .inr ?_
     rintro(g1|g1)
     .exact Ug.frozen_nm hs Us Tz (Vi _ g1)
     .omega
  .rintro b (hb|hb)
   .exact .inl (WI b (.inr hb))
   .exact .inr hb
  .rintro b (hb|hb)
   .have:=Ww b hb;omega
   .omega
  .rintro b hb (g1|g1)
   .exact g1
   .have hb:b<w.heap.size:=hb;omega
  .rintro(g1|g1)
   .exact absurd (Ww _ g1) (Nat.lt_irrefl _)
   .have g1:w.heap.size=w.heap.size+1:=g1
    omega
 have Yv:a.defers=a.defers:=rfl
 let GX:Exit->aa->Prop:=fun ex E3=>∃k':Ct,E3.slots=k'.out/\(∀j,j<k'.new.length->E.used (.loc d j)=false)/\K ex (E.upd (bB S d k'++am E F))
 have Tx:∀(ex:Exit) (E3:aa) (Z3:Nm->Place) (w3:World) (M O:Nat->Prop) (acn:Loop),GX ex E3->Rest R E3 Z3 w3 M O->w3.heap[w.heap.size+1]?=some (.loop acn)->∀o,
   Q ex {a with defers:=[{target:= .collected w.heap.size,args:=#[]}]++a.defers} (w3.putObj (w.heap.size+1) (.loop o)):=by
  intro ex E3 Z3 w3 M O acn hg hr YQ o
  obtain⟨k',Tj,ZE,hk⟩:=hg
  have hr4:=hr.put hR.L hR.LD (o:=o) YQ
  have hb:=hr4.base hR 0
  obtain⟨Z5,Vy⟩:=VF.exit Ut (E':=E3) hb (lf hm Wn ZE Tj) (v:=undef) (d:= .junk) .junk (dst:=none) rfl
  have Vy:ai c Z5 ((E.upd (am E F)).upd (bB S d k')) a (w3.putObj (w.heap.size+1) (.loop o)):=Vy
  rw[<-jE]at Vy
  refine hK ex _ Z5 _ _ hk ⟨Vy.toSimW,Vy.tm,Vy.sz,?_⟩
  obtain⟨bs,g1,WF,g2⟩:=Vy.df
  obtain⟨bs0,Xh,_,g3⟩:=h.df
  have Y5:bs=bs0:=qY (g1.symm.trans Xh)
  refine⟨w.heap.size::bs,by simp[g1],List.nodup_cons.2 ⟨fun TE=>?_,WF⟩,fun b hb=>?_⟩
  .rw[Y5]at TE
   have:=(ajy.1 (g3 _ TE).2).1
   omega
  rcases akc.1 hb with hb|hb
  .subst hb;exact⟨(let⟨l,q1,q2⟩:=Uv;⟨l,q1,akf q2 h.size⟩),hr4.dk⟩
  .exact g2 b hb
 let GP:Value->aa->Prop:=fun u E3=>∃k':Ct,E3.slots=k'.out/\(∀j,j<k'.new.length->E.used (.loc d j)=false)/\C.pq u (E.upd (bB S d k'++am E F))
 have adm:∀(u:Value) (E3:aa) (Z3:Nm->Place) (w3:World) (M O:Nat->Prop),GP u E3->Rest R E3 Z3 w3 M O->
   Q (.panic (gf u)) {a with defers:=[{target:= .collected w.heap.size,args:=#[]}]++a.defers} w3:=by
  intro u E3 Z3 w3 M O hg hr
  obtain⟨k',Tj,ZE,hk⟩:=hg
  have hb:=hr.base hR 0
  obtain⟨Z5,Vy⟩:=VF.exit Ut (E':=E3) hb (lf hm Wn ZE Tj) (v:=undef) (d:= .junk) .junk (dst:=none) rfl
  have Vy:ai c Z5 ((E.upd (am E F)).upd (bB S d k')) a w3:=Vy
  rw[<-jE]at Vy
  refine hQ u _ Z5 _ _ hk ⟨Vy.toSimW,Vy.tm,Vy.sz,?_⟩
  obtain⟨bs,g1,WF,g2⟩:=Vy.df
  obtain⟨bs0,Xh,_,g3⟩:=h.df
  have Y5:bs=bs0:=qY (g1.symm.trans Xh)
  refine⟨w.heap.size::bs,by simp[g1],List.nodup_cons.2 ⟨fun TE=>?_,WF⟩,fun b hb=>?_⟩
  .rw[Y5]at TE
   have:=(ajy.1 (g3 _ TE).2).1
   omega
  rcases akc.1 hb with hb|hb
  .subst hb;exact⟨(let⟨l,q1,q2⟩:=Uv;⟨l,q1,akf q2 h.size⟩),hr.dk⟩
  .exact g2 b hb
 refine⟨w.heap.size+1,[{target:= .collected w.heap.size,args:=#[]}],W1,{target:= .fn (.func f) vs.toArray,args:=#[.func (.yield (w.heap.size+1)) #[] #[]]},W1,f,
  #[.func (.yield (w.heap.size+1)) #[] #[]]++vs.toArray,W1,?_,?_,fun _ _=>trivial,?_,fun h=>by simp[FW,Fence.wide]at h,?_⟩
 .rw[XL,Ua];exact run_enterLoop_outer _ _ _ _ _
 .simp only[resolve,Yx]
  simp[Deferred.ofValue,Act.eval]
 .simp[invoke,kX hit.1]
 .obtain⟨W6,hvr⟩:=H2 h h2 hl hp YV hF
  have Ye:=hit.2 W1 _ _ vs (w.heap.size+1)
   (fun i w' M O=>∃E1 Z1,I i E1/\iB k E1/\Rest R E1 Z1 w' M O/\w'.heap[w.heap.size+1]?=some (.loop rec))
   (fun w' M O=>∃ex E3 Z3,GX ex E3/\Rest R E3 Z3 w' M O/\cQ ex/\(cC ex).isNone=false/\w'.heap[w.heap.size+1]?=some (.loop {rec with state:= .done,pending:=cC ex}))
   (fun u w' M O=>∃E3 Z3,GP u E3/\Rest R E3 Z3 w' M O)
   T2.lt T2.oM (Ug.layW fun b hb hM=>⟨U4 b hb,fun h0=>by
    rcases h0 with g1|g1
    .exact hM (Vi b g1)
    .omega⟩) W6 (fun i v t hv ht=>(hvr i v t hv ht).mono (by omega) (fun b hb hM=>⟨U4 b hb,by rintro(g1|g1);exact hM g1;omega⟩) (fun _ hu=>by cases hu))
   ?_ ?_ ?_ ?_ ⟨k.env,bS Z (aL S k.gs),h5,fun _ hs=>hs,T2,hL1⟩
  .refine(callsIn_wide (n:=0-1).2 Ye).mono fun e w' he=>?_
   rcases he with⟨v,M',O',rfl,hj⟩|⟨u,M',O',rfl,E3,Z3,hg,hr⟩
   rotate_left
   .exact adm u E3 Z3 w' M' O' hg hr
   rcases hj with⟨E1,Z1,g1,g2,g3,g4⟩|⟨ex,E3,Z3,g1,g2,g3,g4,g5⟩
   .refine⟨none,w'.putObj (w.heap.size+1) (.loop {rec with state:= .exhausted}),?_,?_⟩
    .have:=run_endLoop (P:=P) g4 (by rw[Ua];simp)
     rw[this,show rec.pending=none by rw[Ua]]
    obtain⟨k',ρ,q1,q3,q4,q5⟩:=h7 E1 g1 g2
    have hr4:=g3.put hR.L hR.LD (o:={rec with state:= .exhausted}) g4
    have hb:=hr4.base hR 0
    obtain⟨Z2,Uu⟩:=hb.canonW q1
    obtain⟨Z5,Vy⟩:=VF.exit Ut (E':=E1.canon ρ) Uu (lf hm Wn q4 q3) (v:=undef) (d:= .junk) .junk (dst:=none) rfl
    have Vy:ai c Z5 ((E.upd (am E F)).upd (bB S d k')) a (w'.putObj (w.heap.size+1) (.loop {rec with state:= .exhausted})):=Vy
    rw[<-jE]at Vy
    refine hK .normal _ Z5 _ _ q5 ⟨Vy.toSimW,Vy.tm,Vy.sz,?_⟩
    obtain⟨bs,r1,WF,r2⟩:=Vy.df
    obtain⟨bs0,r1',_,r3⟩:=h.df
    have Y5:bs=bs0:=qY (r1.symm.trans r1')
    refine⟨w.heap.size::bs,by simp[r1],List.nodup_cons.2 ⟨fun TE=>?_,WF⟩,fun b hb=>?_⟩
    .rw[Y5]at TE
     have:=(ajy.1 (r3 _ TE).2).1
     omega
    rcases akc.1 hb with hb|hb
    .subst hb;exact⟨(let⟨l,q1,q2⟩:=Uv;⟨l,q1,akf q2 h.size⟩),hr4.dk⟩
    .exact r2 b hb
   .refine⟨cC ex,_,by have:=run_endLoop (P:=P) g5 (by simp);exact this,?_⟩
    have:=Tx ex E3 Z3 w' M' O' _ g1 g2 g5 {rec with state:= .exhausted,pending:=cC ex}
    cases ex with
    |normal=>simp[cC]at g4
    |ret=>exact fb (wpIn_ret this)
    |exit id=>exact fb (wpIn_exit this)
    |_=>exact g3.elim
  .rintro i w1 M2 O1 w2 M3 ⟨E1,Z1,g1,g2,g3,g4⟩ U9
   exact⟨E1,Z1,g1,g2,g3.stab hR U9,g3.lk U9 g4⟩
  .rintro w1 M2 O1 w2 M3 ⟨ex,E3,Z3,g1,g2,g3,g4,g5⟩ U9
   exact⟨ex,E3,Z3,g1,g2.stab hR U9,g3,g4,g2.lk U9 g5⟩
  .rintro u w1 M2 O1 w2 M3 ⟨E3,Z3,g1,g2⟩ U9
   exact⟨E3,Z3,g1,g2.stab hR U9⟩
  .rintro i x w2 M2 O2 us hxi ⟨E1,Z1,g1,g2,g3,g4⟩ XV VI
   have VR:=h4 x (ajx hxi)
   have T9:=zk (R:=R) hR (hA _) (hB _) (rec:=rec) (by rw[Ua]) (by rw[Ua]) (by rw[Ua]) (ps:=ps) (by rw[Ua]) hpn (f0:=fun t=>(E.tmps t).ren (aL S k.gs)) (U0:=k.env.used) (qZ k)
    (by rw[Ua];exact h.sz) (fun t=>?_) (fun b hb=>WI b (.inr (hXo b hb))) g3 g2 g4 (x:=x.map .t) (XV.trans VR) (by simpa using VR) (fun j v t hv ht=>by
     rw[ajw,ajt]at ht
     obtain⟨t0,ht0,rfl⟩:=ht
     exact .t (VI j v t0 hv ht0))
    (KK:=fun e E3=>match e with
      | .normal=>∃ρ,bw ρ=true/\iB k (E3.canon ρ)/\I (i+1) (E3.canon ρ)
      | .ret=>eb E S F d (K .ret) E3
      | .exit id=>eb E S F d (K (.exit id)) E3
      |_=>False)
    (G:=fun e E4=>(e= .normal/\iB k E4/\I (i+1) E4)\/((cC e).isNone=false/\GX e E4)) (q:=fun u E3=>eb E S F d (C.pq u) E3) (Gp:=GP) (by rw[Ua];exact Yc) (fun u E3 hk=>by
     obtain⟨k',ρ,q1,q3,q4,q5⟩:=hk
     exact⟨ρ,q1,k',q3,q4,q5⟩) (fun e E3 hk=>?_) (h6 i x E1 hxi g1 g2)
   .obtain⟨fn',tmps,asg,bd,y1,y2⟩:=T9
    refine⟨fn',tmps,asg,bd,y1,y2.mono fun e w3 he=>?_⟩
    obtain⟨M4,O4,q1,he⟩:=he
    refine⟨M4,O4,q1,?_⟩
    rcases he with⟨ex,E4,Z4,q2,q3,q4,q5,q6⟩|⟨u,E4,Z4,q2,q3,q4,_⟩
    rotate_left
    .exact .inr (.inr ⟨u,q2,E4,Z4,q3,q4⟩)
    rcases q2 with⟨rfl,q7,q8⟩|⟨q7,q8⟩
    .refine .inl ⟨q4,E4,Z4,q8,q7,q3,?_⟩
     have q6:w3.heap[w.heap.size+1]?=_:=q6
     rw[q6,Ua]
     rfl
    .refine .inr (.inl ⟨by rw[q4,q7],ex,E4,Z4,q8,q3,q5,q7,?_⟩)
     have q6:w3.heap[w.heap.size+1]?=_:=q6
     rw[q6,q7]
     rfl
   .have e1:rec.tmps=a.tmps:=by rw[Ua]
    rw[e1]
    refine(VF.tm t).ren (fun b hb=>hb) (fun s s' hs hu=>⟨?_,Ut.pl VF.toSimW (et hs)⟩) Ut.hy
    rw[<-hm.used]
    exact Ut.usd.2 ⟨s,et hs⟩
   .cases e with
    |normal=>
     obtain⟨ρ,q1,q2,q3⟩:=hk
     exact⟨trivial,ρ,q1,.inl ⟨rfl,q2,q3⟩⟩
    |ret=>
     obtain⟨k',ρ,q1,q3,q4,q5⟩:=hk
     exact⟨trivial,ρ,q1,.inr ⟨rfl,k',q3,q4,q5⟩⟩
    |exit id=>
     obtain⟨k',ρ,q1,q3,q4,q5⟩:=hk
     exact⟨trivial,ρ,q1,.inr ⟨rfl,k',q3,q4,q5⟩⟩
    |_=>exact hk.elim
end
end Go.Wt
