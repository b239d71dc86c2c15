/- Deep values (trees), and what it is for a value in a world to read as one; no program here. -/
import Derived.WalkKit
import Derived.WalkSpells
import Derived.WalkLawsBesides
import Derived.BigQuiet
import Derived.Still
set_option linter.unusedSimpArgs false
set_option linter.unusedVariables false
namespace Go.Wt
open Go.RowKit

/-- A one-cell value that holds no address and no slice. -/
def plain0 : Value → Bool
  | .bool _ | .int _ _ | .float _ _ | .complex _ _ _ | .string _ | .nilFunc | .nilIface => true
  | .pointer a => a.isNone
  | .map r => r.isNone
  | .chan r => r.isNone
  | _ => false
def plain : Value → Bool
  | .iface _ v => plain0 v
  | v => plain0 v

/-- A value as a tree: what it is, wherever it lies. -/
inductive Tree where
  /-- a one-cell value without addresses -/
  | v (x : Value)
  /-- a struct or an array: its cells -/
  | agg (l : List Tree)
  /-- a slice whose elements have so many cells -/
  | sl (m : Nat) (l : List Tree)
  /-- a slice of length and capacity 0 (nil, too) -/
  | e0
  deriving Inhabited

def Tree.cells : Tree → List Tree
  | .agg l => l
  | t => [t]
def Tree.one : Tree → Bool
  | .agg _ => false
  | _ => true
def one1 : Value → Bool
  | .agg _ | .tuple _ => false
  | _ => true

/-- In a world, a value reads as a tree; all memory that is reached lies outside of M. -/
inductive Rep (w : World) (M : Nat → Prop) : Value → Tree → Prop where
  | v {x : Value} (h : plain x = true) : Rep w M x (.v x)
  | agg {vs : List Value} {ts : List Tree} (hl : vs.length = ts.length) (h1 : ∀ t ∈ ts, t.one = true)
      (h : ∀ (i : Nat) (v : Value) (t : Tree), vs[i]? = some v → ts[i]? = some t → Rep w M v t) : Rep w M (.agg vs.toArray) (.agg ts)
  | e0 {a : Option Addr} : Rep w M (.slice a 0 0) .e0
  | sl0 {a : Option Addr} {cap m : Nat} (hc : cap ≤ maxLen) : Rep w M (.slice a 0 cap) (.sl m [])
  | sl {b o cap m : Nat} {ts : List Tree} (u : Nat → Nat → Value) (hM : ¬ M b) (hb : b < w.heap.size) (hn : ts.length ≤ cap) (hc : cap ≤ maxLen)
      (hm : ∀ t ∈ ts, t.cells.length = m)
      (hu : ∀ (k : Nat) (t : Tree) (j : Nat) (c : Tree), ts[k]? = some t → t.cells[j]? = some c → w.cell? ⟨b, o + k * m + j, none⟩ = some (u k j))
      (h1 : ∀ (k : Nat) (t : Tree) (j : Nat) (c : Tree), ts[k]? = some t → t.cells[j]? = some c → c.one = true)
      (h : ∀ (k : Nat) (t : Tree) (j : Nat) (c : Tree), ts[k]? = some t → t.cells[j]? = some c → Rep w M (u k j) c) : Rep w M (.slice (some ⟨b, o, none⟩) ts.length cap) (.sl m ts)

theorem plain_one {x : Value} (h : plain x = true) : one1 x = true := by
  cases x <;> simp [plain, plain0, one1] at *
theorem Rep.one {w : World} {M : Nat → Prop} {v : Value} {t : Tree} (h : Rep w M v t) : one1 v = t.one := by
  cases h <;> first | rfl | (rename_i h; exact plain_one h)

/-- What a tree is stays while the blocks outside of M stay. -/
theorem Rep.mono {w w' : World} {M M' : Nat → Prop} {v : Value} {t : Tree} (h : Rep w M v t) (hs : w.heap.size ≤ w'.heap.size)
    (hw : ∀ b, b < w.heap.size → ¬ M b → w'.heap[b]? = w.heap[b]? ∧ ¬ M' b) : Rep w' M' v t := by
  induction h with
  | v h => exact .v h
  | agg hl h1 _ ih => exact .agg hl h1 fun i v t hv ht => ih i v t hv ht
  | e0 => exact .e0
  | sl0 hc => exact .sl0 hc
  | sl u hM hb hn hc hm hu h1 _ ih =>
    refine .sl u (hw _ hb hM).2 (by omega) hn hc hm ?_ h1 ih
    intro k t j c hk hj
    have := hu k t j c hk hj
    unfold World.cell? at *
    rw [(hw _ hb hM).1]
    exact this
end Go.Wt
/- Abstract states and operations: what the code does, told of trees; no program here. -/
namespace Go.Wt
open Go.RowKit

/-- Names of blocks of a call's own. -/
inductive Nm where
  | yl
  | arg (i : Nat)
  | glob (g : Nat)
  | loc (d i : Nat)
  | head (l i : Nat)
  deriving DecidableEq

/-- What a slot of the frame holds. -/
inductive DV where
  | t (x : Tree)
  | agg (l : List DV)
  | tup (l : List DV)
  | ptr (s : Nm) (k j : Nat)
  /-- the address of a cell of a tree that lies somewhere -/
  | tp (x : Tree) (j : Nat)
  | osl (s : Nm) (n : Nat)
  | fn (f : FuncId) (caps : List DV)
  /-- a function whose first arguments are bound -/
  | mfn (f : FuncId) (pre caps : List DV)
  /-- a map -/
  | mp (s : Nm)
  /-- what a function that is ranged over calls -/
  | yl
  /-- this, if the test says so -/
  | wh (b want : Bool) (d : DV)
  | junk
  deriving Inhabited

/-- Names that stay what they are: globals, and what a call was given. -/
def Nm.fixed : Nm → Bool
  | .glob _ | .arg _ | .yl => true
  | _ => false

structure Place where
  blk : Nat
  cap : Nat
  m : Nat

/-- Blocks that are no cells: a map's entries, an iteration over a text, a list of deferred calls. -/
inductive OR where
  | mp (es : List (Value × DV × Nat)) (clock : Nat)
  | it (s : ByteArray) (pos : Nat)
  | dfr
inductive Row where
  | box (e : TypeId) (d : DV) (fz : Bool)
  | rows (e : TypeId) (m : Nat) (l : List Tree) (fz : Bool)
  | obj (o : OR) (fz : Bool)

def Row.mut : Row → Bool
  | .box _ _ fz => !fz
  | .rows _ _ _ fz => !fz
  | .obj _ fz => !fz

def DV.one : DV → Bool
  | .t x => x.one
  | .agg _ | .tup _ | .wh _ _ _ | .junk => false
  | _ => true
def DV.cells : DV → List DV
  | .t (.agg l) => l.map .t
  | .agg l => l
  | d => [d]

def DV.isAgg : DV → Bool
  | .t (.agg _) | .agg _ => true
  | _ => false
/-- Each of its cells can be put into one. -/
def DV.ok1 : DV → Bool
  | .t _ => true
  | .agg l => l.all DV.one
  | d => d.one

structure Env where
  tmps : Nat → DV
  slots : Nm → Option Row
  used : Nm → Bool

structure Res where
  d : DV
  rd : List Nm
  ups : List (Nm × Option Row)

def Env.put (E : Env) (t : Nat) (d : DV) : Env := { E with tmps := fun u => if u = t then d else E.tmps u }
def Env.putO (E : Env) : Option Nat → DV → Env
  | some t, d => E.put t d
  | none, _ => E
def Env.upd (E : Env) (ups : List (Nm × Option Row)) : Env :=
  { E with slots := fun s => match ups.lookup s with | some r => r | none => E.slots s, used := fun s => (ups.lookup s).isSome || E.used s }
def Res.apply (r : Res) (dst : Option Nat) (E : Env) : Env := (E.upd r.ups).putO dst r.d

/-- Where a test is known to have said yes. -/
def DV.strip (b want : Bool) : DV → DV
  | .wh b' want' d => if b = b' ∧ want = want' then d else .wh b' want' d
  | d => d
def Env.under (b want : Bool) (E : Env) : Env := { E with tmps := fun t => (E.tmps t).strip b want }

/-! values -/
def Tree.ofVal1 : Value → Option Tree
  | .slice none 0 0 => some .e0
  | x => if plain x then some (.v x) else none
def Tree.ofVal : Value → Option Tree
  | .agg cs => (cs.toList.mapM Tree.ofVal1).map .agg
  | x => Tree.ofVal1 x
def ofVal (v : Value) : DV := match Tree.ofVal v with | some t => .t t | none => .junk
def Env.ev (E : Env) : Operand → DV
  | .tmp t => E.tmps t
  | .const v => ofVal v
  | .func f => .fn f []
  | .global g => if E.used (.glob g) then .ptr (.glob g) 0 0 else .junk

def DV.val? : DV → Option Value
  | .t (.v x) => some x
  | _ => none
def DV.t1? : DV → Option Tree
  | .t x => if x.one then some x else none
  | _ => none
def DV.tree? : DV → Option Tree
  | .t x => some x
  | .agg l => (l.mapM DV.t1?).map .agg
  | _ => none
/-- A value's tree, what is one's own read through. -/
def Env.view1 (E : Env) : DV → Option (Tree × List Nm)
  | .t x => if x.one then some (x, []) else none
  | .osl s n => match E.slots s with | some (.rows _ m l _) => if n ≤ l.length then some (.sl m (l.take n), [s]) else none | _ => none
  | _ => none
def Env.view (E : Env) : DV → Option (Tree × List Nm)
  | .t x => some (x, [])
  | .agg l => (l.mapM E.view1).map fun ps => (.agg (ps.map (·.1)), ps.flatMap (·.2))
  | d => E.view1 d
def Env.views (E : Env) (l : List DV) : Option (List Tree × List Nm) :=
  (l.mapM E.view).map fun ps => (ps.map (·.1), ps.flatMap (·.2))
/-- What is handed to a function that is ranged over: trees, and addresses of what is only looked at from now on. -/
def Env.viewp (E : Env) : DV → Option (DV × List Nm)
  | .ptr s k j => if k = 0 then match E.slots s with | some (.box _ (.t x) _) => some (.tp x j, [s]) | _ => none else none
  | .tp x j => some (.tp x j, [])
  | d => (E.view d).map fun p => (.t p.1, p.2)
def Env.viewps (E : Env) (l : List DV) : Option (List DV × List Nm) :=
  (l.mapM E.viewp).map fun ps => (ps.map (·.1), ps.flatMap (·.2))

/-- A run of cells with no memory in it. -/
def pureRun {α : Type} (P : Program) : Sem α → Option α
  | .pure a => some a
  | .program k => pureRun P (k P)
  | .mark _ k => pureRun P k
  | _ => none
theorem pureRun_run {α : Type} {P : Program} {s : Sem α} {a : α} (h : pureRun P s = some a) (w : World) : s.run P w = .ok a w := by
  induction s with
  | pure x => simp only [pureRun, Option.some.injEq] at h; subst h; rfl
  | program k ih => simp only [pureRun] at h; simp only [Sem.run]; exact ih _ h
  | mark m k ih => simp only [pureRun] at h; simp only [Sem.run]; exact ih h
  | _ => simp [pureRun] at h

/-- The operations that are known here, their types looked up. -/
inductive SOp where
  | mv (x : Operand)
  | nilc (x : Operand)
  | pick (c a b : Operand)
  | bin (op : BinOp) (t : TypeId) (x y : Operand)
  | un (op : UnOp) (x : Operand)
  | conv (k : IntKind) (x : Operand)
  | b2s (x : Operand)
  | part (x : Operand) (off n : Nat) (agg : Bool)
  | aidx (x i : Operand) (len m : Nat) (agg : Bool)
  | sidx (x i : Operand)
  | build (zero : List Tree) (parts : List (Nat × Nat × Operand))
  | ext (x : Operand) (i : Nat)
  | fld (x : Operand) (off : Nat)
  | eadr (x i : Operand) (m : Nat)
  | aadr (x i : Operand) (len m : Nat)
  | load (n : Nat) (agg : Bool) (x : Operand)
  | store (n : Nat) (x y : Operand)
  | box (e : TypeId) (x : Operand)
  | alloc (e : TypeId) (zero : Tree)
  | lits (agg : Bool) (m len : Nat) (zero : List Tree) (parts : List (Nat × Nat × Operand))
  | len (str : Bool) (x : Operand)
  | sstr (x : Operand) (lo hi : Option Operand)
  | ssl (x : Operand) (lo hi : Option Operand) (m : Nat)
  | app (e : TypeId) (m : Nat) (z : Tree) (x y : Operand)
  | mm (mx : Bool) (x y : Operand)
  | mkfn (f : FuncId) (caps : List Operand)
  | mkif (t : TypeId) (x : Operand)
  | mkfnb (f : FuncId) (first caps : List Operand)
  | mkmap (r : Option Operand)
  | mget (kt : TypeId) (zero : Tree) (x k : Operand) (ok : Bool)
  | mset (kt : TypeId) (m k x : Operand)
  | ment (kt : TypeId) (zero : Tree) (m k : Operand)
  | mst (m st x : Operand)
  | mlen (x : Operand)
  | mksl (e : TypeId) (b m : Nat) (zero : Tree) (l c : Operand)
  | copy (m : Nat) (x y : Operand)
  | rng (x : Operand)
  | nxt (x : Operand)
  | stuck
  | call (f : FuncId) (args : List Operand)
  | callv (x : Operand) (args : List Operand)

structure SOper where
  dst : Option Nat
  op : SOp
  guard : Option (Nat × Bool)

inductive SCode where
  | skip
  | region (ops : List SOper)
  | drawn (ops : List SOper) (pairs : List (Nat × Nat))
  | seq (a b : SCode)
  | cond (c : Operand) (x y : SCode)
  | block (id : Nat) (b : SCode)
  | loop (b : SCode)
  | exit (id : Nat)
  | ret
  /-- a range over a function -/
  | rangef (g : Operand) (ps : List Nat) (a b : SCode)
  | stuck

/-! what the operations do -/
def val (d : DV) : Option Res := some ⟨d, [], []⟩
def setCells {α : Type} (l : List α) (off : Nat) (new : List α) : List α := l.take off ++ new ++ l.drop (off + new.length)
/-- A part of a value. -/
def DV.part (d : DV) (off n : Nat) (agg : Bool) : Option DV :=
  if agg then
    if d.isAgg = false then none
    else if off = 0 ∧ n = d.cells.length then some d
    else if off + n ≤ d.cells.length then
      match d with
      | .t (.agg l) => some (.t (.agg ((l.drop off).take n)))
      | _ => some (.agg ((d.cells.drop off).take n))
    else none
  else d.cells[off]?
/-- A value some of whose cells are another's. -/
def DV.setPart (d : DV) (off : Nat) (y : DV) : Option DV :=
  if off + y.cells.length ≤ d.cells.length then
    if off = 0 ∧ y.cells.length = d.cells.length ∧ d.one = y.one then some y
    else if d.one then none
    else some (.agg (setCells d.cells off y.cells))
  else none

/-- The function that a value is, and its arguments ahead and behind. -/
def DV.callee : DV → Option (FuncId × List DV × List DV)
  | .fn f caps => some (f, [], caps)
  | .mfn f pre caps => some (f, pre, caps)
  | _ => none
/-- What this is where the test b comes to c. -/
def DV.arm (b c : Bool) : DV → Option DV
  | .wh b' want d => if b' = b ∧ want = c then some d else none
  | d => some d
def dMux (b : Bool) : DV → DV → DV
  | .t (.v (.bool x)), .t (.v (.bool y)) => .t (.v (.bool (bif b then x else y)))
  | .t (.v (.int k x)), .t (.v (.int k' y)) => if k = k' then .t (.v (.int k (bif b then x else y))) else bif b then .t (.v (.int k x)) else .t (.v (.int k' y))
  | x, y => bif b then x else y
def dPick : DV → DV → DV → Option Res
  | .t (.v (.bool b)), x, y => match x.arm b true, y.arm b false with
    | some x', some y' => val (dMux b x' y')
    | _, _ => none
  | _, _, _ => none
def chk (x : Option Value) : Option Res := match x with | some v => if plain v then val (.t (.v v)) else none | none => none
/-- A value without memory, as the model's. -/
def Tree.val1? : Tree → Option Value
  | .v x => some x
  | _ => none
def DV.flat? : DV → Option Value
  | .t (.v x) => some x
  | .t (.agg l) => (l.mapM Tree.val1?).map fun vs => .agg vs.toArray
  | _ => none
def ptrT (P : Program) (t : TypeId) : Bool := match P.underlying t with | some (.pointer _) => true | _ => false
def isEq : BinOp → Option Bool
  | .eql => some false
  | .neq => some true
  | _ => none
def dBin (P : Program) (op : BinOp) (t : TypeId) (x y : Operand) : DV → DV → Option Res
  | .t (.v u), .t (.v v) => chk (pureRun P (do eqGuard op t x y u v; binOp op t u v))
  | .t (.agg l), .t (.agg l') => match (DV.t (.agg l)).flat?, (DV.t (.agg l')).flat? with
    | some u, some v => chk (pureRun P (do eqGuard op t x y u v; binOp op t u v))
    | _, _ => none
  | .ptr _ _ _, .t (.v (.pointer none)) => if ptrT P t = true then (isEq op).bind fun b => val (.t (.v (.bool b))) else none
  | .tp _ _, .t (.v (.pointer none)) => if ptrT P t = true then (isEq op).bind fun b => val (.t (.v (.bool b))) else none
  | _, _ => none
def dUn (P : Program) (op : UnOp) : DV → Option Res
  | .t (.v u) => chk (pureRun P (Op.unary op u))
  | _ => none
def dConv (k : IntKind) : DV → Option Res
  | .t (.v (.int _ n)) => val (.t (.v (.int k (k.wrap n))))
  | _ => none
def Tree.byte? : Tree → Option UInt8
  | .v (.int .u8 n) => some (UInt8.ofNat n.toNat)
  | _ => none
def opt (d : Option DV) : Option Res := match d with | some x => val x | none => none
def dAidx (d : DV) (len m : Nat) (agg : Bool) : DV → Option Res
  | .t (.v (.int _ i)) => if 0 ≤ i ∧ i < len ∧ d.isAgg = true then opt (d.part (i.toNat * m) m agg) else none
  | _ => none
def dSidx : DV → DV → Option Res
  | .t (.v (.string s)), .t (.v (.int _ i)) => if 0 ≤ i then match s[i.toNat]? with | some b => val (.t (.v (.int .u8 b.toNat))) | none => none else none
  | _, _ => none
def fillD : DV → List (Nat × Nat × DV) → Option DV
  | d, [] => some d
  | d, (off, n, x) :: rest => if x.cells.length = n ∧ x.ok1 = true then match d.setPart off x with | some d' => fillD d' rest | none => none else none
def dExt (i : Nat) : DV → Option Res
  | .tup l => opt l[i]?
  | _ => none
def dFld : DV → Nat → Option Res
  | .ptr s k j, off => val (.ptr s k (j + off))
  | .tp x j, off => val (.tp x (j + off))
  | _, _ => none
def dEadr (E : Env) (m : Nat) : DV → DV → Option Res
  | .osl s n, .t (.v (.int _ i)) => match E.slots s with
    | some (.rows _ m' l _) => if 0 ≤ i ∧ i < n ∧ m' = m ∧ n ≤ l.length then some ⟨.ptr s i.toNat 0, [s], []⟩ else none
    | _ => none
  | .t (.sl m' l), .t (.v (.int _ i)) => if 0 ≤ i ∧ i < l.length ∧ m' = m then match l[i.toNat]? with | some x => val (.tp x 0) | none => none else none
  | _, _ => none
def dAadr (len m : Nat) : DV → DV → Option Res
  | .ptr s k j, .t (.v (.int _ i)) => if 0 ≤ i ∧ i < len then val (.ptr s k (j + i.toNat * m)) else none
  | _, _ => none
def dLoad (E : Env) (n : Nat) (agg : Bool) : DV → Option Res
  | .ptr s k j => match E.slots s with
    | some (.box _ d _) => if k = 0 then (match d.part j n agg with | some x => some ⟨x, [s], []⟩ | none => none) else none
    | some (.rows _ _ l _) => match l[k]? with | some x => (match (DV.t x).part j n agg with | some y => some ⟨y, [s], []⟩ | none => none) | none => none
    | _ => none
  | .tp x j => opt ((DV.t x).part j n agg)
  | _ => none
def dStore (E : Env) (n : Nat) : DV → DV → Option Res
  | .ptr s k j, y => if y.cells.length = n ∧ y.ok1 = true then
      match E.slots s with
      | some (.box e d false) => if k = 0 then (match d.setPart j y with | some d' => some ⟨.junk, [s], [(s, some (.box e d' false))]⟩ | none => none) else none
      | some (.rows e m l false) => match l[k]? with
        | some x => (match ((DV.t x).setPart j y).bind DV.tree? with | some x' => some ⟨.junk, [s], [(s, some (.rows e m (l.set k x') false))]⟩ | none => none)
        | none => none
      | _ => none
    else none
  | _, _ => none
/-- Rows that are only looked at from now on. -/
def Row.frozen : Row → Row
  | .box e d _ => .box e d true
  | .rows e m l _ => .rows e m l true
  | .obj o _ => .obj o true
def frz (E : Env) (F : List Nm) : List (Nm × Option Row) := F.map fun s => (s, (E.slots s).map Row.frozen)
/-- A store; what is one's own is read through where a tree is wanted, and only looked at from then on. -/
def dStoreV (E : Env) (n : Nat) (p y : DV) : Option Res := match dStore E n p y with
  | some r => some r
  | none => match E.view y with
    | some (t, rd) => match dStore (E.upd (frz E rd)) n p (.t t) with
      | some r => some ⟨r.d, rd ++ r.rd, r.ups ++ frz E rd⟩
      | none => none
    | none => none
def Env.fresh (E : Env) (s : Nm) : Bool := !E.used s
def dBox (E : Env) (e : TypeId) (s : Nm) (d : DV) : Option Res :=
  if E.fresh s ∧ d.ok1 = true then some ⟨.ptr s 0 0, [], [(s, some (.box e d false))]⟩ else none
/-- The elements of a literal. -/
def chunks (agg : Bool) (m : Nat) : Nat → List Tree → List Tree
  | 0, _ => []
  | n + 1, l => (if agg = true then .agg (l.take m) else (l.take 1).headD default) :: chunks agg m n (l.drop m)
def dLits (agg : Bool) (m len : Nat) (zero : List Tree) (parts : List (Nat × Nat × DV)) : Option Res :=
  if len = 0 then val (.t .e0)
  else if zero.length = m ∧ 0 < m ∧ (agg = true ∨ m = 1) then
    match (fillD (.t (.agg (List.replicate len zero).flatten)) parts).bind DV.tree? with
    | some (.agg l) => if l.length = len * m then val (.t (.sl m (chunks agg m len l))) else none
    | _ => none
  else none
def dLen : Bool → DV → Option Res
  | true, .t (.v (.string s)) => val (.t (.v (.int .i64 s.size)))
  | false, .t (.sl _ l) => val (.t (.v (.int .i64 l.length)))
  | false, .t .e0 => val (.t (.v (.int .i64 0)))
  | false, .osl _ n => val (.t (.v (.int .i64 n)))
  | _, _ => none
def bnd (d : Int) : Option DV → Option Int
  | none => some d
  | some (.t (.v (.int _ i))) => some i
  | _ => none
def dSstr (lo hi : Option DV) : DV → Option Res
  | .t (.v (.string s)) => match bnd 0 lo, bnd s.size hi with
    | some l, some h => if 0 ≤ l ∧ l ≤ h ∧ h ≤ s.size then val (.t (.v (.string (s.extract l.toNat h.toNat)))) else none
    | _, _ => none
  | _ => none
def dSsl (E : Env) (lo hi : Option DV) (m : Nat) : DV → Option Res
  | .t (.sl m' l) => match bnd 0 lo, bnd l.length hi with
    | some a, some b => if 0 ≤ a ∧ a ≤ b ∧ b ≤ l.length ∧ m' = m then val (.t (.sl m ((l.take b.toNat).drop a.toNat))) else none
    | _, _ => none
  | .t .e0 => match bnd 0 lo, bnd 0 hi with
    | some a, some b => if a = 0 ∧ b = 0 then val (.t .e0) else none
    | _, _ => none
  | .osl s n => match E.slots s with
    | some (.rows e m' l fz) => match bnd 0 lo, bnd n hi with
      | some a, some b => if 0 ≤ a ∧ a ≤ b ∧ b ≤ n ∧ n ≤ l.length ∧ m' = m then
          if a = 0 then some ⟨.osl s b.toNat, [s], []⟩ else some ⟨.t (.sl m ((l.take b.toNat).drop a.toNat)), [s], if fz = true then [] else [(s, some (.rows e m l true))]⟩
        else none
      | _, _ => none
    | _ => none
  | _ => none
/-- What is put behind: the elements, and what is read. -/
def Env.more (E : Env) (m : Nat) (d : DV) : Option (List Tree × List Nm) :=
  match d with
  | .t (.v (.string s)) => if m = 1 then some (s.data.toList.map fun b => .v (.int .u8 b.toNat), []) else none
  | _ => match E.view d with
    | some (.e0, rd) => some ([], rd)
    | some (.sl m' l, rd) => if m' = m then some (l, rd) else none
    | _ => none
def dB2s (E : Env) (d : DV) : Option Res :=
  match d with
  | .t (.v _) => none
  | d => match E.more 1 d with
    | some (l, rd) => match l.mapM Tree.byte? with | some bs => some ⟨.t (.v (.string ⟨bs.toArray⟩)), rd, []⟩ | none => none
    | none => none
def LIM : Nat := 100000000
def dApp (E : Env) (e : TypeId) (m : Nat) (s' : Nm) (y : DV) : DV → Option Res
  | .t .e0 => match E.more m y with
    | some (l, rd) => if E.fresh s' ∧ l.length ≤ LIM then some ⟨.osl s' l.length, rd, [(s', some (.rows e m l false))]⟩ else none
    | none => none
  | .osl s n => match E.slots s, E.more m y with
    | some (.rows e' m' l0 false), some (l, rd) =>
      if E.fresh s' ∧ n ≤ l0.length ∧ n + l.length ≤ LIM ∧ e' = e ∧ m' = m ∧ s ∉ rd then some ⟨.osl s' (n + l.length), s :: rd, [(s, none), (s', some (.rows e m (l0.take n ++ l) false))]⟩ else none
    | _, _ => none
  | _ => none
def dMm (mx : Bool) : DV → DV → Option Res
  | .t (.v (.int k a)), .t (.v (.int _ b)) => val (.t (.v (.int k (if mx then (if a < b then b else a) else (if b < a then b else a)))))
  | _, _ => none
def dMkif (t : TypeId) : DV → Option Res
  | .t (.v x) => if plain0 x then val (.t (.v (.iface t x))) else none
  | _ => none
/-! maps -/
def findM (P : Program) (kt : TypeId) (k : Value) (keys : List Value) : Option (Option Nat) :=
  (pureRun P (Instr.findKey kt k (keys.map fun x => { key := x, val := undef, born := 0 }))).map fun r => r.map (·.1)
def keyOk (P : Program) (empty : Bool) (kt : TypeId) (k : Value) : Bool := (pureRun P (Instr.checkKey empty 10000 kt k)).isSome
def isIntO : Option DV → Bool
  | none => true
  | some (.t (.v (.int _ _))) => true
  | _ => false
def dMkmap (E : Env) (s : Nm) (r : Option DV) : Option Res :=
  if E.fresh s ∧ isIntO r = true then some ⟨.mp s, [], [(s, some (.obj (.mp [] 0) false))]⟩ else none
def mres (ok : Bool) (d : DV) (b : Bool) : DV := if ok then .tup [d, .t (.v (.bool b))] else d
def dMget (P : Program) (E : Env) (kt : TypeId) (zero : Tree) (ok : Bool) (x k : DV) : Option Res :=
  match k.flat? with
  | none => none
  | some kv => match x with
    | .t (.v (.map none)) => if keyOk P true kt kv = true ∧ findM P kt kv [] = some none then val (mres ok (.t zero) false) else none
    | .mp s => match E.slots s with
      | some (.obj (.mp es _) _) => if keyOk P es.isEmpty kt kv = true then match findM P kt kv (es.map (·.1)) with
        | some none => some ⟨mres ok (.t zero) false, [s], []⟩
        | some (some i) => match es[i]? with | some e => some ⟨mres ok e.2.1 true, [s], []⟩ | none => none
        | none => none
        else none
      | _ => none
    | _ => none
def keepKey (P : Program) (old new : Value) : Option Value := pureRun P (Instr.keyThatStays old new)
def dMset (P : Program) (E : Env) (kt : TypeId) (x k y : DV) : Option Res :=
  match k.flat?, x with
  | some kv, .mp s => match E.slots s with
    | some (.obj (.mp es c) false) => if keyOk P false kt kv = true then match findM P kt kv (es.map (·.1)) with
      | some none => some ⟨.junk, [s], [(s, some (.obj (.mp (es ++ [(kv, y, c)]) (c + 1)) false))]⟩
      | some (some i) => match es[i]? with
        | some e => match keepKey P e.1 kv with | some k' => some ⟨.junk, [s], [(s, some (.obj (.mp (es.set i (k', y, e.2.2)) c) false))]⟩ | none => none
        | none => none
      | none => none
      else none
    | _ => none
  | _, _ => none
def dMent (P : Program) (E : Env) (kt : TypeId) (zero : Tree) (x k : DV) : Option Res :=
  match k.flat?, x with
  | some kv, .mp s => match E.slots s with
    | some (.obj (.mp es c) false) => if keyOk P false kt kv = true then match findM P kt kv (es.map (·.1)) with
      | some none => some ⟨.tup [.t zero, .t (.v (.int .i64 c))], [s], [(s, some (.obj (.mp (es ++ [(kv, .t zero, c)]) (c + 1)) false))]⟩
      | some (some i) => match es[i]? with
        | some e => match keepKey P e.1 kv with | some k' => some ⟨.tup [e.2.1, .t (.v (.int .i64 e.2.2))], [s], [(s, some (.obj (.mp (es.set i (k', e.2.1, e.2.2)) c) false))]⟩ | none => none
        | none => none
      | none => none
      else none
    | _ => none
  | _, _ => none
def dMst (E : Env) (x st y : DV) : Option Res :=
  match x, st with
  | .mp s, .t (.v (.int _ n)) => match E.slots s with
    | some (.obj (.mp es c) false) => match es.findIdx? (fun e => (e.2.2 : Int) == n) with
      | some i => match es[i]? with | some e => some ⟨.junk, [s], [(s, some (.obj (.mp (es.set i (e.1, y, e.2.2)) c) false))]⟩ | none => none
      | none => none
    | _ => none
  | _, _ => none
def dMlen (E : Env) : DV → Option Res
  | .t (.v (.map none)) => val (.t (.v (.int .i64 0)))
  | .mp s => match E.slots s with | some (.obj (.mp es _) _) => some ⟨.t (.v (.int .i64 es.length)), [s], []⟩ | _ => none
  | _ => none
def dMksl (E : Env) (e : TypeId) (m : Nat) (z : Tree) (s : Nm) : DV → DV → Option Res
  | .t (.v (.int _ l)), .t (.v (.int _ c)) => if E.fresh s ∧ 0 ≤ l ∧ l ≤ c ∧ c ≤ LIM ∧ 0 < m then some ⟨.osl s l.toNat, [], [(s, some (.rows e m (List.replicate l.toNat z) false))]⟩ else none
  | _, _ => none
/-- A list whose first elements are another's. -/
def dCopy (E : Env) (m : Nat) (y : DV) : DV → Option Res
  | .osl s n => match E.slots s, E.more m y with
    | some (.rows e m' l0 false), some (l, rd) => if m' = m ∧ n ≤ l0.length ∧ s ∉ rd ∧ l.length ≤ n then
        some ⟨.t (.v (.int .i64 l.length)), s :: rd, [(s, some (.rows e m (l ++ l0.drop l.length) false))]⟩
      else none
    | _, _ => none
  | _ => none
def dRng (E : Env) (s : Nm) : DV → Option Res
  | .t (.v (.string x)) => if E.fresh s then some ⟨.ptr s 0 0, [], [(s, some (.obj (.it x 0) false))]⟩ else none
  | _ => none
def dNxt (E : Env) : DV → Option Res
  | .ptr s 0 0 => match E.slots s with
    | some (.obj (.it x pos) false) => if pos < x.size then
        some ⟨.tup [.t (.v (.bool true)), .t (.v (.int .i64 pos)), .t (.v (.int .i32 (Utf8.decode x pos).1))], [s], [(s, some (.obj (.it x (pos + (Utf8.decode x pos).2)) false))]⟩
      else some ⟨.tup [.t (.v (.bool false))], [s], []⟩
    | _ => none
  | _ => none
def nmOf : Option Nat → Nm
  | some d => .loc d 0
  | none => .loc 0 0
def SOp.den (P : Program) (E : Env) (dst : Option Nat) : SOp → Option Res
  | .mv x => val (E.ev x)
  | .nilc x => match E.ev x with | .ptr s k j => val (.ptr s k j) | .tp y j => val (.tp y j) | .fn f c => val (.fn f c) | .mfn f p c => val (.mfn f p c) | .yl => val .yl | _ => none
  | .pick c a b => dPick (E.ev c) (E.ev a) (E.ev b)
  | .bin op t x y => dBin P op t x y (E.ev x) (E.ev y)
  | .un op x => dUn P op (E.ev x)
  | .conv k x => dConv k (E.ev x)
  | .b2s x => dB2s E (E.ev x)
  | .part x off n agg => if (E.ev x).isAgg = true then opt ((E.ev x).part off n agg) else none
  | .aidx x i ln m agg => dAidx (E.ev x) ln m agg (E.ev i)
  | .sidx x i => dSidx (E.ev x) (E.ev i)
  | .build zero parts => opt (fillD (.t (.agg zero)) (parts.map fun p => (p.1, p.2.1, E.ev p.2.2)))
  | .ext x i => dExt i (E.ev x)
  | .fld x off => dFld (E.ev x) off
  | .eadr x i m => dEadr E m (E.ev x) (E.ev i)
  | .aadr x i ln m => dAadr ln m (E.ev x) (E.ev i)
  | .load n agg x => dLoad E n agg (E.ev x)
  | .store n x y => dStoreV E n (E.ev x) (E.ev y)
  | .box e x => dBox E e (nmOf dst) (E.ev x)
  | .alloc e zero => dBox E e (nmOf dst) (.t zero)
  | .lits agg m ln zero parts => dLits agg m ln zero (parts.map fun p => (p.1, p.2.1, E.ev p.2.2))
  | .len str x => dLen str (E.ev x)
  | .sstr x lo hi => dSstr (lo.map E.ev) (hi.map E.ev) (E.ev x)
  | .ssl x lo hi m => dSsl E (lo.map E.ev) (hi.map E.ev) m (E.ev x)
  | .app e m _ x y => dApp E e m (nmOf dst) (E.ev y) (E.ev x)
  | .mm mx x y => dMm mx (E.ev x) (E.ev y)
  | .mkfn f caps => val (.fn f (caps.map E.ev))
  | .mkif t x => dMkif t (E.ev x)
  | .mkfnb f first caps => val (.mfn f (first.map E.ev) (caps.map E.ev))
  | .mkmap r => dMkmap E (nmOf dst) (r.map E.ev)
  | .mget kt zero x k ok => dMget P E kt zero ok (E.ev x) (E.ev k)
  | .mset kt x k y => dMset P E kt (E.ev x) (E.ev k) (E.ev y)
  | .ment kt zero x k => dMent P E kt zero (E.ev x) (E.ev k)
  | .mst x st y => dMst E (E.ev x) (E.ev st) (E.ev y)
  | .mlen x => dMlen E (E.ev x)
  | .mksl e _ m z l c => dMksl E e m z (nmOf dst) (E.ev l) (E.ev c)
  | .copy m x y => dCopy E m (E.ev y) (E.ev x)
  | .rng x => dRng E (nmOf dst) (E.ev x)
  | .nxt x => dNxt E (E.ev x)
  | .stuck => none
  | .call _ _ | .callv _ _ => none
end Go.Wt
/- From the model's code to the code that is known here; what it does, told of trees. -/
namespace Go.Wt
open Go.RowKit

def szT (P : Program) (t : TypeId) : Option Nat := if (P.underlying t).isSome then (P.info? t).map (·.size) else none
def aggT (P : Program) (t : TypeId) : Bool := match P.underlying t with | some (.struct _) | some (.array _ _) => true | _ => false
def zeroT (P : Program) (t : TypeId) : Option Tree := ((P.info? t).bind (·.zero)).bind Tree.ofVal
def fieldT (P : Program) (t : TypeId) (f : Nat) : Option Field := match P.underlying t with | some (.struct fs) => fs[f]? | _ => none
def elemT (P : Program) (t : TypeId) : Option TypeId := match P.underlying t with | some (.slice e) => some e | _ => none
def cparts (P : Program) (t : TypeId) (parts : List (Nat × Operand)) : Option (List (Nat × Nat × Operand)) :=
  match P.underlying t with
  | some (.struct fs) => match fs.toList.mapM (fun f => (P.info? f.type).map fun i => (f.offset, i.size)) with
    | some places => parts.mapM fun p => (places[p.1]?).map fun q => (q.1, q.2, p.2)
    | none => none
  | some (.array _ e) => match P.info? e with
    | some ie => some (parts.map fun p => (p.1 * ie.size, ie.size, p.2))
    | none => none
  | _ => none
def notInt (P : Program) (u : TypeId) : Bool := match P.underlying u with | some (.int _) | none => false | _ => true
def ccall (P : Program) (c : Call) : Option SOp :=
  match c.callee with
  | .value (.func f) => some (.call f c.args.toList)
  | .value x => some (.callv x c.args.toList)
  | .builtin .len => match c.args.toList, c.argTypes.toList with
    | [x], [t] => (match P.underlying t with | some .string => some (.len true x) | some (.slice _) => some (.len false x) | some (.map _ _) => some (.mlen x) | _ => none)
    | _, _ => none
  | .builtin .append => match c.args.toList, c.argTypes.toList with
    | [x, y], [t, u] => do
      let e ← elemT P t
      let i ← P.info? e
      let z ← zeroT P e
      if !notInt P u || 1000 < i.bytes || i.size = 0 then none
      else if z.cells.length = i.size then some (.app e i.size z x y) else none
    | _, _ => none
  | .builtin .copy => match c.args.toList, c.argTypes.toList with
    | [x, y], t :: _ => do
      let e ← elemT P t
      let i ← P.info? e
      if i.size = 0 then none else some (.copy i.size x y)
    | _, _ => none
  | .builtin .min => match c.args.toList with | [x, y] => some (.mm false x y) | _ => none
  | .builtin .max => match c.args.toList with | [x, y] => some (.mm true x y) | _ => none
  | _ => none
def cop (P : Program) (o : Op) : Option SOp :=
  match o with
  | .move x | .assign x => some (.mv x)
  | .nilCheck x => some (.nilc x)
  | .pick c a b => some (.pick c a b)
  | .binOp op t x y _ => some (.bin op t x y)
  | .unOp op _ x => some (.un op x)
  | .convert src dst x =>
    match P.underlying src, P.underlying dst with
    | some (.int _), some (.int k) => some (.conv k x)
    | some (.slice e), some .string => (match P.underlying e with | some (.int .u8) => some (.b2s x) | _ => none)
    | _, _ => none
  | .field t x f => do let fd ← fieldT P t f; let n ← szT P fd.type; pure (.part x fd.offset n (aggT P fd.type))
  | .index t x i =>
    match P.underlying t with
    | some (.array len e) => do let m ← szT P e; pure (.aidx x i len m (aggT P e))
    | some .string => some (.sidx x i)
    | _ => none
  | .build t parts => do
    let .agg zero ← zeroT P t | none
    let ps ← cparts P t parts.toList
    pure (.build zero ps)
  | .extract x i => some (.ext x i)
  | .fieldAddr t x f => do let fd ← fieldT P t f; let n ← szT P fd.type; if n = 0 then none else pure (.fld x fd.offset)
  | .indexAddr t x i =>
    match P.underlying t with
    | some (.slice e) => do let m ← szT P e; if m = 0 then none else pure (.eadr x i m)
    | some (.array len e) => do let m ← szT P e; pure (.aadr x i len m)
    | _ => none
  | .load t x => do let n ← szT P t; pure (.load n (aggT P t) x)
  | .store t x y => do let n ← szT P t; pure (.store n x y)
  | .box e x => some (.box e x)
  | .alloc e => do let z ← zeroT P e; pure (.alloc e z)
  | .buildSlice t len parts => do
    let e ← elemT P t
    let m ← szT P e
    let z ← zeroT P e
    if m = 0 || z.cells.length != m || 2 ^ 24 < len * m || (len = 0 && !parts.isEmpty) then none else pure (.lits (aggT P e) m len z.cells (parts.toList.map fun p => (p.1 * m, m, p.2)))
  | .slice t x lo hi none =>
    match P.underlying t with
    | some .string => some (.sstr x lo hi)
    | some (.slice e) => do let m ← szT P e; if m = 0 then none else pure (.ssl x lo hi m)
    | _ => none
  | .makeFunc fn first caps => (match fn with | .func f => if first.isEmpty then some (.mkfn f caps.toList) else some (.mkfnb f first.toList caps.toList) | _ => none)
  | .makeMap t r => (match r, P.underlying t with | none, _ => some (.mkmap none) | some x, some (.map _ _) => some (.mkmap (some x)) | _, _ => none)
  | .lookup t x k ok => (match P.underlying t with | some (.map kt e) => (zeroT P e).map fun z => .mget kt z x k ok | _ => none)
  | .mapUpdate t m k x | .insert t m k x => (match P.underlying t with | some (.map kt _) => some (.mset kt m k x) | _ => none)
  | .mapEntry t m k => (match P.underlying t with | some (.map kt e) => (zeroT P e).map fun z => .ment kt z m k | _ => none)
  | .entryStore _ m s x => some (.mst m s x)
  | .makeSlice t l c => do
    let e ← elemT P t
    let m ← szT P e
    let i ← P.info? e
    let z ← zeroT P e
    if m = 0 || z.cells.length != m || 1000 < i.bytes then none else pure (.mksl e i.bytes m z l c)
  | .range t x => (match P.underlying t with | some .string => some (.rng x) | _ => none)
  | .next x s => if s then some (.nxt x) else none
  | .makeInterface t x => (match P.underlying t with | some (.interface _) | none => none | _ => some (.mkif t x))
  | .call c => ccall P c
  | _ => none
def SOp.mem : SOp → Bool
  | .b2s _ | .eadr _ _ _ | .load _ _ _ | .store _ _ _ | .box _ _ | .alloc _ _ | .ssl _ _ _ _ | .app _ _ _ _ _ | .call _ _ | .callv _ _ => true
  | .mkmap _ | .mget _ _ _ _ _ | .mset _ _ _ _ | .ment _ _ _ _ | .mst _ _ _ | .mlen _ | .mksl _ _ _ _ _ _ | .copy _ _ _ | .rng _ | .nxt _ => true
  | _ => false
/-- What is not known stands for what is never done. -/
def copS (P : Program) (o : Op) : SOp := match cop P o with | some s => s | none => .stuck
def coper (P : Program) (n : Nat) (ops : Array Oper) (o : Oper) : Option SOper := do
  let g ← (match o.guard with
    | none => some none
    | some (j, b) => (match (ops[j]?).bind (·.dst) with | some t => some (some (t, b)) | none => none))
  if o.dst.all (· < n) then pure ⟨o.dst, copS P o.op, g⟩ else none

def dd : List Nat → List Nat
  | [] => []
  | x :: l => if (dd l).contains x then dd l else x :: dd l
/-- Of each operation those that come before it. -/
def befs : List Oper → List (List Nat) → List (List Nat)
  | [], acc => acc
  | o :: os, acc => befs os (acc ++ [dd ((o.after.toList.filter (Region.binds .any)).flatMap fun e => e.on :: acc.getD e.on [])])
/-- Pairs of operations that no edge orders, and that look at memory. -/
def openPairs (ops : Array Oper) (mem : List Bool) : List (Nat × Nat) :=
  let b := befs ops.toList []
  (List.range ops.size).flatMap fun j => if mem.getD j true then (List.range j).filterMap fun i => if !mem.getD i true || (b.getD j []).contains i then none else some (i, j) else []
def compile (P : Program) (n : Nat) (rf : Bool) : Code → Option SCode
  | .skip => some .skip
  | .region _ ops false => (ops.toList.mapM (coper P n ops)).map .region
  | .region _ ops true => if Region.lexB .any ops then (ops.toList.mapM (coper P n ops)).map fun l => .drawn l ((1000000, 1000000) :: openPairs ops (l.map fun o => o.op.mem)) else some .stuck
  | .seq a b => do let x ← compile P n rf a; let y ← compile P n rf b; pure (.seq x y)
  | .cond c a b => do let x ← compile P n rf a; let y ← compile P n rf b; pure (.cond c x y)
  | .block id b => (compile P n rf b).map (.block id)
  | .loop b => (compile P n rf b).map .loop
  | .exit id => some (.exit id)
  | .ret => some .ret
  | .rangeFunc g ps a b => if rf = true ∧ ps.toList.all (· < n) = true then do let x ← compile P n false a; let y ← compile P n false b; pure (.rangef g ps.toList x y) else some .stuck
  | _ => some .stuck
end Go.Wt
/- What it is for code to do right by abstract states: from the code alone, loops by what holds at their heads. -/
namespace Go.Wt
open Go.RowKit

mutual
def DV.ren (ρ : List (Nm × Nm)) : DV → DV
  | .t x => .t x
  | .agg l => .agg (DV.renL ρ l)
  | .tup l => .tup (DV.renL ρ l)
  | .ptr s k j => match ρ.lookup s with | some s' => .ptr s' k j | none => .junk
  | .tp x j => .tp x j
  | .osl s n => match ρ.lookup s with | some s' => .osl s' n | none => .junk
  | .fn f l => .fn f (DV.renL ρ l)
  | .mfn f p l => .mfn f (DV.renL ρ p) (DV.renL ρ l)
  | .mp s => match ρ.lookup s with | some s' => .mp s' | none => .junk
  | .yl => match ρ.lookup .yl with | some _ => .yl | none => .junk
  | .wh b want d => .wh b want (d.ren ρ)
  | .junk => .junk
def DV.renL (ρ : List (Nm × Nm)) : List DV → List DV
  | [] => []
  | d :: l => d.ren ρ :: DV.renL ρ l
end
def OR.ren (ρ : List (Nm × Nm)) : OR → OR
  | .mp es c => .mp (es.map fun e => (e.1, e.2.1.ren ρ, e.2.2)) c
  | .it s p => .it s p
  | .dfr => .dfr
def Row.ren (ρ : List (Nm × Nm)) : Row → Row
  | .box e d fz => .box e (d.ren ρ) fz
  | .rows e m l fz => .rows e m l fz
  | .obj o fz => .obj (o.ren ρ) fz
def flip (ρ : List (Nm × Nm)) : List (Nm × Nm) := ρ.map fun p => (p.2, p.1)
/-- The state under other names; what has no name is forgotten. -/
def Env.canon (ρ : List (Nm × Nm)) (E : Env) : Env where
  tmps := fun t => (E.tmps t).ren ρ
  slots := fun s => match (flip ρ).lookup s with | some s0 => (E.slots s0).map (Row.ren ρ) | none => none
  used := fun s => ((flip ρ).lookup s).isSome
def okRen (ρ : List (Nm × Nm)) : Bool := (ρ.map (·.1)).Nodup && (ρ.map (·.2)).Nodup && ρ.all fun p => p.1 == p.2 || (!p.1.fixed && !p.2.fixed)

/-- Deep memory that a callee reads or writes, told of trees: the contracts of functions; what it is to call what ranges over a function give; what functions that are ranged over hand out. -/
structure CallOk where
  cl : Program → Env → FuncId → List DV → Option Nat → Res → Prop
  yl : Env → List DV → (Bool → Env → Prop) → Prop
  it : Program → FuncId → List DV → List (List Tree) → Prop
instance : CoeFun CallOk (fun _ => Program → Env → FuncId → List DV → Option Nat → Res → Prop) := ⟨CallOk.cl⟩
/-- The same without what ranges give. -/
def CallOk.noY (C : CallOk) : CallOk := { C with yl := fun _ _ _ => False }

structure Log where
  ix : Nat
  rd : List Nm
  wr : List Nm
def Nm.isGlob : Nm → Bool
  | .glob _ => true
  | _ => false
/-- What a call does, in names of its own: globals that it reads, arguments, rows that are handed over; what it hands back, these rows behind it, new rows. -/
structure Ct where
  gs : List (Nat × TypeId × Tree)
  ds : List DV
  rows : List Row
  d : DV
  rows' : List (Option Row)
  new : List Row
def ctSlots (gs : List (Nat × TypeId × Tree)) (rows : List (Option Row)) (new : List Row) : Nm → Option Row
  | .glob g => (gs.lookup g).map fun p => .box p.1 (.t p.2) true
  | .arg i => (rows[i]?).join
  | .loc d k => if d = 0 then new[k]? else none
  | .head _ _ => none
  | .yl => none
def Ct.used0 (k : Ct) : Nm → Bool
  | .glob g => (k.gs.lookup g).isSome
  | .arg i => i < k.rows.length
  | _ => false
def Ct.env (k : Ct) : Env where
  tmps := fun t => k.ds.getD t .junk
  slots := ctSlots k.gs (k.rows.map some) []
  used := k.used0
def Ct.out (k : Ct) : Nm → Option Row := ctSlots [] k.rows' k.new
def Ct.gn (k : Ct) : List Nm := k.gs.map fun p => .glob p.1
def inRen (S : List Nm) (gs : List (Nat × TypeId × Tree)) : List (Nm × Nm) := (S.zipIdx.map fun p => (p.1, Nm.arg p.2)) ++ gs.map fun p => (Nm.glob p.1, Nm.glob p.1)
def outRen (S : List Nm) (d n : Nat) : List (Nm × Nm) := (S.zipIdx.map fun p => (Nm.arg p.2, p.1)) ++ (List.range n).map fun j => (Nm.loc 0 j, Nm.loc d j)
def outUps (S : List Nm) (d : Nat) (k : Ct) : List (Nm × Option Row) :=
  (S.zipIdx.map fun p => (p.1, ((k.rows'[p.2]?).join).map (Row.ren (outRen S d k.new.length)))) ++ k.new.zipIdx.map fun p => (Nm.loc d p.2, some (p.1.ren (outRen S d k.new.length)))
/-- How a caller's state meets a contract: S are the rows that it hands over, F those that are looked at. -/
structure Meets (E : Env) (ds : List DV) (k : Ct) (S F : List Nm) : Prop where
  nd : S.Nodup
  ng : ∀ s ∈ S, s.isGlob = false ∧ s ∉ F
  ny : ∀ s ∈ S, s ≠ .yl
  gs : ∀ p ∈ k.gs, E.slots (.glob p.1) = some (.box p.2.1 (.t p.2.2) true)
  gu : ∀ p ∈ k.gs, E.used (.glob p.1) = true
  gnd : (k.gs.map (·.1)).Nodup
  ln : k.rows.length = S.length
  rw : ∀ (i : Nat) (s : Nm), S[i]? = some s → ∃ r, E.slots s = some r ∧ k.rows[i]? = some (r.ren (inRen S k.gs))
  su : ∀ s ∈ S, E.used s = true
  la : ds.length = k.ds.length
  ar : ∀ (i : Nat) (d d0 : DV), ds[i]? = some d → k.ds[i]? = some d0 → d0 = d.ren (inRen S k.gs) ∨ ∃ x rd, E.view d = some (x, rd) ∧ d0 = .t x ∧ ∀ s ∈ rd, s ∈ F
  fu : ∀ s ∈ F, (E.slots s).isSome = true
/-! ranges over functions -/
/-- All that was handed in is still there. -/
def RHead (k : Ct) (E1 : Env) : Prop := ∀ s, k.env.used s = true → E1.used s = true
def putAll : List Nat → List Tree → (Nat → DV) → Nat → DV
  | p :: ps, x :: xs, f => putAll ps xs fun t => if t = p then .t x else f t
  | _, _, f => f
/-- A round's state. -/
def rRound (E : Env) (S : List Nm) (k : Ct) (ps : List Nat) (x : List Tree) (E1 : Env) : Env where
  tmps := putAll ps x fun t => (E.tmps t).ren (inRen S k.gs)
  slots := E1.slots
  used := E1.used
/-- Behind the last round. -/
def RDone (E : Env) (S F : List Nm) (d : Nat) (K : Env → Prop) (E3 : Env) : Prop :=
  ∃ (k' : Ct) (ρ : List (Nm × Nm)), okRen ρ = true ∧ (E3.canon ρ).slots = k'.out ∧ (∀ j, j < k'.new.length → E.used (.loc d j) = false) ∧ K (E.upd (outUps S d k' ++ frz E F))
def apartL (a : Log) (rd wr : List Nm) : Bool := a.wr.all (fun s => !rd.contains s && !wr.contains s) && a.rd.all (fun s => !wr.contains s)
def okLog (pr : List (Nat × Nat)) (ix : Nat) (log : List Log) (r : Res) : Bool :=
  (log.all fun a => !pr.contains (a.ix, ix) || apartL a r.rd (r.ups.map (·.1))) && r.ups.all fun p => !p.1.isGlob
def addLog (pr : List (Nat × Nat)) (ix : Nat) (rd wr : List Nm) (log : List Log) : List Log := if pr.isEmpty || (rd.isEmpty && wr.isEmpty) then log else ⟨ix, rd, wr⟩ :: log
def Br (b : Bool) (X Y : Prop) : Prop := (b = true → X) ∧ (b = false → Y)
@[simp] theorem Br_true (X Y : Prop) : Br true X Y = X := by simp [Br]
@[simp] theorem Br_false (X Y : Prop) : Br false X Y = Y := by simp [Br]
@[congr] theorem Br_congr {b b' : Bool} {X Y : Prop} (h : b = b') : Br b X Y = Br b' X Y := by rw [h]

def thenK (n : Env → Prop) (K : Exit → Env → Prop) : Exit → Env → Prop
  | .normal, E => n E
  | e, E => K e E
def blockK (id : Nat) (K : Exit → Env → Prop) : Exit → Env → Prop
  | .exit i, E => if i = id then K .normal E else K (.exit i) E
  | e, E => K e E

/-- One operation, and what follows; under a test that has said yes it has nothing but a value. -/
def OpW (P : Program) (C : CallOk) (pr : List (Nat × Nat)) (ix : Nat) (log : List Log) (dst : Option Nat) (E : Env) (next : Res → Prop) (op : SOp) : Prop :=
  let go : Res → Prop := fun r => okLog pr ix log r = true ∧ next r
  match op with
  | .call f args => ∃ r, C P E f (args.map E.ev) dst r ∧ go r
  | .callv x args => ∃ f pre caps r, (E.ev x).callee = some (f, pre, caps) ∧ C P E f (pre ++ args.map E.ev ++ caps) dst r ∧ go r
  | op => ∃ r, op.den P E dst = some r ∧ go r
/-- A slice that may be nil, for all that is known. -/
def DV.nilable : DV → Bool
  | .t .e0 | .t (.sl _ []) => true
  | _ => false
def DV.slD : DV → Bool
  | .t .e0 | .t (.sl _ _) => true
  | _ => false
def slT (P : Program) (t : TypeId) : Bool := match P.underlying t with | some (.slice _) => true | _ => false
def nilO : Operand → Bool
  | .const (.slice none 0 0) => true
  | _ => false
/-- A call of what a range gives; whether a slice is nil, of which may be told nothing. -/
def YldW (P : Program) (C : CallOk) (E : Env) (dst : Option Nat) (next : Env → Prop) : SOp → Prop
  | .callv x args => E.ev x = .yl ∧ C.yl E (args.map E.ev) fun b E' => next (E'.putO dst (.t (.v (.bool b))))
  | .bin op t x y => ∃ neq, isEq op = some neq ∧ slT P t = true ∧ nilO y = true ∧ (E.ev x).slD = true ∧ ∀ b, (b = true → (E.ev x).nilable = true) → next (E.putO dst (.t (.v (.bool (b != neq)))))
  | _ => False
def Env.aft (E : Env) (dst : Option Nat) (r : Res) : Env := r.apply dst E
/-- The operations of a region, one by one; pr: the pairs that have no order, if the region draws one. -/
def OpsW (P : Program) (C : CallOk) (pr : List (Nat × Nat)) : Nat → List Log → List SOper → Env → (Env → Prop) → Prop
  | _, _, [], E, K => K E
  | ix, log, o :: rest, E, K =>
    let next : Res → Prop := fun r => OpsW P C pr (ix + 1) (addLog pr ix r.rd (r.ups.map (·.1)) log) rest (r.apply o.dst E) K
    match o.guard with
    | none => OpW P C pr ix log o.dst E next o.op ∨ (pr = [] ∧ YldW P C E o.dst (fun E' => OpsW P C pr (ix + 1) log rest E' K) o.op)
    | some (t, want) => (E.tmps t = .tup [] ∧ OpsW P C pr (ix + 1) log rest (E.putO o.dst (.tup [])) K) ∨ ∃ b, E.tmps t = .t (.v (.bool b)) ∧
      (Br (b == want) (OpW P C pr ix log o.dst E next o.op ∨ (pr = [] ∧ YldW P C E o.dst (fun E' => OpsW P C pr (ix + 1) log rest E' K) o.op)) (OpsW P C pr (ix + 1) log rest (E.putO o.dst (.tup [])) K) ∨
       OpW P C pr ix log o.dst (E.under b want) (fun r => r.ups = [] ∧ OpsW P C pr (ix + 1) (addLog pr ix r.rd [] log) rest (E.putO o.dst (.wh b want r.d)) K) o.op)

def W (P : Program) (C : CallOk) : SCode → Env → (Exit → Env → Prop) → Prop
  | .skip, E, K => K .normal E
  | .region ops, E, K => OpsW P C [] 0 [] ops E (K .normal)
  | .drawn ops pr, E, K => pr ≠ [] ∧ OpsW P C pr 0 [] ops E (K .normal)
  | .seq a b, E, K => W P C a E (thenK (fun E' => W P C b E' K) K)
  | .cond c x y, E, K => ∃ b, E.ev c = .t (.v (.bool b)) ∧ Br b (W P C x E K) (W P C y E K)
  | .block id b, E, K => W P C b E (blockK id K)
  | .loop b, E, K => ∃ (I : Env → Prop) (m : Env → Nat), (∃ ρ, okRen ρ = true ∧ I (E.canon ρ)) ∧
      ∀ E1, I E1 → W P C b E1 (thenK (fun E' => ∃ ρ, okRen ρ = true ∧ I (E'.canon ρ) ∧ m (E'.canon ρ) < m E1) K)
  | .exit id, E, K => K (.exit id) E
  | .ret, E, K => K .ret E
  | .stuck, _, _ => False
  | .rangef g ps a b, E, K => ∃ (f : FuncId) (caps : List DV) (ts : List DV) (F : List Nm) (xs : List (List Tree)) (S : List Nm) (k : Ct) (d : Nat) (I : Nat → Env → Prop),
      E.ev g = .fn f caps ∧ E.viewps caps = some (ts, F) ∧ C.it P f ts xs ∧ (∀ x ∈ xs, x.length = ps.length) ∧ Meets E [] k S F ∧ I 0 k.env ∧
      (∀ (i : Nat) (x : List Tree) (E1 : Env), xs[i]? = some x → I i E1 → RHead k E1 →
        W P C.noY a (rRound E S k ps x E1) (fun e E2 => e = .normal ∧ W P C.noY b E2 (fun e E3 => match e with
           | .normal => ∃ ρ, okRen ρ = true ∧ RHead k (E3.canon ρ) ∧ I (i + 1) (E3.canon ρ)
           | .ret => RDone E S F d (K .ret) E3
           | .exit id => RDone E S F d (K (.exit id)) E3
           | _ => False))) ∧
      (∀ E1, I xs.length E1 → RHead k E1 → RDone E S F d (K .normal) E1)

theorem iffEq {a b : Prop} (h : a ↔ b) : a = b := propext h
/-! the same in steps -/
inductive Fr where
  | code (c : SCode)
  | blk (id : Nat)
  | again (K : Env → Prop)
def contOf (P : Program) (C : CallOk) (Q : Exit → Env → Prop) : List Fr → Exit → Env → Prop
  | [] => Q
  | .code c :: k => thenK (fun E => W P C c E (contOf P C Q k)) (contOf P C Q k)
  | .blk id :: k => blockK id (contOf P C Q k)
  | .again K :: k => thenK K (contOf P C Q k)
variable {P : Program} {C : CallOk} {Q : Exit → Env → Prop} {k : List Fr} {E : Env}
def Run (P : Program) (C : CallOk) (Q : Exit → Env → Prop) (k : List Fr) (E : Env) : Prop := contOf P C Q k .normal E
def Exi (P : Program) (C : CallOk) (Q : Exit → Env → Prop) (id : Nat) (k : List Fr) (E : Env) : Prop := contOf P C Q k (.exit id) E
def Rtn (P : Program) (C : CallOk) (Q : Exit → Env → Prop) (k : List Fr) (E : Env) : Prop := contOf P C Q k .ret E
def Ops (P : Program) (C : CallOk) (Q : Exit → Env → Prop) (k : List Fr) (pr : List (Nat × Nat)) (ix : Nat) (log : List Log) (ops : List SOper) (E : Env) : Prop := OpsW P C pr ix log ops E (contOf P C Q k .normal)
def LoopG (P : Program) (C : CallOk) (Q : Exit → Env → Prop) (k : List Fr) (b : SCode) (E : Env) : Prop := W P C (.loop b) E (contOf P C Q k)
@[simp] theorem Run_nil : Run P C Q [] E = Q .normal E := iffEq Iff.rfl
@[simp] theorem Run_skip : Run P C Q (.code .skip :: k) E = Run P C Q k E := iffEq Iff.rfl
@[simp] theorem Run_region (ops : List SOper) : Run P C Q (.code (.region ops) :: k) E = Ops P C Q k [] 0 [] ops E := iffEq Iff.rfl
@[simp] theorem Run_drawn (ops : List SOper) (pr : List (Nat × Nat)) : Run P C Q (.code (.drawn ops pr) :: k) E = (pr ≠ [] ∧ Ops P C Q k pr 0 [] ops E) := iffEq Iff.rfl
@[simp] theorem Run_stuck : Run P C Q (.code .stuck :: k) E = False := iffEq Iff.rfl
/-- A range over a function. -/
def RngG (P : Program) (C : CallOk) (Q : Exit → Env → Prop) (k : List Fr) (g : Operand) (ps : List Nat) (a b : SCode) (E : Env) : Prop := W P C (.rangef g ps a b) E (contOf P C Q k)
@[simp] theorem Run_rangef (g : Operand) (ps : List Nat) (a b : SCode) : Run P C Q (.code (.rangef g ps a b) :: k) E = RngG P C Q k g ps a b E := iffEq Iff.rfl
@[simp] theorem Run_seq (a b : SCode) : Run P C Q (.code (.seq a b) :: k) E = Run P C Q (.code a :: .code b :: k) E := iffEq Iff.rfl
@[simp] theorem Run_block (id : Nat) (b : SCode) : Run P C Q (.code (.block id b) :: k) E = Run P C Q (.code b :: .blk id :: k) E := iffEq Iff.rfl
@[simp] theorem Run_blk (id : Nat) : Run P C Q (.blk id :: k) E = Run P C Q k E := iffEq Iff.rfl
@[simp] theorem Run_again (K : Env → Prop) : Run P C Q (.again K :: k) E = K E := iffEq Iff.rfl
@[simp] theorem Run_loop (b : SCode) : Run P C Q (.code (.loop b) :: k) E = LoopG P C Q k b E := iffEq Iff.rfl
@[simp] theorem Run_exit (id : Nat) : Run P C Q (.code (.exit id) :: k) E = Exi P C Q id k E := iffEq Iff.rfl
@[simp] theorem Run_ret : Run P C Q (.code .ret :: k) E = Rtn P C Q k E := iffEq Iff.rfl
@[simp] theorem Exi_nil (id : Nat) : Exi P C Q id [] E = Q (.exit id) E := iffEq Iff.rfl
@[simp] theorem Exi_code (id : Nat) (c : SCode) : Exi P C Q id (.code c :: k) E = Exi P C Q id k E := iffEq Iff.rfl
@[simp] theorem Exi_again (id : Nat) (K : Env → Prop) : Exi P C Q id (.again K :: k) E = Exi P C Q id k E := iffEq Iff.rfl
@[simp] theorem Exi_blk (id i : Nat) : Exi P C Q i (.blk id :: k) E = if i = id then Run P C Q k E else Exi P C Q i k E := iffEq Iff.rfl
@[simp] theorem Rtn_nil : Rtn P C Q [] E = Q .ret E := iffEq Iff.rfl
@[simp] theorem Rtn_code (c : SCode) : Rtn P C Q (.code c :: k) E = Rtn P C Q k E := iffEq Iff.rfl
@[simp] theorem Rtn_blk (id : Nat) : Rtn P C Q (.blk id :: k) E = Rtn P C Q k E := iffEq Iff.rfl
@[simp] theorem Rtn_again (K : Env → Prop) : Rtn P C Q (.again K :: k) E = Rtn P C Q k E := iffEq Iff.rfl
/-- A test. -/
def Cnd (P : Program) (C : CallOk) (Q : Exit → Env → Prop) (k : List Fr) (x y : SCode) (E : Env) (d : DV) : Prop :=
  ∃ b, d = .t (.v (.bool b)) ∧ Br b (Run P C Q (.code x :: k) E) (Run P C Q (.code y :: k) E)
@[simp] theorem Run_cond (c : Operand) (x y : SCode) : Run P C Q (.code (.cond c x y) :: k) E = Cnd P C Q k x y E (E.ev c) := iffEq Iff.rfl
@[simp] theorem Cnd_bool (x y : SCode) (b : Bool) : Cnd P C Q k x y E (.t (.v (.bool b))) = Br b (Run P C Q (.code x :: k) E) (Run P C Q (.code y :: k) E) := by
  refine propext ⟨fun ⟨b', h, r⟩ => ?_, fun h => ⟨b, rfl, h⟩⟩
  cases h; exact r
/-- Behind an operation that came to this. -/
def Stp (P : Program) (C : CallOk) (Q : Exit → Env → Prop) (k : List Fr) (pr : List (Nat × Nat)) (ix : Nat) (log : List Log) (dst : Option Nat) (rest : List SOper) (E : Env) : Option (Bool × Bool) → Option Res → Prop
  | none, some r => okLog pr ix log r = true ∧ Ops P C Q k pr (ix + 1) (addLog pr ix r.rd (r.ups.map (·.1)) log) rest (r.apply dst E)
  | some g, some r => okLog pr ix log r = true ∧ r.ups = [] ∧ Ops P C Q k pr (ix + 1) (addLog pr ix r.rd [] log) rest (E.putO dst (.wh g.1 g.2 r.d))
  | _, none => False
def Env.und (E : Env) : Option (Bool × Bool) → Env
  | none => E
  | some g => E.under g.1 g.2
def CallG (P : Program) (C : CallOk) (Q : Exit → Env → Prop) (k : List Fr) (pr : List (Nat × Nat)) (ix : Nat) (log : List Log) (dst : Option Nat) (rest : List SOper) (E : Env) (g : Option (Bool × Bool)) (f : FuncId) (ds : List DV) : Prop :=
  ∃ r, C P (E.und g) f ds dst r ∧ Stp P C Q k pr ix log dst rest E g (some r)
def CallvG (P : Program) (C : CallOk) (Q : Exit → Env → Prop) (k : List Fr) (pr : List (Nat × Nat)) (ix : Nat) (log : List Log) (dst : Option Nat) (rest : List SOper) (E : Env) (g : Option (Bool × Bool)) (ds : List DV) (x : DV) : Prop :=
  (∃ f pre caps, x.callee = some (f, pre, caps) ∧ CallG P C Q k pr ix log dst rest E g f (pre ++ ds ++ caps)) ∨
    (g = none ∧ pr = [] ∧ x = .yl ∧ C.yl E ds fun b E' => Ops P C Q k pr (ix + 1) log rest (E'.putO dst (.t (.v (.bool b)))))
def isNilB (bop : BinOp) (y : Operand) : Bool := (isEq bop).isSome && nilO y
/-- A test of two values. -/
def BinG (P : Program) (C : CallOk) (Q : Exit → Env → Prop) (k : List Fr) (pr : List (Nat × Nat)) (ix : Nat) (log : List Log) (dst : Option Nat) (rest : List SOper) (E : Env) (g : Option (Bool × Bool)) (bop : BinOp) (t : TypeId) (x y : Operand) : Bool → DV → DV → Prop
  | false, d, d' => Stp P C Q k pr ix log dst rest E g (dBin P bop t x y d d')
  | true, d, d' => Stp P C Q k pr ix log dst rest E g (dBin P bop t x y d d') ∨
    (g = none ∧ pr = [] ∧ ∃ neq, isEq bop = some neq ∧ slT P t = true ∧ d.slD = true ∧ ∀ b, (b = true → d.nilable = true) → Ops P C Q k pr (ix + 1) log rest (E.putO dst (.t (.v (.bool (b != neq))))))
@[simp] theorem BinG_false {g : Option (Bool × Bool)} {bop : BinOp} {t : TypeId} {x y : Operand} {d d' : DV} {dst : Option Nat} {rest : List SOper} {pr : List (Nat × Nat)} {ix : Nat} {log : List Log} : BinG P C Q k pr ix log dst rest E g bop t x y false d d' = Stp P C Q k pr ix log dst rest E g (dBin P bop t x y d d') := rfl
def OpG (P : Program) (C : CallOk) (Q : Exit → Env → Prop) (k : List Fr) (pr : List (Nat × Nat)) (ix : Nat) (log : List Log) (dst : Option Nat) (rest : List SOper) (E : Env) (g : Option (Bool × Bool)) : SOp → Prop
  | .call f args => CallG P C Q k pr ix log dst rest E g f (args.map (E.und g).ev)
  | .callv x args => CallvG P C Q k pr ix log dst rest E g (args.map (E.und g).ev) ((E.und g).ev x)
  | .bin bop t x y => BinG P C Q k pr ix log dst rest E g bop t x y (isNilB bop y) ((E.und g).ev x) ((E.und g).ev y)
  | op => Stp P C Q k pr ix log dst rest E g (op.den P (E.und g) dst)
def GrdG (P : Program) (C : CallOk) (Q : Exit → Env → Prop) (k : List Fr) (pr : List (Nat × Nat)) (ix : Nat) (log : List Log) (dst : Option Nat) (rest : List SOper) (E : Env) (want : Bool) (op : SOp) (d : DV) : Prop :=
  (d = .tup [] ∧ Ops P C Q k pr (ix + 1) log rest (E.putO dst (.tup []))) ∨ ∃ b, d = .t (.v (.bool b)) ∧ (Br (b == want) (OpG P C Q k pr ix log dst rest E none op) (Ops P C Q k pr (ix + 1) log rest (E.putO dst (.tup []))) ∨ OpG P C Q k pr ix log dst rest E (some (b, want)) op)
variable {pr : List (Nat × Nat)} {ix : Nat} {log : List Log} {rest : List SOper} {dst : Option Nat}
@[simp] theorem Ops_nil : Ops P C Q k pr ix log [] E = Run P C Q k E := iffEq Iff.rfl
theorem Stp_iff (g : Option (Bool × Bool)) (x : Option Res) : Stp P C Q k pr ix log dst rest E g x ↔ ∃ r, x = some r ∧ Stp P C Q k pr ix log dst rest E g (some r) := by
  cases x with
  | none => cases g <;> simp [Stp]
  | some r => simp
theorem OpW_none (op : SOp) : (OpW P C pr ix log dst E (fun r => Ops P C Q k pr (ix + 1) (addLog pr ix r.rd (r.ups.map (·.1)) log) rest (r.apply dst E)) op ∨ (pr = [] ∧ YldW P C E dst (fun E' => Ops P C Q k pr (ix + 1) log rest E') op)) = OpG P C Q k pr ix log dst rest E none op := by
  cases op
  case call f args => exact propext ⟨fun h => h.elim id fun h => h.2.elim, .inl⟩
  case callv x args =>
    simp only [OpG, CallG, CallvG, OpW, YldW, Env.und]
    refine propext ⟨fun h => ?_, fun h => ?_⟩
    · rcases h with ⟨f, p, c, r, h1, h2⟩ | ⟨h1, h2, h3⟩
      · exact .inl ⟨f, p, c, h1, r, h2⟩
      · exact .inr ⟨trivial, h1, h2, h3⟩
    · rcases h with ⟨f, p, c, h1, r, h2⟩ | ⟨_, h1, h2, h3⟩
      · exact .inl ⟨f, p, c, r, h1, h2⟩
      · exact .inr ⟨h1, h2, h3⟩
  case bin bop t x y =>
    simp only [OpW, OpG, Env.und, YldW]
    cases hn : isNilB bop y with
    | false =>
      simp only [isNilB, Bool.and_eq_false_iff] at hn
      refine propext ⟨fun h => h.elim (fun h => (Stp_iff none _).2 h) fun ⟨_, neq, h1, _, h3, _⟩ => ?_, fun h => .inl ((Stp_iff none _).1 h)⟩
      rw [h1, h3] at hn
      simp at hn
    | true =>
      simp only [isNilB, Bool.and_eq_true] at hn
      refine propext ⟨fun h => h.elim (fun h => .inl ((Stp_iff none _).2 h)) fun ⟨h0, neq, h1, h2, _, h4, h5⟩ => .inr ⟨rfl, h0, neq, h1, h2, h4, h5⟩, fun h => h.elim (fun h => .inl ((Stp_iff none _).1 h)) fun ⟨_, h0, neq, h1, h2, h4, h5⟩ => .inr ⟨h0, neq, h1, h2, hn.2, h4, h5⟩⟩
  all_goals (simp only [OpW, OpG, Env.und, YldW]; exact propext ⟨fun h => h.elim (fun h => (Stp_iff none _).2 h) fun h => h.2.elim, fun h => .inl ((Stp_iff none _).1 h)⟩)
theorem OpW_some (g : Bool × Bool) (op : SOp) : OpW P C pr ix log dst (E.under g.1 g.2) (fun r => r.ups = [] ∧ Ops P C Q k pr (ix + 1) (addLog pr ix r.rd [] log) rest (E.putO dst (.wh g.1 g.2 r.d))) op = OpG P C Q k pr ix log dst rest E (some g) op := by
  cases op
  case call f args => rfl
  case callv x args =>
    simp only [OpG, CallG, CallvG, OpW, Env.und]
    refine propext ⟨fun ⟨f, p, c, r, h1, h2⟩ => .inl ⟨f, p, c, h1, r, h2⟩, fun h => ?_⟩
    rcases h with ⟨f, p, c, h1, r, h2⟩ | ⟨h0, _⟩
    · exact ⟨f, p, c, r, h1, h2⟩
    · simp at h0
  case bin bop t x y =>
    simp only [OpW, OpG, Env.und]
    cases isNilB bop y with
    | false => exact propext (Stp_iff (some g) _).symm
    | true => exact propext ⟨fun h => .inl ((Stp_iff (some g) _).2 h), fun h => h.elim (fun h => (Stp_iff (some g) _).1 h) fun h => by simp at h⟩
  all_goals (simp only [OpW, OpG, Env.und]; exact propext (Stp_iff (some g) _).symm)
@[simp] theorem Ops_cons (op : SOp) : Ops P C Q k pr ix log (⟨dst, op, none⟩ :: rest) E = OpG P C Q k pr ix log dst rest E none op := OpW_none op
@[simp] theorem Ops_guard (op : SOp) (t : Nat) (want : Bool) : Ops P C Q k pr ix log (⟨dst, op, some (t, want)⟩ :: rest) E = GrdG P C Q k pr ix log dst rest E want op (E.tmps t) := by
  refine propext (or_congr Iff.rfl (exists_congr fun b => ?_))
  refine and_congr_right fun _ => ?_
  exact or_congr (by rw [← OpW_none]; rfl) (by rw [← OpW_some]; rfl)
@[simp] theorem GrdG_tup {want : Bool} {op : SOp} : GrdG P C Q k pr ix log dst rest E want op (.tup []) = Ops P C Q k pr (ix + 1) log rest (E.putO dst (.tup [])) := by
  refine propext ⟨fun h => ?_, fun h => .inl ⟨rfl, h⟩⟩
  rcases h with ⟨_, h⟩ | ⟨b, h, _⟩
  · exact h
  · cases h
theorem GrdG_br {want b : Bool} {op : SOp} (h : Br (b == want) (OpG P C Q k pr ix log dst rest E none op) (Ops P C Q k pr (ix + 1) log rest (E.putO dst (.tup [])))) : GrdG P C Q k pr ix log dst rest E want op (.t (.v (.bool b))) := .inr ⟨b, rfl, .inl h⟩
theorem GrdG_un {want b : Bool} {op : SOp} (h : OpG P C Q k pr ix log dst rest E (some (b, want)) op) : GrdG P C Q k pr ix log dst rest E want op (.t (.v (.bool b))) := .inr ⟨b, rfl, .inr h⟩
theorem GrdG_yes {b : Bool} {op : SOp} (h : OpG P C Q k pr ix log dst rest E none op) : GrdG P C Q k pr ix log dst rest E b op (.t (.v (.bool b))) := GrdG_br (by simp [h])
theorem GrdG_no {b : Bool} {op : SOp} (h : Ops P C Q k pr (ix + 1) log rest (E.putO dst (.tup []))) : GrdG P C Q k pr ix log dst rest E (!b) op (.t (.v (.bool b))) := GrdG_br (by cases b <;> simp [h])
/-- Behind a round. -/
def Again (I : Env → Prop) (m : Env → Nat) (ns : List Nm) (n : Nat) (E' : Env) : Prop := ∃ ρ, okRen ρ = true ∧ ρ.map (·.2) = ns ∧ I (E'.canon ρ) ∧ m (E'.canon ρ) < n
theorem canon_names (E : Env) (ρ : List (Nm × Nm)) : (E.canon ρ).used = (fun s => (ρ.map (·.2)).contains s) ∧ (∀ s, (ρ.map (·.2)).contains s = false → (E.canon ρ).slots s = none) := by
  have hk : ∀ s, ((flip ρ).lookup s).isSome = (ρ.map (·.2)).contains s := by
    intro s
    induction ρ with
    | nil => simp [flip]
    | cons p ρ ih =>
      simp only [flip, List.map_cons, List.lookup] at ih ⊢
      by_cases he : s = p.2
      · subst he; simp
      · have hb : (s == p.2) = false := by simpa using he
        simp only [hb, List.contains_cons, Bool.false_or]
        exact ih
  refine ⟨funext hk, fun s hs => ?_⟩
  have : (flip ρ).lookup s = none := by
    have := hk s
    rw [hs] at this
    simpa using this
  show (match (flip ρ).lookup s with | some s0 => (E.slots s0).map (Row.ren ρ) | none => none) = none
  rw [this]
theorem loop_rule {b : SCode} (I : Env → Prop) (m : Env → Nat) (ρ : List (Nm × Nm)) (h0 : okRen ρ = true) (h1 : I (E.canon ρ))
    (h2 : ∀ E1, I E1 → E1.used = (fun s => (ρ.map (·.2)).contains s) → (∀ s, (ρ.map (·.2)).contains s = false → E1.slots s = none) →
      ∀ A : Env → Prop, (∀ E', Again I m (ρ.map (·.2)) (m E1) E' → A E') → Run P C Q (.code b :: .again A :: k) E1) : LoopG P C Q k b E :=
  ⟨fun E1 => I E1 ∧ E1.used = (fun s => (ρ.map (·.2)).contains s) ∧ ∀ s, (ρ.map (·.2)).contains s = false → E1.slots s = none, m, ⟨ρ, h0, h1, (canon_names E ρ).1, (canon_names E ρ).2⟩,
    fun E1 hi => h2 E1 hi.1 hi.2.1 hi.2.2 _ fun E' ⟨ρ', q1, q2, q3, q4⟩ => ⟨ρ', q1, ⟨q3, by rw [← q2]; exact (canon_names E' ρ').1, by rw [← q2]; exact (canon_names E' ρ').2⟩, q4⟩⟩
/-- Rounds that are told one by one. -/
def Unr (P : Program) (C : CallOk) (b : SCode) (K : Exit → Env → Prop) : Nat → Env → Prop
  | 0, _ => False
  | n + 1, E => ∃ ρ, okRen ρ = true ∧ W P C b (E.canon ρ) (thenK (Unr P C b K n) K)
theorem again_rule {I : Env → Prop} {m : Env → Nat} {ns : List Nm} {n : Nat} (ρ : List (Nm × Nm)) (h0 : okRen ρ = true) (h1 : ρ.map (·.2) = ns) (h2 : I (E.canon ρ)) (h3 : m (E.canon ρ) < n) : Again I m ns n E := ⟨ρ, h0, h1, h2, h3⟩
/-- What a function hands back. -/
inductive SRes where
  | tmp (t : Nat)
  | cell (t n : Nat) (agg : Bool)
def SRes.val (E : Env) : SRes → Option DV
  | .tmp t => some (E.tmps t)
  | .cell t n agg => (dLoad E n agg (E.tmps t)).map (·.d)
def resV (E : Env) : List SRes → Option DV
  | [] => some (.tup [])
  | [r] => r.val E
  | l => (l.mapM (SRes.val E)).map .tup
def FinK (K : DV → Env → Prop) (E : Env) : Option DV → Prop
  | some d => K d E
  | none => False
/-- At the end of a function. -/
def Fin (rs : List SRes) (K : DV → Env → Prop) : Exit → Env → Prop
  | .normal, E => FinK K E (resV E rs)
  | .ret, E => FinK K E (resV E rs)
  | _, _ => False
@[simp] theorem Fin_normal (rs : List SRes) (K : DV → Env → Prop) : Fin rs K .normal E = FinK K E (resV E rs) := iffEq Iff.rfl
@[simp] theorem Fin_ret (rs : List SRes) (K : DV → Env → Prop) : Fin rs K .ret E = FinK K E (resV E rs) := iffEq Iff.rfl
@[simp] theorem FinK_some (K : DV → Env → Prop) (d : DV) : FinK K E (some d) = K d E := iffEq Iff.rfl
end Go.Wt
