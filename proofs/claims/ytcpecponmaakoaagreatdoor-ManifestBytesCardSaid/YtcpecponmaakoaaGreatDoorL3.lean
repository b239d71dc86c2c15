/- What Load holds while it reads; laws on stores into variables of the call's own. -/
import Derived.Test.YtcpecponmaakoaaGreatDoorL2
namespace Go.Proofs.YtcpecponmaakoaaGreatDoor
open Go.RowKit Go.Wm Go.Lib
/-- A variable of the call's own written. -/
theorem wpList_store_var {P : Program} {w : World} {ops : Array Oper} {rest : List Oper} {o : Oper} {a : Act} {Q : Exit → Act → World → Prop} (hgd : o.guard = none) (ty : TypeId) (x y : Operand) (ho : o.op = .store ty x y) (hi : (P.info? ty).map (·.size) = some 1)
    (B : Nat) (t : TypeId) (old u : Value) (hV : VarAt w B t old) (hx : a.eval x = .pointer (some ⟨B, 0, none⟩)) (hy : a.eval y = u) (h1 : u.oneCell' = true)
    (h : ∀ w', VarAt w' B t u → w.grownBy w' (some B) → w'.heap.size = w.heap.size → wpList P ops Q rest (a.put o.dst undef) w') : wpList P ops Q (o :: rest) a w := by
  subst hy
  refine wpList_store_one hgd ty x y ho B hx h1 t old hV hi ?_
  exact h _ (setRow_heap w B _ _ t (0, 0) hV) ⟨rfl, rfl, rfl, by simp, fun k _ hk => setRow_other w B k _ (fun e => hk (by rw [e]))⟩ (by simp)
theorem heap_kept {w w' : World} {B C : Nat} {X : Obj} (h : w.heap[C]? = some X) (hg : w.grownBy w' (some B)) (hne : C ≠ B) : w'.heap[C]? = some X := by
  rw [hg.block C (Array.getElem?_eq_some_iff.1 h).1 (by simpa using hne)]; exact h
theorem row3 {w : World} {B : Nat} {x y z : Value} {t : TypeId} (h : w.heap[B]? = some (.cells #[x, y, z] t (0, 0))) :
    w.cell? ⟨B, 0, none⟩ = some x ∧ w.cell? ⟨B, 1, none⟩ = some y ∧ w.cell? ⟨B, 2, none⟩ = some z ∧ (∀ j, w.frozen? ⟨B, j, none⟩ = false) := by
  refine ⟨?_, ?_, ?_, fun j => ?_⟩ <;> simp [World.cell?, World.frozen?, h]
/-- What Load holds while it reads: the bytes, the result, the error, the place. -/
structure LdAt (w : World) (I R E A bb : Nat) (u : Value) (l : List UInt8) (s : Rd) : Prop where
  inp : VarAt w I 43 u
  res : w.heap[R]? = some (.cells #[.int .i64 0, .int .i64 0, .slice none 0 0] 24 (0, 0))
  err : VarAt w E 44 (.int .i64 s.e)
  pos : VarAt w A 3 (.int .i64 s.at')
  own : OwnBytes w bb u l
theorem LdAt.kept {w w' : World} {I R E A bb B : Nat} {u : Value} {l : List UInt8} {s : Rd} (h : LdAt w I R E A bb u l s) (hg : w.grownBy w' (some B)) (h1 : I ≠ B) (h2 : R ≠ B) (h3 : E ≠ B) (h4 : A ≠ B) (h5 : u.ownBlock ≠ some B) : LdAt w' I R E A bb u l s :=
  ⟨heap_kept h.inp hg h1, heap_kept h.res hg h2, heap_kept h.err hg h3, heap_kept h.pos hg h4, World.ownsRow.kept h.own hg (.inr h5)⟩
theorem LdAt.below {w w' : World} {I R E A bb : Nat} {u : Value} {l : List UInt8} {s : Rd} (h : LdAt w I R E A bb u l s) (hb : Below w.heap.size w w') : LdAt w' I R E A bb u l s :=
  ⟨h.inp.below hb, blk_below h.res hb, h.err.below hb, h.pos.below hb, h.own.below hb⟩
theorem own_lt {w : World} {b B : Nat} {v : Value} {l : List UInt8} (h : OwnBytes w b v l) (hB : w.heap.size ≤ B) : v.ownBlock ≠ some B := fun e => by have := (h.lt B e).2; omega
theorem own_ge {w : World} {b B : Nat} {v : Value} {l : List UInt8} (h : OwnBytes w b v l) (hB : B < b) : v.ownBlock ≠ some B := fun e => by have := (h.lt B e).1; omega
def endM (l : List UInt8) (ver next : Int) (r : List Piece × Rd) : (Int × Int × List Piece) × Int :=
  let e4 : Int := if r.2.e = 0 then (if r.2.at' ≠ l.length ∨ checkM ver next r.1 ≠ 0 then 11 else 0) else r.2.e
  if e4 = 0 then ((ver, next, r.1), 0) else ((0, 0, []), e4)
def finishM (l : List UInt8) (ver next n : Int) (s : Rd) : (Int × Int × List Piece) × Int :=
  let e3 : Int := if s.e = 0 then (if n < 0 then 11 else if 256 < n then 2 else 0) else s.e
  endM l ver next (rdPieces l n.toNat ⟨s.at', e3⟩)
theorem endM_err {l : List UInt8} {ver next : Int} {ps : List Piece} {a : Nat} {e : Int} (h : e ≠ 0) : endM l ver next (ps, ⟨a, e⟩) = ((0, 0, []), e) := by
  unfold endM
  simp only [if_neg h]
theorem endM_bad {l : List UInt8} {ver next : Int} {ps : List Piece} {a : Nat} (h : a ≠ l.length ∨ checkM ver next ps ≠ 0) : endM l ver next (ps, ⟨a, 0⟩) = ((0, 0, []), 11) := by
  unfold endM
  simp only [if_true, if_pos h]
  rfl
theorem endM_ok {l : List UInt8} {ver next : Int} {ps : List Piece} {a : Nat} (h1 : a = l.length) (h2 : checkM ver next ps = 0) : endM l ver next (ps, ⟨a, 0⟩) = ((ver, next, ps), 0) := by
  unfold endM
  simp only [if_true, if_neg (show ¬ (a ≠ l.length ∨ checkM ver next ps ≠ 0) by simp [h1, h2])]
theorem rdPieces_bad (l : List UInt8) (k a : Nat) (e : Int) (h : e ≠ 0) : rdPieces l k ⟨a, e⟩ = ([], ⟨a, e⟩) := by
  cases k with
  | zero => rfl
  | succ k => rw [rdPieces, if_neg h]
theorem finishM_bad {l : List UInt8} {ver next n : Int} {s : Rd} {e3 : Int} (h : (if s.e = 0 then (if n < 0 then 11 else if 256 < n then 2 else 0) else s.e) = e3) (h0 : e3 ≠ 0) : finishM l ver next n s = ((0, 0, []), e3) := by
  unfold finishM
  simp only [h, rdPieces_bad l _ _ e3 h0]
  exact endM_err h0
theorem finishM_good {l : List UInt8} {ver next : Int} {n : Nat} {a : Nat} (h2 : n ≤ 256) : finishM l ver next n ⟨a, 0⟩ = endM l ver next (rdPieces l n ⟨a, 0⟩) := by
  unfold finishM
  simp only [if_true, if_neg (show ¬ (n : Int) < 0 by omega), if_neg (show ¬ (256 : Int) < (n : Int) by omega), Int.toNat_natCast]
theorem ownsRow_same {w w' : World} {b : Nat} {e : TypeId} {s : Nat} {v : Value} {n : Nat} {xs : List Value} (h : w.ownsRow b e s v n xs) (hs : ∀ g, v.ownBlock = some g → w'.heap[g]? = w.heap[g]?) : w'.ownsRow b e s v n xs := by
  obtain ⟨h1, h2⟩ := h
  refine ⟨h1, ?_⟩
  rcases h2 with h2 | ⟨g, cap, cur, rfl, hg, hh, r⟩
  · exact .inl h2
  · exact .inr ⟨g, cap, cur, rfl, hg, (hs g rfl).trans hh, r⟩
/-- All that Load holds while it reads pieces. -/
structure LdAll (w : World) (a c : Nat) (u : Value) (l : List UInt8) (s : Rd) (ver next n : Int) (lv : Value) (pcs : List Piece) : Prop where
  ld : LdAt w a (a + 1) c (c + 1) (a + 2) u l s
  num : VarAt w (c + 1 + 1 + 1) 3 (.int .i64 n)
  man : w.heap[c + 1 + 1]? = some (.cells #[.int .i64 ver, .int .i64 next, lv] 24 (0, 0))
  pcs : OwnPcs w (c + 5) lv pcs
  size : c + 5 ≤ w.heap.size
structure LdGeo (a c : Nat) (u : Value) : Prop where
  ac : a + 2 ≤ c
  own : ∀ g, u.ownBlock = some g → a + 2 ≤ g ∧ g < c
theorem LdAll.below {w w' : World} {a c : Nat} {u : Value} {l : List UInt8} {s : Rd} {ver next n : Int} {lv : Value} {pcs : List Piece} (h : LdAll w a c u l s ver next n lv pcs) (hb : Below w.heap.size w w') : LdAll w' a c u l s ver next n lv pcs :=
  ⟨h.ld.below hb, h.num.below hb, blk_below h.man hb, h.pcs.below hb, Nat.le_trans h.size hb.size⟩
theorem LdGeo.apart {a c P : Nat} {u : Value} (h : LdGeo a c u) (hP : c + 5 ≤ P) {qs : List Addr} (hq : ∀ q ∈ qs, q.block = P) : RdApart c a (c + 1) u qs :=
  ⟨by have := h.ac; omega, by omega, by have := h.ac; omega, fun q hq' => by rw [hq q hq']; have := h.ac; omega, fun x n k hx => by
    have := h.own x.block (by rw [hx]; rfl)
    exact ⟨by omega, by omega, fun q hq' => by rw [hq q hq']; omega⟩⟩
theorem LdAll.rdAt {w : World} {a c : Nat} {u : Value} {l : List UInt8} {s : Rd} {ver next n : Int} {lv : Value} {pcs : List Piece} (h : LdAll w a c u l s ver next n lv pcs) (hl : l.length ≤ 20000) {qs : List Addr} (hq : ∀ q ∈ qs, q.spot = none ∧ (∃ u, w.cell? q = some u) ∧ w.frozen? q = false) : RdAt w c a (c + 1) u l s qs :=
  ⟨h.ld.err, h.ld.inp, h.ld.pos, h.ld.own.at (by omega), hq⟩
theorem LdAll.rds {w : World} {a c P : Nat} {u : Value} {l : List UInt8} {s : Rd} {ver next n : Int} {lv : Value} {pcs : List Piece} (h : LdAll w a c u l s ver next n lv pcs) (hl : l.length ≤ 20000) (hg : LdGeo a c u) (hP : c + 5 ≤ P) (hlv : lv.ownBlock ≠ some P) {qs : List Addr} (hqb : ∀ q ∈ qs, q.block = P) (hq : ∀ q ∈ qs, q.spot = none ∧ (∃ u, w.cell? q = some u) ∧ w.frozen? q = false) :
    LdAll (rdsW l c (c + 1) w s qs).1 a c u l (rdsW l c (c + 1) w s qs).2 ver next n lv pcs := by
  have hac := hg.ac
  have hR := RdAt.rds (hg.apart hP hqb) qs (h.rdAt hl hq) (fun q h => h)
  have ho : ∀ T, T ≠ c → T ≠ c + 1 → T ≠ P → (rdsW l c (c + 1) w s qs).1.heap[T]? = w.heap[T]? := fun T h1 h2 h3 => rdsW_other h1 h2 qs fun q hq' => by rw [hqb q hq']; exact h3
  refine ⟨⟨hR.inp, (ho _ (by omega) (by omega) (by omega)).trans h.ld.res, hR.err, hR.pos, ownsRow_same h.ld.own fun g hg' => ?_⟩, (ho _ (by omega) (by omega) (by omega)).trans h.num, (ho _ (by omega) (by omega) (by omega)).trans h.man, ownsRow_same h.pcs fun g hg' => ?_, by rw [rdsW_size]; exact h.size⟩
  · have := hg.own g hg'
    exact ho g (by omega) (by omega) (by omega)
  · have := (h.pcs.lt g hg').1
    exact ho g (by omega) (by omega) (fun e => hlv (by rw [hg', e]))
theorem LdAll.call {w : World} {a c P : Nat} {u : Value} {l : List UInt8} {s : Rd} {ver next n : Int} {lv : Value} {pcs : List Piece} (h : LdAll w a c u l s ver next n lv pcs) (hl : l.length ≤ 20000) (hg : LdGeo a c u) (hP : c + 5 ≤ P) {qs : List Addr} (hqb : ∀ q ∈ qs, q.block = P) (hq : ∀ q ∈ qs, q.spot = none ∧ (∃ u, w.cell? q = some u) ∧ w.frozen? q = false)
    (pv : Value) (hp : PtrsAt w pv qs) (hpv : ∀ x n k, pv = .slice (some x) n k → P < x.block) (hs : s.at' ≤ 50000000) (hq9 : qs.length ≤ 10) :
    Calls Tryz.prog 61 #[pv, .pointer (some ⟨c, 0, none⟩), .pointer (some ⟨a, 0, none⟩), .pointer (some ⟨c + 1, 0, none⟩)] w fun e w' => e = .returned (.tuple #[]) ∧ w' = (rdsW l c (c + 1) w s qs).1 :=
  load1_any l c a (c + 1) u pv s qs w (h.rdAt hl hq) (hg.apart hP hqb) hp (fun x n k e => by have := hpv x n k e; exact ⟨by omega, by omega, fun q hq' => by rw [hqb q hq']; omega⟩) (OwnBytes.capOk h.ld.own) (by omega) hq9
theorem VarAt.kept {w w' : World} {B C : Nat} {t : TypeId} {v : Value} (h : VarAt w C t v) (hg : w.grownBy w' (some B)) (hne : C ≠ B) : VarAt w' C t v := heap_kept h hg hne
theorem LdAll.setErr {w w' : World} {a c : Nat} {u : Value} {l : List UInt8} {s : Rd} {ver next n : Int} {lv : Value} {pcs : List Piece} (h : LdAll w a c u l s ver next n lv pcs) (hge : LdGeo a c u) (e : Int) (hE : VarAt w' c 44 (.int .i64 e)) (hg : w.grownBy w' (some c)) : LdAll w' a c u l ⟨s.at', e⟩ ver next n lv pcs := by
  have hac := hge.ac
  refine ⟨⟨h.ld.inp.kept hg (by omega), heap_kept h.ld.res hg (by omega), hE, h.ld.pos.kept hg (by omega), World.ownsRow.kept h.ld.own hg (.inr fun e => by have := hge.own _ e; omega)⟩, h.num.kept hg (by omega), heap_kept h.man hg (by omega), World.ownsRow.kept h.pcs hg (.inr fun e => by have := (h.pcs.lt _ e).1; omega), Nat.le_trans h.size hg.size⟩
theorem LdAll.setPos {w w' : World} {a c : Nat} {u : Value} {l : List UInt8} {s : Rd} {ver next n : Int} {lv : Value} {pcs : List Piece} (h : LdAll w a c u l s ver next n lv pcs) (hge : LdGeo a c u) (p : Nat) (hE : VarAt w' (c + 1) 3 (.int .i64 p)) (hg : w.grownBy w' (some (c + 1))) : LdAll w' a c u l ⟨p, s.e⟩ ver next n lv pcs := by
  have hac := hge.ac
  refine ⟨⟨h.ld.inp.kept hg (by omega), heap_kept h.ld.res hg (by omega), h.ld.err.kept hg (by omega), hE, World.ownsRow.kept h.ld.own hg (.inr fun e => by have := hge.own _ e; omega)⟩, h.num.kept hg (by omega), heap_kept h.man hg (by omega), World.ownsRow.kept h.pcs hg (.inr fun e => by have := (h.pcs.lt _ e).1; omega), Nat.le_trans h.size hg.size⟩
theorem LdAll.other {w w' : World} {a c P : Nat} {u : Value} {l : List UInt8} {s : Rd} {ver next n : Int} {lv : Value} {pcs : List Piece} (h : LdAll w a c u l s ver next n lv pcs) (hge : LdGeo a c u) (hP : c + 5 ≤ P) (hlv : lv.ownBlock ≠ some P) (hg : w.grownBy w' (some P)) : LdAll w' a c u l s ver next n lv pcs := by
  have hac := hge.ac
  refine ⟨⟨h.ld.inp.kept hg (by omega), heap_kept h.ld.res hg (by omega), h.ld.err.kept hg (by omega), h.ld.pos.kept hg (by omega), World.ownsRow.kept h.ld.own hg (.inr fun e => by have := hge.own _ e; omega)⟩, h.num.kept hg (by omega), heap_kept h.man hg (by omega), World.ownsRow.kept h.pcs hg (.inr hlv), Nat.le_trans h.size hg.size⟩
/-- One piece more: appended (w1), and laid into the manifest (w2). -/
theorem LdAll.push {w w1 w2 : World} {a c : Nat} {u : Value} {l : List UInt8} {s : Rd} {ver next n : Int} {lv lv' : Value} {pcs pcs' : List Piece} (h : LdAll w a c u l s ver next n lv pcs) (hge : LdGeo a c u) (hO : OwnPcs w1 (c + 5) lv' pcs') (hg : w.grownBy w1 lv.ownBlock) (hw2 : w2 = w1.setCell ⟨c + 1 + 1, 2, none⟩ lv') : LdAll w2 a c u l s ver next n lv' pcs' := by
  have hac := hge.ac
  have hk : ∀ T, T < c + 5 → w1.heap[T]? = w.heap[T]? := fun T hT => hg.block T (Nat.lt_of_lt_of_le hT h.size) (fun e => by have := (h.pcs.lt T e.symm).1; omega)
  have hk2 : ∀ T, T < c + 5 → T ≠ c + 1 + 1 → w2.heap[T]? = w.heap[T]? := fun T hT hne => by rw [hw2, heap_setCell_other w1 ⟨c + 1 + 1, 2, none⟩ T _ hne]; exact hk T hT
  refine ⟨⟨(hk2 _ (by omega) (by omega)).trans h.ld.inp, (hk2 _ (by omega) (by omega)).trans h.ld.res, (hk2 _ (by omega) (by omega)).trans h.ld.err, (hk2 _ (by omega) (by omega)).trans h.ld.pos, ownsRow_same h.ld.own fun g hg' => by have := hge.own g hg'; exact hk2 g (by omega) (by omega)⟩, (hk2 _ (by omega) (by omega)).trans h.num, ?_, ?_, ?_⟩
  · rw [hw2, heap_setCell_same w1 (c + 1 + 1) 2 _ 24 lv' ((hk _ (by omega)).trans h.man)]; rfl
  · rw [hw2]; exact ownsRow_setCell_below hO (a := ⟨c + 1 + 1, 2, none⟩) (by simp only; omega) lv'
  · have e : (w1.setCell ⟨c + 1 + 1, 2, none⟩ lv').heap.size = w1.heap.size := by simp
    rw [hw2, e]; exact Nat.le_trans h.size hg.size
theorem row6 {w : World} {B : Nat} {x y z u v r : Value} {t : TypeId} (h : w.heap[B]? = some (.cells #[x, y, z, u, v, r] t (0, 0))) :
    w.cell? ⟨B, 0, none⟩ = some x ∧ w.cell? ⟨B, 1, none⟩ = some y ∧ w.cell? ⟨B, 2, none⟩ = some z ∧ w.cell? ⟨B, 3, none⟩ = some u ∧ w.cell? ⟨B, 4, none⟩ = some v ∧ w.cell? ⟨B, 5, none⟩ = some r ∧ (∀ j, w.frozen? ⟨B, j, none⟩ = false) := by
  refine ⟨?_, ?_, ?_, ?_, ?_, ?_, fun j => ?_⟩ <;> simp [World.cell?, World.frozen?, h]
theorem ptrsAt_new (w : World) (t : TypeId) (qs : List Addr) (h : qs.length ≤ 10) : PtrsAt (w.alloc (.cells (qs.map fun (q : Addr) => Value.pointer (some q)).toArray t)) (.slice (some ⟨w.heap.size, 0, none⟩) qs.length qs.length) qs :=
  ⟨_, _, rfl, by omega, fun k _ => ⟨w.heap.size, 0, rfl, fun q hq => cell_new rfl (by simp [hq])⟩⟩
theorem get4_lt (l : List UInt8) (k : Nat) : (get4 l k).1 < 4294967296 := by
  unfold get4
  split
  · simp
  · have h := beVal_lt ((l.drop k).take 4)
    have h6 : 256 ^ ((l.drop k).take 4).length ≤ 256 ^ 4 := Nat.pow_le_pow_right (by omega) (by rw [List.length_take]; omega)
    simp only
    omega
end Go.Proofs.YtcpecponmaakoaaGreatDoor
