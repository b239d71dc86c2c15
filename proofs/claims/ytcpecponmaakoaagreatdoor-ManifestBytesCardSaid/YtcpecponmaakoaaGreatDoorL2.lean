/- What is read, number by number, and what lies in the blocks behind it (the program's Load). -/
import Derived.Test.YtcpecponmaakoaaGreatDoorL1
import Derived.Test.YtcpecponmaakoaaGreatDoorB7
namespace Go.Proofs.YtcpecponmaakoaaGreatDoor
open Go.RowKit Go.Wm Go.Lib
def rdPiece (l : List UInt8) (s : Rd) : Piece × Rd :=
  let a := rd l s
  let b := rd l a.2
  let c := rd l b.2
  let d := rd l c.2
  let g : Int × Rd := if d.2.e = 0 then (((get4 l d.2.at').1 : Nat), ⟨d.2.at' + 4, (get4 l d.2.at').2⟩) else (0, d.2)
  let f := rd l g.2
  (⟨a.1, b.1, c.1, d.1, g.1, f.1⟩, f.2)
def rdPieces (l : List UInt8) : Nat → Rd → List Piece × Rd
  | 0, s => ([], s)
  | k + 1, s => if s.e = 0 then ((rdPiece l s).1 :: (rdPieces l k (rdPiece l s).2).1, (rdPieces l k (rdPiece l s).2).2) else ([], s)
def loadBody (l : List UInt8) : (Int × Int × List Piece) × Int :=
  let a := rd l ⟨0, 0⟩
  let b := rd l a.2
  let c := rd l b.2
  let e3 : Int := if c.2.e = 0 then (if c.1 < 0 then 11 else if 256 < c.1 then 2 else 0) else c.2.e
  let r := rdPieces l c.1.toNat ⟨c.2.at', e3⟩
  let e4 : Int := if r.2.e = 0 then (if r.2.at' ≠ l.length ∨ checkM a.1 b.1 r.1 ≠ 0 then 11 else 0) else r.2.e
  if e4 = 0 then ((a.1, b.1, r.1), 0) else ((0, 0, []), e4)
def loadM (b : List UInt8) : (Int × Int × List Piece) × Int :=
  if (openM b).2 = 0 then loadBody (openM b).1 else ((0, 0, []), (openM b).2)
theorem RdAt.sub {w : World} {E IN AT : Nat} {v : Value} {l : List UInt8} {s : Rd} {qs qs' : List Addr} (h : RdAt w E IN AT v l s qs) (hq : ∀ q ∈ qs', q ∈ qs) : RdAt w E IN AT v l s qs' :=
  ⟨h.err, h.inp, h.pos, h.bytes, fun q hq' => h.there q (hq q hq')⟩
theorem RdApart.sub {E IN AT : Nat} {v : Value} {qs qs' : List Addr} (h : RdApart E IN AT v qs) (hq : ∀ q ∈ qs', q ∈ qs) : RdApart E IN AT v qs' :=
  ⟨h.ei, h.ea, h.ia, fun q hq' => h.q q (hq q hq'), fun a n c e => ⟨(h.b a n c e).1, (h.b a n c e).2.1, fun q hq' => (h.b a n c e).2.2 q (hq q hq')⟩⟩
theorem RdAt.rds {E IN AT : Nat} {v : Value} {l : List UInt8} {qs : List Addr} (ap : RdApart E IN AT v qs) : ∀ (ps : List Addr) {w : World} {s : Rd}, RdAt w E IN AT v l s qs → (∀ q ∈ ps, q ∈ qs) → RdAt (rdsW l E AT w s ps).1 E IN AT v l (rdsW l E AT w s ps).2 qs
  | [], _, _, h, _ => h
  | p :: ps, _, _, h, hp => RdAt.rds ap ps (h.step ap (hp p (by simp))) fun q hq => hp q (by simp [hq])
/-- A block behind one number. -/
theorem rdW_block {w : World} {E AT T : Nat} {l : List UInt8} {s : Rd} {cs : Array Value} {t : TypeId} {o : Nat} (h : w.heap[T]? = some (.cells cs t (0, 0))) (hE : T ≠ E) (hA : T ≠ AT) (h0 : cs[o]? = some (.int .i64 0)) :
    (rdW l E AT w s ⟨T, o, none⟩).heap[T]? = some (.cells (cs.setIfInBounds o (.int .i64 (rd l s).1)) t (0, 0)) := by
  unfold rdW
  split
  · rw [heap_setCell_other _ ⟨E, 0, none⟩ T _ hE, heap_setCell_other _ ⟨AT, 0, none⟩ T _ hA, heap_setCell_same w T o cs t _ h]
  · next he =>
    have e : (rd l s).1 = 0 := by rw [rd, if_neg he]
    rw [e, h]
    obtain ⟨ho, hv⟩ := Array.getElem?_eq_some_iff.1 h0
    congr 2
    apply Array.ext_getElem?
    intro i
    rw [Array.getElem?_setIfInBounds]
    split
    · next hi => subst hi; first | exact h0 | (rw [if_pos ho]; exact h0.symm) | exact h0.symm
    · rfl
theorem rdW_other {w : World} {E AT T : Nat} {l : List UInt8} {s : Rd} {q : Addr} (hE : T ≠ E) (hA : T ≠ AT) (hq : T ≠ q.block) : (rdW l E AT w s q).heap[T]? = w.heap[T]? := by
  unfold rdW
  split
  · rw [heap_setCell_other _ ⟨E, 0, none⟩ T _ hE, heap_setCell_other _ ⟨AT, 0, none⟩ T _ hA, heap_setCell_other w q T _ hq]
  · rfl
theorem rdW_size {w : World} {E AT : Nat} {l : List UInt8} {s : Rd} {q : Addr} : (rdW l E AT w s q).heap.size = w.heap.size := by
  unfold rdW
  split <;> simp
theorem rdW_below {B : Nat} {a w : World} {E AT : Nat} {l : List UInt8} {s : Rd} {q : Addr} (h : Below B a w) (hE : B ≤ E) (hA : B ≤ AT) (hq : B ≤ q.block) : Below B a (rdW l E AT w s q) := by
  unfold rdW
  split
  · exact ((h.setCell (p := q) hq _).setCell (p := ⟨AT, 0, none⟩) hA _).setCell (p := ⟨E, 0, none⟩) hE _
  · exact h
theorem rdsW_below {B : Nat} {a : World} {E AT : Nat} {l : List UInt8} (hE : B ≤ E) (hA : B ≤ AT) : ∀ (qs : List Addr) {w : World} {s : Rd}, Below B a w → (∀ q ∈ qs, B ≤ q.block) → Below B a (rdsW l E AT w s qs).1
  | [], _, _, h, _ => h
  | q :: qs, _, _, h, hq => rdsW_below hE hA qs (rdW_below h hE hA (hq q (by simp))) fun p hp => hq p (by simp [hp])
theorem rdsW_other {E AT T : Nat} {l : List UInt8} (hE : T ≠ E) (hA : T ≠ AT) : ∀ (qs : List Addr) {w : World} {s : Rd}, (∀ q ∈ qs, T ≠ q.block) → (rdsW l E AT w s qs).1.heap[T]? = w.heap[T]?
  | [], _, _, _ => rfl
  | q :: qs, w, s, hq => (rdsW_other hE hA qs (w := rdW l E AT w s q) (s := (rd l s).2) fun p hp => hq p (by simp [hp])).trans (rdW_other hE hA (hq q (by simp)))
theorem rdsW_size {E AT : Nat} {l : List UInt8} : ∀ (qs : List Addr) {w : World} {s : Rd}, (rdsW l E AT w s qs).1.heap.size = w.heap.size
  | [], _, _ => rfl
  | q :: qs, w, s => (rdsW_size qs (w := rdW l E AT w s q) (s := (rd l s).2)).trans rdW_size
/-- The first call: version, next number, how many. -/
theorem rds_head {w : World} {E AT M NB : Nat} {l : List UInt8} {s : Rd} {lv : Value} (hM : w.heap[M]? = some (.cells #[.int .i64 0, .int .i64 0, lv] 24 (0, 0))) (hN : VarAt w NB 3 (.int .i64 0)) (m1 : M ≠ E) (m2 : M ≠ AT) (m3 : M ≠ NB) (n1 : NB ≠ E) (n2 : NB ≠ AT) :
    (rdsW l E AT w s [⟨M, 0, none⟩, ⟨M, 1, none⟩, ⟨NB, 0, none⟩]).1.heap[M]? = some (.cells #[.int .i64 (rd l s).1, .int .i64 (rd l (rd l s).2).1, lv] 24 (0, 0)) ∧
    VarAt (rdsW l E AT w s [⟨M, 0, none⟩, ⟨M, 1, none⟩, ⟨NB, 0, none⟩]).1 NB 3 (.int .i64 (rd l (rd l (rd l s).2).2).1) := by
  have h1 := rdW_block (l := l) (s := s) (o := 0) hM m1 m2 rfl
  have h2 := rdW_block (l := l) (s := (rd l s).2) (o := 1) h1 m1 m2 rfl
  have k1 : (rdW l E AT w s ⟨M, 0, none⟩).heap[NB]? = some (.cells #[.int .i64 0] 3 (0, 0)) := (rdW_other n1 n2 (Ne.symm m3)).trans hN
  have k2 : (rdW l E AT (rdW l E AT w s ⟨M, 0, none⟩) (rd l s).2 ⟨M, 1, none⟩).heap[NB]? = some (.cells #[.int .i64 0] 3 (0, 0)) := (rdW_other n1 n2 (Ne.symm m3)).trans k1
  have k3 := rdW_block (l := l) (s := (rd l (rd l s).2).2) (o := 0) k2 n1 n2 rfl
  exact ⟨(rdW_other (q := ⟨NB, 0, none⟩) m1 m2 m3).trans h2, k3⟩
theorem rds_piece {w : World} {E AT T : Nat} {l : List UInt8} {s : Rd} {x y : Value} (hM : w.heap[T]? = some (.cells #[.int .i64 0, .int .i64 0, .int .i64 0, .int .i64 0, x, y] 29 (0, 0))) (m1 : T ≠ E) (m2 : T ≠ AT) :
    (rdsW l E AT w s [⟨T, 0, none⟩, ⟨T, 1, none⟩, ⟨T, 2, none⟩, ⟨T, 3, none⟩]).1.heap[T]? = some (.cells #[.int .i64 (rd l s).1, .int .i64 (rd l (rd l s).2).1, .int .i64 (rd l (rd l (rd l s).2).2).1, .int .i64 (rd l (rd l (rd l (rd l s).2).2).2).1, x, y] 29 (0, 0)) := by
  have h1 := rdW_block (l := l) (s := s) (o := 0) hM m1 m2 rfl
  have h2 := rdW_block (l := l) (s := (rd l s).2) (o := 1) h1 m1 m2 rfl
  have h3 := rdW_block (l := l) (s := (rd l (rd l s).2).2) (o := 2) h2 m1 m2 rfl
  exact rdW_block (l := l) (s := (rd l (rd l (rd l s).2).2).2) (o := 3) h3 m1 m2 rfl
theorem rds_state {w : World} {E AT T : Nat} {l : List UInt8} {s : Rd} {x y z u v : Value} (hM : w.heap[T]? = some (.cells #[x, y, z, u, v, .int .i64 0] 29 (0, 0))) (m1 : T ≠ E) (m2 : T ≠ AT) :
    (rdsW l E AT w s [⟨T, 5, none⟩]).1.heap[T]? = some (.cells #[x, y, z, u, v, .int .i64 (rd l s).1] 29 (0, 0)) :=
  rdW_block (l := l) (s := s) (o := 5) hM m1 m2 rfl
theorem rd_at (l : List UInt8) (s : Rd) : (rd l s).2.at' ≤ s.at' + l.length := by
  rw [rd]
  split
  · have := (getVarM_at l s.at').2
    simp only
    omega
  · simp
end Go.Proofs.YtcpecponmaakoaaGreatDoor
