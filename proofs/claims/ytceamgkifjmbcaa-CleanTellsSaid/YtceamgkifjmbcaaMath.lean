/- What chapter 13 defines, as plain functions over the data (after so many rounds: the names that end in 'To'). -/
import Derived.Test.YtceamgkifjmbcaaDefs
namespace Go.Wm
open Go.RowKit
def goneP (x : Batch) (g : Gone) : Bool := g.pid == x.pid && decide (g.first ≤ x.base) && decide (x.base < g.last)
def countsB (l : List Gone) (to : Int) (x : Batch) : Bool := decide (x.last < to) && (x.ctl == 0) && !(x.txn && l.any (goneP x))
/-- The last record with a key among the first k of a batch's, the batch's place being i; s: what was known before. -/
def lastInTo (key : ByteArray) (i : Nat) (rs : List Rec) (s : Int × Int) : Nat → Int × Int
  | 0 => s
  | k + 1 => match rs[k]? with
    | some r => if r.key = key then ((i : Int), (k : Int)) else lastInTo key i rs s k
    | none => lastInTo key i rs s k
def lastTo (bs : List Batch) (l : List Gone) (to : Int) (key : ByteArray) : Nat → Int × Int
  | 0 => (-1, -1)
  | i + 1 => match bs[i]? with
    | some x => if countsB l to x then lastInTo key i x.recs (lastTo bs l to key i) x.recs.length else lastTo bs l to key i
    | none => lastTo bs l to key i
def lastG (bs : List Batch) (l : List Gone) (to : Int) (key : ByteArray) : Int × Int := lastTo bs l to key bs.length
theorem lastInTo_succ (key : ByteArray) (i : Nat) (rs : List Rec) (s : Int × Int) (k : Nat) (h : k < rs.length) :
    lastInTo key i rs s (k + 1) = if rs[k].key = key then ((i : Int), (k : Int)) else lastInTo key i rs s k := by
  simp [lastInTo, List.getElem?_eq_getElem h]
theorem lastTo_succ (bs : List Batch) (l : List Gone) (to : Int) (key : ByteArray) (i : Nat) (h : i < bs.length) :
    lastTo bs l to key (i + 1) = if countsB l to bs[i] then lastInTo key i bs[i].recs (lastTo bs l to key i) bs[i].recs.length else lastTo bs l to key i := by
  simp [lastTo, List.getElem?_eq_getElem h]
/-- Whether record k of the batch x at place i stays. -/
def staysB (bs : List Batch) (l : List Gone) (to now keep : Int) (i k : Nat) (x : Batch) (r : Rec) : Bool :=
  countsB l to x && (r.key.toList.isEmpty || ((lastG bs l to r.key).1 == (i : Int) && (lastG bs l to r.key).2 == (k : Int) && (!r.dead || decide (wrap64 (now - r.stamp) < keep))))
def leftTo (bs : List Batch) (l : List Gone) (to now keep : Int) (i : Nat) (x : Batch) : Nat → List Rec
  | 0 => []
  | k + 1 => match x.recs[k]? with
    | some r => if staysB bs l to now keep i k x r then leftTo bs l to now keep i x k ++ [r] else leftTo bs l to now keep i x k
    | none => leftTo bs l to now keep i x k
def leftG (bs : List Batch) (l : List Gone) (to now keep : Int) (i : Nat) (x : Batch) : List Rec := leftTo bs l to now keep i x x.recs.length
theorem leftTo_succ (bs : List Batch) (l : List Gone) (to now keep : Int) (i : Nat) (x : Batch) (k : Nat) (h : k < x.recs.length) :
    leftTo bs l to now keep i x (k + 1) = if staysB bs l to now keep i k x x.recs[k] then leftTo bs l to now keep i x k ++ [x.recs[k]] else leftTo bs l to now keep i x k := by
  simp [leftTo, List.getElem?_eq_getElem h]
theorem leftTo_length (bs : List Batch) (l : List Gone) (to now keep : Int) (i : Nat) (x : Batch) : ∀ k, (leftTo bs l to now keep i x k).length ≤ k
  | 0 => by simp [leftTo]
  | k + 1 => by
    have := leftTo_length bs l to now keep i x k
    simp only [leftTo]
    split
    · split
      · simp; omega
      · omega
    · omega
theorem leftTo_mem (bs : List Batch) (l : List Gone) (to now keep : Int) (i : Nat) (x : Batch) : ∀ k, ∀ r ∈ leftTo bs l to now keep i x k, r ∈ x.recs
  | 0 => by simp [leftTo]
  | k + 1 => by
    have ih := leftTo_mem bs l to now keep i x k
    intro r hr
    simp only [leftTo] at hr
    split at hr
    · rename_i r' hr'
      split at hr
      · rcases List.mem_append.1 hr with h | h
        · exact ih r h
        · simp at h; subst h; exact List.mem_of_getElem? hr'
      · exact ih r hr
    · exact ih r hr
/-- The places of the batches of the transaction of a mark of producer pid, among the first k batches. -/
def txnTo (bs : List Batch) (pid : Int) : Nat → List Int
  | 0 => []
  | k + 1 => match bs[k]? with
    | some x => if x.pid = pid then (if x.ctl = 0 then (if x.txn then txnTo bs pid k ++ [(k : Int)] else txnTo bs pid k) else []) else txnTo bs pid k
    | none => txnTo bs pid k
theorem txnTo_succ (bs : List Batch) (pid : Int) (k : Nat) (h : k < bs.length) :
    txnTo bs pid (k + 1) = if bs[k].pid = pid then (if bs[k].ctl = 0 then (if bs[k].txn then txnTo bs pid k ++ [(k : Int)] else txnTo bs pid k) else []) else txnTo bs pid k := by
  simp [txnTo, List.getElem?_eq_getElem h]
theorem txnTo_mem (bs : List Batch) (pid : Int) : ∀ k, ∀ i ∈ txnTo bs pid k, 0 ≤ i ∧ i < k
  | 0 => by simp [txnTo]
  | k + 1 => by
    have ih := txnTo_mem bs pid k
    intro i hi
    simp only [txnTo] at hi
    repeat' split at hi
    all_goals first
      | (have := ih i hi; omega)
      | (rcases List.mem_append.1 hi with h | h
         · have := ih i h; omega
         · simp at h; omega)
      | simp at hi
theorem txnTo_length (bs : List Batch) (pid : Int) : ∀ k, (txnTo bs pid k).length ≤ k
  | 0 => by simp [txnTo]
  | k + 1 => by
    have := txnTo_length bs pid k
    simp only [txnTo]
    repeat' split
    all_goals first | omega | (simp <;> omega)
end Go.Wm
