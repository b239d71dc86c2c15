/- What the program computes, as plain functions: whose batches a mark's are. -/
import Derived.Test.YtceamgkifjmbcaaMath3
namespace Go.Wm
/-- The open batches of a producer after i batches; the batches that the mark at a place k ends. -/
def openTo (bs : List Batch) : Nat → Int → List Int
  | 0, _ => []
  | i + 1, p => match bs[i]? with
    | some x => if x.ctl = 0 then (if x.txn then (if p = x.pid then openTo bs i x.pid ++ [(i : Int)] else openTo bs i p) else openTo bs i p) else (if p = x.pid then [] else openTo bs i p)
    | none => openTo bs i p
def outTo (bs : List Batch) : Nat → Int → List Int
  | 0, _ => []
  | i + 1, k => match bs[i]? with
    | some x => if x.ctl = 0 then outTo bs i k else (if k = (i : Int) then openTo bs i x.pid else outTo bs i k)
    | none => outTo bs i k
theorem openTo_succ (bs : List Batch) (i : Nat) (x : Batch) (h : bs[i]? = some x) : openTo bs (i + 1) = fun p =>
    if x.ctl = 0 then (if x.txn then (if p = x.pid then openTo bs i x.pid ++ [(i : Int)] else openTo bs i p) else openTo bs i p) else (if p = x.pid then [] else openTo bs i p) := by
  funext p; simp [openTo, h]
theorem outTo_succ (bs : List Batch) (i : Nat) (x : Batch) (h : bs[i]? = some x) : outTo bs (i + 1) = fun k =>
    if x.ctl = 0 then outTo bs i k else (if k = (i : Int) then openTo bs i x.pid else outTo bs i k) := by
  funext k; simp [outTo, h]
theorem openTo_txn (bs : List Batch) (p : Int) : ∀ i, openTo bs i p = txnTo bs p i
  | 0 => rfl
  | i + 1 => by
    have ih := openTo_txn bs p i
    rw [openTo, txnTo]
    cases h : bs[i]? with
    | none => exact ih
    | some x =>
      by_cases hp : p = x.pid
      · subst hp
        simp only [if_true]
        rw [ih]
      · simp only [if_neg hp, if_neg (fun h' : x.pid = p => hp h'.symm), ih, ite_self]
theorem openTo_length (bs : List Batch) (i : Nat) (p : Int) : (openTo bs i p).length ≤ i := by rw [openTo_txn]; exact txnTo_length _ _ _
theorem openTo_mem (bs : List Batch) (i : Nat) (p : Int) : ∀ k ∈ openTo bs i p, 0 ≤ k ∧ k < i := by rw [openTo_txn]; exact txnTo_mem _ _ _
theorem outTo_of (bs : List Batch) (k : Nat) (x : Batch) (h : bs[k]? = some x) (hc : ¬ x.ctl = 0) : ∀ i, k < i → outTo bs i (k : Int) = txnTo bs x.pid k
  | 0, hi => by omega
  | i + 1, hi => by
    by_cases hk : k = i
    · subst hk
      rw [outTo_succ bs k x h]
      simp only [if_neg hc, if_true]
      exact openTo_txn _ _ _
    · have ih := outTo_of bs k x h hc i (by omega)
      rw [outTo]
      cases bs[i]? with
      | none => exact ih
      | some y =>
        have hki : ¬ (k : Int) = (i : Int) := by omega
        simp only [if_neg hki, ih, ite_self]
end Go.Wm
