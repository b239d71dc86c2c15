/- What chapter 13 defines, as plain functions: which batches stay; what is left of all. -/
import Derived.Test.YtceamgkifjmbcaaMath
namespace Go.Wm
def leftAt (bs : List Batch) (l : List Gone) (to now keep : Int) (k : Int) : List Rec := match bs[k.toNat]? with
  | some y => leftG bs l to now keep k.toNat y
  | none => []
def hasLeft (bs : List Batch) (l : List Gone) (to now keep : Int) (k : Int) : Bool := decide (0 < (leftAt bs l to now keep k).length)
def endB (bs : List Batch) (to : Int) (i : Nat) : Bool := (bs.drop (i + 1)).all fun y => decide (to ≤ y.last)
def batchStaysB (bs : List Batch) (l : List Gone) (to now keep : Int) (i : Nat) (x : Batch) : Bool :=
  decide (to ≤ x.last) || (endB bs to i || (if x.ctl = 0 then hasLeft bs l to now keep i else (txnTo bs x.pid i).any (hasLeft bs l to now keep)))
def cleanedRecs (bs : List Batch) (l : List Gone) (to now keep : Int) (i : Nat) (x : Batch) : List Rec := if (decide (x.last < to) && (x.ctl == 0)) = true then leftG bs l to now keep i x else x.recs
def cleanTo (bs : List Batch) (l : List Gone) (to now keep : Int) : Nat → List Batch
  | 0 => []
  | i + 1 => match bs[i]? with
    | some x => if batchStaysB bs l to now keep i x then cleanTo bs l to now keep i ++ [{ x with recs := cleanedRecs bs l to now keep i x }] else cleanTo bs l to now keep i
    | none => cleanTo bs l to now keep i
def cleanG (bs : List Batch) (l : List Gone) (to now keep : Int) : List Batch := cleanTo bs l to now keep bs.length
theorem cleanTo_succ (bs : List Batch) (l : List Gone) (to now keep : Int) (i : Nat) (x : Batch) (h : bs[i]? = some x) :
    cleanTo bs l to now keep (i + 1) = if batchStaysB bs l to now keep i x then cleanTo bs l to now keep i ++ [{ x with recs := cleanedRecs bs l to now keep i x }] else cleanTo bs l to now keep i := by
  simp [cleanTo, h]
theorem cleanTo_length (bs : List Batch) (l : List Gone) (to now keep : Int) : ∀ i, (cleanTo bs l to now keep i).length ≤ i
  | 0 => by simp [cleanTo]
  | i + 1 => by
    have := cleanTo_length bs l to now keep i
    simp only [cleanTo]
    repeat' split
    all_goals first | omega | (simp <;> omega)
end Go.Wm
