/- What the program computes, as plain functions: the map of places, what is left of a batch. -/
import Derived.Test.YtceamgkifjmbcaaMath2
namespace Go.Wm
open Go.RowKit
/-- Whether record k of the batch at place i stays, the program's way: f answers the map's look-ups. -/
def pstaysB (f : ByteArray → Int × Int) (now keep : Int) (i k : Nat) (r : Rec) : Bool :=
  r.key.toList.isEmpty || (((f r.key).1 == (i : Int) && (f r.key).2 == (k : Int)) && !(r.dead && decide (keep ≤ wrap64 (now - r.stamp))))
def pleftTo (f : ByteArray → Int × Int) (now keep : Int) (i : Nat) (x : Batch) : Nat → List Rec
  | 0 => []
  | k + 1 => match x.recs[k]? with
    | some r => if pstaysB f now keep i k r then pleftTo f now keep i x k ++ [r] else pleftTo f now keep i x k
    | none => pleftTo f now keep i x k
theorem pleftTo_succ (f : ByteArray → Int × Int) (now keep : Int) (i : Nat) (x : Batch) (k : Nat) (h : k < x.recs.length) :
    pleftTo f now keep i x (k + 1) = if pstaysB f now keep i k x.recs[k] then pleftTo f now keep i x k ++ [x.recs[k]] else pleftTo f now keep i x k := by
  simp [pleftTo, List.getElem?_eq_getElem h]
theorem pleftTo_length (f : ByteArray → Int × Int) (now keep : Int) (i : Nat) (x : Batch) : ∀ k, (pleftTo f now keep i x k).length ≤ k
  | 0 => by simp [pleftTo]
  | k + 1 => by
    have := pleftTo_length f now keep i x k
    simp only [pleftTo]
    repeat' split
    all_goals first | omega | (simp <;> omega)
def pleftG (l : List Gone) (to : Int) (f : ByteArray → Int × Int) (now keep : Int) (i : Nat) (x : Batch) : List Rec :=
  if countsB l to x = true then pleftTo f now keep i x x.recs.length else []
end Go.Wm
