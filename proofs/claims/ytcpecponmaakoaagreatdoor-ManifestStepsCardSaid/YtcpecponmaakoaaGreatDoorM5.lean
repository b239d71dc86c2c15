/- Plain laws: which names go, and that inserting them one by one is sorting and compacting them. -/
import Derived.Test.YtcpecponmaakoaaGreatDoorM1
import Derived.Test.YtcpecponmaakoaaGreatDoorM3
import Derived.Test.YtcpecponmaakoaaGreatDoorM4
namespace Go.Proofs.YtcpecponmaakoaaGreatDoor
open Go.RowKit Go.Wm
def goB (pre : ByteArray) (ps : List Piece) (s : ByteArray) : Bool := decide (0 ≤ numM pre s) && !thereB (numM pre s) ps
theorem thereB_filter (x : Int) (ps : List Piece) : thereB x ps = (ps.filter (stIs 2)).any (idIs x) := by
  unfold thereB
  rw [List.any_filter]
  congr 1
  funext p
  rw [Bool.and_comm]
theorem goB_eq (pre : ByteArray) (ps : List Piece) (s : ByteArray) : goB pre ps s = delB pre (ps.filter (stIs 2)) s := by
  unfold goB delB numM
  cases h : idOf pre s with
  | none => simp
  | some x =>
    obtain ⟨h0, _, _⟩ := idOf_some h
    simp only
    rw [decide_eq_true h0, Bool.true_and, thereB_filter]
theorem foldl_putT (D : List ByteArray) : ∀ acc : List ByteArray, D.foldl putT acc = ((D.map bsOf).foldl putB (acc.map bsOf)).map txOf := by
  induction D with
  | nil => intro acc; exact (map_tx acc).symm
  | cons x D ih =>
    intro acc
    rw [List.foldl_cons, ih, List.map_cons, List.foldl_cons]
    congr 2
    unfold putT
    rw [List.map_map]
    conv => rhs; rw [← List.map_id (putB (acc.map bsOf) (bsOf x))]
    exact List.map_congr_left fun s _ => bsOf_txOf s
theorem sort_put (D : List ByteArray) : compT (sortT D) = D.foldl putT [] := by
  rw [foldl_putT, List.map_nil, ← compact_sort_eq]
  unfold compT sortT
  congr 2
  rw [List.map_map]
  conv => rhs; rw [← List.map_id ((D.map bsOf).mergeSort fun x y => decide (x ≤ y))]
  exact List.map_congr_left fun s _ => bsOf_txOf s
theorem foldl_putT_length (D : List ByteArray) : ∀ acc : List ByteArray, (D.foldl putT acc).length ≤ acc.length + D.length := by
  induction D with
  | nil => intro acc; simp
  | cons x D ih =>
    intro acc
    rw [List.foldl_cons]
    have h1 := ih (putT acc x)
    have h2 := putT_length acc x
    rw [List.length_cons]
    omega
theorem healM_ref (ver next : Int) (ps : List Piece) (pre : ByteArray) (names : List ByteArray) (h : checkM ver next ps = 0) :
    healM ver next ps pre names = ((if (ps.filter (stIs 2)).length < ps.length then (if ver = 1099511627776 then ver else ver + 1) else ver, next, ps.filter (stIs 2)), (names.filter (goB pre ps)).foldl putT []) := by
  unfold healM
  rw [if_neg (by simp [h]), sort_put]
  congr 3
  funext s
  exact (goB_eq pre ps s).symm
end Go.Proofs.YtcpecponmaakoaaGreatDoor
