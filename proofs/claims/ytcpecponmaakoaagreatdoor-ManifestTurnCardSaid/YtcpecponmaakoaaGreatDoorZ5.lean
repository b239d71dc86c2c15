/- Plain laws: a piece's life. -/
import Derived.Test.YtcpecponmaakoaaGreatDoorZ2
import Derived.Test.YtcpecponmaakoaaGreatDoorW10
namespace Go.Proofs.YtcpecponmaakoaaGreatDoor
open Go.RowKit Go.Wm
theorem end_get (ps : List Piece) (q : Piece) : (ps ++ [q])[ps.length]'(by simp) = q := by simp
theorem end_getD (ps : List Piece) (q : Piece) : (ps ++ [q]).getD ps.length zeroP = q := by simp [List.getD]
theorem find_end {ver next : Int} {ps : List Piece} (hc : checkM ver next ps = 0) (q : Piece) (hq : q.id = next) : (ps ++ [q]).findIdx? (idIs next) = some ps.length := by
  rw [List.findIdx?_eq_some_iff_getElem]
  refine ⟨by simp, by rw [end_get]; simp [idIs, hq], fun j hj => ?_⟩
  rw [List.getElem_append_left hj]
  have := ((checkM_ok hc).2.2.2.1 ps[j] (List.getElem_mem hj)).idn
  simp [idIs]
  omega
theorem set_end (ps : List Piece) (q x : Piece) : (ps ++ [q]).set ps.length x = ps ++ [x] := by
  rw [List.set_append_right _ _ (Nat.le_refl _), Nat.sub_self]
  rfl
theorem erase_end (ps : List Piece) (q : Piece) : (ps ++ [q]).eraseIdx ps.length = ps := by
  rw [List.eraseIdx_append_of_length_le (Nat.le_refl _), Nat.sub_self]
  simp
theorem step_end {ver next v n' st : Int} {ps : List Piece} {may : Nat → Bool} (hc : checkM ver next ps = 0) (q : Piece) (hq : q.id = next) (hg : checkM v n' (ps ++ [q]) = 0) (ht : tbl.any (isPair q.state st) = true) (hm : may ps.length = true) :
    stepM v n' (ps ++ [q]) next st may = if v = 1099511627776 then ((0, 0, []), 2) else ((v + 1, n', if st = 4 then ps else ps ++ [setState q st]), 0) := by
  unfold stepM
  rw [if_neg (by simp [hg]), find_end hc q hq]
  simp only [end_getD]
  rw [if_neg (by rw [ht, hm]; simp), set_end, erase_end]
theorem below_span {ver next : Int} {ps : List Piece} (hc : checkM ver next ps = 0) {p : Piece} (hp : p ∈ ps) (h2 : p.state = 2) : p.fin ≤ (spanP ps).2 := by
  obtain ⟨_, _, _, _, hk⟩ := checkM_ok hc
  obtain ⟨hb, hpw⟩ := chk_pairs ps hk
  exact (spanL_in hpw (fun p hp => (hb p hp).2) p (List.mem_filter.2 ⟨hp, by simp [stIs, h2]⟩)).2
/-- No piece of the manifest holds an offset behind all. -/
theorem at_behind {ver next off : Int} {ps : List Piece} (hc : checkM ver next ps = 0) (ho : (spanP ps).2 ≤ off) (j : Nat) (hj : j < ps.length) : atP off ps[j] = false := by
  unfold atP
  by_cases h2 : ps[j].state = 2
  · have := below_span hc (List.getElem_mem hj) h2
    simp
    omega
  · simp [h2]
theorem at_early {ver next off : Int} {ps : List Piece} (hc : checkM ver next ps = 0) (ho : (spanP ps).2 ≤ off) (q : Piece) (hq : q.state = 1) : atM (ps ++ [q]) off = (zeroP, false) := by
  refine atM_none fun j hj => ?_
  by_cases h : j < ps.length
  · rw [List.getElem_append_left h]
    exact at_behind hc ho j h
  · have : j = ps.length := by simp at hj; omega
    subst this
    rw [end_get]
    simp [atP, hq]
theorem at_new {ver next off : Int} {ps : List Piece} (hc : checkM ver next ps = 0) (ho : (spanP ps).2 ≤ off) (q : Piece) (hq : q.state = 2) (h1 : q.base ≤ off) (h2 : off < q.fin) : atM (ps ++ [q]) off = (q, true) := by
  have := atM_found (ps := ps ++ [q]) (off := off) (k := ps.length) (by simp) (by rw [end_get]; simp [atP, hq, h1, h2]) (fun j hj hjk => by
    rw [List.getElem_append_left hjk]
    exact at_behind hc ho j hjk)
  rw [this, end_get]
theorem at_none' (off : Int) : atM [] off = (zeroP, false) := rfl
end Go.Proofs.YtcpecponmaakoaaGreatDoor
