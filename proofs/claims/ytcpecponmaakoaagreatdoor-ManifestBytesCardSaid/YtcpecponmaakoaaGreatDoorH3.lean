/- Walks: the library's Sort and Compact on the call's own texts. -/
import Derived.Test.YtcpecponmaakoaaGreatDoorH1
import Derived.Sort.OwnSorted
import Derived.Lib.OwnBridge
namespace Go.Proofs.YtcpecponmaakoaaGreatDoor
open Go.RowKit Go.Wm Go.Sort
def bsOf (s : ByteArray) : List UInt8 := s.data.toList
def txOf (x : List UInt8) : ByteArray := ⟨x.toArray⟩
theorem txOf_bsOf (s : ByteArray) : txOf (bsOf s) = s := by
  obtain ⟨⟨l⟩⟩ := s
  rfl
theorem bsOf_txOf (x : List UInt8) : bsOf (txOf x) = x := rfl
def sortT (l : List ByteArray) : List ByteArray := ((l.map bsOf).mergeSort fun x y => decide (x ≤ y)).map txOf
def compT (l : List ByteArray) : List ByteArray := (Lib.compact (l.map bsOf)).map txOf
theorem txCells_enc (l : List ByteArray) : txCells l = (l.map bsOf).map encStr := by
  simp only [txCells, List.map_map]
  apply List.map_congr_left
  intro s _
  show Value.string s = Value.string (txOf (bsOf s))
  rw [txOf_bsOf]
theorem txCells_tx (l : List (List UInt8)) : txCells (l.map txOf) = l.map encStr := by
  simp only [txCells, List.map_map]
  rfl
theorem sortT_length (l : List ByteArray) : (sortT l).length = l.length := by simp [sortT]
theorem compact_le (zs : List (List UInt8)) : (Lib.compact zs).length ≤ zs.length := by
  unfold Lib.compact Lib.compactUpTo
  rw [List.length_map]
  exact Nat.le_trans (List.length_filter_le _ _) (by simp)
theorem sort_any (l : List ByteArray) (v : Value) (base : Nat) (w : World) (hv : OwnTexts w base v l) (hl : l.length ≤ 1000000) :
    Calls Tryz.prog 46 #[v] w fun e w' => e = .returned (.tuple #[]) ∧ OwnTexts w' base v (sortT l) ∧ w.grownBy w' v.ownBlock := by
  have hrow : w.ownsRow base 9 1 v l.length ((l.map bsOf).map encStr) := by rw [← txCells_enc]; exact hv
  rcases hrow.2 with ⟨rfl, h0⟩ | ⟨g, cap, cur, rfl, hbase, hb, h1, h2, h3, h4⟩
  · have : l = [] := List.eq_nil_of_length_eq_zero h0
    subst this
    refine (Tryz.slices_Sort_string_none none 0 w).mono ?_
    rintro e w' ⟨rfl, rfl⟩
    exact ⟨rfl, (by simpa [sortT] using hv), grownBy_below (Below.refl _ _)⟩
  · have hll : (l.map bsOf).length = l.length := by simp
    have hg : g < w.heap.size := (Array.getElem?_eq_some_iff.1 hb).1
    have C := Tryz.slices_Sort_string g 0 cap (l.map bsOf) w (holds_of_block hb (by rw [hll]; simpa using h4)) hg (by rw [hll]; omega)
    rw [hll] at C
    refine C.mono ?_
    rintro e w' ⟨rfl, n, os, rfl⟩
    have hs := ownsRow_sorted (ss := l.map bsOf) (ts := (l.map bsOf).mergeSort fun x y => decide (x ≤ y)) (n := n) (os := os) (by simp) hbase hb (by rw [hll]; exact h1) h2 h3
    rw [hll] at hs
    refine ⟨rfl, ?_, grownBy_sorted _⟩
    show World.ownsRow _ base 9 1 _ (sortT l).length (txCells (sortT l))
    rw [sortT_length, sortT, txCells_tx]
    exact hs
theorem compact_any (l : List ByteArray) (v : Value) (base : Nat) (w : World) (hv : OwnTexts w base v l) (hl : l.length ≤ 1000000) :
    Calls Tryz.prog 47 #[v] w fun e w' => ∃ u, e = .returned u ∧ OwnTexts w' base u (compT l) ∧ w.grownBy w' v.ownBlock ∧ u.ownBlock = v.ownBlock := by
  have hrow : w.ownsRow base 9 1 v l.length ((l.map bsOf).map encStr) := by rw [← txCells_enc]; exact hv
  have hrow' := hrow
  rcases hrow.2 with ⟨rfl, h0⟩ | ⟨g, cap, cur, rfl, hbase, hb, h1, h2, h3, h4⟩
  · have : l = [] := List.eq_nil_of_length_eq_zero h0
    subst this
    refine (Tryz.slices_Compact_string_empty none 0 w).mono ?_
    rintro e w' ⟨rfl, rfl⟩
    exact ⟨_, rfl, hv, grownBy_below (Below.refl _ _), rfl⟩
  · have hll : (l.map bsOf).length = l.length := by simp
    have hc := compact_le (l.map bsOf)
    have C := Tryz.slices_Compact_string g 0 cap (l.map bsOf) w (holds_of_block hb (by rw [hll]; simpa using h4)) (by rw [hll]; omega) (by rw [hll]; exact h1)
    rw [hll] at C hc
    refine C.mono ?_
    rintro e w' ⟨rfl, q, rfl⟩
    have hs := Lib.ownsRow_putRow (q := q) (k := (Lib.compact (l.map bsOf)).length) (ys := Lib.compact (l.map bsOf) ++ List.replicate (l.length - (Lib.compact (l.map bsOf)).length) []) hrow' (by simp; omega) hc
    refine ⟨_, rfl, ?_, ?_, rfl⟩
    · show World.ownsRow _ base 9 1 _ (compT l).length (txCells (compT l))
      have e1 : (compT l).length = (Lib.compact (l.map bsOf)).length := by simp [compT]
      rw [e1, compT, txCells_tx]
      simpa using hs
    · have := grownBy_sorted (w := w) (g := g) (n := q) (os := #[]) (Lib.compact (l.map bsOf) ++ List.replicate (l.length - (Lib.compact (l.map bsOf)).length) []).toArray
      rw [grow_empty] at this
      exact this
end Go.Proofs.YtcpecponmaakoaaGreatDoor
