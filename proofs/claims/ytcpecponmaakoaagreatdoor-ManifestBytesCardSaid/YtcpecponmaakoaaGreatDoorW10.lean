/- Walk: the reference's At. -/
import Derived.Test.YtcpecponmaakoaaGreatDoorW3
namespace Go.Proofs.YtcpecponmaakoaaGreatDoor
open Go.RowKit Go.Wm
theorem atM_found {ps : List Piece} {off : Int} {k : Nat} (hk : k < ps.length) (h : atP off ps[k] = true) (hj : ∀ j (hj : j < ps.length), j < k → atP off ps[j] = false) : atM ps off = (ps[k], true) := by
  have : ps.findIdx? (atP off) = some k := by
    rw [List.findIdx?_eq_some_iff_getElem]
    exact ⟨hk, h, fun j hjk => by simp [hj j (by omega) hjk]⟩
  simp [atM, this, List.getD, hk]
theorem atM_none {ps : List Piece} {off : Int} (hj : ∀ j (hj : j < ps.length), atP off ps[j] = false) : atM ps off = (zeroP, false) := by
  have : ps.findIdx? (atP off) = none := by
    rw [List.findIdx?_eq_none_iff]
    intro x hx
    obtain ⟨j, h, rfl⟩ := List.getElem_of_mem hx
    exact hj j h
  simp [atM, this]
set_option maxHeartbeats 1000000 in
set_option maxRecDepth 100000 in
theorem refAt_any (ver next off : Int) (ps : List Piece) (v : Value) (w : World) (hv : PcsAt w v ps) :
    Calls Tryz.prog 13 #[.agg #[.int .i64 ver, .int .i64 next, v], .int .i64 off] w fun e w' => e = .returned (.tuple #[pieceV (atM ps off).1, .bool (atM ps off).2]) ∧ Below w.heap.size w w' := by
  obtain ⟨a, cap, rfl, hn, hs⟩ := hv
  have HS := hid hs
  clear hs
  go_enter Tryz.func13, Tryz.ntmps13
  go_wp2
  refine wp_name fun W hW => ?_
  have hB : Below w.heap.size w W := by rw [hW]; exact (below_alloc _ _).step (below_alloc _ _)
  have hN2 : W.cell? ⟨w.heap.size, 2, none⟩ = some (.slice a ps.length cap) := by rw [hW]; exact cell_alloc_old _ (cell_new rfl rfl)
  have hM : W.heap[w.heap.size + 1]? = some (.cells zeroP.cells.toArray 29 (0, 0)) := by
    rw [hW]
    have := heap_alloc_new (w.alloc (.cells #[.int .i64 ver, .int .i64 next, .slice a ps.length cap] 24)) (.cells zeroP.cells.toArray 29)
    rw [size_alloc] at this
    exact this
  clear hW
  go_loopw [6] (fun i wr => ∃ k : Nat, k ≤ ps.length ∧ i = .int .i64 k ∧ (∀ j (h : j < ps.length), j < k → atP off ps[j] = false) ∧ Below W.heap.size W wr) (fun i _ => ps.length - (intOf i).toNat)
  case atStart => exact ⟨0, by omega, rfl, fun _ _ h => by omega, Below.refl _ _⟩
  case round =>
    obtain ⟨k, hk, rfl, hall, hwr⟩ := hrel
    have Hall := hid hall
    clear hall
    have hm2 := cell_below hwr hN2
    have HM := hid (blk_below hM hwr)
    have HB := hid (hB.step hwr)
    have hz0 : w.heap.size + 1 < wr.heap.size := Nat.lt_of_lt_of_le (Array.getElem?_eq_some_iff.1 hM).1 hwr.size
    by_cases hlt : k < ps.length
    · obtain ⟨b, o, rfl, hx⟩ := HS.out k hlt
      obtain ⟨e0, e1, e2, e3, e4, e5⟩ := ((hx _ (List.getElem?_eq_getElem hlt)).mono hB).mono hwr
      clear hx hN2 hM
      obtain ⟨p, hp⟩ : ∃ p, p = ps[k] := ⟨_, rfl⟩
      rw [← hp] at e0 e1 e2 e3 e4 e5
      have NEXT := hid (fun (hf : atP off p = false) => show ∀ j (h : j < ps.length), j < k + 1 → atP off ps[j] = false from fun j hj hjk => by
        by_cases hjk' : j = k
        · subst hjk'; rw [← hp]; exact hf
        · exact Hall.out j hj (by omega))
      have FOUND := hid (fun (hf : atP off p = true) => show atM ps off = (p, true) by rw [hp]; exact atM_found hlt (by rw [← hp]; exact hf) Hall.out)
      clear hp
      by_cases h1 : p.state = 2
      · by_cases h2 : p.base ≤ off
        · by_cases h3 : off < p.fin
          · have hf : atP off p = true := by simp [atP, h1, h2, h3]
            have Hm := hid (FOUND.out hf)
            clear hf
            go_wp2_with (refine wpList_store_all rfl 29 (.tmp 4) (.tmp 45) rfl (w.heap.size + 1) p.cells rfl (by rw [← h1]; rfl) 29 _ HM.out (by kernel_rfl) rfl rfl ?_)
            intro w3 h3 hg3
            obtain ⟨q0, q1, q2, q3, q4, q5⟩ := pieceAt_of_row h3
            have hB3 := HB.out.trans (below_row hg3 (show w.heap.size ≤ _ by omega) (by omega))
            go_wp2
            exact bodyPost_ret (v := .tuple #[pieceV p, .bool true]) (by simp [results, Tryz.results13, go_sem, q0, q1, q2, q3, q4, q5]) rfl ⟨by rw [Hm.out], hB3⟩
          · have hf : atP off p = false := by simp [atP, h3]
            have Hf := hid hf
            clear hf
            go_wp2
            go_roundw
            case rel => exact ⟨k + 1, by omega, by go_num, NEXT.out Hf.out, hwr⟩
            case measure => simp [intOf]; omega
        · have hf : atP off p = false := by simp [atP, h2]
          have Hf := hid hf
          clear hf
          go_wp2
          go_roundw
          case rel => exact ⟨k + 1, by omega, by go_num, NEXT.out Hf.out, hwr⟩
          case measure => simp [intOf]; omega
      · have hf : atP off p = false := by simp [atP, h1]
        have Hf := hid hf
        clear hf
        go_wp2
        go_roundw
        case rel => exact ⟨k + 1, by omega, by go_num, NEXT.out Hf.out, hwr⟩
        case measure => simp [intOf]; omega
    · have hke : k = ps.length := by omega
      have Hm := hid (show atM ps off = (zeroP, false) from atM_none (fun j hj => Hall.out j hj (by omega)))
      clear hke
      go_wp2_with (refine wpList_store_all rfl 29 (.tmp 4) (.tmp 46) rfl (w.heap.size + 1) zeroP.cells rfl rfl 29 _ HM.out (by kernel_rfl) rfl rfl ?_)
      intro w3 h3 hg3
      obtain ⟨q0, q1, q2, q3, q4, q5⟩ := pieceAt_of_row h3
      have hB3 := HB.out.trans (below_row hg3 (show w.heap.size ≤ _ by omega) (by omega))
      go_wp2
      exact bodyPost_ret (v := .tuple #[pieceV zeroP, .bool false]) (by simp [results, Tryz.results13, go_sem, q0, q1, q2, q3, q4, q5]) rfl ⟨by rw [Hm.out], hB3⟩
end Go.Proofs.YtcpecponmaakoaaGreatDoor
