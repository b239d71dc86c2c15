/- Walks of the program: the look for each key's last record. -/
import Derived.Test.YtceamgkifjmbcaaW12
namespace Go.Proofs.Ytceamgkifjmbcaa
open Go.RowKit Go.Wm
def zOf (p : Int × Int) : Int × Int := if p = (-1, -1) then (0, 0) else p
def lookF (bs : List Batch) (l : List Gone) (to : Int) (key : ByteArray) : Int × Int := if key = ⟨#[]⟩ then (0, 0) else zOf (lastG bs l to key)
def endLast (bs : List Batch) (to : Int) : Nat → Int
  | 0 => -1
  | i + 1 => match bs[i]? with
    | some x => if x.last < to then (i : Int) else endLast bs to i
    | none => endLast bs to i
theorem endLast_succ (bs : List Batch) (to : Int) (i : Nat) (x : Batch) (h : bs[i]? = some x) : endLast bs to (i + 1) = if x.last < to then (i : Int) else endLast bs to i := by
  simp [endLast, h]
theorem lastTo_succ' (bs : List Batch) (l : List Gone) (to : Int) (key : ByteArray) (i : Nat) (x : Batch) (h : bs[i]? = some x) :
    lastTo bs l to key (i + 1) = if countsB l to x then lastInTo key i x.recs (lastTo bs l to key i) x.recs.length else lastTo bs l to key i := by
  simp [lastTo, h]
theorem counts_below {l : List Gone} {to : Int} {x : Batch} (h : to ≤ x.last) : countsB l to x = false := by
  simp [countsB]; intro h'; omega
theorem setCell_row {w : World} {b : Nat} {cs : Array Value} {e : TypeId} {fr : Nat × Nat} (h : w.heap[b]? = some (.cells cs e fr)) (j : Nat) (v : Value) : (w.setCell ⟨b, j, none⟩ v).heap[b]? = some (.cells (cs.setIfInBounds j v) e fr) := by
  simp [World.setCell, Array.getElem?_modify, h]
theorem grown_setCell (w : World) (b j : Nat) (v : Value) : w.grownBy (w.setCell ⟨b, j, none⟩ v) (some b) :=
  ⟨rfl, rfl, rfl, by simp [World.setCell], fun k _ hk => Below.heap_setCell _ _ _ _ (by intro h; exact hk (by rw [h]))⟩
theorem rules_of_row {w : World} {R : Nat} {vb vl : Value} {to now keep : Int} {m : Nat} {e : Int} (h : w.heap[R]? = some (.cells #[vb, vl, .int .i64 to, .int .i64 now, .int .i64 keep, .map (some m), .int .i64 e] 72 (0, 0))) : RulesAt w R vb vl to now keep m e :=
  ⟨by simp [World.cell?, h], by simp [World.cell?, h], by simp [World.cell?, h], by simp [World.cell?, h], by simp [World.cell?, h], by simp [World.cell?, h], by simp [World.cell?, h]⟩
theorem cell_new_row {W : World} {cs : List Value} {e : TypeId} {N j : Nat} {v : Value} (hN : N = W.heap.size) (hj : cs[j]? = some v) : (W.alloc (.cells cs.toArray e)).cell? ⟨N, j, none⟩ = some v := by
  subst hN; exact cell_row (heap_alloc_new W _) j v hj
theorem zOf_nat (i k : Nat) : zOf ((i : Int), (k : Int)) = ((i : Int), (k : Int)) := by
  unfold zOf
  rw [if_neg]
  intro h
  simp at h
theorem put_fun (i : Nat) (rs : List Rec) (t : ByteArray → Int × Int) (j : Nat) (hj : j < rs.length) :
    (fun k => if k = rs[j].key then ((i : Int), (j : Int)) else zOf (lastInTo k i rs (t k) j)) = fun k => zOf (lastInTo k i rs (t k) (j + 1)) := by
  funext k
  rw [lastInTo_succ k i rs (t k) j hj]
  by_cases h : k = rs[j].key
  · rw [if_pos h, if_pos h.symm, zOf_nat]
  · rw [if_neg h, if_neg (fun h' => h h'.symm)]
set_option maxRecDepth 100000 in
set_option maxHeartbeats 4000000 in
theorem look_any (bs : List Batch) (l : List Gone) (vb vl : Value) (to now keep : Int) (w : World) (hb : BatchesAt w vb bs) (hl : GonesAt w vl l) :
    Calls Try.prog 29 #[vb, vl, .int .i64 to, .int .i64 now, .int .i64 keep] w
      fun e w' => ∃ R m n, e = .returned (.pointer (some ⟨R, 0, none⟩)) ∧ RulesAt w' R vb vl to now keep m (endLast bs to bs.length) ∧ PlaceMap w' m n (lookF bs l to) ∧ Below w.heap.size w w' := by
  have hbw := hb
  obtain ⟨a, cap, rfl, hn, hs⟩ := hb
  obtain ⟨a3, cap3, rfl, hn3⟩ := hl.form
  have hmm := @run_makeMap Try.prog
  rcases hs.shape with ⟨b', o, rfl, hc⟩ | h0
  · have Hc := hid hc
    clear hs hc
    have C := hid (fun W (h : Below w.heap.size w W) (m : Nat) (e : Int) i (hi : i < bs.length) (hr : RulesAt W (w.heap.size + 1) _ _ to now keep m e) => counts_any bs l _ _ (w.heap.size + 1) to now keep m e i hi W hr (hbw.mono h) (hl.mono h))
    have Hl := hid hl
    clear hbw hl
    go_enter Try.func29, Try.ntmps29
    go_wp2
    refine wp_name fun W hW => ?_
    have hB : Below w.heap.size w W := by rw [hW]; exact (below_alloc _ _).step (below_alloc _ _)
    have hrow : W.heap[w.heap.size + 1]? = some (.cells #[.slice (some ⟨b', o, none⟩) bs.length (bs.length + cap), .slice a3 l.length cap3, .int .i64 to, .int .i64 now, .int .i64 keep, .map (some w.heap.size), .int .i64 (-1)] 72 (0, 0)) := by
      rw [hW]; have := heap_alloc_new (w.alloc (.map #[] 0)) (.cells #[.slice (some ⟨b', o, none⟩) bs.length (bs.length + cap), .slice a3 l.length cap3, .int .i64 to, .int .i64 now, .int .i64 keep, .map (some w.heap.size), .int .i64 (-1)] 72 (0, 0)); rw [size_alloc] at this; exact this
    have hmap : PlaceMap W w.heap.size 0 (fun _ => (0, 0)) := by rw [hW]; exact (PlaceMap.made w).below (below_alloc _ _)
    clear hW hmm
    go_loopw [26] (fun q wr => ∃ i : Nat, i ≤ bs.length ∧ q = .int .i64 i ∧ Below w.heap.size w wr ∧ wr.heap[w.heap.size + 1]? = some (.cells #[.slice (some ⟨b', o, none⟩) bs.length (bs.length + cap), .slice a3 l.length cap3, .int .i64 to, .int .i64 now, .int .i64 keep, .map (some w.heap.size), .int .i64 (endLast bs to i)] 72 (0, 0)) ∧ ∃ n, n ≤ i * 1000000 ∧ PlaceMap wr w.heap.size n (fun key => zOf (lastTo bs l to key i))) (fun q _ => bs.length - (intOf q).toNat)
    case atStart => exact ⟨0, by omega, rfl, hB, hrow, 0, by omega, hmap⟩
    case round =>
      obtain ⟨i, hi, rfl, hwr, hrw, n, hnn, hmap⟩ := hrel
      obtain ⟨wo, rfl⟩ : ∃ wo : World, wo = wr := ⟨_, rfl⟩
      have Hrow := hid hrw
      have hRlt : w.heap.size + 1 < wo.heap.size := (Array.getElem?_eq_some_iff.1 hrw).1
      clear hrow hrw
      by_cases hlt : i < bs.length
      · obtain ⟨x, hx⟩ : ∃ x, bs[i]? = some x := ⟨_, List.getElem?_eq_getElem hlt⟩
        have hxe : bs[i] = x := by rw [List.getElem?_eq_getElem hlt] at hx; exact Option.some.inj hx
        obtain ⟨sv, hxa, hxr⟩ := Hc.out i hlt x hx
        obtain ⟨e0, e1, e2, e3, e4, e5, e6, e7, e8, e9⟩ := hxa.mono hwr
        have Hel := hid (endLast_succ bs to i x hx)
        have Hls := hid (fun key => lastTo_succ' bs l to key i x hx)
        have D := hid (fun W (h : Below w.heap.size w W) m e hr => C.out W h m e i hlt hr)
        rw [hxe] at D
        obtain ⟨a2, cap2, rfl, hn2, hz, hs2⟩ := hxr
        clear hx hxa hxe
        rcases Bool.eq_false_or_eq_true (decide (to ≤ x.last)) with h1 | h1
        · have h1' := of_decide_eq_true h1
          rw [if_neg (by omega)] at Hel
          have hls : (fun key => zOf (lastTo bs l to key (i + 1))) = fun key => zOf (lastTo bs l to key i) := by
            funext key; rw [Hls.out, counts_below h1']; simp
          have HLS := hid hls
          clear hls h1'
          have HR2 := hid (fun X => blk_below Hrow.out (below_alloc wo X))
          have HN := hid (Nat.le_trans hnn (Nat.mul_le_mul_right 1000000 (Nat.le_succ i)))
          go_wp2
          go_roundw
          case rel => exact ⟨i + 1, by omega, by go_num, hwr.step (below_alloc _ _), by rw [Hel.out]; exact HR2.out _, n, HN.out, by rw [HLS.out]; exact hmap.below (below_alloc _ _)⟩
          case measure => simp [intOf]; omega
        · have h1' := of_decide_eq_false h1
          rw [if_pos (by omega)] at Hel
          clear h1'
          obtain ⟨p0, p1, p2, p3, p4, p5, p6⟩ := rules_of_row Hrow.out
          have fz := frozen_of_row Hrow.out
          have hne : ¬ wo.heap.size = w.heap.size + 1 := by omega
          have HS := hid (show (wo.setCell ⟨w.heap.size + 1, 6, none⟩ (.int .i64 (i : Int))).heap[w.heap.size + 1]? = some (.cells #[.slice (some ⟨b', o, none⟩) bs.length (bs.length + cap), .slice a3 l.length cap3, .int .i64 to, .int .i64 now, .int .i64 keep, .map (some w.heap.size), .int .i64 (i : Int)] 72 (0, 0)) by have := setCell_row Hrow.out 6 (.int .i64 (i : Int)); simpa using this)
          cases hf : countsB l to x
          · rw [hf] at D
            have hls : (fun key => zOf (lastTo bs l to key (i + 1))) = fun key => zOf (lastTo bs l to key i) := by
              funext key; rw [Hls.out, hf]; simp
            have HLS := hid hls
            clear hls hf
            go_wp2_with fail
            have hS0 : Below w.heap.size w (wo.setCell ⟨w.heap.size + 1, 6, none⟩ (.int .i64 (i : Int))) := hwr.setCell (p := ⟨w.heap.size + 1, 6, none⟩) (by simp) _
            have hBW := fun X => hS0.alloc hS0.size X
            refine (D.out _ (hBW _) _ _ (rules_of_row (blk_below HS.out (below_alloc _ _)))).mono ?_
            rintro e w1 ⟨rfl, hb1⟩
            have n9 : w1.cell? ⟨wo.heap.size, 9, none⟩ = some (.slice a2 x.recs.length cap2) := cell_below hb1 (cell_new_row (by simp [World.setCell]) rfl)
            have HR1 := hid (blk_below (blk_below HS.out (below_alloc _ _)) hb1)
            have hmap1 := ((hmap.kept (grown_setCell wo (w.heap.size + 1) 6 (.int .i64 (i : Int))) (by simp)).below (below_alloc _ _)).below hb1
            have hw1 : Below w.heap.size w w1 := by
              refine Below.step ?_ hb1
              exact hBW _
            have HN := hid (Nat.le_trans hnn (Nat.mul_le_mul_right 1000000 (Nat.le_succ i)))
            clear p0 p1 p2 p3 p4 p5 p6 fz hb1 hBW hS0
            go_wp2
            go_roundw
            case rel => exact ⟨i + 1, by omega, by go_num, hw1, by rw [Hel.out]; exact HR1.out, n, HN.out, by rw [HLS.out]; exact hmap1⟩
            case measure => simp [intOf]; omega
          · rw [hf] at D
            have hls : (fun key => zOf (lastTo bs l to key (i + 1))) = fun key => zOf (lastInTo key i x.recs (lastTo bs l to key i) x.recs.length) := by
              funext key; rw [Hls.out, hf]; simp
            have HLS := hid hls
            clear hls hf
            go_wp2_with fail
            have hS0 : Below w.heap.size w (wo.setCell ⟨w.heap.size + 1, 6, none⟩ (.int .i64 (i : Int))) := hwr.setCell (p := ⟨w.heap.size + 1, 6, none⟩) (by simp) _
            have hBW := fun X => hS0.alloc hS0.size X
            refine (D.out _ (hBW _) _ _ (rules_of_row (blk_below HS.out (below_alloc _ _)))).mono ?_
            rintro e w1 ⟨rfl, hb1⟩
            have n9 : w1.cell? ⟨wo.heap.size, 9, none⟩ = some (.slice a2 x.recs.length cap2) := cell_below hb1 (cell_new_row (by simp [World.setCell]) rfl)
            have HR1 := hid (blk_below (blk_below HS.out (below_alloc _ _)) hb1)
            have hmap1 := ((hmap.kept (grown_setCell wo (w.heap.size + 1) 6 (.int .i64 (i : Int))) (by simp)).below (below_alloc _ _)).below hb1
            have hw1 : Below w.heap.size w w1 := by
              refine Below.step ?_ hb1
              exact hBW _
            have HN := hid (Nat.le_trans hnn (Nat.mul_le_mul_right 1000000 (Nat.le_succ i)))
            clear p0 p1 p2 p3 p4 p5 p6 fz hb1 hBW hS0
            go_wp2
            clear n9
            rcases hs2.shape with ⟨b2, o2, rfl, hc2⟩ | h02
            · have Hc2 := hid hc2
              clear hs2 hc2
              go_loopw [46] (fun q wr => ∃ j : Nat, j ≤ x.recs.length ∧ q = .int .i64 j ∧ Below w.heap.size w wr ∧ wr.heap[w.heap.size + 1]? = some (.cells #[.slice (some ⟨b', o, none⟩) bs.length (bs.length + cap), .slice a3 l.length cap3, .int .i64 to, .int .i64 now, .int .i64 keep, .map (some w.heap.size), .int .i64 (i : Int)] 72 (0, 0)) ∧ PlaceMap wr w.heap.size (n + j) (fun key => zOf (lastInTo key i x.recs (lastTo bs l to key i) j))) (fun q _ => x.recs.length - (intOf q).toNat)
              case atStart => exact ⟨0, by omega, rfl, hw1, HR1.out, hmap1⟩
              case round =>
                obtain ⟨j, hj, rfl, hwr2, hrw2, hmap2⟩ := hrel
                have HR2 := hid hrw2
                have hRlt2 : w.heap.size + 1 < wr.heap.size := (Array.getElem?_eq_some_iff.1 hrw2).1
                clear hrw2
                by_cases hjt : j < x.recs.length
                · obtain ⟨g0, g1, g2, g3, g4⟩ := (Hc2.out j hjt _ (List.getElem?_eq_getElem hjt)).mono hwr2
                  have hkey := (hz _ (List.getElem_mem hjt)).1
                  have HP := hid (put_fun i x.recs (fun key => lastTo bs l to key i) j hjt)
                  obtain ⟨r, hre⟩ : ∃ r, r = x.recs[j] := ⟨_, rfl⟩
                  rw [← hre] at g0 g1 g2 g3 g4 hkey HP
                  clear hre
                  go_wp2
                  refine wp_name fun W3 hW3 => ?_
                  have hB3 : Below wr.heap.size wr W3 := by rw [hW3]; exact below_alloc _ _
                  have hsz3 : wr.heap.size < W3.heap.size := by rw [hW3]; simp
                  have k1 : W3.cell? ⟨wr.heap.size, 1, none⟩ = some (.string r.key) := by rw [hW3]; simp
                  have k5 := cell_below hB3 (rules_of_row HR2.out).c5
                  clear hW3 g0 g1 g2 g3 g4
                  have hmap3 := hmap2.below hB3
                  clear hmap2 e0 e1 e2 e3 e4 e5 e6 e7 e8 e9
                  go_still_tail 9, (by kernel_rfl)
                  change wpList _ _ _ _ _ W3.drew
                  have hmap4 : PlaceMap W3.drew w.heap.size (n + j) (fun key => zOf (lastInTo key i x.recs (lastTo bs l to key i) j)) := hmap3.below ((Below.refl _ _).drew)
                  have hnj : n + j ≤ 100000000000000 := Nat.le_trans (Nat.add_le_add (Nat.le_trans hnn (Nat.mul_le_mul_right _ (Nat.le_trans (Nat.le_of_lt hlt) hn))) (Nat.le_trans (Nat.le_of_lt hjt) hn2)) (by decide)
                  have hB4 : Below wr.heap.size wr W3.drew := hB3.drew
                  have HR4 := hid (blk_below HR2.out hB4)
                  have hsz4 : wr.heap.size < W3.drew.heap.size := hsz3
                  clear hmap3 k1 k5 hsz3 hB3
                  generalize W3.drew = W4 at *
                  refine wpList_place_put rfl (.tmp 54) (.tmp 56) (.tmp 59) rfl w.heap.size (n + j) _ rfl hmap4 hnj r.key (i : Int) (j : Int) rfl rfl (by simp only [maxLen]; omega) ?_
                  intro w5 hmap5 hg5
                  rw [HP.out] at hmap5
                  have hRlt4 : w.heap.size + 1 < W4.heap.size := by omega
                  go_wp2
                  go_roundw
                  case rel => exact ⟨j + 1, by omega, by go_num, (hwr2.step hB4).trans (below_grown hg5 (Nat.le_trans hwr2.size hB4.size) (fun k hk => by cases hk; exact Nat.le_refl _)), (hg5.block _ hRlt4 (by simp)).trans HR4.out, hmap5⟩
                  case measure => simp [intOf]; omega
                · have hje : j = x.recs.length := by omega
                  have Hj := hid hje; clear hje
                  have HM : n + j ≤ (i + 1) * 1000000 := by
                    have := Hj.out
                    have h2 : (i + 1) * 1000000 = i * 1000000 + 1000000 := by rw [Nat.succ_mul]
                    rw [h2]; exact Nat.add_le_add hnn (by omega)
                  have HM := hid HM
                  go_wp2
                  go_roundw
                  case rel => exact ⟨i + 1, by omega, by go_num, hwr2, by rw [Hel.out]; exact HR2.out, n + j, HM.out, by rw [HLS.out]; rw [Hj.out] at hmap2 ⊢; exact hmap2⟩
                  case measure => simp [intOf]; omega
            · have H02 := hid h02
              have hlt0 : ¬ (0 : Int) < (x.recs.length : Int) := by have := h02; omega
              clear hs2 h02
              have hls : (fun key => zOf (lastInTo key i x.recs (lastTo bs l to key i) x.recs.length)) = fun key => zOf (lastTo bs l to key i) := by
                funext key; rw [H02.out]; rfl
              have HL2 := hid hls
              clear hls
              refine wp_loop_once ?_
              go_wp2
              go_roundw
              case rel => exact ⟨i + 1, by omega, by go_num, hw1, by rw [Hel.out]; exact HR1.out, n, HN.out, by rw [HLS.out, HL2.out]; exact hmap1⟩
              case measure => simp [intOf]; omega
      · have hie : i = bs.length := by omega
        have Hi := hid hie; clear hie
        obtain ⟨p0, p1, p2, p3, p4, p5, p6⟩ := rules_of_row Hrow.out
        go_wp2_with (refine wpList_place_del rfl (.tmp 65) _ rfl w.heap.size n _ rfl hmap ⟨#[]⟩ rfl (Nat.zero_le _) ?_)
        intro w2 hmap2 hg2
        go_wp2
        go_ret
        have hlt0 : w.heap.size < wo.heap.size := hmap.lt
        refine ⟨w.heap.size + 1, w.heap.size, n, rfl, ?_, ?_, hwr.trans (below_grown hg2 hwr.size (fun k hk => by cases hk; exact Nat.le_refl _))⟩
        · have := Hrow.out
          rw [Hi.out] at this
          exact rules_of_row ((hg2.block _ hRlt (by simp)).trans this)
        · rw [Hi.out] at hmap2
          exact hmap2
  · obtain rfl : bs = [] := List.eq_nil_of_length_eq_zero h0
    clear hs h0 hn hbw hl
    have hmap0 := PlaceMap.made w
    simp only [List.length_nil]
    generalize 0 + cap = c0
    go_enter Try.func29, Try.ntmps29
    go_wp2
    refine wp_loop_once ?_
    go_wp2_with (refine wpList_place_del rfl (.tmp 65) _ rfl w.heap.size 0 _ rfl (hmap0.below (below_alloc _ _)) ⟨#[]⟩ rfl (Nat.zero_le _) ?_)
    intro w2 hmap2 hg2
    go_wp2
    go_ret
    refine ⟨w.heap.size + 1, w.heap.size, 0, rfl, ?_, ?_, ?_⟩
    · refine rules_of_row ((hg2.block _ (by simp) (by simp)).trans ?_)
      have h := fun X => heap_alloc_new (w.alloc (.map #[] 0)) X
      simp only [size_alloc] at h
      exact h _
    · have hF : (fun _ : ByteArray => ((0 : Int), (0 : Int))) = lookF [] l to := by
        funext k; simp [lookF, lastG, lastTo, zOf]
      rw [← hF]; exact hmap2
    · exact ((below_alloc _ _).step (below_alloc _ _)).trans (below_grown hg2 (by simp; omega) (fun k hk => by cases hk; exact Nat.le_refl _))
end Go.Proofs.Ytceamgkifjmbcaa
