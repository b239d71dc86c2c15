/- Walks of the reference: Last. -/
import Derived.Test.YtceamgkifjmbcaaT4
import Derived.Test.YtceamgkifjmbcaaT2
import Derived.Deep.RegionHeld3
namespace Go.Proofs.Ytceamgkifjmbcaa
open Go.RowKit Go.Wm
theorem src_one (w : World) (k : ByteArray) (off : Int) : SrcM (w.alloc (.cells #[.string k, .int .i64 0, .int .i64 0, .int .i64 off] 41)) (.slice (some ⟨w.heap.size, 0, none⟩) 1 1) [⟨k, off⟩] := by
  refine .inr ⟨w.heap.size, 0, 1, rfl, fun j u hj => ?_⟩
  rw [Nat.zero_add]
  match j, hj with
  | 0, hj => simp [Mark.cells] at hj; subst hj; simp
  | 1, hj => simp [Mark.cells] at hj; subst hj; simp
  | 2, hj => simp [Mark.cells] at hj; subst hj; simp
  | 3, hj => simp [Mark.cells] at hj; subst hj; simp
  | j + 4, hj => simp [Mark.cells] at hj
theorem src_grown {w w' : World} {x : Value} {qs : List Mark} (h : SrcM w x qs) (hg : w.grownBy w' none) : SrcM w' x qs := by
  rcases h with h | ⟨g, off, c, rfl, hc⟩
  · exact .inl h
  · exact .inr ⟨g, off, c, rfl, fun j u hj => hg.cell (hc j u hj) (by simp)⟩
theorem ltK_not {K k : ByteArray} (h : Op.bytesLess K.toList k.toList = true) : ltK k K = false := by
  cases h' : ltK k K with
  | false => rfl
  | true =>
    have := ltK_trans h' (show ltK K k = true from h)
    rw [ltK_irrefl] at this; cases this
theorem insTo_le (bs : List Batch) (l : List Gone) (to : Int) : ∀ n, n ≤ bs.length → (insTo bs l to n).length ≤ recCount (bs.take n)
  | 0, _ => by simp [insTo]
  | n + 1, h => by
    have ih := insTo_le bs l to n (by omega)
    have hx : bs[n]? = some bs[n] := List.getElem?_eq_getElem (by omega)
    rw [insTo_succ bs l to n _ hx, recCount_take bs n (by omega)]
    have := insR_length bs l to n bs[n] (insTo bs l to n) bs[n].recs.length
    omega
set_option maxRecDepth 100000 in
set_option maxHeartbeats 8000000 in
theorem lastRef_any (bs : List Batch) (l : List Gone) (vb vl : Value) (to : Int) (w : World) (hb : BatchesAt w vb bs) (hl : GonesAt w vl l) (hcnt : recCount bs ≤ 1000000) :
    Calls Try.prog 25 #[vb, vl, .int .i64 to] w
      fun e w' => ∃ u, e = .returned u ∧ OwnMarks w' w.heap.size u (insTo bs l to bs.length) ∧ Below w.heap.size w w' := by
  have L := hid (fun key W (h : Below w.heap.size w W) => last_any bs l to key vb vl W (hb.mono h) (hl.mono h))
  have TL := hid (fun n (h : n < bs.length) => show (insTo bs l to n).length + bs[n].recs.length ≤ 1000000 by
    have h1 := insTo_le bs l to n (by omega)
    have h2 := recCount_take bs n h
    have h3 := recCount_le bs (n + 1)
    omega)
  have hlf := hl.form
  obtain ⟨a, cap, rfl, hn, hs⟩ := hb
  obtain ⟨a3, cap3, rfl, hn3⟩ := hlf
  have HS := hid hs
  clear hs hl
  go_enter Try.func25, Try.ntmps25
  go_wp2
  go_loopw [7, 18] (fun u q wr => ∃ i : Nat, i ≤ bs.length ∧ q = .int .i64 i ∧ OwnMarks wr w.heap.size u (insTo bs l to i) ∧ Below w.heap.size w wr) (fun _ q _ => bs.length - (intOf q).toNat)
  case atStart => exact ⟨0, by omega, rfl, OwnMarks.nil _ _, Below.refl _ _⟩
  case round =>
    obtain ⟨i, hi, rfl, hown, hwr⟩ := hrel
    by_cases hlt : i < bs.length
    · obtain ⟨b', o, rfl, hx⟩ := HS.out i hlt
      have hxi : bs[i]? = some bs[i] := List.getElem?_eq_getElem hlt
      obtain ⟨sv, hxa, hxr⟩ := hx _ hxi
      have hTL := TL.out i (by omega)
      have TS := hid (insTo_succ bs l to i _ hxi)
      obtain ⟨a2, cap2, rfl, hn2, _, hs2⟩ := hxr
      have HS2 := hid hs2
      obtain ⟨e0, e1, e2, e3, e4, e5, e6, e7, e8, e9⟩ := hxa.mono hwr
      clear hx hxa hs2 hxi
      generalize bs[i] = x at *
      obtain ⟨wo, rfl⟩ : ∃ wo : World, wo = wr := ⟨_, rfl⟩
      have HO := hid (fun X => hown.below (below_alloc wo X))
      generalize insTo bs l to i = A at *
      go_wp2
      clear hown e0 e1 e2 e3 e4 e5 e6 e7 e8 e9
      go_loopw [7, 26] (fun u q wr => ∃ k : Nat, k ≤ x.recs.length ∧ q = .int .i64 k ∧ OwnMarks wr w.heap.size u (insR bs l to i x A k) ∧ Below w.heap.size w wr) (fun _ q _ => x.recs.length - (intOf q).toNat)
      case atStart => exact ⟨0, by omega, rfl, HO.out _, hwr.step (below_alloc _ _)⟩
      case round =>
        obtain ⟨k, hk, rfl, hown, hwk⟩ := hrel
        by_cases hkt : k < x.recs.length
        · obtain ⟨b2, o2, rfl, hr⟩ := HS2.out k hkt
          have hrk : x.recs[k]? = some x.recs[k] := List.getElem?_eq_getElem hkt
          obtain ⟨g0, g1, g2, g3, g4⟩ := (hr _ hrk).mono hwk
          have Hs := hid (insR_succ bs l to i x A k _ hrk)
          have hBl : (insR bs l to i x A k).length ≤ 1000000 := by have := insR_length bs l to i x A k; omega
          obtain ⟨ao, capo, rfl, hcapo, _⟩ := hown.read
          clear hr hrk
          generalize x.recs[k] = r at *
          generalize insR bs l to i x A k = B at *
          have C := hid (fun X => L.out r.key (wr.alloc X) (hwk.step (below_alloc _ _)))
          rcases Bool.eq_false_or_eq_true r.key.toList.isEmpty with h0 | h0
          · have N0 := hid h0
            have HN := hid (Hs.out.trans (if_neg (by simp only [isLastAt]; rw [h0]; simp)) : insR bs l to i x A (k + 1) = B)
            go_wp2_with (go_at_call 47; refine (C.out _).mono ?_; rintro e w2 ⟨rfl, hb2⟩; have q0 := cell_below hb2 (show (World.alloc wr _).cell? ⟨wr.heap.size, 0, none⟩ = some (.int .i64 r.off) by simp); have q1 := cell_below hb2 (show (World.alloc wr _).cell? ⟨wr.heap.size, 1, none⟩ = some (.string r.key) by simp))
            go_roundw
            case rel => exact ⟨k + 1, by omega, by go_num, by rw [HN.out]; exact (hown.below (below_alloc _ _)).below hb2, hwk.step ((below_alloc _ _).step hb2)⟩
            case measure => simp [intOf]; omega
          · rcases Bool.eq_false_or_eq_true ((lastG bs l to r.key).1 != (i : Int)) with h1 | h1
            · have N0 := hid h0
              have N1 := hid h1
              have HN := hid (Hs.out.trans (if_neg (by simp only [isLastAt]; simp at h1; simp [h1])) : insR bs l to i x A (k + 1) = B)
              go_wp2_with (go_at_call 47; refine (C.out _).mono ?_; rintro e w2 ⟨rfl, hb2⟩; have q0 := cell_below hb2 (show (World.alloc wr _).cell? ⟨wr.heap.size, 0, none⟩ = some (.int .i64 r.off) by simp); have q1 := cell_below hb2 (show (World.alloc wr _).cell? ⟨wr.heap.size, 1, none⟩ = some (.string r.key) by simp))
              go_roundw
              case rel => exact ⟨k + 1, by omega, by go_num, by rw [HN.out]; exact (hown.below (below_alloc _ _)).below hb2, hwk.step ((below_alloc _ _).step hb2)⟩
              case measure => simp [intOf]; omega
            · rcases Bool.eq_false_or_eq_true ((lastG bs l to r.key).2 != (k : Int)) with h2 | h2
              · have N0 := hid h0
                have N1 := hid h1
                have N2 := hid h2
                have HN := hid (Hs.out.trans (if_neg (by simp only [isLastAt]; simp at h2; simp [h2])) : insR bs l to i x A (k + 1) = B)
                go_wp2_with (go_at_call 47; refine (C.out _).mono ?_; rintro e w2 ⟨rfl, hb2⟩; have q0 := cell_below hb2 (show (World.alloc wr _).cell? ⟨wr.heap.size, 0, none⟩ = some (.int .i64 r.off) by simp); have q1 := cell_below hb2 (show (World.alloc wr _).cell? ⟨wr.heap.size, 1, none⟩ = some (.string r.key) by simp))
                go_roundw
                case rel => exact ⟨k + 1, by omega, by go_num, by rw [HN.out]; exact (hown.below (below_alloc _ _)).below hb2, hwk.step ((below_alloc _ _).step hb2)⟩
                case measure => simp [intOf]; omega
              · have N0 := hid h0
                have N1 := hid h1
                have N2 := hid h2
                have HN := hid (Hs.out.trans (if_pos (by simp at h1 h2; simp [isLastAt, h1, h2]; simpa using h0)) : insR bs l to i x A (k + 1) = insM B ⟨r.key, r.off⟩)
                go_wp2_with (go_at_call 47; refine (C.out _).mono ?_; rintro e w2 ⟨rfl, hb2⟩; have q0 := cell_below hb2 (show (World.alloc wr _).cell? ⟨wr.heap.size, 0, none⟩ = some (.int .i64 r.off) by simp); have q1 := cell_below hb2 (show (World.alloc wr _).cell? ⟨wr.heap.size, 1, none⟩ = some (.string r.key) by simp))
                refine wp_name fun wm hwm => ?_
                have hBm : Below w2.heap.size w2 wm := by rw [hwm]; exact below_alloc _ _
                have m0 : wm.cell? ⟨w2.heap.size, 0, none⟩ = some (.string r.key) := by rw [hwm]; simp
                have m1 : wm.cell? ⟨w2.heap.size, 1, none⟩ = some (.int .i64 0) := by rw [hwm]; simp
                have m2 : wm.cell? ⟨w2.heap.size, 2, none⟩ = some (.int .i64 0) := by rw [hwm]; simp
                have m3 : wm.cell? ⟨w2.heap.size, 3, none⟩ = some (.int .i64 r.off) := by rw [hwm]; simp
                have qk := cell_below hBm q1
                have HOm := hid (((hown.below (below_alloc _ _)).below hb2).below hBm)
                obtain ⟨_, _, hfm, _, HRm0⟩ := HOm.out.read
                simp only [Value.slice.injEq, true_and] at hfm
                obtain ⟨rfl, rfl⟩ := hfm
                have HRm := hid HRm0
                clear HRm0 hwm q0 q1 hown C
                go_loopw [15] (fun q wr => ∃ n : Nat, n ≤ B.length ∧ q = .int .i64 n ∧ insPos B r.key n = insPos B r.key B.length ∧ Below wm.heap.size wm wr) (fun q _ => (intOf q).toNat)
                case atStart => exact ⟨B.length, Nat.le_refl _, rfl, rfl, Below.refl _ _⟩
                case round =>
                  obtain ⟨n, hn, rfl, hpos, hwl⟩ := hrel
                  rcases Nat.eq_zero_or_pos n with h0n | h0n
                  · have hp0 : decide ((0 : Int) < (n : Int)) = false := by rw [decide_eq_false_iff_not]; omega
                    have HN0 := hid h0n
                    have hq0 : ¬ 0 < n := by omega
                    clear h0n
                    go_wp2
                    refine wp_region_later (by kernel_rfl) (by kernel_rfl) ?_
                    repeat (go_big_quiet_step (fail))
                    refine wpQuiet_nil ?_
                    intro w3 hb3
                    clear hp0 hq0
                    have hBT : Below wm.heap.size wm w3 := hwl.step hb3
                    have hPOS : insPos B r.key B.length = n := by rw [← hpos, HN0.out]; rfl
                    obtain ⟨x1, x2, s1, s2, HSr0⟩ := parts_marks HOm.out (n) (by omega) (by omega)
                    have HSr := hid HSr0
                    clear HSr0
                    have HI := hid (show (([] ++ B.take (n)) ++ [(⟨r.key, r.off⟩ : Mark)]) ++ B.drop (n) = insM B ⟨r.key, r.off⟩ by unfold insM; rw [hPOS]; simp)
                    clear hPOS
                    have hn1 : ([] : List Mark).length + (B.take (n)).length ≤ 100000000 := by simp only [List.length_take, List.length_nil]; omega
                    have hn2 : ([] ++ B.take (n) : List Mark).length + [(⟨r.key, r.off⟩ : Mark)].length ≤ 100000000 := by simp only [List.length_append, List.length_take, List.length_nil, List.length_singleton]; omega
                    have hn3 : (([] ++ B.take (n)) ++ [(⟨r.key, r.off⟩ : Mark)] : List Mark).length + (B.drop (n)).length ≤ 100000000 := by simp only [List.length_append, List.length_take, List.length_drop, List.length_nil, List.length_singleton]; omega
                    have hbd : Below w3.heap.size w3 w3.drew := (Below.refl _ _).drew
                    have SB := hid (fun W (hb : Below wm.heap.size wm W) => show W.cell? ⟨w2.heap.size, 0, none⟩ = some (.string r.key) ∧ W.cell? ⟨w2.heap.size, 1, none⟩ = some (.int .i64 0) ∧ W.cell? ⟨w2.heap.size, 2, none⟩ = some (.int .i64 0) ∧ W.cell? ⟨w2.heap.size, 3, none⟩ = some (.int .i64 r.off) from ⟨cell_below hb m0, cell_below hb m1, cell_below hb m2, cell_below hb m3⟩)
                    obtain ⟨t0, t1, t2, t3⟩ := SB.out w3 hBT
                    clear m0 m1 m2 m3 qk HOm
                    go_wp2
                    go_region_held3 (fun w' => w'.cell? ⟨w2.heap.size, 0, none⟩ = some (.string r.key) ∧ w'.cell? ⟨w2.heap.size, 1, none⟩ = some (.int .i64 0) ∧ w'.cell? ⟨w2.heap.size, 2, none⟩ = some (.int .i64 0) ∧ w'.cell? ⟨w2.heap.size, 3, none⟩ = some (.int .i64 r.off)) (first | assumption | go_keep)
                      (first
                        | (refine step_append_marks rfl (.const (.slice none 0 0)) (.tmp 79) rfl w3.heap.size _ [] rfl (OwnMarks.nil _ _) (B.take (n)) x1 rfl (HSr.out w3.drew (hBT.step hbd)).1 hn1 hbd.size ?_; intro v1 w5 hown5 hbel5 hgr5; have hB5 : Below w3.heap.size w3 w5 := hbd.trans hbel5; have HSS := SB.out _ (hBT.step hB5); have hY := hown5.below (below_alloc w5 (.cells #[.string r.key, .int .i64 0, .int .i64 0, .int .i64 r.off] 41)); have hYS : SrcM (w5.alloc (.cells #[.string r.key, .int .i64 0, .int .i64 0, .int .i64 r.off] 41)) (.slice (some ⟨w5.heap.size, 0, none⟩) 1 1) [⟨r.key, r.off⟩] := src_one w5 r.key r.off; have hYB : Below w3.heap.size w3 (w5.alloc (.cells #[.string r.key, .int .i64 0, .int .i64 0, .int .i64 r.off] 41)) := hB5.trans ((below_alloc w5 _).mono hB5.size))
                        | (refine step_append_marks rfl (.const (.slice none 0 0)) (.tmp 79) rfl w3.heap.size _ [] rfl (OwnMarks.nil _ _) (B.take (n)) x1 rfl (HSr.out (w3.drew.alloc (.cells #[.string r.key, .int .i64 0, .int .i64 0, .int .i64 r.off] 41)) (hBT.step (hbd.step (below_alloc _ _)))).1 hn1 (hbd.step (below_alloc _ _)).size ?_; intro v1 w5 hown5 hbel5 hgr5; have hB5 : Below w3.heap.size w3 w5 := (hbd.step (below_alloc _ _)).trans hbel5; have HSS := SB.out _ (hBT.step hB5); have hY := hown5; have hYS : SrcM w5 (.slice (some ⟨w3.drew.heap.size, 0, none⟩) 1 1) [⟨r.key, r.off⟩] := src_grown (src_one w3.drew r.key r.off) hgr5; have hYB : Below w3.heap.size w3 w5 := hB5)
                        | (refine step_append_marks rfl (.tmp 80) (.tmp 82) rfl w3.heap.size _ _ rfl hY [⟨r.key, r.off⟩] _ rfl hYS hn2 hYB.size ?_; intro v2 w6 hown6 hbel6 hgr6; have hB6 : Below w3.heap.size w3 w6 := hYB.trans hbel6; have HSS6 := SB.out _ (hBT.step hB6))
                        | (refine step_append_marks rfl (.tmp 83) (.tmp 86) rfl w3.heap.size _ _ rfl hown6 (B.drop (n)) x2 rfl (HSr.out w6 (hBT.step hB6)).2 hn3 hB6.size ?_; intro v3 w7 hown7 hbel7 hgr7; have hB7 : Below w3.heap.size w3 w7 := hB6.trans hbel7; have HSS7 := SB.out _ (hBT.step hB7)))
                    all_goals
                      rw [HI.out] at hown7
                      have hZ : Below w.heap.size w w7 := (hwk.step ((below_alloc _ _).step hb2)).step (hBm.step (hBT.step hB7))
                      have hW3 : w.heap.size ≤ w3.heap.size := ((hwk.step ((below_alloc _ _).step hb2)).step (hBm.step hBT)).size
                      have hOZ : OwnMarks w7 w.heap.size v3 (insM B ⟨r.key, r.off⟩) := ownsRow_mono hown7 hW3
                      clear hown5 hown6 hown7 hgr5 hgr6 hgr7 hbel5 hbel6 hbel7 HSS HSS6 HSS7 hY hYS hYB hB5 hB6 hB7 HSr HI s1 s2 SB t0 t1 t2 t3 hn1 hn2 hn3
                      go_wp2
                      go_roundw
                      case rel => exact ⟨k + 1, by omega, by go_num, by rw [HN.out]; exact hOZ, hZ⟩
                      case measure => simp [intOf]; omega
                  · obtain ⟨j, hj⟩ : ∃ j, n = j + 1 := ⟨n - 1, by omega⟩
                    have hjl : j < B.length := by omega
                    obtain ⟨gm, ham, hmk⟩ := HRm.out j hjl
                    have hBj : B[j]? = some B[j] := List.getElem?_eq_getElem hjl
                    have hIP := hid (show insPos B r.key n = if ltK r.key B[j].key = true then insPos B r.key j else j + 1 by rw [hj, insPos, hBj])
                    have c0 := cell_below hwl hmk.c0
                    have ck := cell_below hwl qk
                    have c0 := Later.cell c0
                    have ck := Later.cell ck
                    have hp0 : decide ((0 : Int) < (n : Int)) = true := by rw [decide_eq_true_iff]; omega
                    have hw1 : IntKind.i64.wrap ((n : Int) - 1) = (j : Int) := by rw [show (n : Int) - 1 = (j : Int) from by omega]; exact IntWalk.i64_in _ (by omega)
                    have HJ := hid hj
                    clear hBj hmk hj
                    generalize B[j].key = K at *
                    subst ham
                    rcases Bool.eq_false_or_eq_true (Op.bytesLess K.toList r.key.toList) with hA | hA
                    · have hlt : ltK r.key K = false := ltK_not hA
                      go_wp2
                      refine wp_region_later (by kernel_rfl) (by kernel_rfl) ?_
                      repeat (go_big_quiet_step (fail))
                      refine wpQuiet_nil ?_
                      intro w3 hb3
                      clear c0 ck hp0 hw1 hA
                      have hBT : Below wm.heap.size wm w3 := hwl.step hb3
                      have hPOS : insPos B r.key B.length = n := by rw [← hpos, hIP.out, if_neg (by rw [hlt]; simp)]; exact HJ.out.symm
                      obtain ⟨x1, x2, s1, s2, HSr0⟩ := parts_marks HOm.out (n) (by omega) (by omega)
                      have HSr := hid HSr0
                      clear HSr0
                      have HI := hid (show (([] ++ B.take (n)) ++ [(⟨r.key, r.off⟩ : Mark)]) ++ B.drop (n) = insM B ⟨r.key, r.off⟩ by unfold insM; rw [hPOS]; simp)
                      clear hPOS
                      have hn1 : ([] : List Mark).length + (B.take (n)).length ≤ 100000000 := by simp only [List.length_take, List.length_nil]; omega
                      have hn2 : ([] ++ B.take (n) : List Mark).length + [(⟨r.key, r.off⟩ : Mark)].length ≤ 100000000 := by simp only [List.length_append, List.length_take, List.length_nil, List.length_singleton]; omega
                      have hn3 : (([] ++ B.take (n)) ++ [(⟨r.key, r.off⟩ : Mark)] : List Mark).length + (B.drop (n)).length ≤ 100000000 := by simp only [List.length_append, List.length_take, List.length_drop, List.length_nil, List.length_singleton]; omega
                      have hbd : Below w3.heap.size w3 w3.drew := (Below.refl _ _).drew
                      have SB := hid (fun W (hb : Below wm.heap.size wm W) => show W.cell? ⟨w2.heap.size, 0, none⟩ = some (.string r.key) ∧ W.cell? ⟨w2.heap.size, 1, none⟩ = some (.int .i64 0) ∧ W.cell? ⟨w2.heap.size, 2, none⟩ = some (.int .i64 0) ∧ W.cell? ⟨w2.heap.size, 3, none⟩ = some (.int .i64 r.off) from ⟨cell_below hb m0, cell_below hb m1, cell_below hb m2, cell_below hb m3⟩)
                      obtain ⟨t0, t1, t2, t3⟩ := SB.out w3 hBT
                      clear m0 m1 m2 m3 qk HOm
                      go_wp2
                      go_region_held3 (fun w' => w'.cell? ⟨w2.heap.size, 0, none⟩ = some (.string r.key) ∧ w'.cell? ⟨w2.heap.size, 1, none⟩ = some (.int .i64 0) ∧ w'.cell? ⟨w2.heap.size, 2, none⟩ = some (.int .i64 0) ∧ w'.cell? ⟨w2.heap.size, 3, none⟩ = some (.int .i64 r.off)) (first | assumption | go_keep)
                        (first
                          | (refine step_append_marks rfl (.const (.slice none 0 0)) (.tmp 79) rfl w3.heap.size _ [] rfl (OwnMarks.nil _ _) (B.take (n)) x1 rfl (HSr.out w3.drew (hBT.step hbd)).1 hn1 hbd.size ?_; intro v1 w5 hown5 hbel5 hgr5; have hB5 : Below w3.heap.size w3 w5 := hbd.trans hbel5; have HSS := SB.out _ (hBT.step hB5); have hY := hown5.below (below_alloc w5 (.cells #[.string r.key, .int .i64 0, .int .i64 0, .int .i64 r.off] 41)); have hYS : SrcM (w5.alloc (.cells #[.string r.key, .int .i64 0, .int .i64 0, .int .i64 r.off] 41)) (.slice (some ⟨w5.heap.size, 0, none⟩) 1 1) [⟨r.key, r.off⟩] := src_one w5 r.key r.off; have hYB : Below w3.heap.size w3 (w5.alloc (.cells #[.string r.key, .int .i64 0, .int .i64 0, .int .i64 r.off] 41)) := hB5.trans ((below_alloc w5 _).mono hB5.size))
                          | (refine step_append_marks rfl (.const (.slice none 0 0)) (.tmp 79) rfl w3.heap.size _ [] rfl (OwnMarks.nil _ _) (B.take (n)) x1 rfl (HSr.out (w3.drew.alloc (.cells #[.string r.key, .int .i64 0, .int .i64 0, .int .i64 r.off] 41)) (hBT.step (hbd.step (below_alloc _ _)))).1 hn1 (hbd.step (below_alloc _ _)).size ?_; intro v1 w5 hown5 hbel5 hgr5; have hB5 : Below w3.heap.size w3 w5 := (hbd.step (below_alloc _ _)).trans hbel5; have HSS := SB.out _ (hBT.step hB5); have hY := hown5; have hYS : SrcM w5 (.slice (some ⟨w3.drew.heap.size, 0, none⟩) 1 1) [⟨r.key, r.off⟩] := src_grown (src_one w3.drew r.key r.off) hgr5; have hYB : Below w3.heap.size w3 w5 := hB5)
                          | (refine step_append_marks rfl (.tmp 80) (.tmp 82) rfl w3.heap.size _ _ rfl hY [⟨r.key, r.off⟩] _ rfl hYS hn2 hYB.size ?_; intro v2 w6 hown6 hbel6 hgr6; have hB6 : Below w3.heap.size w3 w6 := hYB.trans hbel6; have HSS6 := SB.out _ (hBT.step hB6))
                          | (refine step_append_marks rfl (.tmp 83) (.tmp 86) rfl w3.heap.size _ _ rfl hown6 (B.drop (n)) x2 rfl (HSr.out w6 (hBT.step hB6)).2 hn3 hB6.size ?_; intro v3 w7 hown7 hbel7 hgr7; have hB7 : Below w3.heap.size w3 w7 := hB6.trans hbel7; have HSS7 := SB.out _ (hBT.step hB7)))
                      all_goals
                        rw [HI.out] at hown7
                        have hZ : Below w.heap.size w w7 := (hwk.step ((below_alloc _ _).step hb2)).step (hBm.step (hBT.step hB7))
                        have hW3 : w.heap.size ≤ w3.heap.size := ((hwk.step ((below_alloc _ _).step hb2)).step (hBm.step hBT)).size
                        have hOZ : OwnMarks w7 w.heap.size v3 (insM B ⟨r.key, r.off⟩) := ownsRow_mono hown7 hW3
                        clear hown5 hown6 hown7 hgr5 hgr6 hgr7 hbel5 hbel6 hbel7 HSS HSS6 HSS7 hY hYS hYB hB5 hB6 hB7 HSr HI s1 s2 SB t0 t1 t2 t3 hn1 hn2 hn3
                        go_wp2
                        go_roundw
                        case rel => exact ⟨k + 1, by omega, by go_num, by rw [HN.out]; exact hOZ, hZ⟩
                        case measure => simp [intOf]; omega
                    · rcases Bool.eq_false_or_eq_true (K.toList == r.key.toList) with hE | hE
                      · have hlt : ltK r.key K = false := by have e : K = r.key := toList_inj.1 (by simpa using hE); rw [e]; exact ltK_irrefl _
                        go_wp2
                        refine wp_region_later (by kernel_rfl) (by kernel_rfl) ?_
                        repeat (go_big_quiet_step (fail))
                        refine wpQuiet_nil ?_
                        intro w3 hb3
                        clear c0 ck hp0 hw1 hA hE
                        have hBT : Below wm.heap.size wm w3 := hwl.step hb3
                        have hPOS : insPos B r.key B.length = n := by rw [← hpos, hIP.out, if_neg (by rw [hlt]; simp)]; exact HJ.out.symm
                        obtain ⟨x1, x2, s1, s2, HSr0⟩ := parts_marks HOm.out (n) (by omega) (by omega)
                        have HSr := hid HSr0
                        clear HSr0
                        have HI := hid (show (([] ++ B.take (n)) ++ [(⟨r.key, r.off⟩ : Mark)]) ++ B.drop (n) = insM B ⟨r.key, r.off⟩ by unfold insM; rw [hPOS]; simp)
                        clear hPOS
                        have hn1 : ([] : List Mark).length + (B.take (n)).length ≤ 100000000 := by simp only [List.length_take, List.length_nil]; omega
                        have hn2 : ([] ++ B.take (n) : List Mark).length + [(⟨r.key, r.off⟩ : Mark)].length ≤ 100000000 := by simp only [List.length_append, List.length_take, List.length_nil, List.length_singleton]; omega
                        have hn3 : (([] ++ B.take (n)) ++ [(⟨r.key, r.off⟩ : Mark)] : List Mark).length + (B.drop (n)).length ≤ 100000000 := by simp only [List.length_append, List.length_take, List.length_drop, List.length_nil, List.length_singleton]; omega
                        have hbd : Below w3.heap.size w3 w3.drew := (Below.refl _ _).drew
                        have SB := hid (fun W (hb : Below wm.heap.size wm W) => show W.cell? ⟨w2.heap.size, 0, none⟩ = some (.string r.key) ∧ W.cell? ⟨w2.heap.size, 1, none⟩ = some (.int .i64 0) ∧ W.cell? ⟨w2.heap.size, 2, none⟩ = some (.int .i64 0) ∧ W.cell? ⟨w2.heap.size, 3, none⟩ = some (.int .i64 r.off) from ⟨cell_below hb m0, cell_below hb m1, cell_below hb m2, cell_below hb m3⟩)
                        obtain ⟨t0, t1, t2, t3⟩ := SB.out w3 hBT
                        clear m0 m1 m2 m3 qk HOm
                        go_wp2
                        go_region_held3 (fun w' => w'.cell? ⟨w2.heap.size, 0, none⟩ = some (.string r.key) ∧ w'.cell? ⟨w2.heap.size, 1, none⟩ = some (.int .i64 0) ∧ w'.cell? ⟨w2.heap.size, 2, none⟩ = some (.int .i64 0) ∧ w'.cell? ⟨w2.heap.size, 3, none⟩ = some (.int .i64 r.off)) (first | assumption | go_keep)
                          (first
                            | (refine step_append_marks rfl (.const (.slice none 0 0)) (.tmp 79) rfl w3.heap.size _ [] rfl (OwnMarks.nil _ _) (B.take (n)) x1 rfl (HSr.out w3.drew (hBT.step hbd)).1 hn1 hbd.size ?_; intro v1 w5 hown5 hbel5 hgr5; have hB5 : Below w3.heap.size w3 w5 := hbd.trans hbel5; have HSS := SB.out _ (hBT.step hB5); have hY := hown5.below (below_alloc w5 (.cells #[.string r.key, .int .i64 0, .int .i64 0, .int .i64 r.off] 41)); have hYS : SrcM (w5.alloc (.cells #[.string r.key, .int .i64 0, .int .i64 0, .int .i64 r.off] 41)) (.slice (some ⟨w5.heap.size, 0, none⟩) 1 1) [⟨r.key, r.off⟩] := src_one w5 r.key r.off; have hYB : Below w3.heap.size w3 (w5.alloc (.cells #[.string r.key, .int .i64 0, .int .i64 0, .int .i64 r.off] 41)) := hB5.trans ((below_alloc w5 _).mono hB5.size))
                            | (refine step_append_marks rfl (.const (.slice none 0 0)) (.tmp 79) rfl w3.heap.size _ [] rfl (OwnMarks.nil _ _) (B.take (n)) x1 rfl (HSr.out (w3.drew.alloc (.cells #[.string r.key, .int .i64 0, .int .i64 0, .int .i64 r.off] 41)) (hBT.step (hbd.step (below_alloc _ _)))).1 hn1 (hbd.step (below_alloc _ _)).size ?_; intro v1 w5 hown5 hbel5 hgr5; have hB5 : Below w3.heap.size w3 w5 := (hbd.step (below_alloc _ _)).trans hbel5; have HSS := SB.out _ (hBT.step hB5); have hY := hown5; have hYS : SrcM w5 (.slice (some ⟨w3.drew.heap.size, 0, none⟩) 1 1) [⟨r.key, r.off⟩] := src_grown (src_one w3.drew r.key r.off) hgr5; have hYB : Below w3.heap.size w3 w5 := hB5)
                            | (refine step_append_marks rfl (.tmp 80) (.tmp 82) rfl w3.heap.size _ _ rfl hY [⟨r.key, r.off⟩] _ rfl hYS hn2 hYB.size ?_; intro v2 w6 hown6 hbel6 hgr6; have hB6 : Below w3.heap.size w3 w6 := hYB.trans hbel6; have HSS6 := SB.out _ (hBT.step hB6))
                            | (refine step_append_marks rfl (.tmp 83) (.tmp 86) rfl w3.heap.size _ _ rfl hown6 (B.drop (n)) x2 rfl (HSr.out w6 (hBT.step hB6)).2 hn3 hB6.size ?_; intro v3 w7 hown7 hbel7 hgr7; have hB7 : Below w3.heap.size w3 w7 := hB6.trans hbel7; have HSS7 := SB.out _ (hBT.step hB7)))
                        all_goals
                          rw [HI.out] at hown7
                          have hZ : Below w.heap.size w w7 := (hwk.step ((below_alloc _ _).step hb2)).step (hBm.step (hBT.step hB7))
                          have hW3 : w.heap.size ≤ w3.heap.size := ((hwk.step ((below_alloc _ _).step hb2)).step (hBm.step hBT)).size
                          have hOZ : OwnMarks w7 w.heap.size v3 (insM B ⟨r.key, r.off⟩) := ownsRow_mono hown7 hW3
                          clear hown5 hown6 hown7 hgr5 hgr6 hgr7 hbel5 hbel6 hbel7 HSS HSS6 HSS7 hY hYS hYB hB5 hB6 hB7 HSr HI s1 s2 SB t0 t1 t2 t3 hn1 hn2 hn3
                          go_wp2
                          go_roundw
                          case rel => exact ⟨k + 1, by omega, by go_num, by rw [HN.out]; exact hOZ, hZ⟩
                          case measure => simp [intOf]; omega
                      · have hlt : ltK r.key K = true := ltK_total (a := K) (b := r.key) hA (fun e => by rw [e] at hE; simp at hE)
                        go_wp2
                        refine wp_region_later (by kernel_rfl) (by kernel_rfl) ?_
                        repeat (go_big_quiet_step (fail))
                        refine wpQuiet_nil ?_
                        intro w3 hb3
                        clear c0 ck hp0 hA hE
                        go_wp2
                        go_roundw
                        case rel => exact ⟨j, by omega, by go_num, by rw [← hpos, hIP.out, if_pos hlt], hwl.step hb3⟩
                        case measure => have := HJ.out; simp [intOf]; omega
        · have hke : k = x.recs.length := by omega
          have HK := hid hke
          clear hke
          go_wp2
          go_roundw
          case rel => exact ⟨i + 1, by omega, by go_num, by rw [TS.out, ← HK.out]; exact hown, hwk⟩
          case measure => simp [intOf]; omega
    · obtain rfl : i = bs.length := by omega
      go_wp2
      go_ret
      exact ⟨_, rfl, hown, hwr⟩
end Go.Proofs.Ytceamgkifjmbcaa
