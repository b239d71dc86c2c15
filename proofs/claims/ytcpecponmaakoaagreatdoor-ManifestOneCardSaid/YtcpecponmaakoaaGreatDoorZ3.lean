/- Walk: a step of the law's. -/
import Derived.Test.YtcpecponmaakoaaGreatDoorZ2
import Derived.Test.YtcpecponmaakoaaGreatDoorV2
import Derived.Deep.DeepCutAuto
namespace Go.Proofs.YtcpecponmaakoaaGreatDoor
open Go.RowKit Go.Wm
set_option maxHeartbeats 4000000 in
set_option maxRecDepth 100000 in
theorem done1_any (ver next kd by' n : Int) (ps : List Piece) (v : Value) (w : World) (hL : Laid w) (hS : StepsAt w 0) (hv : PcsAt w v ps) (hcv : CapOk v) :
    Calls Tryz.prog 37 #[.agg #[.int .i64 ver, .int .i64 next, v], .agg #[.int .i64 kd, .int .i64 by', .int .i64 n]] w fun e w' => ∃ u, e = .returned (.agg #[.int .i64 (doneM ver next ps kd by' n).1, .int .i64 (doneM ver next ps kd by' n).2.1, u]) ∧ PcsAt w' u (doneM ver next ps kd by' n).2.2 ∧ CapOk u ∧ Below w.heap.size w w' := by
  have HV := hid hv
  have HCV := hid hcv
  have HL := hid hL
  have HS := hid hS
  obtain ⟨a, cap, rfl, hn, _⟩ := hv
  clear hL hS hcv
  go_enter Tryz.func37, Tryz.ntmps37
  go_upto_region 2 with fail
  refine wp_name fun W hW => ?_
  have hM : W.heap[w.heap.size]? = some (.cells #[.int .i64 ver, .int .i64 next, .slice a ps.length cap] 24 (0, 0)) := by
    rw [hW]
    exact blk_below (blk_below (blk_below (heap_alloc_new w _) (below_alloc _ _)) (below_alloc _ _)) (below_alloc _ _)
  have hD : W.heap[w.heap.size + 1]? = some (.cells #[.int .i64 kd, .int .i64 by', .int .i64 n] 59 (0, 0)) := by
    rw [hW]
    have := heap_alloc_new (w.alloc (.cells #[.int .i64 ver, .int .i64 next, .slice a ps.length cap] 24)) (.cells #[.int .i64 kd, .int .i64 by', .int .i64 n] 59)
    rw [size_alloc] at this
    exact blk_below (blk_below this (below_alloc _ _)) (below_alloc _ _)
  have hR : W.heap[w.heap.size + 2]? = some (.cells #[.int .i64 0, .int .i64 0, .slice none 0 0] 24 (0, 0)) := by
    rw [hW]
    have := heap_alloc_new ((w.alloc (.cells #[.int .i64 ver, .int .i64 next, .slice a ps.length cap] 24)).alloc (.cells #[.int .i64 kd, .int .i64 by', .int .i64 n] 59)) (.cells #[.int .i64 0, .int .i64 0, .slice none 0 0] 24)
    rw [size_alloc, size_alloc] at this
    exact blk_below this (below_alloc _ _)
  have hX : W.heap[w.heap.size + 3]? = some (.cells #[.int .i64 ver, .int .i64 next, .slice a ps.length cap] 24 (0, 0)) := by
    rw [hW]
    have := heap_alloc_new (((w.alloc (.cells #[.int .i64 ver, .int .i64 next, .slice a ps.length cap] 24)).alloc (.cells #[.int .i64 kd, .int .i64 by', .int .i64 n] 59)).alloc (.cells #[.int .i64 0, .int .i64 0, .slice none 0 0] 24)) (.cells #[.int .i64 ver, .int .i64 next, .slice a ps.length cap] 24)
    rw [size_alloc, size_alloc, size_alloc] at this
    exact this
  have hB : Below w.heap.size w W := by
    rw [hW]
    exact (((below_alloc _ _).step (below_alloc _ _)).step (below_alloc _ _)).step (below_alloc _ _)
  have hsz : w.heap.size + 4 ≤ W.heap.size := by
    have := (Array.getElem?_eq_some_iff.1 hX).1
    omega
  clear hW
  obtain ⟨m0, m1, m2, mf⟩ := row3 hM
  obtain ⟨d0, d1, d2, df⟩ := row3 hD
  obtain ⟨x0, x1, x2, xf⟩ := row3 hX
  by_cases hk0 : kd = 0
  · have Hd := hid (show doneM ver next ps kd by' n = if (beginM ver next (wrap64 ((spanP ps).2 + by')) (wrap64 (wrap64 ((spanP ps).2 + by') + n)) n 1 ps).2.2 ≠ 0 then (ver, next, ps) else (beginM ver next (wrap64 ((spanP ps).2 + by')) (wrap64 (wrap64 ((spanP ps).2 + by') + n)) n 1 ps).1 by unfold doneM; rw [if_pos hk0])
    have hk : (kd == 0) = true := by simp [hk0]
    have hxl := Nat.le_trans (beginM_len ver next (wrap64 ((spanP ps).2 + by')) (wrap64 (wrap64 ((spanP ps).2 + by') + n)) n 1 ps) (Nat.succ_le_succ hn)
    have hxl2 : (beginM ver next (wrap64 ((spanP ps).2 + by')) (wrap64 (wrap64 ((spanP ps).2 + by') + n)) n 1 ps).1.2.2.length ≤ 1000000 := by
      unfold beginM
      split
      · simp
      · next hc =>
        have hc : checkM ver next ps = 0 := by simpa using hc
        have h256 := (checkM_ok hc).2.2.1
        split
        · simp
        · simp; omega
    have S := span_any ver next ps (.slice a ps.length cap) W (HV.out.mono hB)
    have BG := fun W1 (h : Below w.heap.size w W1) => begin_any ver next (wrap64 ((spanP ps).2 + by')) (wrap64 (wrap64 ((spanP ps).2 + by') + n)) n 1 ps (.slice a ps.length cap) W1 (HV.out.mono h) HCV.out
    generalize (spanP ps).1 = s1 at S
    generalize (spanP ps).2 = s2 at S BG Hd hxl2
    generalize beginM ver next (wrap64 (s2 + by')) (wrap64 (wrap64 (s2 + by') + n)) n 1 ps = X at BG Hd hxl2
    obtain ⟨⟨xv, xn, xl⟩, xi, xe⟩ := X
    have hxl : xl.length ≤ 1000000 := hxl2
    have S := hid S
    have BG := hid BG
    clear hk0 hxl2
    go_wp2_with fail
    refine S.out.mono ?_
    rintro e w1 ⟨rfl, hb1⟩
    have hM1 := blk_below hM hb1
    have hD1 := blk_below hD hb1
    have hR1 := blk_below hR hb1
    have hX1 := blk_below hX hb1
    have hB1 := hB.step hb1
    have hs1 : w.heap.size + 4 ≤ w1.heap.size := Nat.le_trans hsz hb1.size
    clear S hb1 m0 m1 m2 mf d0 d1 d2 df x0 x1 x2 xf
    obtain ⟨m0, m1, m2, mf⟩ := row3 hM1
    obtain ⟨d0, d1, d2, df⟩ := row3 hD1
    obtain ⟨x0, x1, x2, xf⟩ := row3 hX1
    go_wp2_with fail
    refine (BG.out _ hB1).mono ?_
    rintro e w2 ⟨u2, rfl, hu2, hb2⟩
    clear x0 x1 x2 xf
    obtain ⟨a2, k2, rfl⟩ := pcs_form hu2 xl.length rfl
    have hM2 := blk_below hM1 hb2
    have hR2 := blk_below hR1 hb2
    have hX2 := blk_below hX1 hb2
    have hB2 := hB1.step hb2
    have hs2 : w.heap.size + 4 ≤ w2.heap.size := Nat.le_trans hs1 hb2.size
    have hX3 := row3_set (x' := .int .i64 xv) (y' := .int .i64 xn) (z' := .slice a2 xl.length k2) hX2
    have hR3 : ((((w2.setCell ⟨w.heap.size + 3, 0, none⟩ (.int .i64 xv)).setCell ⟨w.heap.size + 3, 1, none⟩ (.int .i64 xn)).setCell ⟨w.heap.size + 3, 2, none⟩ (.slice a2 xl.length k2))).heap[w.heap.size + 2]? = some (.cells #[.int .i64 0, .int .i64 0, .slice none 0 0] 24 (0, 0)) := by rw [heap_set3_other (by omega)]; exact hR2
    have hM3 : ((((w2.setCell ⟨w.heap.size + 3, 0, none⟩ (.int .i64 xv)).setCell ⟨w.heap.size + 3, 1, none⟩ (.int .i64 xn)).setCell ⟨w.heap.size + 3, 2, none⟩ (.slice a2 xl.length k2))).heap[w.heap.size]? = some (.cells #[.int .i64 ver, .int .i64 next, .slice a ps.length cap] 24 (0, 0)) := by rw [heap_set3_other (by omega)]; exact hM2
    have hB3 := below_setCell3 hB2 (R := w.heap.size + 3) (by omega) (.int .i64 xv) (.int .i64 xn) (.slice a2 xl.length k2)
    have hu3 := OwnPcs.setCell3 hu2 (R := w.heap.size + 3) (x := .int .i64 xv) (y := .int .i64 xn) (z := .slice a2 xl.length k2) (by omega)
    obtain ⟨x0, x1, x2, xf⟩ := row3 hX2
    clear m0 m1 m2 mf d0 d1 d2 df BG
    go_upto_region 15 with fail
    refine wp_name fun W3 hW3 => ?_
    rw [← hW3] at hX3 hR3 hM3 hB3 hu3
    clear hW3 hX2 hR2 hM2 hb2 x0 x1 x2 xf
    obtain ⟨m0, m1, m2, mf⟩ := row3 hM3
    obtain ⟨x0, x1, x2, xf⟩ := row3 hX3
    obtain ⟨r0, r1, r2, rf⟩ := row3 hR3
    by_cases he : xe = 0
    · have Hd := hid (show doneM ver next ps kd by' n = (xv, xn, xl) by rw [Hd.out]; simp [he])
      have hes : (xe != 0) = false := by simp [he]
      clear he
      have hR7 := row3_set (x' := .int .i64 xv) (y' := .int .i64 xn) (z' := .slice a2 xl.length k2) hR3
      obtain ⟨z0, z1, z2, zf⟩ := row3 hR7
      have hB8 := hid (below_setCell3 hB3 (R := w.heap.size + 2) (by omega) (.int .i64 xv) (.int .i64 xn) (.slice a2 xl.length k2))
      have hu8 := hid (OwnPcs.setCell3 hu3 (R := w.heap.size + 2) (x := .int .i64 xv) (y := .int .i64 xn) (z := .slice a2 xl.length k2) (by omega))
      go_wp2_with fail
      exact bodyPost_ret (v := .agg #[.int .i64 xv, .int .i64 xn, .slice a2 xl.length k2]) (by simp [results, Tryz.results37, go_sem, z0, z1, z2]) rfl ⟨_, by rw [Hd.out], by rw [Hd.out]; exact OwnPcs.at hu8.out hxl, OwnPcs.capOk hu8.out, hB8.out⟩
    · have Hd := hid (show doneM ver next ps kd by' n = (ver, next, ps) by rw [Hd.out]; simp [he])
      have hes : (xe != 0) = true := by simp [he]
      have hR7 := row3_set (x' := .int .i64 ver) (y' := .int .i64 next) (z' := .slice a ps.length cap) hR3
      obtain ⟨z0, z1, z2, zf⟩ := row3 hR7
      have hB8 := hid (below_setCell3 hB3 (R := w.heap.size + 2) (by omega) (.int .i64 ver) (.int .i64 next) (.slice a ps.length cap))
      clear he
      go_wp2_with fail
      exact bodyPost_ret (v := .agg #[.int .i64 ver, .int .i64 next, .slice a ps.length cap]) (by simp [results, Tryz.results37, go_sem, z0, z1, z2]) rfl ⟨_, by rw [Hd.out], by rw [Hd.out]; exact HV.out.mono hB8.out, HCV.out, hB8.out⟩
  · have hf0 : (kd == 0) = false := by simp [hk0]
    by_cases hk1 : kd = 1
    · have Hd := hid (show doneM ver next ps kd by' n = if (stepM ver next ps by' 2 (fun _ => true)).2 ≠ 0 then (ver, next, ps) else (stepM ver next ps by' 2 (fun _ => true)).1 by unfold doneM; rw [if_neg hk0, if_pos hk1])
      have hk : (kd == 1) = true := by simp [hk1]
      have hxl2 : (stepM ver next ps by' 2 (fun _ => true)).1.2.2.length ≤ 1000000 := Nat.le_trans (stepM_len ..) hn
      have C := done_any ver next by' ps (.slice a ps.length cap) W (HS.out.below hB) (HV.out.mono hB)
      generalize stepM ver next ps by' 2 (fun _ => true) = X at C Hd hxl2
      obtain ⟨⟨xv, xn, xl⟩, xe⟩ := X
      have hxl : xl.length ≤ 1000000 := hxl2
      have C := hid C
      clear hk1 hxl2
      go_wp2_with fail
      refine C.out.mono ?_
      rintro e w2 ⟨u2, rfl, hu2, hb2⟩
      clear x0 x1 x2 xf
      obtain ⟨a2, k2, rfl⟩ := pcs_form hu2 xl.length rfl
      have hM2 := blk_below hM hb2
      have hR2 := blk_below hR hb2
      have hX2 := blk_below hX hb2
      have hB2 := hB.step hb2
      have hs2 : w.heap.size + 4 ≤ w2.heap.size := Nat.le_trans hsz hb2.size
      have hX3 := row3_set (x' := .int .i64 xv) (y' := .int .i64 xn) (z' := .slice a2 xl.length k2) hX2
      have hR3 : ((((w2.setCell ⟨w.heap.size + 3, 0, none⟩ (.int .i64 xv)).setCell ⟨w.heap.size + 3, 1, none⟩ (.int .i64 xn)).setCell ⟨w.heap.size + 3, 2, none⟩ (.slice a2 xl.length k2))).heap[w.heap.size + 2]? = some (.cells #[.int .i64 0, .int .i64 0, .slice none 0 0] 24 (0, 0)) := by rw [heap_set3_other (by omega)]; exact hR2
      have hM3 : ((((w2.setCell ⟨w.heap.size + 3, 0, none⟩ (.int .i64 xv)).setCell ⟨w.heap.size + 3, 1, none⟩ (.int .i64 xn)).setCell ⟨w.heap.size + 3, 2, none⟩ (.slice a2 xl.length k2))).heap[w.heap.size]? = some (.cells #[.int .i64 ver, .int .i64 next, .slice a ps.length cap] 24 (0, 0)) := by rw [heap_set3_other (by omega)]; exact hM2
      have hB3 := below_setCell3 hB2 (R := w.heap.size + 3) (by omega) (.int .i64 xv) (.int .i64 xn) (.slice a2 xl.length k2)
      have hu3 := OwnPcs.setCell3 hu2 (R := w.heap.size + 3) (x := .int .i64 xv) (y := .int .i64 xn) (z := .slice a2 xl.length k2) (by omega)
      obtain ⟨x0, x1, x2, xf⟩ := row3 hX2
      clear m0 m1 m2 mf d0 d1 d2 df C
      go_upto_region 15 with fail
      refine wp_name fun W3 hW3 => ?_
      rw [← hW3] at hX3 hR3 hM3 hB3 hu3
      clear hW3 hX2 hR2 hM2 hb2 x0 x1 x2 xf
      obtain ⟨m0, m1, m2, mf⟩ := row3 hM3
      obtain ⟨x0, x1, x2, xf⟩ := row3 hX3
      obtain ⟨r0, r1, r2, rf⟩ := row3 hR3
      by_cases he : xe = 0
      · have Hd := hid (show doneM ver next ps kd by' n = (xv, xn, xl) by rw [Hd.out]; simp [he])
        have hes : (xe != 0) = false := by simp [he]
        clear he
        have hR7 := row3_set (x' := .int .i64 xv) (y' := .int .i64 xn) (z' := .slice a2 xl.length k2) hR3
        obtain ⟨z0, z1, z2, zf⟩ := row3 hR7
        have hB8 := hid (below_setCell3 hB3 (R := w.heap.size + 2) (by omega) (.int .i64 xv) (.int .i64 xn) (.slice a2 xl.length k2))
        have hu8 := hid (OwnPcs.setCell3 hu3 (R := w.heap.size + 2) (x := .int .i64 xv) (y := .int .i64 xn) (z := .slice a2 xl.length k2) (by omega))
        go_wp2_with fail
        exact bodyPost_ret (v := .agg #[.int .i64 xv, .int .i64 xn, .slice a2 xl.length k2]) (by simp [results, Tryz.results37, go_sem, z0, z1, z2]) rfl ⟨_, by rw [Hd.out], by rw [Hd.out]; exact OwnPcs.at hu8.out hxl, OwnPcs.capOk hu8.out, hB8.out⟩
      · have Hd := hid (show doneM ver next ps kd by' n = (ver, next, ps) by rw [Hd.out]; simp [he])
        have hes : (xe != 0) = true := by simp [he]
        have hR7 := row3_set (x' := .int .i64 ver) (y' := .int .i64 next) (z' := .slice a ps.length cap) hR3
        obtain ⟨z0, z1, z2, zf⟩ := row3 hR7
        have hB8 := hid (below_setCell3 hB3 (R := w.heap.size + 2) (by omega) (.int .i64 ver) (.int .i64 next) (.slice a ps.length cap))
        clear he
        go_wp2_with fail
        exact bodyPost_ret (v := .agg #[.int .i64 ver, .int .i64 next, .slice a ps.length cap]) (by simp [results, Tryz.results37, go_sem, z0, z1, z2]) rfl ⟨_, by rw [Hd.out], by rw [Hd.out]; exact HV.out.mono hB8.out, HCV.out, hB8.out⟩
    · have hf1 : (kd == 1) = false := by simp [hk1]
      by_cases hk2 : kd = 2
      · have Hd := hid (show doneM ver next ps kd by' n = if (stepM ver next ps by' 3 (mayDrop ps)).2 ≠ 0 then (ver, next, ps) else (stepM ver next ps by' 3 (mayDrop ps)).1 by unfold doneM; rw [if_neg hk0, if_neg hk1, if_pos hk2])
        have hk : (kd == 2) = true := by simp [hk2]
        have hxl2 : (stepM ver next ps by' 3 (mayDrop ps)).1.2.2.length ≤ 1000000 := Nat.le_trans (stepM_len ..) hn
        have C := drop_any ver next by' ps (.slice a ps.length cap) W (HS.out.below hB) (HV.out.mono hB)
        generalize stepM ver next ps by' 3 (mayDrop ps) = X at C Hd hxl2
        obtain ⟨⟨xv, xn, xl⟩, xe⟩ := X
        have hxl : xl.length ≤ 1000000 := hxl2
        have C := hid C
        clear hk2 hxl2
        go_wp2_with fail
        refine C.out.mono ?_
        rintro e w2 ⟨u2, rfl, hu2, hb2⟩
        clear x0 x1 x2 xf
        obtain ⟨a2, k2, rfl⟩ := pcs_form hu2 xl.length rfl
        have hM2 := blk_below hM hb2
        have hR2 := blk_below hR hb2
        have hX2 := blk_below hX hb2
        have hB2 := hB.step hb2
        have hs2 : w.heap.size + 4 ≤ w2.heap.size := Nat.le_trans hsz hb2.size
        have hX3 := row3_set (x' := .int .i64 xv) (y' := .int .i64 xn) (z' := .slice a2 xl.length k2) hX2
        have hR3 : ((((w2.setCell ⟨w.heap.size + 3, 0, none⟩ (.int .i64 xv)).setCell ⟨w.heap.size + 3, 1, none⟩ (.int .i64 xn)).setCell ⟨w.heap.size + 3, 2, none⟩ (.slice a2 xl.length k2))).heap[w.heap.size + 2]? = some (.cells #[.int .i64 0, .int .i64 0, .slice none 0 0] 24 (0, 0)) := by rw [heap_set3_other (by omega)]; exact hR2
        have hM3 : ((((w2.setCell ⟨w.heap.size + 3, 0, none⟩ (.int .i64 xv)).setCell ⟨w.heap.size + 3, 1, none⟩ (.int .i64 xn)).setCell ⟨w.heap.size + 3, 2, none⟩ (.slice a2 xl.length k2))).heap[w.heap.size]? = some (.cells #[.int .i64 ver, .int .i64 next, .slice a ps.length cap] 24 (0, 0)) := by rw [heap_set3_other (by omega)]; exact hM2
        have hB3 := below_setCell3 hB2 (R := w.heap.size + 3) (by omega) (.int .i64 xv) (.int .i64 xn) (.slice a2 xl.length k2)
        have hu3 := OwnPcs.setCell3 hu2 (R := w.heap.size + 3) (x := .int .i64 xv) (y := .int .i64 xn) (z := .slice a2 xl.length k2) (by omega)
        obtain ⟨x0, x1, x2, xf⟩ := row3 hX2
        clear m0 m1 m2 mf d0 d1 d2 df C
        go_upto_region 15 with fail
        refine wp_name fun W3 hW3 => ?_
        rw [← hW3] at hX3 hR3 hM3 hB3 hu3
        clear hW3 hX2 hR2 hM2 hb2 x0 x1 x2 xf
        obtain ⟨m0, m1, m2, mf⟩ := row3 hM3
        obtain ⟨x0, x1, x2, xf⟩ := row3 hX3
        obtain ⟨r0, r1, r2, rf⟩ := row3 hR3
        by_cases he : xe = 0
        · have Hd := hid (show doneM ver next ps kd by' n = (xv, xn, xl) by rw [Hd.out]; simp [he])
          have hes : (xe != 0) = false := by simp [he]
          clear he
          have hR7 := row3_set (x' := .int .i64 xv) (y' := .int .i64 xn) (z' := .slice a2 xl.length k2) hR3
          obtain ⟨z0, z1, z2, zf⟩ := row3 hR7
          have hB8 := hid (below_setCell3 hB3 (R := w.heap.size + 2) (by omega) (.int .i64 xv) (.int .i64 xn) (.slice a2 xl.length k2))
          have hu8 := hid (OwnPcs.setCell3 hu3 (R := w.heap.size + 2) (x := .int .i64 xv) (y := .int .i64 xn) (z := .slice a2 xl.length k2) (by omega))
          go_wp2_with fail
          exact bodyPost_ret (v := .agg #[.int .i64 xv, .int .i64 xn, .slice a2 xl.length k2]) (by simp [results, Tryz.results37, go_sem, z0, z1, z2]) rfl ⟨_, by rw [Hd.out], by rw [Hd.out]; exact OwnPcs.at hu8.out hxl, OwnPcs.capOk hu8.out, hB8.out⟩
        · have Hd := hid (show doneM ver next ps kd by' n = (ver, next, ps) by rw [Hd.out]; simp [he])
          have hes : (xe != 0) = true := by simp [he]
          have hR7 := row3_set (x' := .int .i64 ver) (y' := .int .i64 next) (z' := .slice a ps.length cap) hR3
          obtain ⟨z0, z1, z2, zf⟩ := row3 hR7
          have hB8 := hid (below_setCell3 hB3 (R := w.heap.size + 2) (by omega) (.int .i64 ver) (.int .i64 next) (.slice a ps.length cap))
          clear he
          go_wp2_with fail
          exact bodyPost_ret (v := .agg #[.int .i64 ver, .int .i64 next, .slice a ps.length cap]) (by simp [results, Tryz.results37, go_sem, z0, z1, z2]) rfl ⟨_, by rw [Hd.out], by rw [Hd.out]; exact HV.out.mono hB8.out, HCV.out, hB8.out⟩
      · have hf2 : (kd == 2) = false := by simp [hk2]
        by_cases hk3 : kd = 3
        · have Hd := hid (show doneM ver next ps kd by' n = if (stepM ver next ps by' 4 (fun _ => true)).2 ≠ 0 then (ver, next, ps) else (stepM ver next ps by' 4 (fun _ => true)).1 by unfold doneM; rw [if_neg hk0, if_neg hk1, if_neg hk2, if_pos hk3])
          have hk : (kd == 3) = true := by simp [hk3]
          have hxl2 : (stepM ver next ps by' 4 (fun _ => true)).1.2.2.length ≤ 1000000 := Nat.le_trans (stepM_len ..) hn
          have C := left_any ver next by' ps (.slice a ps.length cap) W (HS.out.below hB) (HV.out.mono hB)
          generalize stepM ver next ps by' 4 (fun _ => true) = X at C Hd hxl2
          obtain ⟨⟨xv, xn, xl⟩, xe⟩ := X
          have hxl : xl.length ≤ 1000000 := hxl2
          have C := hid C
          clear hk3 hxl2
          go_wp2_with fail
          refine C.out.mono ?_
          rintro e w2 ⟨u2, rfl, hu2, hb2⟩
          clear x0 x1 x2 xf
          obtain ⟨a2, k2, rfl⟩ := pcs_form hu2 xl.length rfl
          have hM2 := blk_below hM hb2
          have hR2 := blk_below hR hb2
          have hX2 := blk_below hX hb2
          have hB2 := hB.step hb2
          have hs2 : w.heap.size + 4 ≤ w2.heap.size := Nat.le_trans hsz hb2.size
          have hX3 := row3_set (x' := .int .i64 xv) (y' := .int .i64 xn) (z' := .slice a2 xl.length k2) hX2
          have hR3 : ((((w2.setCell ⟨w.heap.size + 3, 0, none⟩ (.int .i64 xv)).setCell ⟨w.heap.size + 3, 1, none⟩ (.int .i64 xn)).setCell ⟨w.heap.size + 3, 2, none⟩ (.slice a2 xl.length k2))).heap[w.heap.size + 2]? = some (.cells #[.int .i64 0, .int .i64 0, .slice none 0 0] 24 (0, 0)) := by rw [heap_set3_other (by omega)]; exact hR2
          have hM3 : ((((w2.setCell ⟨w.heap.size + 3, 0, none⟩ (.int .i64 xv)).setCell ⟨w.heap.size + 3, 1, none⟩ (.int .i64 xn)).setCell ⟨w.heap.size + 3, 2, none⟩ (.slice a2 xl.length k2))).heap[w.heap.size]? = some (.cells #[.int .i64 ver, .int .i64 next, .slice a ps.length cap] 24 (0, 0)) := by rw [heap_set3_other (by omega)]; exact hM2
          have hB3 := below_setCell3 hB2 (R := w.heap.size + 3) (by omega) (.int .i64 xv) (.int .i64 xn) (.slice a2 xl.length k2)
          have hu3 := OwnPcs.setCell3 hu2 (R := w.heap.size + 3) (x := .int .i64 xv) (y := .int .i64 xn) (z := .slice a2 xl.length k2) (by omega)
          obtain ⟨x0, x1, x2, xf⟩ := row3 hX2
          clear m0 m1 m2 mf d0 d1 d2 df C
          go_upto_region 15 with fail
          refine wp_name fun W3 hW3 => ?_
          rw [← hW3] at hX3 hR3 hM3 hB3 hu3
          clear hW3 hX2 hR2 hM2 hb2 x0 x1 x2 xf
          obtain ⟨m0, m1, m2, mf⟩ := row3 hM3
          obtain ⟨x0, x1, x2, xf⟩ := row3 hX3
          obtain ⟨r0, r1, r2, rf⟩ := row3 hR3
          by_cases he : xe = 0
          · have Hd := hid (show doneM ver next ps kd by' n = (xv, xn, xl) by rw [Hd.out]; simp [he])
            have hes : (xe != 0) = false := by simp [he]
            clear he
            have hR7 := row3_set (x' := .int .i64 xv) (y' := .int .i64 xn) (z' := .slice a2 xl.length k2) hR3
            obtain ⟨z0, z1, z2, zf⟩ := row3 hR7
            have hB8 := hid (below_setCell3 hB3 (R := w.heap.size + 2) (by omega) (.int .i64 xv) (.int .i64 xn) (.slice a2 xl.length k2))
            have hu8 := hid (OwnPcs.setCell3 hu3 (R := w.heap.size + 2) (x := .int .i64 xv) (y := .int .i64 xn) (z := .slice a2 xl.length k2) (by omega))
            go_wp2_with fail
            exact bodyPost_ret (v := .agg #[.int .i64 xv, .int .i64 xn, .slice a2 xl.length k2]) (by simp [results, Tryz.results37, go_sem, z0, z1, z2]) rfl ⟨_, by rw [Hd.out], by rw [Hd.out]; exact OwnPcs.at hu8.out hxl, OwnPcs.capOk hu8.out, hB8.out⟩
          · have Hd := hid (show doneM ver next ps kd by' n = (ver, next, ps) by rw [Hd.out]; simp [he])
            have hes : (xe != 0) = true := by simp [he]
            have hR7 := row3_set (x' := .int .i64 ver) (y' := .int .i64 next) (z' := .slice a ps.length cap) hR3
            obtain ⟨z0, z1, z2, zf⟩ := row3 hR7
            have hB8 := hid (below_setCell3 hB3 (R := w.heap.size + 2) (by omega) (.int .i64 ver) (.int .i64 next) (.slice a ps.length cap))
            clear he
            go_wp2_with fail
            exact bodyPost_ret (v := .agg #[.int .i64 ver, .int .i64 next, .slice a ps.length cap]) (by simp [results, Tryz.results37, go_sem, z0, z1, z2]) rfl ⟨_, by rw [Hd.out], by rw [Hd.out]; exact HV.out.mono hB8.out, HCV.out, hB8.out⟩
        · have hf3 : (kd == 3) = false := by simp [hk3]
          by_cases hk4 : kd = 4
          · have Hd := hid (show doneM ver next ps kd by' n = (healM ver next ps logB []).1 by unfold doneM; rw [if_neg hk0, if_neg hk1, if_neg hk2, if_neg hk3, if_pos hk4])
            have hk : (kd == 4) = true := by simp [hk4]
            have hxl2 : (healM ver next ps logB []).1.2.2.length ≤ 1000000 := by
              unfold healM
              split
              · simp
              · exact Nat.le_trans (List.length_filter_le _ _) hn
            have C := heal_any ver next ps logB [] (.slice a ps.length cap) (.slice none 0 0) W (HL.out.below hB) (HV.out.mono hB) ⟨none, 0, rfl, by simp, fun k hk => by simp at hk⟩ (by decide) (by simp)
            generalize healM ver next ps logB [] = X at C Hd hxl2
            obtain ⟨⟨xv, xn, xl⟩, xd⟩ := X
            have hxl : xl.length ≤ 1000000 := hxl2
            have C := hid C
            clear hk4 hxl2
            go_wp2_with fail
            refine C.out.mono ?_
            rintro e w2 ⟨u2, d2', rfl, hu2, _, hb2⟩
            clear x0 x1 x2 xf
            obtain ⟨a2, k2, rfl⟩ := pcs_form hu2 xl.length rfl
            have hM2 := blk_below hM hb2
            have hR2 := blk_below hR hb2
            have hX2 := blk_below hX hb2
            have hB2 := hB.step hb2
            have hs2 : w.heap.size + 4 ≤ w2.heap.size := Nat.le_trans hsz hb2.size
            have hX3 := row3_set (x' := .int .i64 xv) (y' := .int .i64 xn) (z' := .slice a2 xl.length k2) hX2
            have hR3 : ((((w2.setCell ⟨w.heap.size + 3, 0, none⟩ (.int .i64 xv)).setCell ⟨w.heap.size + 3, 1, none⟩ (.int .i64 xn)).setCell ⟨w.heap.size + 3, 2, none⟩ (.slice a2 xl.length k2))).heap[w.heap.size + 2]? = some (.cells #[.int .i64 0, .int .i64 0, .slice none 0 0] 24 (0, 0)) := by rw [heap_set3_other (by omega)]; exact hR2
            have hM3 : ((((w2.setCell ⟨w.heap.size + 3, 0, none⟩ (.int .i64 xv)).setCell ⟨w.heap.size + 3, 1, none⟩ (.int .i64 xn)).setCell ⟨w.heap.size + 3, 2, none⟩ (.slice a2 xl.length k2))).heap[w.heap.size]? = some (.cells #[.int .i64 ver, .int .i64 next, .slice a ps.length cap] 24 (0, 0)) := by rw [heap_set3_other (by omega)]; exact hM2
            have hB3 := below_setCell3 hB2 (R := w.heap.size + 3) (by omega) (.int .i64 xv) (.int .i64 xn) (.slice a2 xl.length k2)
            have hu3 := OwnPcs.setCell3 hu2 (R := w.heap.size + 3) (x := .int .i64 xv) (y := .int .i64 xn) (z := .slice a2 xl.length k2) (by omega)
            obtain ⟨x0, x1, x2, xf⟩ := row3 hX2
            clear m0 m1 m2 mf d0 d1 d2 df C
            go_upto_region 15 with fail
            refine wp_name fun W3 hW3 => ?_
            rw [← hW3] at hX3 hR3 hM3 hB3 hu3
            clear hW3 hX2 hR2 hM2 hb2 x0 x1 x2 xf
            obtain ⟨m0, m1, m2, mf⟩ := row3 hM3
            obtain ⟨x0, x1, x2, xf⟩ := row3 hX3
            obtain ⟨r0, r1, r2, rf⟩ := row3 hR3
            have hR7 := row3_set (x' := .int .i64 xv) (y' := .int .i64 xn) (z' := .slice a2 xl.length k2) hR3
            obtain ⟨z0, z1, z2, zf⟩ := row3 hR7
            have hB8 := hid (below_setCell3 hB3 (R := w.heap.size + 2) (by omega) (.int .i64 xv) (.int .i64 xn) (.slice a2 xl.length k2))
            have hu8 := hid (OwnPcs.setCell3 hu3 (R := w.heap.size + 2) (x := .int .i64 xv) (y := .int .i64 xn) (z := .slice a2 xl.length k2) (by omega))
            go_wp2_with fail
            exact bodyPost_ret (v := .agg #[.int .i64 xv, .int .i64 xn, .slice a2 xl.length k2]) (by simp [results, Tryz.results37, go_sem, z0, z1, z2]) rfl ⟨_, by rw [Hd.out], by rw [Hd.out]; exact OwnPcs.at hu8.out hxl, OwnPcs.capOk hu8.out, hB8.out⟩
          · have hf4 : (kd == 4) = false := by simp [hk4]
            have Hd := hid (show doneM ver next ps kd by' n = (ver, next, ps) by unfold doneM; rw [if_neg hk0, if_neg hk1, if_neg hk2, if_neg hk3, if_neg hk4])
            clear hk0 hk1 hk2 hk3 hk4
            have hR7 := row3_set (x' := .int .i64 ver) (y' := .int .i64 next) (z' := .slice a ps.length cap) hR
            obtain ⟨r0, r1, r2, rf⟩ := row3 hR
            obtain ⟨z0, z1, z2, zf⟩ := row3 hR7
            have hB8 := hid (below_setCell3 hB (R := w.heap.size + 2) (by omega) (.int .i64 ver) (.int .i64 next) (.slice a ps.length cap))
            go_wp2_with fail
            exact bodyPost_ret (v := .agg #[.int .i64 ver, .int .i64 next, .slice a ps.length cap]) (by simp [results, Tryz.results37, go_sem, z0, z1, z2]) rfl ⟨_, by rw [Hd.out], by rw [Hd.out]; exact HV.out.mono hB8.out, HCV.out, hB8.out⟩
end Go.Proofs.YtcpecponmaakoaaGreatDoor
