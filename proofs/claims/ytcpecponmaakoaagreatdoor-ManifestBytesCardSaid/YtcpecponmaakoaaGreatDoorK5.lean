/- Walk: ManifestBytes. -/
import Derived.Test.YtcpecponmaakoaaGreatDoorK1
import Derived.Test.YtcpecponmaakoaaGreatDoorO2
import Derived.Test.YtcpecponmaakoaaGreatDoorR9
import Derived.Laws.IdiomStrings
import Derived.Test.YtcpecponmaakoaaGreatDoorK3
import Derived.Deep.DeepCutAuto
namespace Go.Proofs.YtcpecponmaakoaaGreatDoor
open Go.RowKit Go.Wm
theorem endM_len (l : List UInt8) (ver next : Int) (r : List Piece × Rd) : (endM l ver next r).1.2.2.length ≤ 256 := by
  unfold endM
  by_cases h1 : r.2.e = 0
  · by_cases h2 : r.2.at' ≠ l.length ∨ checkM ver next r.1 ≠ 0
    · simp [h1, h2]
    · have h3 : checkM ver next r.1 = 0 := by
        by_cases h4 : checkM ver next r.1 = 0
        · exact h4
        · exact absurd (Or.inr h4) h2
      have := (checkM_ok h3).2.2.1
      simp only [if_pos h1, if_neg h2, if_true]
      exact this
  · simp [h1]
theorem loadM_len (b : List UInt8) : (loadM b).1.2.2.length ≤ 256 := by
  unfold loadM
  split
  · rw [loadBody_steps]
    unfold finishM
    exact endM_len _ _ _ _
  · simp
theorem conv_own {w : World} {b : Nat} {v : Value} {l : List UInt8} (h : OwnBytes w b v l) : (convert 43 9 v).run Tryz.prog w = .ok (.string ⟨l.toArray⟩) w := by
  by_cases h0 : 0 < l.length
  · obtain ⟨g, cap, rfl, _, _, _, hc⟩ := OwnBytes.some_form h h0
    exact run_convert_bytes_back w 43 9 5 ⟨g, 0, none⟩ cap l Tryz.underlying43 Tryz.underlying5 Tryz.underlying9 (fun j hj => by rw [addr_add, Nat.zero_add]; exact hc j hj)
  · have : l = [] := List.eq_nil_of_length_eq_zero (by omega)
    subst this
    rcases h.2 with ⟨rfl, _⟩ | ⟨g, cap, cur, rfl, _⟩
    · rw [run_convert_bytes_string w 43 9 5 none 0 0 Tryz.underlying43 Tryz.underlying5 Tryz.underlying9]
      rfl
    · exact run_convert_bytes_back w 43 9 5 ⟨g, 0, none⟩ cap [] Tryz.underlying43 Tryz.underlying5 Tryz.underlying9 (fun j hj => by simp at hj)
set_option maxHeartbeats 4000000 in
set_option maxRecDepth 100000 in
theorem bytes_any (ver next : Int) (ps : List Piece) (bs : List UInt8) (v bv : Value) (w : World) (hL : Laid w) (hS : StepsAt w 0) (hv : PcsBig w v ps) (hwf : ∀ p ∈ ps, PieceWf p) (hbv : BytesBig w bv bs) :
    Calls Tryz.prog 5 #[.agg #[.int .i64 ver, .int .i64 next, v], bv] w fun e w' => e = .returned (.bool true) ∧ Below w.heap.size w w' := by
  have hvw := hv
  obtain ⟨a, cap, rfl, hnc, _⟩ := hv
  have HV := hid hvw
  have HB := hid hbv
  have hbv2 := hbv
  obtain ⟨ab, cb, rfl, hbc, _⟩ := hbv2
  have hb0 := below_alloc w (.cells #[.int .i64 ver, .int .i64 next, .slice a ps.length cap] 24)
  have CL := hid (live_any _ (hL.below hb0) (hS.below hb0))
  have HSUM := hid (show ∀ p ∈ ps, 0 ≤ p.sum ∧ p.sum < 4294967296 from fun p hp => wf_u32 (hwf p hp).sum)
  clear hvw hL hS hwf hbv
  go_enter Tryz.func5, Tryz.ntmps5
  go_wp2_with fail
  refine CL.out.mono ?_
  rintro e w1 ⟨rfl, hb1⟩
  have hM1 : w1.heap[w.heap.size]? = some (.cells #[.int .i64 ver, .int .i64 next, .slice a ps.length cap] 24 (0, 0)) := blk_below (heap_alloc_new w _) hb1
  have hc1 := hb0.step hb1
  obtain ⟨m0, m1, m2, mf⟩ := row3 hM1
  clear CL hb1 hb0
  by_cases hn : ps.length ≤ 300
  · have F := hid (few_big ver next a ps.length cap w1)
    rw [show decide (ps.length ≤ 300) = true from decide_eq_true hn] at F
    have HP := hid (HV.out.at (by omega))
    go_wp2_with fail
    refine F.out.mono ?_
    rintro e w2 ⟨rfl, hb2⟩
    have hM2 := blk_below hM1 hb2
    have hc2 := hc1.step hb2
    clear F hb2 m0 m1 m2 mf hM1 hc1
    by_cases hbl : 10000 < bs.length
    · have hbd : decide ((10000 : Int) < (bs.length : Int)) = true := decide_eq_true (by omega)
      go_wp2_with fail
      go_ret
      exact ⟨rfl, hc2⟩
    · have hbd : decide ((10000 : Int) < (bs.length : Int)) = false := decide_eq_false (by omega)
      have HBA := hid (HB.out.at (by omega))
      have SV := save_any ver next ps (.slice a ps.length cap) w2 (HP.out.mono hc2) HSUM.out
      have SR := fun W (h : Below w.heap.size w W) => refSave_any ver next ps (.slice a ps.length cap) W (HP.out.mono h) HSUM.out
      generalize saveM ver next ps = sv at *
      obtain ⟨sb, se⟩ := sv
      simp only at SV SR
      have LP := fun W (h : Below w.heap.size w W) => load_any bs (.slice ab bs.length cb) W (HBA.out.mono h) (fun a' n c e => by injection e; omega) (by omega)
      have LR' := fun W (h : Below w.heap.size w W) => refLoad_any bs (.slice ab bs.length cb) W (HBA.out.mono h) (fun a' n c e => by injection e; omega) (by omega)
      have hll := loadM_len bs
      generalize loadM bs = lm at *
      obtain ⟨⟨lv, ln, lp⟩, le⟩ := lm
      simp only at LP LR' hll
      have SV := hid SV
      have SR := hid SR
      have LP := hid LP
      have LQ := hid LR'
      clear LR'
      obtain ⟨m0, m1, m2, mf⟩ := row3 hM2
      go_wp2_with fail
      refine SV.out.mono ?_
      rintro e w3 ⟨u3, rfl, hu3, hb3⟩
      have hM3 := blk_below hM2 hb3
      have hc3 := hc2.step hb3
      have C3 := hid (fun W (h : Below w3.heap.size w3 W) => conv_own (hu3.below h))
      clear SV hb3 m0 m1 m2 mf hM2 hc2 hu3
      obtain ⟨m0, m1, m2, mf⟩ := row3 hM3
      go_wp2_with fail
      refine (SR.out w3 hc3).mono ?_
      rintro e w4 ⟨u4, rfl, hu4, hb4⟩
      have hc4 := hc3.step hb4
      have C3 := hid (fun W (h : Below w4.heap.size w4 W) => C3.out W (hb4.step h))
      have C4 := hid (fun W (h : Below w4.heap.size w4 W) => conv_own (hu4.below h))
      clear SR hb4 m0 m1 m2 mf hM3 hc3 hu4
      go_wp2_with fail
      refine (LP.out w4 hc4).mono ?_
      rintro e w5 ⟨u5, rfl, hu5, hb5⟩
      obtain ⟨a5, k5, rfl⟩ := pcs_form hu5 lp.length rfl
      have P5 := hid (OwnPcs.at hu5 (by omega))
      have hc5 := hc4.step hb5
      clear LP hu5
      go_wp2_with fail
      refine (LQ.out _ (hc5.step (below_alloc _ _))).mono ?_
      rintro e w6 ⟨u6, rfl, hu6, hb6⟩
      obtain ⟨a6, k6, rfl⟩ := pcs_form hu6 lp.length rfl
      have P6 := hid (OwnPcs.at hu6 (by omega))
      have r56 : Below w5.heap.size w5 w6 := (below_alloc _ _).step hb6
      have hc6 := hc5.step r56
      have hX6 : w6.heap[w5.heap.size]? = some (.cells #[.int .i64 lv, .int .i64 ln, .slice a5 lp.length k5] 24 (0, 0)) := blk_below (heap_alloc_new w5 _) hb6
      have hz56 : w5.heap.size < w6.heap.size := (Array.getElem?_eq_some_iff.1 hX6).1
      have P5 := hid (P5.out.mono r56)
      have C3 := hid (fun W (h : Below w6.heap.size w6 W) => C3.out W ((hb5.step r56).step h))
      have C4 := hid (fun W (h : Below w6.heap.size w6 W) => C4.out W ((hb5.step r56).step h))
      clear LQ hb5 hb6 r56 hu6 hc4 hc5
      go_upto_region 8 with fail
      refine wp_name fun W hW => ?_
      have rW : Below w6.heap.size w6 W := by rw [hW]; exact below_alloc _ _
      have hX : W.heap[w5.heap.size]? = some (.cells #[.int .i64 lv, .int .i64 ln, .slice a5 lp.length k5] 24 (0, 0)) := blk_below hX6 rW
      have hY : W.heap[w6.heap.size]? = some (.cells #[.int .i64 lv, .int .i64 ln, .slice a6 lp.length k6] 24 (0, 0)) := by rw [hW]; exact heap_alloc_new w6 _
      have hcW := hc6.step rW
      have C3 := C3.out W rW
      have C4 := C4.out W rW
      have S := hid (show Calls Tryz.prog 19 #[.agg #[.int .i64 lv, .int .i64 ln, .slice a5 lp.length k5], .agg #[.int .i64 lv, .int .i64 ln, .slice a6 lp.length k6]] W fun e w' => e = .returned (.bool true) ∧ Below W.heap.size W w' from by
        have := same_any lv ln lv ln lp lp (.slice a5 lp.length k5) (.slice a6 lp.length k6) W (P5.out.mono rW) (P6.out.mono rW)
        rw [show (decide (lv = lv) && decide (ln = ln) && decide (lp = lp)) = true by simp] at this
        exact this)
      clear hW rW hX6 hc6 P5 P6
      obtain ⟨m0, m1, m2, mf⟩ := row3 hX
      obtain ⟨d0, d1, d2, df⟩ := row3 hY
      generalize (⟨sb.toArray⟩ : ByteArray) = str at *
      go_wp2_with fail
      refine S.out.mono ?_
      rintro e w7 ⟨rfl, hb7⟩
      go_wp2_with fail
      go_ret
      exact ⟨rfl, hcW.step hb7⟩
  · have F := hid (few_big ver next a ps.length cap w1)
    rw [show decide (ps.length ≤ 300) = false from decide_eq_false hn] at F
    go_wp2_with fail
    refine F.out.mono ?_
    rintro e w2 ⟨rfl, hb2⟩
    have hc2 := hc1.step hb2
    clear F
    go_wp2_with fail
    go_ret
    exact ⟨rfl, hc2⟩
end Go.Proofs.YtcpecponmaakoaaGreatDoor
