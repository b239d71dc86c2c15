/- Walks: bytes read back (the document's Load). -/
import Derived.Test.YtcpecponmaakoaaGreatDoorR8
import Derived.Test.YtcpecponmaakoaaGreatDoorR3
import Derived.Deep.DeepCutAuto
namespace Go.Proofs.YtcpecponmaakoaaGreatDoor
open Go.RowKit Go.Wm Go.Lib
set_option maxHeartbeats 8000000 in
set_option maxRecDepth 100000 in
theorem refLoad_any (b : List UInt8) (v : Value) (w : World) (hv : BytesAt w v b) (hc : capOk v) (hl : b.length ≤ 20000) :
    Calls Tryz.prog 26 #[v] w fun e w' => ∃ u, e = .returned (.tuple #[.agg #[.int .i64 (loadM b).1.1, .int .i64 (loadM b).1.2.1, u], .int .i64 (loadM b).2]) ∧ OwnPcs w' w.heap.size u (loadM b).1.2.2 ∧ Below w.heap.size w w' := by
  have O := hid (refOpen_any b v _ (hv.mono (below_alloc w (.cells #[.int .i64 0, .int .i64 0, .slice none 0 0] 24))) hc)
  obtain ⟨a, cap, rfl, hn⟩ := hv.form
  clear hv
  by_cases he : (openM b).2 = 0
  · have Hm := hid (show loadM b = loadBody (openM b).1 by rw [loadM, if_pos he])
    rw [he] at O
    have hol : (openM b).1.length ≤ 20000 := by
      unfold openM
      split
      · simp
      · split
        · simp
        · simp only [List.length_take]; omega
    generalize (openM b).1 = ol at *
    have Hm := hid (Hm.out.trans (loadBody_steps ol))
    clear he
    go_enter Tryz.func26, Tryz.ntmps26
    go_wp2_with fail
    refine O.out.mono ?_
    rintro e w1 ⟨u, rfl, hu, hb1⟩
    obtain ⟨a1, c1, rfl⟩ := OwnBytes.form hu
    have hu := hu.base (show w.heap.size + 1 ≤ _ by simp)
    have hR : w1.heap[w.heap.size]? = some (.cells #[.int .i64 0, .int .i64 0, .slice none 0 0] 24 (0, 0)) := blk_below (heap_alloc_new w _) hb1
    have hs1 : w.heap.size + 1 ≤ w1.heap.size := by have := hb1.size; simpa using this
    have hbw := (below_alloc w _).step hb1
    have hge : LG w.heap.size w1.heap.size (.slice a1 ol.length c1) := ⟨by omega, fun g e => by have := hu.lt g e; omega⟩
    clear hb1 O
    go_wp2_with fail
    obtain ⟨W, hW⟩ : ∃ W, W = (w1.alloc (.cells #[.slice a1 ol.length c1, .int .i64 0, .int .i64 0] 95)).alloc (.cells #[.int .i64 0, .int .i64 0, .slice none 0 0] 24) := ⟨_, rfl⟩
    have hbW : Below w1.heap.size w1 W := by rw [hW]; exact (below_alloc _ _).step (below_alloc _ _)
    have hL0 : LR W w.heap.size w1.heap.size (.slice a1 ol.length c1) ol ⟨0, 0⟩ (.int .i64 0) (.int .i64 0) (.slice none 0 0) [] := by
      refine ⟨?_, hu.below hbW, ?_, blk_below hR hbW, OwnPcs.nil _ _, ?_⟩
      · rw [hW]; exact blk_below (heap_alloc_new w1 _) (below_alloc _ _)
      · rw [hW]; exact blk_new (Below.refl _ _) (by simp)
      · rw [hW]; simp
    have hbw := hbw.step hbW
    rw [← hW]
    clear hW hbW hu hR
    have ht1 := rd_at ol ⟨0, 0⟩
    refine (num_any ol w1.heap.size _ ⟨0, 0⟩ W (hL0.rdr hge hol) (by simp)).mono ?_
    rintro e X1 ⟨rfl, hr1, hg1⟩
    have hbw := below_grownR hbw (by omega) hg1
    have hL1 := hL0.num hge hr1 hg1
    generalize rd ol ⟨0, 0⟩ = r1 at *
    obtain ⟨ver, s1⟩ := r1
    simp only at hL1 ht1 Hm
    obtain ⟨m0, m1, m2, mf⟩ := row3 hL1.man
    clear hr1 hg1 hL0
    go_wp2_with fail
    have hbw := hbw.setCell (p := ⟨w1.heap.size + 1, 0, none⟩) (by simp only; omega) (.int .i64 ver)
    have hL1 := hL1.setM hge 0 (.int .i64 ver) (x' := .int .i64 ver) (y' := .int .i64 0) rfl
    obtain ⟨Y1, hY1⟩ : ∃ Y, Y = X1.setCell ⟨w1.heap.size + 1, 0, none⟩ (.int .i64 ver) := ⟨_, rfl⟩
    rw [← hY1] at hbw hL1
    rw [← hY1]
    clear hY1 m0 m1 m2 mf
    have ht2 := rd_at ol s1
    refine (num_any ol w1.heap.size _ s1 Y1 (hL1.rdr hge hol) (by omega)).mono ?_
    rintro e X2 ⟨rfl, hr2, hg2⟩
    have hbw := below_grownR hbw (by omega) hg2
    have hL2 := hL1.num hge hr2 hg2
    generalize rd ol s1 = r2 at *
    obtain ⟨next, s2⟩ := r2
    simp only at hL2 ht2 Hm
    obtain ⟨m0, m1, m2, mf⟩ := row3 hL2.man
    clear hr2 hg2 hL1
    go_wp2_with fail
    have hbw := hbw.setCell (p := ⟨w1.heap.size + 1, 1, none⟩) (by simp only; omega) (.int .i64 next)
    have hL2 := hL2.setM hge 1 (.int .i64 next) (x' := .int .i64 ver) (y' := .int .i64 next) rfl
    obtain ⟨Y2, hY2⟩ : ∃ Y, Y = X2.setCell ⟨w1.heap.size + 1, 1, none⟩ (.int .i64 next) := ⟨_, rfl⟩
    rw [← hY2] at hbw hL2
    rw [← hY2]
    clear hY2 m0 m1 m2 mf
    have ht3 := rd_at ol s2
    refine (num_any ol w1.heap.size _ s2 Y2 (hL2.rdr hge hol) (by omega)).mono ?_
    rintro e X3 ⟨rfl, hr3, hg3⟩
    have hbw := below_grownR hbw (by omega) hg3
    have hL3 := hL2.num hge hr3 hg3
    generalize rd ol s2 = r3 at *
    obtain ⟨n, s3⟩ := r3
    simp only at hL3 ht3 Hm
    obtain ⟨m0, m1, m2, mf⟩ := row3 hL3.man
    clear hr3 hg3 hL2
    have hat : s3.at' ≤ 60000 := by omega
    obtain ⟨at0, e0⟩ := s3
    simp only at hat
    obtain ⟨q0, q1, q2, qf⟩ := row3 hL3.row
    simp only at q1 q2
    clear ht1 ht2 ht3
    by_cases hbad : e0 = 0 ∧ 0 ≤ n ∧ n ≤ 256
    · obtain ⟨rfl, hn0, hn1⟩ := hbad
      obtain ⟨nn, rfl⟩ := Int.eq_ofNat_of_zero_le hn0
      have hnn : nn ≤ 256 := by omega
      have Hm := hid (Hm.out.trans (finishM_good hnn))
      have hng : decide ((nn : Int) < 0) = false := decide_eq_false (by omega)
      have hng2 : decide ((256 : Int) < (nn : Int)) = false := decide_eq_false (by omega)
      clear hn0 hn1
      go_wp2_with fail
      clear hng hng2 q0 q1 q2 qf m0 m1 m2 mf
      go_loopw [9] (fun i wr => ∃ (k : Nat) (s' : Rd) (pcs : List Piece) (lv : Value), k ≤ nn ∧ i = .int .i64 k ∧ LR wr w.heap.size w1.heap.size (.slice a1 ol.length c1) ol s' (.int .i64 ver) (.int .i64 next) lv pcs ∧ pcs.length = k ∧
        rdPieces ol nn ⟨at0, 0⟩ = (pcs ++ (rdPieces ol (nn - k) s').1, (rdPieces ol (nn - k) s').2) ∧ s'.at' ≤ 60000 + 130000 * k ∧ Below w.heap.size w wr) (fun i _ => nn - (intOf i).toNat)
      case atStart => exact ⟨0, ⟨at0, 0⟩, [], .slice none 0 0, by omega, rfl, hL3, rfl, by simp, by simp only; omega, hbw⟩
      case round =>
        obtain ⟨k, s', pcs, lv, hk, rfl, hA, hpl, hE, hat', hwr⟩ := hrel
        have HE := hid hE
        have Hpl := hid hpl
        clear hE hL3 hbw hpl
        obtain ⟨wo, rfl⟩ : ∃ wo : World, wo = wr := ⟨_, rfl⟩
        obtain ⟨ps', e'⟩ := s'
        obtain ⟨q0, q1, q2, qf⟩ := row3 hA.row
        simp only at q1 q2 hat'
        by_cases hin : k < nn ∧ e' = 0
        · obtain ⟨hlt, rfl⟩ := hin
          have hsz := hA.size
          have hlv : lv.ownBlock ≠ some wo.heap.size := fun e => by have := (hA.pcs.lt _ e).2; omega
          have Hpc := hid (rdPiece_steps ol ⟨ps', 0⟩)
          go_wp2_with fail
          obtain ⟨x0, hx0⟩ : ∃ W, W = wo.alloc (.cells #[.int .i64 0, .int .i64 0, .int .i64 0, .int .i64 0, .int .u32 0, .int .i64 0] 29) := ⟨_, rfl⟩
          have hA0 : LR x0 w.heap.size w1.heap.size (.slice a1 ol.length c1) ol ⟨ps', 0⟩ (.int .i64 ver) (.int .i64 next) lv pcs := by rw [hx0]; exact hA.below (below_alloc _ _)
          have hP0 : x0.heap[wo.heap.size]? = some (.cells #[.int .i64 0, .int .i64 0, .int .i64 0, .int .i64 0, .int .u32 0, .int .i64 0] 29 (0, 0)) := by rw [hx0]; exact heap_alloc_new wo _
          have hb0 : Below w.heap.size w x0 := by rw [hx0]; exact hwr.step (below_alloc _ _)
          rw [← hx0]
          clear hx0 q0 q1 q2 qf hA hwr
          have ht1 := rd_at ol ⟨ps', 0⟩
          refine (num_any ol w1.heap.size _ ⟨ps', 0⟩ x0 (hA0.rdr hge hol) (by simp only; omega)).mono ?_
          rintro e y1 ⟨rfl, hr1, hg1⟩
          have hA1 := hA0.num hge hr1 hg1
          have hP1 := heap_kept hP0 hg1 (by omega)
          have hb1 := below_grownR hb0 (by omega) hg1
          generalize rd ol ⟨ps', 0⟩ = r1 at *
          obtain ⟨v1, s1⟩ := r1
          simp only at hA1 ht1 Hpc
          obtain ⟨p0, p1, p2, p3, p4, p5, pf⟩ := row6 hP1
          go_wp2_with fail
          obtain ⟨x1, hx1⟩ : ∃ W, W = y1.setCell ⟨wo.heap.size, 0, none⟩ (.int .i64 v1) := ⟨_, rfl⟩
          have hA1 := hA1.setP hge wo.heap.size 0 (.int .i64 v1) hsz hlv
          have hP1 : (y1.setCell ⟨wo.heap.size, 0, none⟩ (.int .i64 v1)).heap[wo.heap.size]? = some (.cells #[.int .i64 v1, .int .i64 0, .int .i64 0, .int .i64 0, .int .u32 0, .int .i64 0] 29 (0, 0)) := row6_setj 0 (.int .i64 v1) hP1
          have hb1 := hb1.setCell (p := ⟨wo.heap.size, 0, none⟩) (by simp only; omega) (.int .i64 v1)
          rw [← hx1] at hA1 hP1 hb1
          rw [← hx1]
          clear hx1 hr1 hg1 hA0 hP0 hb0 p0 p1 p2 p3 p4 p5 pf
          have ht2 := rd_at ol s1
          refine (num_any ol w1.heap.size _ s1 x1 (hA1.rdr hge hol) (by omega)).mono ?_
          rintro e y2 ⟨rfl, hr2, hg2⟩
          have hA2 := hA1.num hge hr2 hg2
          have hP2 := heap_kept hP1 hg2 (by omega)
          have hb2 := below_grownR hb1 (by omega) hg2
          generalize rd ol s1 = r2 at *
          obtain ⟨v2, s2⟩ := r2
          simp only at hA2 ht2 Hpc
          obtain ⟨p0, p1, p2, p3, p4, p5, pf⟩ := row6 hP2
          go_wp2_with fail
          obtain ⟨x2, hx2⟩ : ∃ W, W = y2.setCell ⟨wo.heap.size, 1, none⟩ (.int .i64 v2) := ⟨_, rfl⟩
          have hA2 := hA2.setP hge wo.heap.size 1 (.int .i64 v2) hsz hlv
          have hP2 : (y2.setCell ⟨wo.heap.size, 1, none⟩ (.int .i64 v2)).heap[wo.heap.size]? = some (.cells #[.int .i64 v1, .int .i64 v2, .int .i64 0, .int .i64 0, .int .u32 0, .int .i64 0] 29 (0, 0)) := row6_setj 1 (.int .i64 v2) hP2
          have hb2 := hb2.setCell (p := ⟨wo.heap.size, 1, none⟩) (by simp only; omega) (.int .i64 v2)
          rw [← hx2] at hA2 hP2 hb2
          rw [← hx2]
          clear hx2 hr2 hg2 hA1 hP1 hb1 p0 p1 p2 p3 p4 p5 pf
          have ht3 := rd_at ol s2
          refine (num_any ol w1.heap.size _ s2 x2 (hA2.rdr hge hol) (by omega)).mono ?_
          rintro e y3 ⟨rfl, hr3, hg3⟩
          have hA3 := hA2.num hge hr3 hg3
          have hP3 := heap_kept hP2 hg3 (by omega)
          have hb3 := below_grownR hb2 (by omega) hg3
          generalize rd ol s2 = r3 at *
          obtain ⟨v3, s3⟩ := r3
          simp only at hA3 ht3 Hpc
          obtain ⟨p0, p1, p2, p3, p4, p5, pf⟩ := row6 hP3
          go_wp2_with fail
          obtain ⟨x3, hx3⟩ : ∃ W, W = y3.setCell ⟨wo.heap.size, 2, none⟩ (.int .i64 v3) := ⟨_, rfl⟩
          have hA3 := hA3.setP hge wo.heap.size 2 (.int .i64 v3) hsz hlv
          have hP3 : (y3.setCell ⟨wo.heap.size, 2, none⟩ (.int .i64 v3)).heap[wo.heap.size]? = some (.cells #[.int .i64 v1, .int .i64 v2, .int .i64 v3, .int .i64 0, .int .u32 0, .int .i64 0] 29 (0, 0)) := row6_setj 2 (.int .i64 v3) hP3
          have hb3 := hb3.setCell (p := ⟨wo.heap.size, 2, none⟩) (by simp only; omega) (.int .i64 v3)
          rw [← hx3] at hA3 hP3 hb3
          rw [← hx3]
          clear hx3 hr3 hg3 hA2 hP2 hb2 p0 p1 p2 p3 p4 p5 pf
          have ht4 := rd_at ol s3
          refine (num_any ol w1.heap.size _ s3 x3 (hA3.rdr hge hol) (by omega)).mono ?_
          rintro e y4 ⟨rfl, hr4, hg4⟩
          have hA4 := hA3.num hge hr4 hg4
          have hP4 := heap_kept hP3 hg4 (by omega)
          have hb4 := below_grownR hb3 (by omega) hg4
          generalize rd ol s3 = r4 at *
          obtain ⟨v4, s4⟩ := r4
          simp only at hA4 ht4 Hpc
          obtain ⟨p0, p1, p2, p3, p4, p5, pf⟩ := row6 hP4
          go_wp2_with fail
          obtain ⟨x4, hx4⟩ : ∃ W, W = y4.setCell ⟨wo.heap.size, 3, none⟩ (.int .i64 v4) := ⟨_, rfl⟩
          have hA4 := hA4.setP hge wo.heap.size 3 (.int .i64 v4) hsz hlv
          have hP4 : (y4.setCell ⟨wo.heap.size, 3, none⟩ (.int .i64 v4)).heap[wo.heap.size]? = some (.cells #[.int .i64 v1, .int .i64 v2, .int .i64 v3, .int .i64 v4, .int .u32 0, .int .i64 0] 29 (0, 0)) := row6_setj 3 (.int .i64 v4) hP4
          have hb4 := hb4.setCell (p := ⟨wo.heap.size, 3, none⟩) (by simp only; omega) (.int .i64 v4)
          rw [← hx4] at hA4 hP4 hb4
          rw [← hx4]
          clear hx4 hr4 hg4 hA3 hP3 hb3 p0 p1 p2 p3 p4 p5 pf
          have ht5 := rdSum_at ol s4
          refine (sumR_any ol w1.heap.size _ s4 x4 (hA4.rdr hge hol) (by omega)).mono ?_
          rintro e y5 ⟨rfl, hr5, hg5⟩
          have hA5 := hA4.num hge hr5 hg5
          have hP5 := heap_kept hP4 hg5 (by omega)
          have hb5 := below_grownR hb4 (by omega) hg5
          generalize rdSum ol s4 = r5 at *
          obtain ⟨v5, s5⟩ := r5
          simp only at hA5 ht5 Hpc
          obtain ⟨p0, p1, p2, p3, p4, p5, pf⟩ := row6 hP5
          go_wp2_with fail
          obtain ⟨x5, hx5⟩ : ∃ W, W = y5.setCell ⟨wo.heap.size, 4, none⟩ (.int .u32 v5) := ⟨_, rfl⟩
          have hA5 := hA5.setP hge wo.heap.size 4 (.int .u32 v5) hsz hlv
          have hP5 : (y5.setCell ⟨wo.heap.size, 4, none⟩ (.int .u32 v5)).heap[wo.heap.size]? = some (.cells #[.int .i64 v1, .int .i64 v2, .int .i64 v3, .int .i64 v4, .int .u32 v5, .int .i64 0] 29 (0, 0)) := row6_setj 4 (.int .u32 v5) hP5
          have hb5 := hb5.setCell (p := ⟨wo.heap.size, 4, none⟩) (by simp only; omega) (.int .u32 v5)
          rw [← hx5] at hA5 hP5 hb5
          rw [← hx5]
          clear hx5 hr5 hg5 hA4 hP4 hb4 p0 p1 p2 p3 p4 p5 pf
          have ht6 := rd_at ol s5
          refine (num_any ol w1.heap.size _ s5 x5 (hA5.rdr hge hol) (by omega)).mono ?_
          rintro e y6 ⟨rfl, hr6, hg6⟩
          have hA6 := hA5.num hge hr6 hg6
          have hP6 := heap_kept hP5 hg6 (by omega)
          have hb6 := below_grownR hb5 (by omega) hg6
          generalize rd ol s5 = r6 at *
          obtain ⟨v6, s6⟩ := r6
          simp only at hA6 ht6 Hpc
          have T6 := row6 hP6
          obtain ⟨p0, p1, p2, p3, p4, p5, pf⟩ := T6
          have hA6 := hA6.setP hge wo.heap.size 5 (.int .i64 v6) hsz hlv
          have hP6 : (y6.setCell ⟨wo.heap.size, 5, none⟩ (.int .i64 v6)).heap[wo.heap.size]? = some (.cells #[.int .i64 v1, .int .i64 v2, .int .i64 v3, .int .i64 v4, .int .u32 v5, .int .i64 v6] 29 (0, 0)) := row6_setj 5 (.int .i64 v6) hP6
          have hb6 := hb6.setCell (p := ⟨wo.heap.size, 5, none⟩) (by simp only; omega) (.int .i64 v6)
          go_upto_region 23 with fail
          refine wp_name fun x6 hx6 => ?_
          rw [← hx6] at hA6 hP6 hb6
          clear hx6 hr6 hg6 hA5 hP5 hb5 p0 p1 p2 p3 p4 p5 pf
          obtain ⟨t0, t1, t2, t3, t4, t5, tf⟩ := row6 hP6
          obtain ⟨al, cl, rfl⟩ := OwnPcs.form hA6.pcs
          obtain ⟨m0, m1, m2, mf⟩ := row3 hA6.man
          have hHO := hid hA6.pcs
          have hlen : pcs.length ≤ 256 := by have := Hpl.out; omega
          have hpz : PcsAt (x6.alloc (.cells #[.int .i64 v1, .int .i64 v2, .int .i64 v3, .int .i64 v4, .int .u32 v5, .int .i64 v6] 29)) (.slice (some ⟨x6.heap.size, 0, none⟩) 1 1) [⟨v1, v2, v3, v4, v5, v6⟩] := ⟨_, 1, rfl, by simp, fun k hk => ⟨x6.heap.size, 0, rfl, fun p hp => by
            have h0 : k = 0 := by simpa using hk
            subst h0
            simp at hp
            subst hp
            constructor <;> exact cell_new rfl rfl⟩⟩
          have hzz : w1.heap.size + 2 ≤ x6.heap.size := hA6.size
          go_wp2_with (at_builtin; refine wpList_append_pcs rfl (.tmp 88) (.tmp 90) rfl Tryz.underlying22 Tryz.inf29 (w1.heap.size + 2) _ _ pcs [⟨v1, v2, v3, v4, v5, v6⟩] rfl (hHO.out.below (below_alloc _ _)) rfl hpz (by omega) (by rw [World.size_alloc]; omega) ?_)
          intro v8 W8 hO8 hb8 hg8
          obtain ⟨pcs', hpcs'⟩ : ∃ l, l = pcs ++ [⟨v1, v2, v3, v4, v5, v6⟩] := ⟨_, rfl⟩
          rw [← hpcs'] at hO8
          have Hpcs := hid hpcs'
          clear hpcs'
          obtain ⟨a8, c8, rfl⟩ := OwnPcs.form hO8
          have hg8' := grownBy_trans (grownBy_below (row := (Value.slice al pcs.length cl).ownBlock) (below_alloc x6 _)) hg8
          have hM8 : W8.heap[w1.heap.size + 1]? = some (.cells #[.int .i64 ver, .int .i64 next, .slice al pcs.length cl] 24 (0, 0)) := by
            rw [hg8'.block _ (by have := hA6.size; omega) (fun e => by have := (hHO.out.lt _ e.symm).1; omega)]; exact hA6.man
          obtain ⟨n0, n1, n2, nf⟩ := row3 hM8
          have hA9 := hA6.push hge hO8 hg8'
          have hb9 := ((hb6.step (below_alloc x6 _)).trans (hb8.mono (by omega))).setCell (p := ⟨w1.heap.size + 1, 2, none⟩) (by simp only; omega) (.slice a8 pcs'.length c8)
          clear hA6 hO8 hg8 hb8 hg8' hM8 hb6 hP6 t0 t1 t2 t3 t4 t5 tf m0 m1 m2 mf hpz hHO
          go_wp2_with fail
          go_roundw
          case rel =>
            refine ⟨k + 1, s6, pcs', _, by omega, by go_num, hA9, by have := Hpl.out; rw [Hpcs.out]; simp; omega, ?_, by omega, hb9⟩
            rw [Hpcs.out, HE.out, show nn - k = (nn - (k + 1)) + 1 by omega, rdPieces, if_pos rfl, Hpc.out]
            simp
          case measure => simp [intOf]; omega
        · have hEx : (rdPieces ol (nn - k) ⟨ps', e'⟩) = ([], ⟨ps', e'⟩) := by
            by_cases h9 : e' = 0
            · have h8 : nn - k = 0 := by have := fun h => hin ⟨h, h9⟩; omega
              rw [h8]; rfl
            · exact rdPieces_bad ol _ _ _ h9
          have Hfin := hid (show loadM b = endM ol ver next (pcs, ⟨ps', e'⟩) by rw [Hm.out, HE.out, hEx]; simp only [List.append_nil])
          have hzz := hA.size
          obtain ⟨r0, r1, r2, rf⟩ := row3 hA.res
          clear hEx Hm HE
          by_cases h9 : e' = 0
          · subst h9
            have hkn : k = nn := by have := fun h => hin ⟨h, rfl⟩; omega
            have hkb : decide ((k : Int) < (nn : Int)) = false := decide_eq_false (by omega)
            have hkb2 : ¬ k < nn := by omega
            by_cases hat9 : ps' = ol.length
            · have hab : ((ps' : Int) != (ol.length : Int)) = false := by simp [hat9]
              have K := hid (refCheck_any ver next pcs lv wo (hA.pcs.at (by have := Hpl.out; omega)))
              obtain ⟨m0, m1, m2, mf⟩ := row3 hA.man
              by_cases hck : checkM ver next pcs = 0
              · have Hfin := hid (show loadM b = ((ver, next, pcs), 0) from Hfin.out.trans (endM_ok hat9 hck))
                rw [hck] at K
                clear hin hck hat9 hkn
                have hAA := hA
                obtain ⟨al, cl, rfl⟩ := OwnPcs.form hA.pcs
                go_wp2_with fail
                refine K.out.mono ?_
                rintro e W' ⟨rfl, hbK⟩
                have hA' := hA.below hbK
                obtain ⟨s0, s1, s2, sf⟩ := row3 hA'.res
                obtain ⟨n0, n1, n2, nf⟩ := row3 hA'.man
                have hOf := ownsRow_setCell_below (ownsRow_setCell_below (ownsRow_setCell_below hA'.pcs (a := ⟨w.heap.size, 0, none⟩) (by simp only; omega) (.int .i64 ver)) (a := ⟨w.heap.size, 1, none⟩) (by simp only; omega) (.int .i64 next)) (a := ⟨w.heap.size, 2, none⟩) (by simp only; omega) (.slice al pcs.length cl)
                have HOf := hid (OwnPcs.base hOf (show w.heap.size ≤ _ by omega))
                have hbf := hwr.step hbK
                clear hA hAA hA' hbK hwr m0 m1 m2 mf r0 r1 r2 rf q0 q1 q2 qf hOf
                go_wp2_with fail
                exact bodyPost_ret (v := .tuple #[.agg #[.int .i64 ver, .int .i64 next, .slice al pcs.length cl], .int .i64 0]) (by simp [results, Tryz.results26, go_sem, s0, s1, s2]) rfl ⟨_, by rw [Hfin.out], by rw [Hfin.out]; exact HOf.out, ((hbf.setCell (p := ⟨w.heap.size, 0, none⟩) (by simp) _).setCell (p := ⟨w.heap.size, 1, none⟩) (by simp) _).setCell (p := ⟨w.heap.size, 2, none⟩) (by simp) _⟩
              · have Hfin := hid (show loadM b = ((0, 0, []), 11) from Hfin.out.trans (endM_bad (.inr hck)))
                have hcb : (checkM ver next pcs != 0) = true := by simpa using hck
                generalize checkM ver next pcs = cm at *
                clear hin hck hat9 hkn
                have hAA := hA
                obtain ⟨al, cl, rfl⟩ := OwnPcs.form hA.pcs
                go_wp2_with fail
                refine K.out.mono ?_
                rintro e W' ⟨rfl, hbK⟩
                have hA' := hA.below hbK
                obtain ⟨r0, r1, r2, rf⟩ := row3 hA'.res
                have hbf := hwr.step hbK

                go_wp2_with fail
                exact bodyPost_ret (v := .tuple #[.agg #[.int .i64 0, .int .i64 0, .slice none 0 0], .int .i64 11]) (by simp [results, Tryz.results26, go_sem, r0, r1, r2]) rfl ⟨_, by rw [Hfin.out], by rw [Hfin.out]; exact OwnPcs.nil _ _, by first | exact (((hbf.setCell (p := ⟨w.heap.size, 0, none⟩) (by simp) _).setCell (p := ⟨w.heap.size, 1, none⟩) (by simp) _).setCell (p := ⟨w.heap.size, 2, none⟩) (by simp) _).drew | exact (((hbf.setCell (p := ⟨w.heap.size, 0, none⟩) (by simp) _).setCell (p := ⟨w.heap.size, 1, none⟩) (by simp) _).setCell (p := ⟨w.heap.size, 2, none⟩) (by simp) _)⟩

            · have Hfin := hid (show loadM b = ((0, 0, []), 11) from Hfin.out.trans (endM_bad (.inl hat9)))
              have hab : ((ps' : Int) != (ol.length : Int)) = true := by simp; omega
              clear hin hat9 hkn

              go_wp2_with fail
              exact bodyPost_ret (v := .tuple #[.agg #[.int .i64 0, .int .i64 0, .slice none 0 0], .int .i64 11]) (by simp [results, Tryz.results26, go_sem, r0, r1, r2]) rfl ⟨_, by rw [Hfin.out], by rw [Hfin.out]; exact OwnPcs.nil _ _, by first | exact (((hwr.setCell (p := ⟨w.heap.size, 0, none⟩) (by simp) _).setCell (p := ⟨w.heap.size, 1, none⟩) (by simp) _).setCell (p := ⟨w.heap.size, 2, none⟩) (by simp) _).drew | exact (((hwr.setCell (p := ⟨w.heap.size, 0, none⟩) (by simp) _).setCell (p := ⟨w.heap.size, 1, none⟩) (by simp) _).setCell (p := ⟨w.heap.size, 2, none⟩) (by simp) _)⟩

          · have Hfin := hid (show loadM b = ((0, 0, []), e') from Hfin.out.trans (endM_err h9))
            have h9a : (e' == 0) = false := by simpa using h9
            have h9b : (e' != 0) = true := by simpa using h9
            clear hin
            by_cases hz : k < nn

            · go_wp2_with fail
              go_region
              go_wp2
              exact bodyPost_ret (v := .tuple #[.agg #[.int .i64 0, .int .i64 0, .slice none 0 0], .int .i64 e']) (by simp [results, Tryz.results26, go_sem, r0, r1, r2]) rfl ⟨_, by rw [Hfin.out], by rw [Hfin.out]; exact OwnPcs.nil _ _, by first | exact (((hwr.setCell (p := ⟨w.heap.size, 0, none⟩) (by simp) _).setCell (p := ⟨w.heap.size, 1, none⟩) (by simp) _).setCell (p := ⟨w.heap.size, 2, none⟩) (by simp) _).drew | exact (((hwr.setCell (p := ⟨w.heap.size, 0, none⟩) (by simp) _).setCell (p := ⟨w.heap.size, 1, none⟩) (by simp) _).setCell (p := ⟨w.heap.size, 2, none⟩) (by simp) _)⟩

            · go_wp2_with fail
              go_region
              go_wp2
              exact bodyPost_ret (v := .tuple #[.agg #[.int .i64 0, .int .i64 0, .slice none 0 0], .int .i64 e']) (by simp [results, Tryz.results26, go_sem, r0, r1, r2]) rfl ⟨_, by rw [Hfin.out], by rw [Hfin.out]; exact OwnPcs.nil _ _, by first | exact (((hwr.setCell (p := ⟨w.heap.size, 0, none⟩) (by simp) _).setCell (p := ⟨w.heap.size, 1, none⟩) (by simp) _).setCell (p := ⟨w.heap.size, 2, none⟩) (by simp) _).drew | exact (((hwr.setCell (p := ⟨w.heap.size, 0, none⟩) (by simp) _).setCell (p := ⟨w.heap.size, 1, none⟩) (by simp) _).setCell (p := ⟨w.heap.size, 2, none⟩) (by simp) _)⟩

    · have hbd : ∃ e3 : Int, (if e0 = 0 then (if n < 0 then 11 else if 256 < n then 2 else 0) else e0) = e3 ∧ e3 ≠ 0 := by
        refine ⟨_, rfl, ?_⟩
        split
        · split
          · decide
          · split
            · decide
            · exfalso; apply hbad; refine ⟨by assumption, by omega, by omega⟩
        · assumption
      obtain ⟨e3, he3, h30⟩ := hbd
      have Hfin := hid (Hm.out.trans (finishM_bad (s := ⟨at0, e0⟩) he3 h30))
      clear Hm
      by_cases h0 : e0 = 0
      · subst h0
        rw [if_pos rfl] at he3
        by_cases hn0 : n < 0
        · rw [if_pos hn0] at he3
          subst he3
          clear hbad
          go_wp2_with fail
          have hL4 := hL3.setE hge 11
          have hb4 := hbw.setCell (p := ⟨w1.heap.size, 2, none⟩) (by simp only; omega) (.int .i64 11)
          obtain ⟨X4, hX4⟩ : ∃ X, X = X3.setCell ⟨w1.heap.size, 2, none⟩ (.int .i64 11) := ⟨_, rfl⟩
          rw [← hX4] at hL4 hb4
          rw [← hX4]
          clear hX4 q0 q1 q2 qf m0 m1 m2 mf hL3 hbw
          obtain ⟨q0, q1, q2, qf⟩ := row3 hL4.row
          obtain ⟨r0, r1, r2, rf⟩ := row3 hL4.res
          simp only at q2
          go_loopw [9] (fun i wr => i = .int .i64 0 ∧ wr = X4) (fun _ _ => 0)
          case atStart => exact ⟨rfl, rfl⟩
          case round =>
            obtain ⟨rfl, rfl⟩ := hrel
            rcases Bool.eq_false_or_eq_true (decide ((0 : Int) < n)) with hz | hz
            · go_wp2_with fail
              go_region
              go_wp2
              exact bodyPost_ret (v := .tuple #[.agg #[.int .i64 0, .int .i64 0, .slice none 0 0], .int .i64 11]) (by simp [results, Tryz.results26, go_sem, r0, r1, r2]) rfl ⟨_, by rw [Hfin.out], by rw [Hfin.out]; exact OwnPcs.nil _ _, by first | exact (((hb4.setCell (p := ⟨w.heap.size, 0, none⟩) (by simp) _).setCell (p := ⟨w.heap.size, 1, none⟩) (by simp) _).setCell (p := ⟨w.heap.size, 2, none⟩) (by simp) _).drew | exact (((hb4.setCell (p := ⟨w.heap.size, 0, none⟩) (by simp) _).setCell (p := ⟨w.heap.size, 1, none⟩) (by simp) _).setCell (p := ⟨w.heap.size, 2, none⟩) (by simp) _)⟩
            · go_wp2_with fail
              go_region
              go_wp2
              exact bodyPost_ret (v := .tuple #[.agg #[.int .i64 0, .int .i64 0, .slice none 0 0], .int .i64 11]) (by simp [results, Tryz.results26, go_sem, r0, r1, r2]) rfl ⟨_, by rw [Hfin.out], by rw [Hfin.out]; exact OwnPcs.nil _ _, by first | exact (((hb4.setCell (p := ⟨w.heap.size, 0, none⟩) (by simp) _).setCell (p := ⟨w.heap.size, 1, none⟩) (by simp) _).setCell (p := ⟨w.heap.size, 2, none⟩) (by simp) _).drew | exact (((hb4.setCell (p := ⟨w.heap.size, 0, none⟩) (by simp) _).setCell (p := ⟨w.heap.size, 1, none⟩) (by simp) _).setCell (p := ⟨w.heap.size, 2, none⟩) (by simp) _)⟩
        · rw [if_neg hn0, if_pos (show 256 < n by omega)] at he3
          subst he3
          have hn1 : 256 < n := by omega
          clear hbad
          go_wp2_with fail
          have hL4 := hL3.setE hge 2
          have hb4 := hbw.setCell (p := ⟨w1.heap.size, 2, none⟩) (by simp only; omega) (.int .i64 2)
          obtain ⟨X4, hX4⟩ : ∃ X, X = X3.setCell ⟨w1.heap.size, 2, none⟩ (.int .i64 2) := ⟨_, rfl⟩
          rw [← hX4] at hL4 hb4
          rw [← hX4]
          clear hX4 q0 q1 q2 qf m0 m1 m2 mf hL3 hbw
          obtain ⟨q0, q1, q2, qf⟩ := row3 hL4.row
          obtain ⟨r0, r1, r2, rf⟩ := row3 hL4.res
          simp only at q2
          go_loopw [9] (fun i wr => i = .int .i64 0 ∧ wr = X4) (fun _ _ => 0)
          case atStart => exact ⟨rfl, rfl⟩
          case round =>
            obtain ⟨rfl, rfl⟩ := hrel
            rcases Bool.eq_false_or_eq_true (decide ((0 : Int) < n)) with hz | hz
            · go_wp2_with fail
              go_region
              go_wp2
              exact bodyPost_ret (v := .tuple #[.agg #[.int .i64 0, .int .i64 0, .slice none 0 0], .int .i64 2]) (by simp [results, Tryz.results26, go_sem, r0, r1, r2]) rfl ⟨_, by rw [Hfin.out], by rw [Hfin.out]; exact OwnPcs.nil _ _, by first | exact (((hb4.setCell (p := ⟨w.heap.size, 0, none⟩) (by simp) _).setCell (p := ⟨w.heap.size, 1, none⟩) (by simp) _).setCell (p := ⟨w.heap.size, 2, none⟩) (by simp) _).drew | exact (((hb4.setCell (p := ⟨w.heap.size, 0, none⟩) (by simp) _).setCell (p := ⟨w.heap.size, 1, none⟩) (by simp) _).setCell (p := ⟨w.heap.size, 2, none⟩) (by simp) _)⟩
            · go_wp2_with fail
              go_region
              go_wp2
              exact bodyPost_ret (v := .tuple #[.agg #[.int .i64 0, .int .i64 0, .slice none 0 0], .int .i64 2]) (by simp [results, Tryz.results26, go_sem, r0, r1, r2]) rfl ⟨_, by rw [Hfin.out], by rw [Hfin.out]; exact OwnPcs.nil _ _, by first | exact (((hb4.setCell (p := ⟨w.heap.size, 0, none⟩) (by simp) _).setCell (p := ⟨w.heap.size, 1, none⟩) (by simp) _).setCell (p := ⟨w.heap.size, 2, none⟩) (by simp) _).drew | exact (((hb4.setCell (p := ⟨w.heap.size, 0, none⟩) (by simp) _).setCell (p := ⟨w.heap.size, 1, none⟩) (by simp) _).setCell (p := ⟨w.heap.size, 2, none⟩) (by simp) _)⟩
      · rw [if_neg h0] at he3
        subst he3
        have hs0b : (e0 != 0) = true := by simpa using h0
        have hs0c : (e0 == 0) = false := by simpa using h0
        clear hbad
        have hL4 := hL3
        have hb4 := hbw
        obtain ⟨X4, hX4⟩ : ∃ X, X = X3 := ⟨_, rfl⟩
        rw [← hX4] at hL4 hb4
        go_wp2_with fail
        rw [← hX4]
        clear hX4 q0 q1 q2 qf m0 m1 m2 mf hL3 hbw
        obtain ⟨q0, q1, q2, qf⟩ := row3 hL4.row
        obtain ⟨r0, r1, r2, rf⟩ := row3 hL4.res
        simp only at q2
        go_loopw [9] (fun i wr => i = .int .i64 0 ∧ wr = X4) (fun _ _ => 0)
        case atStart => exact ⟨rfl, rfl⟩
        case round =>
          obtain ⟨rfl, rfl⟩ := hrel
          rcases Bool.eq_false_or_eq_true (decide ((0 : Int) < n)) with hz | hz
          · go_wp2_with fail
            go_region
            go_wp2
            exact bodyPost_ret (v := .tuple #[.agg #[.int .i64 0, .int .i64 0, .slice none 0 0], .int .i64 e0]) (by simp [results, Tryz.results26, go_sem, r0, r1, r2]) rfl ⟨_, by rw [Hfin.out], by rw [Hfin.out]; exact OwnPcs.nil _ _, by first | exact (((hb4.setCell (p := ⟨w.heap.size, 0, none⟩) (by simp) _).setCell (p := ⟨w.heap.size, 1, none⟩) (by simp) _).setCell (p := ⟨w.heap.size, 2, none⟩) (by simp) _).drew | exact (((hb4.setCell (p := ⟨w.heap.size, 0, none⟩) (by simp) _).setCell (p := ⟨w.heap.size, 1, none⟩) (by simp) _).setCell (p := ⟨w.heap.size, 2, none⟩) (by simp) _)⟩
          · go_wp2_with fail
            go_region
            go_wp2
            exact bodyPost_ret (v := .tuple #[.agg #[.int .i64 0, .int .i64 0, .slice none 0 0], .int .i64 e0]) (by simp [results, Tryz.results26, go_sem, r0, r1, r2]) rfl ⟨_, by rw [Hfin.out], by rw [Hfin.out]; exact OwnPcs.nil _ _, by first | exact (((hb4.setCell (p := ⟨w.heap.size, 0, none⟩) (by simp) _).setCell (p := ⟨w.heap.size, 1, none⟩) (by simp) _).setCell (p := ⟨w.heap.size, 2, none⟩) (by simp) _).drew | exact (((hb4.setCell (p := ⟨w.heap.size, 0, none⟩) (by simp) _).setCell (p := ⟨w.heap.size, 1, none⟩) (by simp) _).setCell (p := ⟨w.heap.size, 2, none⟩) (by simp) _)⟩
  · have Hfin := hid (show loadM b = ((0, 0, []), (openM b).2) by rw [loadM, if_neg he])
    have hb : ((openM b).2 != 0) = true := by simpa using he
    clear he
    generalize (openM b).2 = oe at *
    generalize (openM b).1 = ol at *
    go_enter Tryz.func26, Tryz.ntmps26
    go_wp2_with fail
    refine O.out.mono ?_
    rintro e w1 ⟨u, rfl, hu, hb1⟩
    obtain ⟨a1, c1, rfl⟩ := OwnBytes.form hu
    have hR : w1.heap[w.heap.size]? = some (.cells #[.int .i64 0, .int .i64 0, .slice none 0 0] 24 (0, 0)) := blk_below (heap_alloc_new w _) hb1
    have hbw := (below_alloc w _).step hb1
    obtain ⟨r0, r1, r2, rf⟩ := row3 hR
    clear O hb1
    go_wp2_with fail
    exact bodyPost_ret (v := .tuple #[.agg #[.int .i64 0, .int .i64 0, .slice none 0 0], .int .i64 oe]) (by simp [results, Tryz.results26, go_sem, r0, r1, r2]) rfl ⟨_, by rw [Hfin.out], by rw [Hfin.out]; exact OwnPcs.nil _ _, by first | exact (((hbw.setCell (p := ⟨w.heap.size, 0, none⟩) (by simp) _).setCell (p := ⟨w.heap.size, 1, none⟩) (by simp) _).setCell (p := ⟨w.heap.size, 2, none⟩) (by simp) _).drew | exact (((hbw.setCell (p := ⟨w.heap.size, 0, none⟩) (by simp) _).setCell (p := ⟨w.heap.size, 1, none⟩) (by simp) _).setCell (p := ⟨w.heap.size, 2, none⟩) (by simp) _)⟩
end Go.Proofs.YtcpecponmaakoaaGreatDoor
