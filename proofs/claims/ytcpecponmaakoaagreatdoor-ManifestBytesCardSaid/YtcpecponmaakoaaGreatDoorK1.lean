/- Walk: ManifestLooks. -/
import Derived.Test.YtcpecponmaakoaaGreatDoorV2
import Derived.Test.YtcpecponmaakoaaGreatDoorW10
import Derived.Test.YtcpecponmaakoaaGreatDoorW7
import Derived.Test.YtcpecponmaakoaaGreatDoorO1
namespace Go.Proofs.YtcpecponmaakoaaGreatDoor
open Go.RowKit Go.Wm
theorem few_big (ver next : Int) (a : Option Addr) (n cap : Nat) (w : World) :
    Calls Tryz.prog 11 #[.agg #[.int .i64 ver, .int .i64 next, .slice a n cap]] w fun e w' => e = .returned (.bool (decide (n ≤ 300))) ∧ Below w.heap.size w w' := by
  by_cases h : n ≤ 300
  · go_enter Tryz.func11, Tryz.ntmps11
    go_wp2
    go_ret
    exact ⟨ret_bool (by simp [h]; omega), below_alloc _ _⟩
  · go_enter Tryz.func11, Tryz.ntmps11
    go_wp2
    go_ret
    exact ⟨ret_bool (by simp [h]; omega), below_alloc _ _⟩
set_option maxHeartbeats 2000000 in
set_option maxRecDepth 100000 in
theorem looks_any (ver next off : Int) (ps : List Piece) (v : Value) (w : World) (hL : Laid w) (hS : StepsAt w 0) (hv : PcsBig w v ps) :
    Calls Tryz.prog 3 #[.agg #[.int .i64 ver, .int .i64 next, v], .int .i64 off] w fun e w' => e = .returned (.bool true) ∧ Below w.heap.size w w' := by
  have hvw := hv
  obtain ⟨a, cap, rfl, hnc, _⟩ := hv
  have HV := hid hvw
  have hb0 := below_alloc w (.cells #[.int .i64 ver, .int .i64 next, .slice a ps.length cap] 24)
  have CL := hid (live_any _ (hL.below hb0) (hS.below hb0))
  clear hvw hL hS
  go_enter Tryz.func3, Tryz.ntmps3
  go_wp2_with fail
  refine CL.out.mono ?_
  rintro e w1 ⟨rfl, hb1⟩
  have hM1 : w1.heap[w.heap.size]? = some (.cells #[.int .i64 ver, .int .i64 next, .slice a ps.length cap] 24 (0, 0)) := blk_below (heap_alloc_new w _) hb1
  have hc1 := hb0.step hb1
  obtain ⟨m0, m1, m2, mf⟩ := row3 hM1
  clear CL hb1 hb0
  by_cases hn : ps.length ≤ 300
  · have F := hid (few_big ver next a ps.length cap w1)
    rw [show decide (ps.length ≤ 300) = true from decide_eq_true hn] at F
    go_wp2_with fail
    refine F.out.mono ?_
    rintro e w2 ⟨rfl, hb2⟩
    have hM2 := blk_below hM1 hb2
    have hc2 := hc1.step hb2
    clear F hb2 m0 m1 m2 mf hM1 hc1
    have HP := hid (HV.out.at (by omega))
    obtain ⟨pr, hpr⟩ : ∃ pr, pr = (atM ps off).1 := ⟨_, rfl⟩
    obtain ⟨ok, hok⟩ : ∃ ok, ok = (atM ps off).2 := ⟨_, rfl⟩
    obtain ⟨s1, hs1⟩ : ∃ s1, s1 = (spanP ps).1 := ⟨_, rfl⟩
    obtain ⟨s2, hs2⟩ : ∃ s2, s2 = (spanP ps).2 := ⟨_, rfl⟩
    have A := fun W (h : Below w.heap.size w W) => at_any ver next off ps (.slice a ps.length cap) W (HP.out.mono h)
    have R := fun W (h : Below w.heap.size w W) => refAt_any ver next off ps (.slice a ps.length cap) W (HP.out.mono h)
    have S := fun W (h : Below w.heap.size w W) => span_any ver next ps (.slice a ps.length cap) W (HP.out.mono h)
    have T := fun W (h : Below w.heap.size w W) => refSpan_any ver next ps (.slice a ps.length cap) W (HP.out.mono h)
    rw [← hpr, ← hok] at A R
    rw [← hs1, ← hs2] at S T
    clear hpr hok hs1 hs2
    have A := hid A
    have R := hid R
    have S := hid S
    have T := hid T
    obtain ⟨m0, m1, m2, mf⟩ := row3 hM2
    go_wp2_with fail
    refine (A.out _ hc2).mono ?_
    rintro e w3 ⟨rfl, hb3⟩
    have hM3 := blk_below hM2 hb3
    have hc3 := hc2.step hb3
    clear A hb3 m0 m1 m2 mf hM2 hc2
    obtain ⟨m0, m1, m2, mf⟩ := row3 hM3
    have m0 := fun X => cell_alloc_old X m0
    have m1 := fun X => cell_alloc_old X m1
    have m2 := fun X => cell_alloc_old X m2
    go_wp2_with fail
    refine (R.out _ (hc3.step (below_alloc _ _))).mono ?_
    rintro e w4 ⟨rfl, hb4⟩
    have hP3 : w4.heap[w3.heap.size]? = some (.cells #[.int .i64 pr.id, .int .i64 pr.base, .int .i64 pr.fin, .int .i64 pr.size, .int .u32 pr.sum, .int .i64 pr.state] 29 (0, 0)) := blk_new hb4 rfl
    have r34 : Below w3.heap.size w3 w4 := (below_alloc _ _).step hb4
    have hM4 := blk_below hM3 r34
    have hc4 := hc3.step r34
    obtain ⟨b3, hb3⟩ : ∃ b3, b3 = w3.heap.size := ⟨_, rfl⟩
    rw [← hb3] at hP3 ⊢
    clear R hb4 m0 m1 m2 mf hM3 hc3 r34 hb3
    obtain ⟨m0, m1, m2, mf⟩ := row3 hM4
    have m0 := fun X => cell_alloc_old X m0
    have m1 := fun X => cell_alloc_old X m1
    have m2 := fun X => cell_alloc_old X m2
    go_wp2_with fail
    refine (S.out _ (hc4.step (below_alloc _ _))).mono ?_
    rintro e w5 ⟨rfl, hb5⟩
    have hP4 : w5.heap[w4.heap.size]? = some (.cells #[.int .i64 pr.id, .int .i64 pr.base, .int .i64 pr.fin, .int .i64 pr.size, .int .u32 pr.sum, .int .i64 pr.state] 29 (0, 0)) := blk_new hb5 rfl
    have r45 : Below w4.heap.size w4 w5 := (below_alloc _ _).step hb5
    have hM5 := blk_below hM4 r45
    have hP3 := blk_below hP3 r45
    have hc5 := hc4.step r45
    obtain ⟨b4, hb4⟩ : ∃ b4, b4 = w4.heap.size := ⟨_, rfl⟩
    rw [← hb4] at hP4 ⊢
    clear S hb5 m0 m1 m2 mf hM4 hc4 r45 hb4
    obtain ⟨m0, m1, m2, mf⟩ := row3 hM5
    go_wp2_with fail
    refine (T.out _ hc5).mono ?_
    rintro e w6 ⟨rfl, hb6⟩
    have hP4 := blk_below hP4 hb6
    have hP3 := blk_below hP3 hb6
    have hc6 := hc5.step hb6
    clear T hb6 m0 m1 m2 mf hM5 hc5
    obtain ⟨p0, p1, p2, p3, p4, p5, pf⟩ := row6 hP3
    obtain ⟨q0, q1, q2, q3, q4, q5, qf⟩ := row6 hP4
    have PE := fun W => show (binOp .eql 29 (.agg #[.int .i64 pr.id, .int .i64 pr.base, .int .i64 pr.fin, .int .i64 pr.size, .int .u32 pr.sum, .int .i64 pr.state]) (.agg #[.int .i64 pr.id, .int .i64 pr.base, .int .i64 pr.fin, .int .i64 pr.size, .int .u32 pr.sum, .int .i64 pr.state])).run Tryz.prog W = .ok (.bool true) W from by
      have := piece_eql_run pr pr W
      rw [decide_eq_true rfl] at this
      exact this
    go_wp2_with fail
    go_ret
    exact ⟨rfl, hc6⟩
  · have F := hid (few_big ver next a ps.length cap w1)
    rw [show decide (ps.length ≤ 300) = false from decide_eq_false hn] at F
    go_wp2_with fail
    refine F.out.mono ?_
    rintro e w2 ⟨rfl, hb2⟩
    have hc2 := hc1.step hb2
    clear F
    go_wp2_with fail
    go_ret
    exact ⟨rfl, hc2⟩
end Go.Proofs.YtcpecponmaakoaaGreatDoor
