/- Walk: ManifestSteps. -/
import Derived.Test.YtcpecponmaakoaaGreatDoorK1
import Derived.Test.YtcpecponmaakoaaGreatDoorO2
import Derived.Test.YtcpecponmaakoaaGreatDoorQ4
namespace Go.Proofs.YtcpecponmaakoaaGreatDoor
open Go.RowKit Go.Wm
theorem stepM_length (ver next : Int) (ps : List Piece) (id st : Int) (may : Nat → Bool) : (stepM ver next ps id st may).1.2.2.length ≤ ps.length := by
  unfold stepM
  split
  · simp
  · split
    · simp
    · split
      · simp
      · split
        · simp
        · show (if st = 4 then ps.eraseIdx _ else ps.set _ _).length ≤ ps.length
          split
          · rw [List.length_eraseIdx]; split <;> omega
          · rw [List.length_set]; exact Nat.le_refl _
theorem beginM_length (ver next base fin size sum : Int) (ps : List Piece) : (beginM ver next base fin size sum ps).1.2.2.length ≤ ps.length + 1 := by
  unfold beginM
  split
  · simp
  · split
    · simp
    · simp
open Go.ChangeShapes Go.WideShapes Go.ChangeAt in
theorem trodAll_six {H : Type} {enc : TypeId × Value → H} {P : Program} {w : World} {base : Nat} {spare : Nat → Bool} {held : Bool} {t0 t1 t2 t3 t4 t5 : TypeId} {vs : Array Value} {ds : List (DataW H)} {ps : List MemPlace}
    (h : DataW.TrodAll enc P w base spare held [t0, t1, t2, t3, t4, t5] vs.toList ds ps) :
    ∃ v0 v1 v2 v3 v4 v5 d0 d1 d2 d3 d4 d5 p0 p1 p2 p3 p4 p5, vs = #[v0, v1, v2, v3, v4, v5] ∧ ds = [d0, d1, d2, d3, d4, d5] ∧ ps = p0 ++ (p1 ++ (p2 ++ (p3 ++ (p4 ++ (p5 ++ []))))) ∧ DataW.Trod enc P w base spare held t0 v0 d0 p0 ∧ DataW.Trod enc P w base spare held t1 v1 d1 p1 ∧
      DataW.Trod enc P w base spare held t2 v2 d2 p2 ∧ DataW.Trod enc P w base spare held t3 v3 d3 p3 ∧ DataW.Trod enc P w base spare held t4 v4 d4 p4 ∧ DataW.Trod enc P w base spare held t5 v5 d5 p5 := by
  obtain ⟨v0, s0, d0, e0, p0, q0, hargs, rfl, rfl, h0, h⟩ := trodAll_cons h
  obtain ⟨v1, s1, d1, e1, p1, q1, rfl, rfl, rfl, h1, h⟩ := trodAll_cons h
  obtain ⟨v2, s2, d2, e2, p2, q2, rfl, rfl, rfl, h2, h⟩ := trodAll_cons h
  obtain ⟨v3, s3, d3, e3, p3, q3, rfl, rfl, rfl, h3, h⟩ := trodAll_cons h
  obtain ⟨v4, s4, d4, e4, p4, q4, rfl, rfl, rfl, h4, h⟩ := trodAll_cons h
  obtain ⟨v5, s5, d5, e5, p5, q5, rfl, rfl, rfl, h5, h⟩ := trodAll_cons h
  obtain ⟨rfl, rfl, rfl⟩ := trodAll_nil h
  exact ⟨v0, v1, v2, v3, v4, v5, d0, d1, d2, d3, d4, d5, p0, p1, p2, p3, p4, p5, by cases vs; simp_all, rfl, rfl, h0, h1, h2, h3, h4, h5⟩
set_option maxHeartbeats 6000000 in
set_option maxRecDepth 100000 in
theorem steps_any (ver next base fin size sum id : Int) (ps : List Piece) (v : Value) (w : World) (hL : Laid w) (hS : StepsAt w 0) (hv : PcsBig w v ps) :
    Calls Tryz.prog 7 #[.agg #[.int .i64 ver, .int .i64 next, v], .int .i64 base, .int .i64 fin, .int .i64 size, .int .u32 sum, .int .i64 id] w fun e w' => e = .returned (.bool true) ∧ Below w.heap.size w w' := by
  have hvw := hv
  obtain ⟨a, cap, rfl, hnc, _⟩ := hv
  have HV := hid hvw
  have HCAP : CapOk (.slice a ps.length cap) := by intro x n c h; cases h; exact hnc
  have hb0 := below_alloc w (.cells #[.int .i64 ver, .int .i64 next, .slice a ps.length cap] 24)
  have CL := hid (live_any _ (hL.below hb0) (hS.below hb0))
  have HS := hid hS
  clear hvw hL hS
  go_enter Tryz.func7, Tryz.ntmps7
  go_wp2_with fail
  refine CL.out.mono ?_
  rintro e w1 ⟨rfl, hb1⟩
  have hM1 : w1.heap[w.heap.size]? = some (.cells #[.int .i64 ver, .int .i64 next, .slice a ps.length cap] 24 (0, 0)) := blk_below (heap_alloc_new w _) hb1
  have hc1 := hb0.step hb1
  obtain ⟨m0, m1, m2, mf⟩ := row3 hM1
  clear CL hb1 hb0
  by_cases hn : ps.length ≤ 300
  · have F := hid (few_big ver next a ps.length cap w1)
    rw [show decide (ps.length ≤ 300) = true from decide_eq_true hn] at F
    go_wp2_with fail
    refine F.out.mono ?_
    rintro e w2 ⟨rfl, hb2⟩
    have hM2 := blk_below hM1 hb2
    have hc2 := hc1.step hb2
    clear F hb2 m0 m1 m2 mf hM1 hc1
    have HP := hid (HV.out.at (by omega))
    have hlB : (beginM ver next base fin size sum ps).1.2.2.length ≤ 1000000 := Nat.le_trans (beginM_length ver next base fin size sum ps) (by omega)
    have hlD : (stepM ver next ps id 2 (fun _ => true)).1.2.2.length ≤ 1000000 := Nat.le_trans (stepM_length ..) (by omega)
    have hlR : (stepM ver next ps id 3 (mayDrop ps)).1.2.2.length ≤ 1000000 := Nat.le_trans (stepM_length ..) (by omega)
    have hlL : (stepM ver next ps id 4 (fun _ => true)).1.2.2.length ≤ 1000000 := Nat.le_trans (stepM_length ..) (by omega)
    have BG := fun W (h : Below w.heap.size w W) => begin_any ver next base fin size sum ps (.slice a ps.length cap) W (HP.out.mono h) HCAP
    have RB := fun W (h : Below w.heap.size w W) => refBegin_any ver next base fin size sum ps (.slice a ps.length cap) W (HP.out.mono h)
    have DN := fun W (h : Below w.heap.size w W) => done_any ver next id ps (.slice a ps.length cap) W (HS.out.below h) (HP.out.mono h)
    have RD := fun W (h : Below w.heap.size w W) => refDone_any ver next id ps (.slice a ps.length cap) W (HP.out.mono h)
    have DR := fun W (h : Below w.heap.size w W) => drop_any ver next id ps (.slice a ps.length cap) W (HS.out.below h) (HP.out.mono h)
    have RR := fun W (h : Below w.heap.size w W) => refDrop_any ver next id ps (.slice a ps.length cap) W (HP.out.mono h)
    have LF := fun W (h : Below w.heap.size w W) => left_any ver next id ps (.slice a ps.length cap) W (HS.out.below h) (HP.out.mono h)
    have RL := fun W (h : Below w.heap.size w W) => refLeft_any ver next id ps (.slice a ps.length cap) W (HP.out.mono h)
    generalize beginM ver next base fin size sum ps = XB at BG RB hlB
    obtain ⟨⟨bv, bn, bl⟩, bi, be⟩ := XB
    generalize stepM ver next ps id 2 (fun _ => true) = XD at DN RD hlD
    obtain ⟨⟨dv, dn, dl⟩, de⟩ := XD
    generalize stepM ver next ps id 3 (mayDrop ps) = XR at DR RR hlR
    obtain ⟨⟨rv, rn, rl⟩, re⟩ := XR
    generalize stepM ver next ps id 4 (fun _ => true) = XL at LF RL hlL
    obtain ⟨⟨lv, ln, ll⟩, le⟩ := XL
    have BG := hid BG
    have RB := hid RB
    have DN := hid DN
    have RD := hid RD
    have DR := hid DR
    have RR := hid RR
    have LF := hid LF
    have RL := hid RL
    obtain ⟨m0, m1, m2, mf⟩ := row3 hM2
    go_wp2_with fail
    refine (BG.out _ hc2).mono ?_
    rintro e w3 ⟨u3, rfl, hu3, hb3⟩
    obtain ⟨a3, k3, rfl⟩ := pcs_form hu3 bl.length rfl
    have P3 := hid (OwnPcs.at hu3 hlB)
    have r3 : Below w2.heap.size w2 w3 := hb3
    have hM3 := blk_below hM2 r3
    have hc3 := hc2.step r3
    clear BG hb3 r3 m0 m1 m2 mf hM2 hc2 hu3
    obtain ⟨m0, m1, m2, mf⟩ := row3 hM3
    have m0 := fun X => cell_alloc_old X m0
    have m1 := fun X => cell_alloc_old X m1
    have m2 := fun X => cell_alloc_old X m2
    go_wp2_with fail
    refine (RB.out _ (hc3.step (below_alloc _ _))).mono ?_
    rintro e w4 ⟨u4, rfl, hu4, hb4⟩
    obtain ⟨a4, k4, rfl⟩ := pcs_form hu4 bl.length rfl
    have P4 := hid (OwnPcs.at hu4 hlB)
    have r4 : Below w3.heap.size w3 w4 := (below_alloc _ _).step hb4
    have hX3 : w4.heap[w3.heap.size]? = some (.cells #[.int .i64 bv, .int .i64 bn, .slice a3 bl.length k3] 24 (0, 0)) := blk_new hb4 rfl
    obtain ⟨q3, hq3⟩ : ∃ q3, q3 = w3.heap.size := ⟨_, rfl⟩
    rw [← hq3] at hX3 ⊢
    have P3 := hid (P3.out.mono r4)
    have hM4 := blk_below hM3 r4
    have hc4 := hc3.step r4
    clear RB hb4 r4 m0 m1 m2 mf hM3 hc3 hu4 hq3
    obtain ⟨m0, m1, m2, mf⟩ := row3 hM4
    have m0 := fun X => cell_alloc_old X m0
    have m1 := fun X => cell_alloc_old X m1
    have m2 := fun X => cell_alloc_old X m2
    go_wp2_with fail
    refine (DN.out _ (hc4.step (below_alloc _ _))).mono ?_
    rintro e w5 ⟨u5, rfl, hu5, hb5⟩
    obtain ⟨a5, k5, rfl⟩ := pcs_form hu5 dl.length rfl
    have P5 := hid (OwnPcs.at hu5 hlD)
    have r5 : Below w4.heap.size w4 w5 := (below_alloc _ _).step hb5
    have hX4 : w5.heap[w4.heap.size]? = some (.cells #[.int .i64 bv, .int .i64 bn, .slice a4 bl.length k4] 24 (0, 0)) := blk_new hb5 rfl
    obtain ⟨q4, hq4⟩ : ∃ q4, q4 = w4.heap.size := ⟨_, rfl⟩
    rw [← hq4] at hX4 ⊢
    have hX3 := blk_below hX3 r5
    have P3 := hid (P3.out.mono r5)
    have P4 := hid (P4.out.mono r5)
    have hM5 := blk_below hM4 r5
    have hc5 := hc4.step r5
    clear DN hb5 r5 m0 m1 m2 mf hM4 hc4 hu5 hq4
    obtain ⟨m0, m1, m2, mf⟩ := row3 hM5
    have m0 := fun X => cell_alloc_old X m0
    have m1 := fun X => cell_alloc_old X m1
    have m2 := fun X => cell_alloc_old X m2
    go_wp2_with fail
    refine (RD.out _ (hc5.step (below_alloc _ _))).mono ?_
    rintro e w6 ⟨u6, rfl, hu6, hb6⟩
    obtain ⟨a6, k6, rfl⟩ := pcs_form hu6 dl.length rfl
    have P6 := hid (OwnPcs.at hu6 hlD)
    have r6 : Below w5.heap.size w5 w6 := (below_alloc _ _).step hb6
    have hX5 : w6.heap[w5.heap.size]? = some (.cells #[.int .i64 dv, .int .i64 dn, .slice a5 dl.length k5] 24 (0, 0)) := blk_new hb6 rfl
    obtain ⟨q5, hq5⟩ : ∃ q5, q5 = w5.heap.size := ⟨_, rfl⟩
    rw [← hq5] at hX5 ⊢
    have hX3 := blk_below hX3 r6
    have hX4 := blk_below hX4 r6
    have P3 := hid (P3.out.mono r6)
    have P4 := hid (P4.out.mono r6)
    have P5 := hid (P5.out.mono r6)
    have hM6 := blk_below hM5 r6
    have hc6 := hc5.step r6
    clear RD hb6 r6 m0 m1 m2 mf hM5 hc5 hu6 hq5
    obtain ⟨m0, m1, m2, mf⟩ := row3 hM6
    have m0 := fun X => cell_alloc_old X m0
    have m1 := fun X => cell_alloc_old X m1
    have m2 := fun X => cell_alloc_old X m2
    go_wp2_with fail
    refine (DR.out _ (hc6.step (below_alloc _ _))).mono ?_
    rintro e w7 ⟨u7, rfl, hu7, hb7⟩
    obtain ⟨a7, k7, rfl⟩ := pcs_form hu7 rl.length rfl
    have P7 := hid (OwnPcs.at hu7 hlR)
    have r7 : Below w6.heap.size w6 w7 := (below_alloc _ _).step hb7
    have hX6 : w7.heap[w6.heap.size]? = some (.cells #[.int .i64 dv, .int .i64 dn, .slice a6 dl.length k6] 24 (0, 0)) := blk_new hb7 rfl
    obtain ⟨q6, hq6⟩ : ∃ q6, q6 = w6.heap.size := ⟨_, rfl⟩
    rw [← hq6] at hX6 ⊢
    have hX3 := blk_below hX3 r7
    have hX4 := blk_below hX4 r7
    have hX5 := blk_below hX5 r7
    have P3 := hid (P3.out.mono r7)
    have P4 := hid (P4.out.mono r7)
    have P5 := hid (P5.out.mono r7)
    have P6 := hid (P6.out.mono r7)
    have hM7 := blk_below hM6 r7
    have hc7 := hc6.step r7
    clear DR hb7 r7 m0 m1 m2 mf hM6 hc6 hu7 hq6
    obtain ⟨m0, m1, m2, mf⟩ := row3 hM7
    have m0 := fun X => cell_alloc_old X m0
    have m1 := fun X => cell_alloc_old X m1
    have m2 := fun X => cell_alloc_old X m2
    go_wp2_with fail
    refine (RR.out _ (hc7.step (below_alloc _ _))).mono ?_
    rintro e w8 ⟨u8, rfl, hu8, hb8⟩
    obtain ⟨a8, k8, rfl⟩ := pcs_form hu8 rl.length rfl
    have P8 := hid (OwnPcs.at hu8 hlR)
    have r8 : Below w7.heap.size w7 w8 := (below_alloc _ _).step hb8
    have hX7 : w8.heap[w7.heap.size]? = some (.cells #[.int .i64 rv, .int .i64 rn, .slice a7 rl.length k7] 24 (0, 0)) := blk_new hb8 rfl
    obtain ⟨q7, hq7⟩ : ∃ q7, q7 = w7.heap.size := ⟨_, rfl⟩
    rw [← hq7] at hX7 ⊢
    have hX3 := blk_below hX3 r8
    have hX4 := blk_below hX4 r8
    have hX5 := blk_below hX5 r8
    have hX6 := blk_below hX6 r8
    have P3 := hid (P3.out.mono r8)
    have P4 := hid (P4.out.mono r8)
    have P5 := hid (P5.out.mono r8)
    have P6 := hid (P6.out.mono r8)
    have P7 := hid (P7.out.mono r8)
    have hM8 := blk_below hM7 r8
    have hc8 := hc7.step r8
    clear RR hb8 r8 m0 m1 m2 mf hM7 hc7 hu8 hq7
    obtain ⟨m0, m1, m2, mf⟩ := row3 hM8
    have m0 := fun X => cell_alloc_old X m0
    have m1 := fun X => cell_alloc_old X m1
    have m2 := fun X => cell_alloc_old X m2
    go_wp2_with fail
    refine (LF.out _ (hc8.step (below_alloc _ _))).mono ?_
    rintro e w9 ⟨u9, rfl, hu9, hb9⟩
    obtain ⟨a9, k9, rfl⟩ := pcs_form hu9 ll.length rfl
    have P9 := hid (OwnPcs.at hu9 hlL)
    have r9 : Below w8.heap.size w8 w9 := (below_alloc _ _).step hb9
    have hX8 : w9.heap[w8.heap.size]? = some (.cells #[.int .i64 rv, .int .i64 rn, .slice a8 rl.length k8] 24 (0, 0)) := blk_new hb9 rfl
    obtain ⟨q8, hq8⟩ : ∃ q8, q8 = w8.heap.size := ⟨_, rfl⟩
    rw [← hq8] at hX8 ⊢
    have hX3 := blk_below hX3 r9
    have hX4 := blk_below hX4 r9
    have hX5 := blk_below hX5 r9
    have hX6 := blk_below hX6 r9
    have hX7 := blk_below hX7 r9
    have P3 := hid (P3.out.mono r9)
    have P4 := hid (P4.out.mono r9)
    have P5 := hid (P5.out.mono r9)
    have P6 := hid (P6.out.mono r9)
    have P7 := hid (P7.out.mono r9)
    have P8 := hid (P8.out.mono r9)
    have hM9 := blk_below hM8 r9
    have hc9 := hc8.step r9
    clear LF hb9 r9 m0 m1 m2 mf hM8 hc8 hu9 hq8
    obtain ⟨m0, m1, m2, mf⟩ := row3 hM9
    have m0 := fun X => cell_alloc_old X m0
    have m1 := fun X => cell_alloc_old X m1
    have m2 := fun X => cell_alloc_old X m2
    go_wp2_with fail
    refine (RL.out _ (hc9.step (below_alloc _ _))).mono ?_
    rintro e w10 ⟨u10, rfl, hu10, hb10⟩
    obtain ⟨a10, k10, rfl⟩ := pcs_form hu10 ll.length rfl
    have P10 := hid (OwnPcs.at hu10 hlL)
    have r10 : Below w9.heap.size w9 w10 := (below_alloc _ _).step hb10
    have hX9 : w10.heap[w9.heap.size]? = some (.cells #[.int .i64 lv, .int .i64 ln, .slice a9 ll.length k9] 24 (0, 0)) := blk_new hb10 rfl
    obtain ⟨q9, hq9⟩ : ∃ q9, q9 = w9.heap.size := ⟨_, rfl⟩
    rw [← hq9] at hX9 ⊢
    have hX3 := blk_below hX3 r10
    have hX4 := blk_below hX4 r10
    have hX5 := blk_below hX5 r10
    have hX6 := blk_below hX6 r10
    have hX7 := blk_below hX7 r10
    have hX8 := blk_below hX8 r10
    have P3 := hid (P3.out.mono r10)
    have P4 := hid (P4.out.mono r10)
    have P5 := hid (P5.out.mono r10)
    have P6 := hid (P6.out.mono r10)
    have P7 := hid (P7.out.mono r10)
    have P8 := hid (P8.out.mono r10)
    have P9 := hid (P9.out.mono r10)
    have hM10 := blk_below hM9 r10
    have hc10 := hc9.step r10
    clear RL hb10 r10 m0 m1 m2 mf hM9 hc9 hu10 hq9
    have S1 := hid (show ∀ W, Below w10.heap.size w10 W → Calls Tryz.prog 19 #[.agg #[.int .i64 bv, .int .i64 bn, .slice a3 bl.length k3], .agg #[.int .i64 bv, .int .i64 bn, .slice a4 bl.length k4]] W fun e w' => e = .returned (.bool true) ∧ Below W.heap.size W w' from fun W h => by
      have := same_any bv bn bv bn bl bl (.slice a3 bl.length k3) (.slice a4 bl.length k4) W (P3.out.mono h) (P4.out.mono h)
      rw [show (decide (bv = bv) && decide (bn = bn) && decide (bl = bl)) = true by simp] at this
      exact this)
    obtain ⟨x30, x31, x32, x3f⟩ := row3 hX3
    have x30 := fun X => cell_alloc_old X x30
    have x31 := fun X => cell_alloc_old X x31
    have x32 := fun X => cell_alloc_old X x32
    obtain ⟨x40, x41, x42, x4f⟩ := row3 hX4
    have x40 := fun X => cell_alloc_old X x40
    have x41 := fun X => cell_alloc_old X x41
    have x42 := fun X => cell_alloc_old X x42
    go_wp2_with fail
    refine (S1.out _ (below_alloc _ _)).mono ?_
    rintro e w11 ⟨rfl, hb11⟩
    have r11 : Below w10.heap.size w10 w11 := (below_alloc _ _).step hb11
    have hX10 : w11.heap[w10.heap.size]? = some (.cells #[.int .i64 lv, .int .i64 ln, .slice a10 ll.length k10] 24 (0, 0)) := blk_new hb11 rfl
    obtain ⟨q10, hq10⟩ : ∃ q10, q10 = w10.heap.size := ⟨_, rfl⟩
    rw [← hq10] at hX10 ⊢
    clear S1 hX3 hX4 hb11 hq10 x30 x31 x32 x3f x40 x41 x42 x4f
    have hX5 := blk_below hX5 r11
    have hX6 := blk_below hX6 r11
    have hX7 := blk_below hX7 r11
    have hX8 := blk_below hX8 r11
    have hX9 := blk_below hX9 r11
    have P5 := hid (P5.out.mono r11)
    have P6 := hid (P6.out.mono r11)
    have P7 := hid (P7.out.mono r11)
    have P8 := hid (P8.out.mono r11)
    have P9 := hid (P9.out.mono r11)
    have P10 := hid (P10.out.mono r11)
    have hM11 := blk_below hM10 r11
    have hc11 := hc10.step r11
    clear r11 hM10 hc10 P3 P4
    obtain ⟨ce, hce⟩ : ∃ ce, ce = checkM ver next ps := ⟨_, rfl⟩
    have CK := fun W (h : Below w.heap.size w W) => check_any ver next ps (.slice a ps.length cap) W (HP.out.mono h)
    have RC := fun W (h : Below w.heap.size w W) => refCheck_any ver next ps (.slice a ps.length cap) W (HP.out.mono h)
    rw [← hce] at CK RC
    have CK := hid CK
    have RC := hid RC
    clear hce
    go_wp2_with fail
    obtain ⟨x50, x51, x52, x5f⟩ := row3 hX5
    have x50 := Later.cell x50
    have x51 := Later.cell x51
    have x52 := Later.cell x52
    clear x5f
    obtain ⟨x60, x61, x62, x6f⟩ := row3 hX6
    have x60 := Later.cell x60
    have x61 := Later.cell x61
    have x62 := Later.cell x62
    clear x6f
    obtain ⟨x70, x71, x72, x7f⟩ := row3 hX7
    have x70 := Later.cell x70
    have x71 := Later.cell x71
    have x72 := Later.cell x72
    clear x7f
    obtain ⟨x80, x81, x82, x8f⟩ := row3 hX8
    have x80 := Later.cell x80
    have x81 := Later.cell x81
    have x82 := Later.cell x82
    clear x8f
    obtain ⟨x90, x91, x92, x9f⟩ := row3 hX9
    have x90 := Later.cell x90
    have x91 := Later.cell x91
    have x92 := Later.cell x92
    clear x9f
    obtain ⟨x100, x101, x102, x10f⟩ := row3 hX10
    have x100 := Later.cell x100
    have x101 := Later.cell x101
    have x102 := Later.cell x102
    clear x10f
    obtain ⟨m0, m1, m2, mf⟩ := row3 hM11
    have m0 := Later.cell m0
    have m1 := Later.cell m1
    have m2 := Later.cell m2
    clear mf
    have S2 := fun n : Later w11 => Later.call (n := n) (show Calls Tryz.prog 19 #[.agg #[.int .i64 dv, .int .i64 dn, .slice a5 dl.length k5], .agg #[.int .i64 dv, .int .i64 dn, .slice a6 dl.length k6]] n.w fun e w' => e = .returned (.bool true) ∧ Below n.w.heap.size n.w w' from by
      have := same_any dv dn dv dn dl dl (.slice a5 dl.length k5) (.slice a6 dl.length k6) n.w (P5.out.mono n.below) (P6.out.mono n.below)
      rw [show (decide (dv = dv) && decide (dn = dn) && decide (dl = dl)) = true by simp] at this
      exact this)
    have S2 := hid S2
    have S3 := fun n : Later w11 => Later.call (n := n) (show Calls Tryz.prog 19 #[.agg #[.int .i64 rv, .int .i64 rn, .slice a7 rl.length k7], .agg #[.int .i64 rv, .int .i64 rn, .slice a8 rl.length k8]] n.w fun e w' => e = .returned (.bool true) ∧ Below n.w.heap.size n.w w' from by
      have := same_any rv rn rv rn rl rl (.slice a7 rl.length k7) (.slice a8 rl.length k8) n.w (P7.out.mono n.below) (P8.out.mono n.below)
      rw [show (decide (rv = rv) && decide (rn = rn) && decide (rl = rl)) = true by simp] at this
      exact this)
    have S3 := hid S3
    have S4 := fun n : Later w11 => Later.call (n := n) (show Calls Tryz.prog 19 #[.agg #[.int .i64 lv, .int .i64 ln, .slice a9 ll.length k9], .agg #[.int .i64 lv, .int .i64 ln, .slice a10 ll.length k10]] n.w fun e w' => e = .returned (.bool true) ∧ Below n.w.heap.size n.w w' from by
      have := same_any lv ln lv ln ll ll (.slice a9 ll.length k9) (.slice a10 ll.length k10) n.w (P9.out.mono n.below) (P10.out.mono n.below)
      rw [show (decide (lv = lv) && decide (ln = ln) && decide (ll = ll)) = true by simp] at this
      exact this)
    have S4 := hid S4
    have CK := hid (fun n : Later w11 => Later.call (n := n) (CK.out n.w (hc11.step n.below)))
    have RC := hid (fun n : Later w11 => Later.call (n := n) (RC.out n.w (hc11.step n.below)))
    refine wp_region_later (by kernel_rfl) (by kernel_rfl) ?_
    repeat (go_big_quiet_step ((first
      | (go_at_call 27; exact CK.out _)
      | (go_at_call 36; exact RC.out _)
      | (go_at_call 19; first | with_reducible exact S2.out _ | with_reducible exact S3.out _ | with_reducible exact S4.out _))))
    refine wpQuiet_nil ?_
    intro w12 hb12
    go_wp2_with fail
    go_ret
    exact ⟨rfl, hc11.step hb12⟩
  · have F := hid (few_big ver next a ps.length cap w1)
    rw [show decide (ps.length ≤ 300) = false from decide_eq_false hn] at F
    go_wp2_with fail
    refine F.out.mono ?_
    rintro e w2 ⟨rfl, hb2⟩
    have hc2 := hc1.step hb2
    clear F
    go_wp2_with fail
    go_ret
    exact ⟨rfl, hc2⟩
end Go.Proofs.YtcpecponmaakoaaGreatDoor
