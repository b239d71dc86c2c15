/- Walk: ManifestHeals. -/
import Derived.Test.YtcpecponmaakoaaGreatDoorK1
import Derived.Test.YtcpecponmaakoaaGreatDoorM6
namespace Go.Proofs.YtcpecponmaakoaaGreatDoor
open Go.RowKit Go.Wm
theorem healM_pieces (ver next : Int) (ps : List Piece) (pre : ByteArray) (names : List ByteArray) : (healM ver next ps pre names).1.2.2.length ≤ ps.length := by
  unfold healM
  split
  · simp
  · exact List.length_filter_le _ _
theorem healM_texts (ver next : Int) (ps : List Piece) (pre : ByteArray) (names : List ByteArray) : (healM ver next ps pre names).2.length ≤ names.length := by
  unfold healM
  split
  · simp
  · show (compT (sortT (names.filter (delB pre (ps.filter (stIs 2)))))).length ≤ names.length
    have h1 : (compT (sortT (names.filter (delB pre (ps.filter (stIs 2)))))).length ≤ (sortT (names.filter (delB pre (ps.filter (stIs 2))))).length := by
      unfold compT
      rw [List.length_map]
      exact Nat.le_trans (compact_le _) (by simp)
    rw [sortT_length] at h1
    exact Nat.le_trans h1 (List.length_filter_le _ _)
set_option maxHeartbeats 2000000 in
set_option maxRecDepth 100000 in
theorem heals_any (ver next id : Int) (ps : List Piece) (pre : ByteArray) (names : List ByteArray) (v nv : Value) (w : World) (hL : Laid w) (hS : StepsAt w 0) (hv : PcsBig w v ps) (hnv : TextsBig w nv names) (hi0 : -9223372036854775808 ≤ id) (hi1 : id ≤ 9223372036854775807) :
    Calls Tryz.prog 4 #[.agg #[.int .i64 ver, .int .i64 next, v], .string pre, nv, .int .i64 id] w fun e w' => e = .returned (.bool true) ∧ Below w.heap.size w w' := by
  have hvw := hv
  obtain ⟨a, cap, rfl, hnc, _⟩ := hv
  have HV := hid hvw
  have HN := hid hnv
  have hb0 := below_alloc w (.cells #[.int .i64 ver, .int .i64 next, .slice a ps.length cap] 24)
  have CL := hid (live_any _ (hL.below hb0) (hS.below hb0))
  have HL := hid hL
  clear hvw hL hS hnv
  go_enter Tryz.func4, Tryz.ntmps4
  go_wp2_with fail
  refine CL.out.mono ?_
  rintro e w1 ⟨rfl, hb1⟩
  have hM1 : w1.heap[w.heap.size]? = some (.cells #[.int .i64 ver, .int .i64 next, .slice a ps.length cap] 24 (0, 0)) := blk_below (heap_alloc_new w _) hb1
  have hc1 := hb0.step hb1
  obtain ⟨m0, m1, m2, mf⟩ := row3 hM1
  clear CL hb1 hb0
  by_cases hn : ps.length ≤ 300
  · have F := hid (few_big ver next a ps.length cap w1)
    rw [show decide (ps.length ≤ 300) = true from decide_eq_true hn] at F
    go_wp2_with fail
    refine F.out.mono ?_
    rintro e w2 ⟨rfl, hb2⟩
    have hM2 := blk_below hM1 hb2
    have hc2 := hc1.step hb2
    clear F hb2 m0 m1 m2 mf hM1 hc1
    have G := fewTexts_any pre names nv w2 (HN.out.mono hc2)
    cases hfm : fewM pre names
    · rw [hfm] at G
      have G := hid G
      clear hfm
      go_wp2_with fail
      refine G.out.mono ?_
      rintro e w3 ⟨rfl, hb3⟩
      have hc3 := hc2.step hb3
      clear G
      go_wp2_with fail
      go_ret
      exact ⟨rfl, hc3⟩
    · obtain ⟨hp, hnl, hss⟩ := fewM_true hfm
      rw [hfm] at G
      have G := hid G
      have HSS := hid (show ∀ s ∈ names, s.size ≤ 1000 from fun s hs => Nat.le_trans (hss s hs) (by decide))
      clear hfm hss
      go_wp2_with fail
      refine G.out.mono ?_
      rintro e w3 ⟨rfl, hb3⟩
      have hM3 := blk_below hM2 hb3
      have hc3 := hc2.step hb3
      clear G hb3 hM2 hc2
      have HP := hid (HV.out.at (by omega))
      have HT := hid (HN.out.at (by omega))
      have A := fun W (h : Below w.heap.size w W) => heal_any ver next ps pre names (.slice a ps.length cap) nv W (HL.out.below h) (HP.out.mono h) (HT.out.mono h) (by omega) HSS.out
      have R := fun W (h : Below w.heap.size w W) => refHeal_any ver next ps pre names (.slice a ps.length cap) nv W (HP.out.mono h) (HT.out.mono h) (by omega) HSS.out (by omega)
      have hl1 : (healM ver next ps pre names).1.2.2.length ≤ 1000000 := Nat.le_trans (healM_pieces ver next ps pre names) (by omega)
      have hl2 : (healM ver next ps pre names).2.length ≤ 1000000 := Nat.le_trans (healM_texts ver next ps pre names) (by omega)
      generalize healM ver next ps pre names = X at A R hl1 hl2
      obtain ⟨⟨xv, xn, xl⟩, xd⟩ := X
      have A := hid A
      have R := hid R
      obtain ⟨m0, m1, m2, mf⟩ := row3 hM3
      go_wp2_with fail
      refine (A.out _ hc3).mono ?_
      rintro e w4 ⟨u4, d4, rfl, hu4, hd4, hb4⟩
      obtain ⟨a4, k4, rfl⟩ := pcs_form hu4 xl.length rfl
      have P4 := hid (OwnPcs.at hu4 hl1)
      have T4 := hid (OwnTexts.at hd4 hl2)
      have hM4 := blk_below hM3 hb4
      have hc4 := hc3.step hb4
      clear A hb4 m0 m1 m2 mf hM3 hc3 hu4 hd4
      obtain ⟨m0, m1, m2, mf⟩ := row3 hM4
      have m0 := fun X => cell_alloc_old X m0
      have m1 := fun X => cell_alloc_old X m1
      have m2 := fun X => cell_alloc_old X m2
      go_wp2_with fail
      refine (R.out _ (hc4.step (below_alloc _ _))).mono ?_
      rintro e w5 ⟨u5, d5, rfl, hu5, hd5, hb5⟩
      obtain ⟨a5, k5, rfl⟩ := pcs_form hu5 xl.length rfl
      have P5 := hid (OwnPcs.at hu5 hl1)
      have T5 := hid (OwnTexts.at hd5 hl2)
      have hX4 : w5.heap[w4.heap.size]? = some (.cells #[.int .i64 xv, .int .i64 xn, .slice a4 xl.length k4] 24 (0, 0)) := blk_new hb5 rfl
      have r45 : Below w4.heap.size w4 w5 := (below_alloc _ _).step hb5
      have hc5 := hc4.step r45
      have P4 := hid (P4.out.mono r45)
      have T4 := hid (T4.out.mono r45)
      obtain ⟨b4, hb4⟩ : ∃ b4, b4 = w4.heap.size := ⟨_, rfl⟩
      rw [← hb4] at hX4 ⊢
      clear R hb5 m0 m1 m2 mf hM4 hc4 r45 hb4 hu5 hd5
      obtain ⟨x0, x1, x2, xf⟩ := row3 hX4
      have x0 := fun X => cell_alloc_old X x0
      have x1 := fun X => cell_alloc_old X x1
      have x2 := fun X => cell_alloc_old X x2
      have S := hid (show ∀ W, Below w5.heap.size w5 W → Calls Tryz.prog 19 #[.agg #[.int .i64 xv, .int .i64 xn, .slice a4 xl.length k4], .agg #[.int .i64 xv, .int .i64 xn, .slice a5 xl.length k5]] W fun e w' => e = .returned (.bool true) ∧ Below W.heap.size W w' from fun W h => by
        have := same_any xv xn xv xn xl xl (.slice a4 xl.length k4) (.slice a5 xl.length k5) W (P4.out.mono h) (P5.out.mono h)
        rw [show (decide (xv = xv) && decide (xn = xn) && decide (xl = xl)) = true by simp] at this
        exact this)
      have T := hid (show ∀ W, Below w5.heap.size w5 W → Calls Tryz.prog 20 #[d4, d5] W fun e w' => e = .returned (.bool true) ∧ Below W.heap.size W w' from fun W h => by
        have := texts_any xd xd d4 d5 W (T4.out.mono h) (T5.out.mono h)
        rw [decide_eq_true rfl] at this
        exact this)
      go_wp2_with fail
      refine (S.out _ (below_alloc _ _)).mono ?_
      rintro e w6 ⟨rfl, hb6⟩
      have r56 : Below w5.heap.size w5 w6 := (below_alloc _ _).step hb6
      have hc6 := hc5.step r56
      clear S x0 x1 x2 xf hX4 hb6
      go_wp2_with fail
      refine (T.out _ r56).mono ?_
      rintro e w7 ⟨rfl, hb7⟩
      have hc7 := hc6.step hb7
      clear T r56
      have N1 := hid (name_any pre id w7 (HL.out.below hc7) hi0 hi1 (by omega))
      go_wp2_with fail
      refine N1.out.mono ?_
      rintro e w8 ⟨rfl, hb8⟩
      have hc8 := hc7.step hb8
      clear N1
      have N2 := hid (refName_any pre id w8 hi0 hi1 (by omega))
      go_wp2_with fail
      refine N2.out.mono ?_
      rintro e w9 ⟨rfl, hb9⟩
      have hc9 := hc8.step hb9
      clear N2
      go_wp2_with fail
      go_ret
      exact ⟨rfl, hc9⟩
  · have F := hid (few_big ver next a ps.length cap w1)
    rw [show decide (ps.length ≤ 300) = false from decide_eq_false hn] at F
    go_wp2_with fail
    refine F.out.mono ?_
    rintro e w2 ⟨rfl, hb2⟩
    have hc2 := hc1.step hb2
    clear F
    go_wp2_with fail
    go_ret
    exact ⟨rfl, hc2⟩
end Go.Proofs.YtcpecponmaakoaaGreatDoor
