/- Walk: ManifestTurn. -/
import Derived.Test.YtcpecponmaakoaaGreatDoorZ5
import Derived.Test.YtcpecponmaakoaaGreatDoorO2
import Derived.Test.YtcpecponmaakoaaGreatDoorK1
namespace Go.Proofs.YtcpecponmaakoaaGreatDoor
open Go.RowKit Go.Wm
theorem row2_set {w : World} {R : Nat} {x y z x' : Value} {t : TypeId} (h : w.heap[R]? = some (.cells #[x, y, z] t (0, 0))) : (w.setCell ⟨R, 1, none⟩ x').heap[R]? = some (.cells #[x, x', z] t (0, 0)) := by
  have h1 := heap_setCell_same w R 1 _ t x' h
  simpa using h1
theorem PcsAt.set1 {w : World} {B : Nat} {x y z : Value} {t : TypeId} {u : Value} {ps : List Piece} (h : PcsAt w u ps) (hB : w.heap[B]? = some (.cells #[x, y, z] t (0, 0))) (o' : Nat) (v' : Value) :
    PcsAt (w.setCell ⟨B, o', none⟩ v') u ps := by
  obtain ⟨a, cap, rfl, h1, h3⟩ := h
  refine ⟨a, cap, rfl, h1, fun k hk => ?_⟩
  obtain ⟨b, o, ha, hp⟩ := h3 k hk
  refine ⟨b, o, ha, fun p hpk => ?_⟩
  have hpp := hp p hpk
  have hne : b ≠ B := by
    intro hb
    subst hb
    have h5 := hpp.c5
    simp only [World.cell?, hB] at h5
    rw [Array.getElem?_eq_none (by simp)] at h5
    cases h5
  have keep : ∀ j v, w.cell? ⟨b, j, none⟩ = some v → (w.setCell ⟨B, o', none⟩ v').cell? ⟨b, j, none⟩ = some v := by
    intro j v hv
    rw [cell_set_other _ _ _ _ hne]
    exact hv
  exact ⟨keep _ _ hpp.c0, keep _ _ hpp.c1, keep _ _ hpp.c2, keep _ _ hpp.c3, keep _ _ hpp.c4, keep _ _ hpp.c5⟩
set_option maxHeartbeats 8000000 in
set_option maxRecDepth 100000 in
theorem turn_any (ver next base fin off : Int) (ps : List Piece) (v : Value) (w : World) (hL : Laid w) (hS : StepsAt w 0) (hv : PcsBig w v ps) :
    Calls Tryz.prog 9 #[.agg #[.int .i64 ver, .int .i64 next, v], .int .i64 base, .int .i64 fin, .int .i64 off] w fun e w' => e = .returned (.bool true) ∧ Below w.heap.size w w' := by
  have hvw := hv
  obtain ⟨a, cap, rfl, hnc, _⟩ := hv
  have HV := hid hvw
  have HCAP := hid (show CapOk (.slice a ps.length cap) by intro x n c h; cases h; exact hnc)
  have hb0 := below_alloc w (.cells #[.int .i64 ver, .int .i64 next, .slice a ps.length cap] 24)
  have CL := hid (live_any _ (hL.below hb0) (hS.below hb0))
  have HS := hid hS
  clear hvw hL hS
  go_enter Tryz.func9, Tryz.ntmps9
  go_wp2_with fail
  refine CL.out.mono ?_
  rintro e w1 ⟨rfl, hb1⟩
  have hXM : w1.heap[w.heap.size]? = some (.cells #[.int .i64 ver, .int .i64 next, .slice a ps.length cap] 24 (0, 0)) := blk_below (heap_alloc_new w _) hb1
  have hc1 := hb0.step hb1
  clear CL hb1 hb0
  by_cases hn : ps.length ≤ 300
  · have F := hid (fun W (_ : Below w.heap.size w W) => few_big ver next a ps.length cap W)
    rw [show decide (ps.length ≤ 300) = true from decide_eq_true hn] at F
    have HP := hid (HV.out.at (by omega))
    obtain ⟨m0, m1, m2, mf⟩ := row3 hXM
    go_wp2_with fail
    refine (F.out _ hc1).mono ?_
    rintro e w2 ⟨rfl, hb2⟩
    have r2 : Below w1.heap.size w1 w2 := hb2
    have hXM := blk_below hXM r2
    have hc2 := hc1.step r2
    clear F hb2 r2 hc1 m0 m1 m2 mf
    by_cases hck : checkM ver next ps = 0
    · have CK := hid (show ∀ W, Below w.heap.size w W → Calls Tryz.prog 27 #[.agg #[.int .i64 ver, .int .i64 next, .slice a ps.length cap]] W fun e w' => e = .returned (.int .i64 0) ∧ Below W.heap.size W w' from fun W h => by
        have := check_any ver next ps (.slice a ps.length cap) W (HP.out.mono h)
        rw [hck] at this
        exact this)
      have HCK := hid hck
      clear hck
      obtain ⟨m0, m1, m2, mf⟩ := row3 hXM
      go_wp2_with fail
      refine (CK.out _ hc2).mono ?_
      rintro e w3 ⟨rfl, hb3⟩
      have r3 : Below w2.heap.size w2 w3 := hb3
      have hXM := blk_below hXM r3
      have hc3 := hc2.step r3
      clear CK hb3 r3 hc2 m0 m1 m2 mf
      by_cases hbe : (beginM ver next base fin 1 1 ps).2.2 = 0
      · obtain ⟨hE, hBM⟩ := beginM_ok HCK.out hbe
        obtain ⟨hb0, hf0, _, hbf, hno, hsp, hl256, hv40, hn40⟩ := beginE_ok hE
        have hgA : checkM (ver + 1) (next + 1) (ps ++ [⟨next, base, fin, 1, 1, 1⟩]) = 0 := begin_good HCK.out hE
        obtain ⟨⟨v0, v1⟩, ⟨n0, n1⟩, hlen, _⟩ := checkM_ok HCK.out
        have HSP := hid hsp
        have HBF := hid hbf
        have HGA := hid hgA
        obtain ⟨fb0, fb1⟩ := hb0
        obtain ⟨ff0, ff1⟩ := hf0
        have BG := fun W (h : Below w.heap.size w W) => begin_any ver next base fin 1 1 ps (.slice a ps.length cap) W (HP.out.mono h) HCAP.out
        rw [hBM] at BG
        have hAl : (ps ++ [(⟨next, base, fin, 1, 1, 1⟩ : Piece)]).length ≤ 1000000 := by rw [List.length_append, List.length_singleton]; omega
        have hBl : (ps ++ [(⟨next, base, fin, 1, 1, 2⟩ : Piece)]).length ≤ 1000000 := by rw [List.length_append, List.length_singleton]; omega
        have hCl : (ps ++ [(⟨next, base, fin, 1, 1, 3⟩ : Piece)]).length ≤ 1000000 := by rw [List.length_append, List.length_singleton]; omega
        have EARLY := hid (at_early HCK.out hsp ⟨next, base, fin, 1, 1, 1⟩ rfl)
        have NEW1 := hid (at_new (off := base) HCK.out hsp ⟨next, base, fin, 1, 1, 2⟩ rfl (Int.le_refl _) hbf)
        have NEW2 := hid (at_new (off := fin - 1) HCK.out (Int.le_trans hsp (by omega)) ⟨next, base, fin, 1, 1, 2⟩ rfl (by show base ≤ fin - 1; omega) (by show fin - 1 < fin; omega))
        have DONE := hid (step_end (st := 2) (may := fun _ => true) HCK.out ⟨next, base, fin, 1, 1, 1⟩ rfl hgA (by rw [tab2]; rfl) rfl)
        have DROP := hid (step_end (st := 3) (may := mayDrop (ps ++ [⟨next, base, fin, 1, 1, 1⟩])) HCK.out ⟨next, base, fin, 1, 1, 1⟩ rfl hgA (by rw [tab3]; rfl) (by unfold mayDrop; rw [end_getD]; rfl))
        have GC := hid (fun (hv2 : ver + 1 ≠ 1099511627776) => show checkM (ver + 1 + 1) (next + 1) (ps ++ [⟨next, base, fin, 1, 1, 3⟩]) = 0 from by
          have := step_good (st := 3) (id := next) (may := mayDrop (ps ++ [⟨next, base, fin, 1, 1, 1⟩])) (.inr (.inl rfl)) hgA (by rw [DROP.out, if_neg hv2])
          rw [DROP.out, if_neg hv2] at this
          exact this)
        obtain ⟨A, hA⟩ : ∃ A, A = ps ++ [(⟨next, base, fin, 1, 1, 1⟩ : Piece)] := ⟨_, rfl⟩
        obtain ⟨B, hB⟩ : ∃ B, B = ps ++ [(⟨next, base, fin, 1, 1, 2⟩ : Piece)] := ⟨_, rfl⟩
        obtain ⟨C, hC⟩ : ∃ C, C = ps ++ [(⟨next, base, fin, 1, 1, 3⟩ : Piece)] := ⟨_, rfl⟩
        have DONE := hid (show stepM (ver + 1) (next + 1) A next 2 (fun _ => true) = if ver + 1 = 1099511627776 then ((0, 0, []), 2) else ((ver + 1 + 1, next + 1, B), 0) by rw [hA, hB]; exact DONE.out)
        have DROP := hid (show stepM (ver + 1) (next + 1) A next 3 (mayDrop A) = if ver + 1 = 1099511627776 then ((0, 0, []), 2) else ((ver + 1 + 1, next + 1, C), 0) by rw [hA, hC]; exact DROP.out)
        have LEFT := hid (fun (hv2 : ver + 1 ≠ 1099511627776) => show stepM (ver + 1 + 1) (next + 1) C next 4 (fun _ => true) = if ver + 1 + 1 = 1099511627776 then ((0, 0, []), 2) else ((ver + 1 + 1 + 1, next + 1, ps), 0) by
          rw [hC]
          exact step_end (st := 4) (may := fun _ => true) HCK.out ⟨next, base, fin, 1, 1, 3⟩ rfl (GC.out hv2) (by rw [tab4]; rfl) rfl)
        rw [← hA] at hAl EARLY BG
        rw [← hB] at hBl NEW1 NEW2
        rw [← hC] at hCl
        have BG := hid BG
        clear hA hB hC hgA hbe hE hBM hbf hsp hno hl256 hv40 hn40 HGA GC
        obtain ⟨m0, m1, m2, mf⟩ := row3 hXM
        go_wp2_with fail
        refine (BG.out _ hc3).mono ?_
        rintro e w4 ⟨uA, rfl, huA, hb4⟩
        obtain ⟨aA, kA, rfl⟩ := pcs_form huA A.length rfl
        have PA := hid (OwnPcs.at huA hAl)
        clear huA
        have r4 : Below w3.heap.size w3 w4 := hb4
        have hXM := blk_below hXM r4
        have hc4 := hc3.step r4
        clear BG hb4 r4 hc3 m0 m1 m2 mf
        have AT1 := hid (show ∀ W, Below w4.heap.size w4 W → Calls Tryz.prog 12 #[.agg #[.int .i64 (ver + 1), .int .i64 (next + 1), .slice aA A.length kA], .int .i64 base] W fun e w' => e = .returned (.tuple #[.agg #[.int .i64 0, .int .i64 0, .int .i64 0, .int .i64 0, .int .u32 0, .int .i64 0], .bool false]) ∧ Below W.heap.size W w' from fun W h => by
          have := at_any ((ver + 1)) ((next + 1)) (base) A (.slice aA A.length kA) W (PA.out.mono h)
          rw [EARLY.out] at this
          exact this)
        go_wp2_with fail
        refine (AT1.out _ (below_alloc _ _)).mono ?_
        rintro e w5 ⟨rfl, hb5⟩
        have r5 : Below w4.heap.size w4 w5 := (below_alloc _ _).step hb5
        have hXA : w5.heap[w4.heap.size]? = some (.cells #[.int .i64 (ver + 1), .int .i64 (next + 1), .slice aA A.length kA] 24 (0, 0)) := blk_new hb5 rfl
        obtain ⟨qA, hqA⟩ : ∃ q, q = w4.heap.size := ⟨_, rfl⟩
        rw [← hqA] at hXA ⊢
        have hXM := blk_below hXM r5
        have PA := hid (PA.out.mono r5)
        have hc5 := hc4.step r5
        clear AT1 hb5 r5 hc4  hqA
        by_cases hv2 : ver + 1 = 1099511627776
        · have DONE := hid (DONE.out.trans (if_pos hv2))
          clear DROP LEFT hv2
          have DN := hid (show ∀ W, Below w5.heap.size w5 W → Calls Tryz.prog 30 #[.agg #[.int .i64 (ver + 1), .int .i64 (next + 1), .slice aA A.length kA], .int .i64 next] W fun e w' => ∃ u, e = .returned (.tuple #[.agg #[.int .i64 0, .int .i64 0, u], .int .i64 2]) ∧ OwnPcs w' W.heap.size u [] ∧ Below W.heap.size W w' from fun W h => by
            have := done_any (ver + 1) (next + 1) next A (.slice aA A.length kA) W (HS.out.below (hc5.step h)) (PA.out.mono h)
            rw [DONE.out] at this
            exact this)
          obtain ⟨a0, a1, a2, af⟩ := row3 hXA
          have a0 := fun X => cell_alloc_old X a0
          have a1 := fun X => cell_alloc_old X a1
          have a2 := fun X => cell_alloc_old X a2
          go_wp2_with fail
          refine (DN.out _ (below_alloc _ _)).mono ?_
          rintro e w6 ⟨uB, rfl, huB, hb6⟩
          obtain ⟨aB, kB, rfl⟩ := pcs_form huB 0 rfl
          have PB := hid (OwnPcs.at huB (by simp))
          clear huB
          have r6 : Below w5.heap.size w5 w6 := (below_alloc _ _).step hb6
          have hXP : w6.heap[w5.heap.size]? = some (.cells #[.int .i64 0, .int .i64 0, .int .i64 0, .int .i64 0, .int .u32 0, .int .i64 0] 29 (0, 0)) := blk_new hb6 rfl
          obtain ⟨qP, hqP⟩ : ∃ q, q = w5.heap.size := ⟨_, rfl⟩
          rw [← hqP] at hXP ⊢
          have hXM := blk_below hXM r6
          have hXA := blk_below hXA r6
          have PA := hid (PA.out.mono r6)
          have hc6 := hc5.step r6
          clear DN hb6 r6 hc5 a0 a1 a2 af hqP
          have AT2 := hid (show ∀ W, Below w6.heap.size w6 W → Calls Tryz.prog 12 #[.agg #[.int .i64 0, .int .i64 0, .slice aB 0 kB], .int .i64 base] W fun e w' => e = .returned (.tuple #[.agg #[.int .i64 0, .int .i64 0, .int .i64 0, .int .i64 0, .int .u32 0, .int .i64 0], .bool false]) ∧ Below W.heap.size W w' from fun W h => by
            have := at_any (0) (0) (base) [] (.slice aB 0 kB) W (PB.out.mono h)
            rw [at_none'] at this
            exact this)
          go_wp2_with fail
          refine (AT2.out _ (below_alloc _ _)).mono ?_
          rintro e w7 ⟨rfl, hb7⟩
          have r7 : Below w6.heap.size w6 w7 := (below_alloc _ _).step hb7
          have hXB : w7.heap[w6.heap.size]? = some (.cells #[.int .i64 0, .int .i64 0, .slice aB 0 kB] 24 (0, 0)) := blk_new hb7 rfl
          obtain ⟨qB, hqB⟩ : ∃ q, q = w6.heap.size := ⟨_, rfl⟩
          rw [← hqB] at hXB ⊢
          have hXM := blk_below hXM r7
          have hXA := blk_below hXA r7
          have hXP := blk_below hXP r7
          have PA := hid (PA.out.mono r7)
          have PB := hid (PB.out.mono r7)
          have hc7 := hc6.step r7
          clear AT2 hb7 r7 hc6  hqB
          have AT3 := hid (show ∀ W, Below w7.heap.size w7 W → Calls Tryz.prog 12 #[.agg #[.int .i64 0, .int .i64 0, .slice aB 0 kB], .int .i64 (fin - 1)] W fun e w' => e = .returned (.tuple #[.agg #[.int .i64 0, .int .i64 0, .int .i64 0, .int .i64 0, .int .u32 0, .int .i64 0], .bool false]) ∧ Below W.heap.size W w' from fun W h => by
            have := at_any (0) (0) (fin - 1) [] (.slice aB 0 kB) W (PB.out.mono h)
            rw [at_none'] at this
            exact this)
          obtain ⟨b0, b1, b2, bf⟩ := row3 hXB
          have b0 := fun X => cell_alloc_old X b0
          have b1 := fun X => cell_alloc_old X b1
          have b2 := fun X => cell_alloc_old X b2
          go_wp2_with fail
          refine (AT3.out _ (below_alloc _ _)).mono ?_
          rintro e w8 ⟨rfl, hb8⟩
          have r8 : Below w7.heap.size w7 w8 := (below_alloc _ _).step hb8
          have hXQ : w8.heap[w7.heap.size]? = some (.cells #[.int .i64 0, .int .i64 0, .int .i64 0, .int .i64 0, .int .u32 0, .int .i64 0] 29 (0, 0)) := blk_new hb8 rfl
          obtain ⟨qQ, hqQ⟩ : ∃ q, q = w7.heap.size := ⟨_, rfl⟩
          rw [← hqQ] at hXQ ⊢
          have hXM := blk_below hXM r8
          have hXA := blk_below hXA r8
          have hXP := blk_below hXP r8
          have hXB := blk_below hXB r8
          have PA := hid (PA.out.mono r8)
          have PB := hid (PB.out.mono r8)
          have hc8 := hc7.step r8
          clear AT3 hb8 r8 hc7 b0 b1 b2 bf hqQ
          go_wp2_with fail
          go_ret
          exact ⟨rfl, hc8.step (below_alloc _ _)⟩
        · have DONE := hid (DONE.out.trans (if_neg hv2))
          have DROP := hid (DROP.out.trans (if_neg hv2))
          have LEFT := hid (LEFT.out hv2)
          clear hv2
          have DN := hid (show ∀ W, Below w5.heap.size w5 W → Calls Tryz.prog 30 #[.agg #[.int .i64 (ver + 1), .int .i64 (next + 1), .slice aA A.length kA], .int .i64 next] W fun e w' => ∃ u, e = .returned (.tuple #[.agg #[.int .i64 (ver + 1 + 1), .int .i64 (next + 1), u], .int .i64 0]) ∧ OwnPcs w' W.heap.size u B ∧ Below W.heap.size W w' from fun W h => by
            have := done_any (ver + 1) (next + 1) next A (.slice aA A.length kA) W (HS.out.below (hc5.step h)) (PA.out.mono h)
            rw [DONE.out] at this
            exact this)
          obtain ⟨a0, a1, a2, af⟩ := row3 hXA
          have a0 := fun X => cell_alloc_old X a0
          have a1 := fun X => cell_alloc_old X a1
          have a2 := fun X => cell_alloc_old X a2
          go_wp2_with fail
          refine (DN.out _ (below_alloc _ _)).mono ?_
          rintro e w6 ⟨uB, rfl, huB, hb6⟩
          obtain ⟨aB, kB, rfl⟩ := pcs_form huB B.length rfl
          have PB := hid (OwnPcs.at huB hBl)
          clear huB
          have r6 : Below w5.heap.size w5 w6 := (below_alloc _ _).step hb6
          have hXP : w6.heap[w5.heap.size]? = some (.cells #[.int .i64 0, .int .i64 0, .int .i64 0, .int .i64 0, .int .u32 0, .int .i64 0] 29 (0, 0)) := blk_new hb6 rfl
          obtain ⟨qP, hqP⟩ : ∃ q, q = w5.heap.size := ⟨_, rfl⟩
          rw [← hqP] at hXP ⊢
          have hXM := blk_below hXM r6
          have hXA := blk_below hXA r6
          have PA := hid (PA.out.mono r6)
          have hc6 := hc5.step r6
          clear DN hb6 r6 hc5 a0 a1 a2 af hqP
          have AT2 := hid (show ∀ W, Below w6.heap.size w6 W → Calls Tryz.prog 12 #[.agg #[.int .i64 (ver + 1 + 1), .int .i64 (next + 1), .slice aB B.length kB], .int .i64 base] W fun e w' => e = .returned (.tuple #[.agg #[.int .i64 next, .int .i64 base, .int .i64 fin, .int .i64 1, .int .u32 1, .int .i64 2], .bool true]) ∧ Below W.heap.size W w' from fun W h => by
            have := at_any ((ver + 1 + 1)) ((next + 1)) (base) B (.slice aB B.length kB) W (PB.out.mono h)
            rw [NEW1.out] at this
            exact this)
          go_wp2_with fail
          refine (AT2.out _ (below_alloc _ _)).mono ?_
          rintro e w7 ⟨rfl, hb7⟩
          have r7 : Below w6.heap.size w6 w7 := (below_alloc _ _).step hb7
          have hXB : w7.heap[w6.heap.size]? = some (.cells #[.int .i64 (ver + 1 + 1), .int .i64 (next + 1), .slice aB B.length kB] 24 (0, 0)) := blk_new hb7 rfl
          obtain ⟨qB, hqB⟩ : ∃ q, q = w6.heap.size := ⟨_, rfl⟩
          rw [← hqB] at hXB ⊢
          have hXM := blk_below hXM r7
          have hXA := blk_below hXA r7
          have hXP := blk_below hXP r7
          have PA := hid (PA.out.mono r7)
          have PB := hid (PB.out.mono r7)
          have hc7 := hc6.step r7
          clear AT2 hb7 r7 hc6  hqB
          have AT3 := hid (show ∀ W, Below w7.heap.size w7 W → Calls Tryz.prog 12 #[.agg #[.int .i64 (ver + 1 + 1), .int .i64 (next + 1), .slice aB B.length kB], .int .i64 (fin - 1)] W fun e w' => e = .returned (.tuple #[.agg #[.int .i64 next, .int .i64 base, .int .i64 fin, .int .i64 1, .int .u32 1, .int .i64 2], .bool true]) ∧ Below W.heap.size W w' from fun W h => by
            have := at_any ((ver + 1 + 1)) ((next + 1)) (fin - 1) B (.slice aB B.length kB) W (PB.out.mono h)
            rw [NEW2.out] at this
            exact this)
          obtain ⟨b0, b1, b2, bf⟩ := row3 hXB
          have b0 := fun X => cell_alloc_old X b0
          have b1 := fun X => cell_alloc_old X b1
          have b2 := fun X => cell_alloc_old X b2
          go_wp2_with fail
          refine (AT3.out _ (below_alloc _ _)).mono ?_
          rintro e w8 ⟨rfl, hb8⟩
          have r8 : Below w7.heap.size w7 w8 := (below_alloc _ _).step hb8
          have hXQ : w8.heap[w7.heap.size]? = some (.cells #[.int .i64 next, .int .i64 base, .int .i64 fin, .int .i64 1, .int .u32 1, .int .i64 2] 29 (0, 0)) := blk_new hb8 rfl
          obtain ⟨qQ, hqQ⟩ : ∃ q, q = w7.heap.size := ⟨_, rfl⟩
          rw [← hqQ] at hXQ ⊢
          have hXM := blk_below hXM r8
          have hXA := blk_below hXA r8
          have hXP := blk_below hXP r8
          have hXB := blk_below hXB r8
          have PA := hid (PA.out.mono r8)
          have PB := hid (PB.out.mono r8)
          have hc8 := hc7.step r8
          clear AT3 hb8 r8 hc7 b0 b1 b2 bf hqQ
          have PE := fun W => show (binOp .neq 29 (.agg #[.int .i64 next, .int .i64 base, .int .i64 fin, .int .i64 1, .int .u32 1, .int .i64 2]) (.agg #[.int .i64 next, .int .i64 base, .int .i64 fin, .int .i64 1, .int .u32 1, .int .i64 2])).run Tryz.prog W = .ok (.bool false) W from piece_neq_run ⟨next, base, fin, 1, 1, 2⟩ ⟨next, base, fin, 1, 1, 2⟩ W |>.trans (by rw [decide_eq_true rfl]; rfl)
          have hvv : ver + 1 + 1 = ver + 2 := by omega
          have DR := hid (show ∀ W, Below w8.heap.size w8 W → Calls Tryz.prog 32 #[.agg #[.int .i64 (ver + 1), .int .i64 (next + 1), .slice aA A.length kA], .int .i64 next] W fun e w' => ∃ u, e = .returned (.tuple #[.agg #[.int .i64 (ver + 1 + 1), .int .i64 (next + 1), u], .int .i64 0]) ∧ OwnPcs w' W.heap.size u C ∧ Below W.heap.size W w' from fun W h => by
            have := drop_any (ver + 1) (next + 1) next A (.slice aA A.length kA) W (HS.out.below (hc8.step h)) (PA.out.mono h)
            rw [DROP.out] at this
            exact this)
          obtain ⟨a0, a1, a2, af⟩ := row3 hXA
          have a0 := fun X => cell_alloc_old X a0
          have a1 := fun X => cell_alloc_old X a1
          have a2 := fun X => cell_alloc_old X a2
          obtain ⟨m0, m1, m2, mf⟩ := row3 hXM
          have m0 := fun X => cell_alloc_old X m0
          have m1 := fun X => cell_alloc_old X m1
          have m2 := fun X => cell_alloc_old X m2
          obtain ⟨b0, b1, b2, bf⟩ := row3 hXB
          have b0 := fun X => cell_alloc_old X b0
          have b1 := fun X => cell_alloc_old X b1
          have b2 := fun X => cell_alloc_old X b2
          obtain ⟨q0, q1, q2, q3, q4, q5, qf⟩ := row6 hXQ
          have q0 := fun X => cell_alloc_old X q0
          have q1 := fun X => cell_alloc_old X q1
          have q2 := fun X => cell_alloc_old X q2
          have q3 := fun X => cell_alloc_old X q3
          have q4 := fun X => cell_alloc_old X q4
          have q5 := fun X => cell_alloc_old X q5
          go_wp2_with fail
          refine (DR.out _ (below_alloc _ _)).mono ?_
          rintro e w9 ⟨uC, rfl, huC, hb9⟩
          obtain ⟨aC, kC, rfl⟩ := pcs_form huC C.length rfl
          have PC := hid (OwnPcs.at huC hCl)
          clear huC PE hvv
          have r9 : Below w8.heap.size w8 w9 := (below_alloc _ _).step hb9
          have hXR : w9.heap[w8.heap.size]? = some (.cells #[.int .i64 next, .int .i64 base, .int .i64 fin, .int .i64 1, .int .u32 1, .int .i64 2] 29 (0, 0)) := blk_new hb9 rfl
          obtain ⟨qR, hqR⟩ : ∃ q, q = w8.heap.size := ⟨_, rfl⟩
          rw [← hqR] at hXR ⊢
          have hXM := blk_below hXM r9
          have hXA := blk_below hXA r9
          have hXP := blk_below hXP r9
          have hXB := blk_below hXB r9
          have hXQ := blk_below hXQ r9
          have PA := hid (PA.out.mono r9)
          have PB := hid (PB.out.mono r9)
          have hc9 := hc8.step r9
          clear DR hb9 r9 hc8 a0 a1 a2 af m0 m1 m2 mf b0 b1 b2 bf q0 q1 q2 q3 q4 q5 qf hqR
          by_cases hv3 : ver + 1 + 1 = 1099511627776
          · have LEFT := hid (LEFT.out.trans (if_pos hv3))
            clear hv3
            have LF := hid (show ∀ W, Below w9.heap.size w9 W → Calls Tryz.prog 34 #[.agg #[.int .i64 (ver + 1 + 1), .int .i64 (next + 1), .slice aC C.length kC], .int .i64 next] W fun e w' => ∃ u, e = .returned (.tuple #[.agg #[.int .i64 0, .int .i64 0, u], .int .i64 2]) ∧ OwnPcs w' W.heap.size u [] ∧ Below W.heap.size W w' from fun W h => by
              have := left_any (ver + 1 + 1) (next + 1) next C (.slice aC C.length kC) W (HS.out.below (hc9.step h)) (PC.out.mono h)
              rw [LEFT.out] at this
              exact this)
            go_wp2_with fail
            refine (LF.out _ (below_alloc _ _)).mono ?_
            rintro e w10 ⟨uD, rfl, huD, hb10⟩
            obtain ⟨aD, kD, rfl⟩ := pcs_form huD 0 rfl
            clear huD
            have r10 : Below w9.heap.size w9 w10 := (below_alloc _ _).step hb10
            have hXC : w10.heap[w9.heap.size]? = some (.cells #[.int .i64 (ver + 1 + 1), .int .i64 (next + 1), .slice aC C.length kC] 24 (0, 0)) := blk_new hb10 rfl
            obtain ⟨qC, hqC⟩ : ∃ q, q = w9.heap.size := ⟨_, rfl⟩
            rw [← hqC] at hXC ⊢
            have hXM := blk_below hXM r10
            have hXA := blk_below hXA r10
            have hXP := blk_below hXP r10
            have hXB := blk_below hXB r10
            have hXQ := blk_below hXQ r10
            have hXR := blk_below hXR r10
            have PA := hid (PA.out.mono r10)
            have PB := hid (PB.out.mono r10)
            have PC := hid (PC.out.mono r10)
            have hc10 := hc9.step r10
            clear LF hb10 r10 hc9  hqC
            go_wp2_with fail
            go_ret
            exact ⟨rfl, hc10.step (below_alloc _ _)⟩
          · have LEFT := hid (LEFT.out.trans (if_neg hv3))
            clear hv3
            have LF := hid (show ∀ W, Below w9.heap.size w9 W → Calls Tryz.prog 34 #[.agg #[.int .i64 (ver + 1 + 1), .int .i64 (next + 1), .slice aC C.length kC], .int .i64 next] W fun e w' => ∃ u, e = .returned (.tuple #[.agg #[.int .i64 (ver + 1 + 1 + 1), .int .i64 (next + 1), u], .int .i64 0]) ∧ OwnPcs w' W.heap.size u ps ∧ Below W.heap.size W w' from fun W h => by
              have := left_any (ver + 1 + 1) (next + 1) next C (.slice aC C.length kC) W (HS.out.below (hc9.step h)) (PC.out.mono h)
              rw [LEFT.out] at this
              exact this)
            go_wp2_with fail
            refine (LF.out _ (below_alloc _ _)).mono ?_
            rintro e w10 ⟨uD, rfl, huD, hb10⟩
            obtain ⟨aD, kD, rfl⟩ := pcs_form huD ps.length rfl
            have PD := hid (OwnPcs.at huD (by omega))
            clear huD
            have r10 : Below w9.heap.size w9 w10 := (below_alloc _ _).step hb10
            have hXC : w10.heap[w9.heap.size]? = some (.cells #[.int .i64 (ver + 1 + 1), .int .i64 (next + 1), .slice aC C.length kC] 24 (0, 0)) := blk_new hb10 rfl
            obtain ⟨qC, hqC⟩ : ∃ q, q = w9.heap.size := ⟨_, rfl⟩
            rw [← hqC] at hXC ⊢
            have hXM := blk_below hXM r10
            have hXA := blk_below hXA r10
            have hXP := blk_below hXP r10
            have hXB := blk_below hXB r10
            have hXQ := blk_below hXQ r10
            have hXR := blk_below hXR r10
            have PA := hid (PA.out.mono r10)
            have PB := hid (PB.out.mono r10)
            have PC := hid (PC.out.mono r10)
            have hc10 := hc9.step r10
            clear LF hb10 r10 hc9  hqC
            obtain ⟨pr, hpr⟩ : ∃ pr, pr = (atM ps off).1 := ⟨_, rfl⟩
            obtain ⟨ok, hok⟩ : ∃ ok, ok = (atM ps off).2 := ⟨_, rfl⟩
            have ATE := hid (show atM ps off = (pr, ok) by rw [hpr, hok])
            clear hpr hok
            have AT4 := hid (show ∀ W, Below w10.heap.size w10 W → Calls Tryz.prog 12 #[.agg #[.int .i64 (ver + 1 + 1 + 1), .int .i64 (next + 1), .slice aD ps.length kD], .int .i64 off] W fun e w' => e = .returned (.tuple #[.agg #[.int .i64 pr.id, .int .i64 pr.base, .int .i64 pr.fin, .int .i64 pr.size, .int .u32 pr.sum, .int .i64 pr.state], .bool ok]) ∧ Below W.heap.size W w' from fun W h => by
              have := at_any ((ver + 1 + 1 + 1)) ((next + 1)) (off) ps (.slice aD ps.length kD) W (PD.out.mono h)
              rw [ATE.out] at this
              exact this)
            go_wp2_with fail
            refine (AT4.out _ (below_alloc _ _)).mono ?_
            rintro e w11 ⟨rfl, hb11⟩
            have r11 : Below w10.heap.size w10 w11 := (below_alloc _ _).step hb11
            have hXD : w11.heap[w10.heap.size]? = some (.cells #[.int .i64 (ver + 1 + 1 + 1), .int .i64 (next + 1), .slice aD ps.length kD] 24 (0, 0)) := blk_new hb11 rfl
            obtain ⟨qD, hqD⟩ : ∃ q, q = w10.heap.size := ⟨_, rfl⟩
            rw [← hqD] at hXD ⊢
            have sqD : w.heap.size < qD := by rw [hqD]; exact (Array.getElem?_eq_some_iff.1 hXM).1
            have hXM := blk_below hXM r11
            have hXA := blk_below hXA r11
            have hXP := blk_below hXP r11
            have hXB := blk_below hXB r11
            have hXQ := blk_below hXQ r11
            have hXR := blk_below hXR r11
            have hXC := blk_below hXC r11
            have PA := hid (PA.out.mono r11)
            have PB := hid (PB.out.mono r11)
            have PC := hid (PC.out.mono r11)
            have PD := hid (PD.out.mono r11)
            have hc11 := hc10.step r11
            clear AT4 hb11 r11 hc10  hqD
            have AT5 := hid (show ∀ W, Below w11.heap.size w11 W → Calls Tryz.prog 12 #[.agg #[.int .i64 ver, .int .i64 next, .slice a ps.length cap], .int .i64 off] W fun e w' => e = .returned (.tuple #[.agg #[.int .i64 pr.id, .int .i64 pr.base, .int .i64 pr.fin, .int .i64 pr.size, .int .u32 pr.sum, .int .i64 pr.state], .bool ok]) ∧ Below W.heap.size W w' from fun W h => by
              have := at_any (ver) (next) (off) ps (.slice a ps.length cap) W (HP.out.mono (hc11.step h))
              rw [ATE.out] at this
              exact this)
            obtain ⟨m0, m1, m2, mf⟩ := row3 hXM
            have m0 := fun X => cell_alloc_old X m0
            have m1 := fun X => cell_alloc_old X m1
            have m2 := fun X => cell_alloc_old X m2
            go_wp2_with fail
            refine (AT5.out _ (below_alloc _ _)).mono ?_
            rintro e w12 ⟨rfl, hb12⟩
            have r12 : Below w11.heap.size w11 w12 := (below_alloc _ _).step hb12
            have hXS : w12.heap[w11.heap.size]? = some (.cells #[.int .i64 pr.id, .int .i64 pr.base, .int .i64 pr.fin, .int .i64 pr.size, .int .u32 pr.sum, .int .i64 pr.state] 29 (0, 0)) := blk_new hb12 rfl
            obtain ⟨qS, hqS⟩ : ∃ q, q = w11.heap.size := ⟨_, rfl⟩
            rw [← hqS] at hXS ⊢
            have hXM := blk_below hXM r12
            have hXA := blk_below hXA r12
            have hXP := blk_below hXP r12
            have hXB := blk_below hXB r12
            have hXQ := blk_below hXQ r12
            have hXR := blk_below hXR r12
            have hXC := blk_below hXC r12
            have hXD := blk_below hXD r12
            have PA := hid (PA.out.mono r12)
            have PB := hid (PB.out.mono r12)
            have PC := hid (PC.out.mono r12)
            have PD := hid (PD.out.mono r12)
            have hc12 := hc11.step r12
            clear AT5 hb12 r12 hc11 m0 m1 m2 mf hqS
            go_upto_region 21 with fail
            refine wp_name fun W hW => ?_
            have hXM := hid (show W.heap[w.heap.size]? = some (.cells #[.int .i64 ver, .int .i64 next, .slice a ps.length cap] 24 (0, 0)) from by rw [hW]; exact blk_below hXM (below_alloc _ _))
            have hXD : W.heap[qD]? = some (.cells #[.int .i64 (ver + 1 + 1 + 1), .int .i64 (next + 1), .slice aD ps.length kD] 24 (0, 0)) := by rw [hW]; exact blk_below hXD (below_alloc _ _)
            have rW : Below w12.heap.size w12 W := by rw [hW]; exact below_alloc _ _
            have hcW := hc12.step rW
            have PD := hid (PD.out.mono rW)
            have hMD : w.heap.size ≠ qD := by omega
            clear hW
            have hXD1 := row3_set0 (x' := .int .i64 ver) hXD
            have hXD2 := row2_set (x' := .int .i64 next) hXD1
            have hXM1 : (W.setCell ⟨qD, 0, none⟩ (.int .i64 ver)).heap[w.heap.size]? = some (.cells #[.int .i64 ver, .int .i64 next, .slice a ps.length cap] 24 (0, 0)) := by rw [heap_setCell_other _ _ _ _ hMD]; exact hXM.out
            have hXM2 : ((W.setCell ⟨qD, 0, none⟩ (.int .i64 ver)).setCell ⟨qD, 1, none⟩ (.int .i64 next)).heap[w.heap.size]? = some (.cells #[.int .i64 ver, .int .i64 next, .slice a ps.length cap] 24 (0, 0)) := by rw [heap_setCell_other _ _ _ _ hMD]; exact hXM1
            have PD := hid (PcsAt.set1 (PcsAt.set1 PD.out hXD 0 (.int .i64 ver)) hXD1 1 (.int .i64 next))
            have HP := hid (PcsAt.set1 (PcsAt.set1 (HP.out.mono hcW) hXD 0 (.int .i64 ver)) hXD1 1 (.int .i64 next))
            have hcW2 := (hcW.setCell (p := ⟨qD, 0, none⟩) (by show w.heap.size ≤ qD; omega) (.int .i64 ver)).setCell (p := ⟨qD, 1, none⟩) (by show w.heap.size ≤ qD; omega) (.int .i64 next)
            obtain ⟨m0, m1, m2, mf⟩ := row3 hXM.out
            obtain ⟨d0, d1, d2, df⟩ := row3 hXD
            obtain ⟨g0, g1, g2, gf⟩ := row3 hXM1
            obtain ⟨h0, h1, h2, hf⟩ := row3 hXD1
            go_upto_region 23 with fail
            refine wp_name fun W2 hW2 => ?_
            rw [← hW2] at hXD2 hXM2 PD HP hcW2
            clear hW2 m0 m1 m2 mf d0 d1 d2 df g0 g1 g2 gf h0 h1 h2 hf hXD1 hXM1 hXD hXM
            obtain ⟨m0, m1, m2, mf⟩ := row3 hXM2
            obtain ⟨d0, d1, d2, df⟩ := row3 hXD2
            have SM := hid (show Calls Tryz.prog 19 #[.agg #[.int .i64 ver, .int .i64 next, .slice aD ps.length kD], .agg #[.int .i64 ver, .int .i64 next, .slice a ps.length cap]] W2 fun e w' => e = .returned (.bool true) ∧ Below W2.heap.size W2 w' from by
              have := same_any ver next ver next ps ps (.slice aD ps.length kD) (.slice a ps.length cap) W2 PD.out HP.out
              rw [show (decide (ver = ver) && decide (next = next) && decide (ps = ps)) = true by simp] at this
              exact this)
            go_wp2_with fail
            refine SM.out.mono ?_
            rintro e w20 ⟨rfl, hb20⟩
            clear SM
            go_wp2_with fail
            go_ret
            exact ⟨rfl, hcW2.step hb20⟩
      · have hE := hid (show beginM ver next base fin 1 1 ps = ((0, 0, []), 0, (beginM ver next base fin 1 1 ps).2.2) by
          unfold beginM at hbe ⊢
          rw [if_neg (by simp [HCK.out])] at hbe ⊢
          split
          · rfl
          · next h => rw [if_neg h] at hbe; exact absurd rfl hbe)
        have BG := fun W (h : Below w.heap.size w W) => begin_any ver next base fin 1 1 ps (.slice a ps.length cap) W (HP.out.mono h) HCAP.out
        rw [hE.out] at BG
        have hes : ((beginM ver next base fin 1 1 ps).2.2 != 0) = true := by simpa using hbe
        clear hE
        generalize (beginM ver next base fin 1 1 ps).2.2 = be at BG hes
        have BG := hid BG
        clear hbe
        obtain ⟨m0, m1, m2, mf⟩ := row3 hXM
        go_wp2_with fail
        refine (BG.out _ hc3).mono ?_
        rintro e w4 ⟨uA, rfl, huA, hb4⟩
        obtain ⟨aA, kA, rfl⟩ := pcs_form huA 0 rfl
        clear huA
        have r4 : Below w3.heap.size w3 w4 := hb4
        have hXM := blk_below hXM r4
        have hc4 := hc3.step r4
        clear BG hb4 r4 hc3 m0 m1 m2 mf
        go_wp2_with fail
        go_ret
        exact ⟨rfl, hc4.step (below_alloc _ _)⟩
    · have CK := fun W (h : Below w.heap.size w W) => check_any ver next ps (.slice a ps.length cap) W (HP.out.mono h)
      have hes : (checkM ver next ps != 0) = true := by simpa using hck
      generalize checkM ver next ps = ce at CK hes
      have CK := hid CK
      clear hck
      obtain ⟨m0, m1, m2, mf⟩ := row3 hXM
      go_wp2_with fail
      refine (CK.out _ hc2).mono ?_
      rintro e w3 ⟨rfl, hb3⟩
      have r3 : Below w2.heap.size w2 w3 := hb3
      have hXM := blk_below hXM r3
      have hc3 := hc2.step r3
      clear CK hb3 r3 hc2 m0 m1 m2 mf
      go_wp2_with fail
      go_ret
      exact ⟨rfl, hc3⟩
  · have F := hid (fun W (_ : Below w.heap.size w W) => few_big ver next a ps.length cap W)
    rw [show decide (ps.length ≤ 300) = false from decide_eq_false hn] at F
    obtain ⟨m0, m1, m2, mf⟩ := row3 hXM
    go_wp2_with fail
    refine (F.out _ hc1).mono ?_
    rintro e w2 ⟨rfl, hb2⟩
    have r2 : Below w1.heap.size w1 w2 := hb2
    have hXM := blk_below hXM r2
    have hc2 := hc1.step r2
    clear F hb2 r2 hc1 m0 m1 m2 mf
    go_wp2_with fail
    go_ret
    exact ⟨rfl, hc2⟩
end Go.Proofs.YtcpecponmaakoaaGreatDoor
