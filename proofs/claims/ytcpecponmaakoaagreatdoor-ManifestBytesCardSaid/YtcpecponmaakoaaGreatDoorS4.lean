/- Walks: the steps of Drop and Left, and Done, Drop, Left. -/
import Derived.Test.YtcpecponmaakoaaGreatDoorS3
namespace Go.Proofs.YtcpecponmaakoaaGreatDoor
open Go.RowKit Go.Wm
set_option maxHeartbeats 2000000 in
set_option maxRecDepth 100000 in
theorem stepLeft_any (ver next id : Int) (ps : List Piece) (v : Value) (w : World) (hS : StepsAt w 0) (hv : PcsAt w v ps) :
    Calls Tryz.prog 70 #[.agg #[.int .i64 ver, .int .i64 next, v], .int .i64 id, .int .i64 4, .func (.func 71) #[] #[]] w fun e w' => ∃ u, e = .returned (.tuple #[.agg #[.int .i64 (stepM ver next ps id 4 (fun _ => true)).1.1, .int .i64 (stepM ver next ps id 4 (fun _ => true)).1.2.1, u], .int .i64 (stepM ver next ps id 4 (fun _ => true)).2]) ∧ OwnPcs w' w.heap.size u (stepM ver next ps id 4 (fun _ => true)).1.2.2 ∧ Below w.heap.size w w' := by
  have K := hid (fun W (h : Below w.heap.size w W) => check_any ver next ps v W (hv.mono h))
  have HV := hid hv
  obtain ⟨a, cap, rfl, hn, hs⟩ := hv
  have hb0 := ((below_alloc w (.cells #[.int .i64 ver, .int .i64 next, .slice a ps.length cap] 24)).step (below_alloc _ (.cells #[.int .i64 id] 3))).step (below_alloc _ (.cells #[.int .i64 0, .int .i64 0, .slice none 0 0] 24))
  by_cases hck : checkM ver next ps = 0
  · have Hck := hid (checkM_ok hck)
    have Hm := hid (show (stepM ver next ps id 4 (fun _ => true)) = _ from by rw [stepM, if_neg (by simp [hck])])
    rw [hck] at K
    have I := hid (fun W B (h : Below w.heap.size w W) (hB : W.cell? ⟨B, 0, none⟩ = some (.int .i64 id)) => index92_any (idIs id) ps B (.slice a ps.length cap) W (HV.out.mono h) (fun W' h' p _ => step1_any id B p W' (cell_below h' hB)))
    go_enter Tryz.func70, Tryz.ntmps70
    go_wp2_with fail
    refine (K.out _ hb0).mono ?_
    rintro e w1 ⟨rfl, hb1⟩
    have hR1 : w1.heap[w.heap.size + 1 + 1]? = some (.cells #[.int .i64 0, .int .i64 0, .slice none 0 0] 24 (0, 0)) := blk_new hb1 (by simp)
    have hM1 : w1.heap[w.heap.size]? = some (.cells #[.int .i64 ver, .int .i64 next, .slice a ps.length cap] 24 (0, 0)) := blk_below (blk_below (blk_below (heap_alloc_new w _) (below_alloc _ _)) (below_alloc _ _)) hb1
    have hI1 : VarAt w1 (w.heap.size + 1) 3 (.int .i64 id) := blk_below (blk_below (blk_new (Below.refl _ _) (by simp)) (below_alloc _ _)) hb1
    have hbw := hb0.step hb1
    have hs1 : w.heap.size + 3 ≤ w1.heap.size := by have := hb1.size; simpa using this
    obtain ⟨m0, m1, m2, mf⟩ := row3 hM1
    have hS1 := hS.below hbw
    have I := hid (I.out w1 (w.heap.size + 1) hbw hI1.cell)
    clear hb1 hb0 K hS hck
    go_wp2_with fail
    refine I.out.mono ?_
    rintro e w2 ⟨rfl, hb2⟩
    have hR2 := blk_below hR1 hb2
    have hM2 := blk_below hM1 hb2
    have hbw2 := hbw.step hb2
    have hs2 : w.heap.size + 3 ≤ w2.heap.size := Nat.le_trans hs1 hb2.size
    have hS2 := hS1.below hb2
    clear I hI1 hR1 hM1 hbw hs1 hS1 hb2 m0 m1 m2 mf
    obtain ⟨m0, m1, m2, mf⟩ := row3 hM2
    cases hf : ps.findIdx? (idIs id) with
    | none =>
      have hi : idxOf (idIs id) ps = -1 := by simp [idxOf, hf]
      have Hm2 := hid (show (stepM ver next ps id 4 (fun _ => true)) = ((0, 0, []), 150) by rw [Hm.out, hf])
      rw [hi]
      obtain ⟨r0, r1, r2, rf⟩ := row3 hR2
      clear hi hf hs HV Hm
      go_wp2_with fail
      refine wp_region_later (by kernel_rfl) (by kernel_rfl) ?_
      repeat (go_big_quiet_step (fail))
      refine wpQuiet_nil ?_
      intro w3 hb3
      obtain ⟨r0, r1, r2, rf⟩ := row3 (blk_below hR2 hb3)
      have hbw3 := hbw2.step hb3
      clear hb3 m0 m1 m2 mf
      go_wp2_with fail
      exact bodyPost_ret (v := .tuple #[.agg #[.int .i64 0, .int .i64 0, .slice none 0 0], .int .i64 150]) (by simp [results, Tryz.results70, go_sem, r0, r1, r2]) rfl ⟨_, by rw [Hm2.out], by rw [Hm2.out]; exact OwnPcs.nil _ _, below_setCell3 hbw3 (by omega) _ _ _⟩
    | some i =>
      have hi : idxOf (idIs id) ps = i := by simp [idxOf, hf]
      obtain ⟨hlt, _⟩ := List.findIdx?_eq_some_iff_getElem.1 hf
      rw [hi]
      have hgd : ps.getD i zeroP = ps[i] := by simp [List.getD, hlt]
      have Hm1 := hid (show (stepM ver next ps id 4 (fun _ => true)) = _ from by rw [Hm.out, hf])
      simp only [hgd, Bool.and_true] at Hm1
      clear Hm
      have hsx := hs i hlt
      obtain ⟨b, o, rfl, hx⟩ := hsx
      have hx := (hx _ (List.getElem?_eq_getElem hlt)).mono hbw2
      obtain ⟨p, hp⟩ : ∃ p, p = ps[i] := ⟨_, rfl⟩
      rw [← hp] at hx Hm1
      have Hp := hid hp
      have e5 := hx.c5
      have HS := hid hs
      clear hp hx hgd hi hf hs
      have k2 := Later.cell m2
      have k5 := Later.cell e5
      have hneg : decide ((i : Int) < 0) = false := decide_eq_false (by omega)
      have P := hid (fun (n : Later w2) => containsPair_any 0 p.state 4 n.w (hS2.below n.below))
      have A := hid (fun (n : Later w2) => always_any i n.w)
      cases hpr : tbl.any (isPair p.state 4) with
      | false =>
        rw [hpr] at P Hm1
        have Hm2 := hid (show (stepM ver next ps id 4 (fun _ => true)) = ((0, 0, []), 150) by rw [Hm1.out]; rfl)
        clear Hm1
        go_wp2_with fail
        refine wp_region_later (by kernel_rfl) (by kernel_rfl) ?_
        repeat (go_big_quiet_step ((first | (go_at_call 93; exact Later.call (P.out _)) | (go_at_call 71; exact Later.call (A.out _)))))
        refine wpQuiet_nil ?_
        intro w3 hb3
        obtain ⟨r0, r1, r2, rf⟩ := row3 (blk_below hR2 hb3)
        have hbw3 := hbw2.step hb3
        clear hb3 m0 m1 m2 mf k2 k5 P A
        go_wp2_with fail
        exact bodyPost_ret (v := .tuple #[.agg #[.int .i64 0, .int .i64 0, .slice none 0 0], .int .i64 150]) (by simp [results, Tryz.results70, go_sem, r0, r1, r2]) rfl ⟨_, by rw [Hm2.out], by rw [Hm2.out]; exact OwnPcs.nil _ _, below_setCell3 hbw3 (by omega) _ _ _⟩
      | true =>
        rw [hpr] at P Hm1
        have Hx := hid True.intro
        have Hver := hid Hck.out.1
        by_cases hvm : ver = 1099511627776
        · have Hm2 := hid (show (stepM ver next ps id 4 (fun _ => true)) = ((0, 0, []), 2) by rw [Hm1.out]; simp [hvm])
          have hvb : (ver == 1099511627776) = true := by simpa using hvm
          clear Hm1
          go_wp2_with fail
          refine wp_region_later (by kernel_rfl) (by kernel_rfl) ?_
          repeat (go_big_quiet_step ((first | (go_at_call 93; exact Later.call (P.out _)) | (go_at_call 71; exact Later.call (A.out _)))))
          refine wpQuiet_nil ?_
          intro w3 hb3
          obtain ⟨r0, r1, r2, rf⟩ := row3 (blk_below hR2 hb3)
          have hbw3 := hbw2.step hb3
          clear m0 m1 m2 mf k2 k5 P A
          obtain ⟨m0, m1, m2, mf⟩ := row3 (blk_below hM2 hb3)
          clear hb3
          go_wp2_with fail
          exact bodyPost_ret (v := .tuple #[.agg #[.int .i64 0, .int .i64 0, .slice none 0 0], .int .i64 2]) (by simp [results, Tryz.results70, go_sem, r0, r1, r2]) rfl ⟨_, by rw [Hm2.out], by rw [Hm2.out]; exact OwnPcs.nil _ _, below_setCell3 hbw3 (by omega) _ _ _⟩
        · have Hm2 := hid (show (stepM ver next ps id 4 (fun _ => true)) = ((ver + 1, next, ps.eraseIdx i), 0) by rw [Hm1.out]; simp [hvm])
          have hvb : (ver == 1099511627776) = false := by simpa using hvm
          clear Hm1 hvm
          go_wp2_with fail
          refine wp_region_later (by kernel_rfl) (by kernel_rfl) ?_
          repeat (go_big_quiet_step ((first | (go_at_call 93; exact Later.call (P.out _)) | (go_at_call 71; exact Later.call (A.out _)))))
          refine wpQuiet_nil ?_
          intro w3 hb3
          have hbw3 := hbw2.step hb3
          clear m0 m1 m2 mf k2 k5 P A
          have hM3 := blk_below hM2 hb3
          have hR3 := blk_below hR2 hb3
          have hs3 : w.heap.size + 3 ≤ w3.heap.size := Nat.le_trans hs2 hb3.size
          obtain ⟨m0, m1, m2, mf⟩ := row3 hM3
          clear hb3 e5
          go_wp2_with fail
          refine (clone_any ps _ _ (HV.out.mono hbw3)).mono ?_
          rintro e w4 ⟨u, rfl, hu, hb4⟩
          have hM4 := blk_below hM3 hb4
          have hR4 := blk_below hR3 hb4
          have hbw4 := hbw3.step hb4
          have hu4 : ∃ g cap2, u = .slice (some ⟨g, 0, none⟩) ps.length cap2 ∧ w3.heap.size ≤ g ∧ ps.length ≤ cap2 := by
            rcases hu.2 with ⟨h, h0⟩ | ⟨g, cap', cur, h, hg, _, hc, _⟩
            · omega
            · exact ⟨g, cap', h, hg, hc⟩
          obtain ⟨g, cap2, rfl, hg, hcap2⟩ := hu4
          have Hver1 : 0 ≤ ver := Hver.out.1
          have Hver2 : ver ≤ 1099511627776 := Hver.out.2
          have hb4s := hb4.size
          clear hb4 m0 m1 m2 mf HV HS
          go_wp2_with (refine wpList_store_state rfl (.tmp 56) (.tmp 54) rfl (by kernel_rfl) w3.heap.size g ps.length cap2 ps hu rfl i hlt 4 rfl rfl ?_)
          intro w5 hu5 hg5
          rw [← Hp.out] at hu5
          obtain ⟨qs, hqs⟩ : ∃ qs, qs = ps.set i (setState p 4) := ⟨_, rfl⟩
          rw [← hqs] at hu5
          have hql : qs.length = ps.length := by rw [hqs, List.length_set]
          have Hqe := hid (show qs.eraseIdx i = ps.eraseIdx i by rw [hqs]; exact List.eraseIdx_set_eq)
          have Hql := hid hql
          have hM5 := heap_kept hM4 hg5 (by omega)
          have hR5 := heap_kept hR4 hg5 (by omega)
          have hbw5 := hbw4.trans (below_grown (base := w.heap.size) hg5 hbw4.size fun k hk => by cases hk; omega)
          have hs5 : w3.heap.size ≤ w5.heap.size := Nat.le_trans hb4s hg5.size
          clear hM4 hR4 hu hg5 hqs hql
          go_wp2_with fail
          refine (delete_any qs i g ps.length cap2 w3.heap.size w5 hu5 (Hql.out.symm) hlt hn).mono ?_
          rintro e w6 ⟨rfl, hu6, hg6⟩
          rw [Hqe.out] at hu6
          have hM6 := heap_kept hM5 hg6 (by omega)
          have hR6 := heap_kept hR5 hg6 (by omega)
          obtain ⟨m0, m1, m2, mf⟩ := row3 hM6
          obtain ⟨r0, r1, r2, rf⟩ := row3 hR6
          have hbw6 := hbw5.trans (below_grown (base := w.heap.size) hg6 hbw5.size fun k hk => by cases hk; omega)
          clear hM5 hR5 hu5 hg6
          go_wp2_with fail
          exact bodyPost_ret (v := .tuple #[.agg #[.int .i64 (ver + 1), .int .i64 next, .slice (some ⟨g, 0, none⟩) (ps.length - 1) cap2], .int .i64 0]) (by simp [results, Tryz.results70, go_sem, r0, r1, r2]) rfl ⟨_, by rw [Hm2.out], by rw [Hm2.out]; exact OwnPcs.base (OwnPcs.setCell3 hu6 (by omega)) (by omega), below_setCell3 hbw6 (by omega) _ _ _⟩

  · have Hm := hid (show (stepM ver next ps id 4 (fun _ => true)) = ((0, 0, []), checkM ver next ps) by rw [stepM, if_pos hck])
    have hcb : (checkM ver next ps != 0) = true := by simpa using hck
    generalize checkM ver next ps = ce at *
    clear hck hs HV hS
    go_enter Tryz.func70, Tryz.ntmps70
    go_wp2_with fail
    refine (K.out _ hb0).mono ?_
    rintro e w1 ⟨rfl, hb1⟩
    have hR : w1.heap[w.heap.size + 1 + 1]? = some (.cells #[.int .i64 0, .int .i64 0, .slice none 0 0] 24 (0, 0)) := blk_new hb1 (by simp)
    have hbw := hb0.step hb1
    obtain ⟨r0, r1, r2, rf⟩ := row3 hR
    clear hb1 hb0 K
    go_wp2_with fail
    exact bodyPost_ret (v := .tuple #[.agg #[.int .i64 0, .int .i64 0, .slice none 0 0], .int .i64 ce]) (by simp [results, Tryz.results70, go_sem, r0, r1, r2]) rfl ⟨_, by rw [Hm.out], by rw [Hm.out]; exact OwnPcs.nil _ _, below_setCell3 hbw (by omega) _ _ _⟩
set_option maxHeartbeats 2000000 in
set_option maxRecDepth 100000 in
theorem stepDrop_any (ver next id : Int) (ps : List Piece) (v : Value) (D : Nat) (w : World) (hS : StepsAt w 0) (hv : PcsAt w v ps) (hD : w.heap[D]? = some (.cells #[.int .i64 ver, .int .i64 next, v] 24 (0, 0))) :
    Calls Tryz.prog 70 #[.agg #[.int .i64 ver, .int .i64 next, v], .int .i64 id, .int .i64 3, .func (.func 73) #[] #[.pointer (some ⟨D, 0, none⟩)]] w fun e w' => ∃ u, e = .returned (.tuple #[.agg #[.int .i64 (stepM ver next ps id 3 (mayDrop ps)).1.1, .int .i64 (stepM ver next ps id 3 (mayDrop ps)).1.2.1, u], .int .i64 (stepM ver next ps id 3 (mayDrop ps)).2]) ∧ OwnPcs w' w.heap.size u (stepM ver next ps id 3 (mayDrop ps)).1.2.2 ∧ Below w.heap.size w w' := by
  have K := hid (fun W (h : Below w.heap.size w W) => check_any ver next ps v W (hv.mono h))
  have HV := hid hv
  obtain ⟨a, cap, rfl, hn, hs⟩ := hv
  have hD0 := hid hD
  clear hD
  have hb0 := ((below_alloc w (.cells #[.int .i64 ver, .int .i64 next, .slice a ps.length cap] 24)).step (below_alloc _ (.cells #[.int .i64 id] 3))).step (below_alloc _ (.cells #[.int .i64 0, .int .i64 0, .slice none 0 0] 24))
  by_cases hck : checkM ver next ps = 0
  · have Hck := hid (checkM_ok hck)
    have Hm := hid (show (stepM ver next ps id 3 (mayDrop ps)) = _ from by rw [stepM, if_neg (by simp [hck])])
    rw [hck] at K
    have I := hid (fun W B (h : Below w.heap.size w W) (hB : W.cell? ⟨B, 0, none⟩ = some (.int .i64 id)) => index92_any (idIs id) ps B (.slice a ps.length cap) W (HV.out.mono h) (fun W' h' p _ => step1_any id B p W' (cell_below h' hB)))
    go_enter Tryz.func70, Tryz.ntmps70
    go_wp2_with fail
    refine (K.out _ hb0).mono ?_
    rintro e w1 ⟨rfl, hb1⟩
    have hR1 : w1.heap[w.heap.size + 1 + 1]? = some (.cells #[.int .i64 0, .int .i64 0, .slice none 0 0] 24 (0, 0)) := blk_new hb1 (by simp)
    have hM1 : w1.heap[w.heap.size]? = some (.cells #[.int .i64 ver, .int .i64 next, .slice a ps.length cap] 24 (0, 0)) := blk_below (blk_below (blk_below (heap_alloc_new w _) (below_alloc _ _)) (below_alloc _ _)) hb1
    have hI1 : VarAt w1 (w.heap.size + 1) 3 (.int .i64 id) := blk_below (blk_below (blk_new (Below.refl _ _) (by simp)) (below_alloc _ _)) hb1
    have hbw := hb0.step hb1
    have hs1 : w.heap.size + 3 ≤ w1.heap.size := by have := hb1.size; simpa using this
    obtain ⟨m0, m1, m2, mf⟩ := row3 hM1
    have hS1 := hS.below hbw
    have I := hid (I.out w1 (w.heap.size + 1) hbw hI1.cell)
    clear hb1 hb0 K hS hck
    go_wp2_with fail
    refine I.out.mono ?_
    rintro e w2 ⟨rfl, hb2⟩
    have hR2 := blk_below hR1 hb2
    have hM2 := blk_below hM1 hb2
    have hbw2 := hbw.step hb2
    have hs2 : w.heap.size + 3 ≤ w2.heap.size := Nat.le_trans hs1 hb2.size
    have hS2 := hS1.below hb2
    clear I hI1 hR1 hM1 hbw hs1 hS1 hb2 m0 m1 m2 mf
    obtain ⟨m0, m1, m2, mf⟩ := row3 hM2
    cases hf : ps.findIdx? (idIs id) with
    | none =>
      have hi : idxOf (idIs id) ps = -1 := by simp [idxOf, hf]
      have Hm2 := hid (show (stepM ver next ps id 3 (mayDrop ps)) = ((0, 0, []), 150) by rw [Hm.out, hf])
      rw [hi]
      obtain ⟨r0, r1, r2, rf⟩ := row3 hR2
      clear hi hf hs HV Hm
      go_wp2_with fail
      refine wp_region_later (by kernel_rfl) (by kernel_rfl) ?_
      repeat (go_big_quiet_step (fail))
      refine wpQuiet_nil ?_
      intro w3 hb3
      obtain ⟨r0, r1, r2, rf⟩ := row3 (blk_below hR2 hb3)
      have hbw3 := hbw2.step hb3
      clear hb3 m0 m1 m2 mf
      go_wp2_with fail
      exact bodyPost_ret (v := .tuple #[.agg #[.int .i64 0, .int .i64 0, .slice none 0 0], .int .i64 150]) (by simp [results, Tryz.results70, go_sem, r0, r1, r2]) rfl ⟨_, by rw [Hm2.out], by rw [Hm2.out]; exact OwnPcs.nil _ _, below_setCell3 hbw3 (by omega) _ _ _⟩
    | some i =>
      have hi : idxOf (idIs id) ps = i := by simp [idxOf, hf]
      obtain ⟨hlt, _⟩ := List.findIdx?_eq_some_iff_getElem.1 hf
      rw [hi]
      have hgd : ps.getD i zeroP = ps[i] := by simp [List.getD, hlt]
      have Hm1 := hid (show (stepM ver next ps id 3 (mayDrop ps)) = _ from by rw [Hm.out, hf])
      simp only [hgd] at Hm1
      clear Hm
      have hsx := hs i hlt
      obtain ⟨b, o, rfl, hx⟩ := hsx
      have hx := (hx _ (List.getElem?_eq_getElem hlt)).mono hbw2
      obtain ⟨p, hp⟩ : ∃ p, p = ps[i] := ⟨_, rfl⟩
      rw [← hp] at hx Hm1
      have Hp := hid hp
      have e5 := hx.c5
      have HS := hid hs
      clear hp hx hgd hi hf hs
      have k2 := Later.cell m2
      have k5 := Later.cell e5
      have hneg : decide ((i : Int) < 0) = false := decide_eq_false (by omega)
      have P := hid (fun (n : Later w2) => containsPair_any 0 p.state 3 n.w (hS2.below n.below))
      have A := hid (fun (n : Later w2) => drop1_any D ver next ps (.slice (some ⟨b, o, none⟩) ps.length cap) i n.w (HV.out.mono (hbw2.step n.below)) hlt (blk_below hD0.out (hbw2.step n.below)))
      cases hpr : tbl.any (isPair p.state 3) with
      | false =>
        rw [hpr] at P Hm1
        have Hm2 := hid (show (stepM ver next ps id 3 (mayDrop ps)) = ((0, 0, []), 150) by rw [Hm1.out]; rfl)
        clear Hm1
        go_wp2_with fail
        refine wp_region_later (by kernel_rfl) (by kernel_rfl) ?_
        repeat (go_big_quiet_step ((first | (go_at_call 93; exact Later.call (P.out _)) | (go_at_call 73; exact Later.call (A.out _)))))
        refine wpQuiet_nil ?_
        intro w3 hb3
        obtain ⟨r0, r1, r2, rf⟩ := row3 (blk_below hR2 hb3)
        have hbw3 := hbw2.step hb3
        clear hb3 m0 m1 m2 mf k2 k5 P A
        go_wp2_with fail
        exact bodyPost_ret (v := .tuple #[.agg #[.int .i64 0, .int .i64 0, .slice none 0 0], .int .i64 150]) (by simp [results, Tryz.results70, go_sem, r0, r1, r2]) rfl ⟨_, by rw [Hm2.out], by rw [Hm2.out]; exact OwnPcs.nil _ _, below_setCell3 hbw3 (by omega) _ _ _⟩
      | true =>
        rw [hpr] at P Hm1
        cases hmy : mayDrop ps i with
        | false =>
          rw [hmy] at A
          have Hm2 := hid (show (stepM ver next ps id 3 (mayDrop ps)) = ((0, 0, []), 150) by rw [Hm1.out]; simp [hmy])
          clear Hm1 hmy
          go_wp2_with fail
          refine wp_region_later (by kernel_rfl) (by kernel_rfl) ?_
          repeat (go_big_quiet_step ((first | (go_at_call 93; exact Later.call (P.out _)) | (go_at_call 73; exact Later.call (A.out _)))))
          refine wpQuiet_nil ?_
          intro w3 hb3
          obtain ⟨r0, r1, r2, rf⟩ := row3 (blk_below hR2 hb3)
          have hbw3 := hbw2.step hb3
          clear hb3 m0 m1 m2 mf k2 k5 P A
          go_wp2_with fail
          exact bodyPost_ret (v := .tuple #[.agg #[.int .i64 0, .int .i64 0, .slice none 0 0], .int .i64 150]) (by simp [results, Tryz.results70, go_sem, r0, r1, r2]) rfl ⟨_, by rw [Hm2.out], by rw [Hm2.out]; exact OwnPcs.nil _ _, below_setCell3 hbw3 (by omega) _ _ _⟩
        | true =>
        rw [hmy] at A
        have Hver := hid Hck.out.1
        by_cases hvm : ver = 1099511627776
        · have Hm2 := hid (show (stepM ver next ps id 3 (mayDrop ps)) = ((0, 0, []), 2) by rw [Hm1.out]; simp [hvm, hmy])
          have hvb : (ver == 1099511627776) = true := by simpa using hvm
          clear Hm1
          go_wp2_with fail
          refine wp_region_later (by kernel_rfl) (by kernel_rfl) ?_
          repeat (go_big_quiet_step ((first | (go_at_call 93; exact Later.call (P.out _)) | (go_at_call 73; exact Later.call (A.out _)))))
          refine wpQuiet_nil ?_
          intro w3 hb3
          obtain ⟨r0, r1, r2, rf⟩ := row3 (blk_below hR2 hb3)
          have hbw3 := hbw2.step hb3
          clear m0 m1 m2 mf k2 k5 P A
          obtain ⟨m0, m1, m2, mf⟩ := row3 (blk_below hM2 hb3)
          clear hb3
          go_wp2_with fail
          exact bodyPost_ret (v := .tuple #[.agg #[.int .i64 0, .int .i64 0, .slice none 0 0], .int .i64 2]) (by simp [results, Tryz.results70, go_sem, r0, r1, r2]) rfl ⟨_, by rw [Hm2.out], by rw [Hm2.out]; exact OwnPcs.nil _ _, below_setCell3 hbw3 (by omega) _ _ _⟩
        · have Hm2 := hid (show (stepM ver next ps id 3 (mayDrop ps)) = ((ver + 1, next, ps.set i (setState p 3)), 0) by rw [Hm1.out]; simp [hvm, hmy])
          have hvb : (ver == 1099511627776) = false := by simpa using hvm
          clear Hm1 hvm
          go_wp2_with fail
          refine wp_region_later (by kernel_rfl) (by kernel_rfl) ?_
          repeat (go_big_quiet_step ((first | (go_at_call 93; exact Later.call (P.out _)) | (go_at_call 73; exact Later.call (A.out _)))))
          refine wpQuiet_nil ?_
          intro w3 hb3
          have hbw3 := hbw2.step hb3
          clear m0 m1 m2 mf k2 k5 P A
          have hM3 := blk_below hM2 hb3
          have hR3 := blk_below hR2 hb3
          have hs3 : w.heap.size + 3 ≤ w3.heap.size := Nat.le_trans hs2 hb3.size
          obtain ⟨m0, m1, m2, mf⟩ := row3 hM3
          clear hb3 e5
          go_wp2_with fail
          refine (clone_any ps _ _ (HV.out.mono hbw3)).mono ?_
          rintro e w4 ⟨u, rfl, hu, hb4⟩
          have hM4 := blk_below hM3 hb4
          have hR4 := blk_below hR3 hb4
          have hbw4 := hbw3.step hb4
          have hu4 : ∃ g cap2, u = .slice (some ⟨g, 0, none⟩) ps.length cap2 ∧ w3.heap.size ≤ g ∧ ps.length ≤ cap2 := by
            rcases hu.2 with ⟨h, h0⟩ | ⟨g, cap', cur, h, hg, _, hc, _⟩
            · omega
            · exact ⟨g, cap', h, hg, hc⟩
          obtain ⟨g, cap2, rfl, hg, hcap2⟩ := hu4
          have Hver1 : 0 ≤ ver := Hver.out.1
          have Hver2 : ver ≤ 1099511627776 := Hver.out.2
          have hb4s := hb4.size
          clear hb4 m0 m1 m2 mf HV HS
          go_wp2_with (refine wpList_store_state rfl (.tmp 56) (.tmp 54) rfl (by kernel_rfl) w3.heap.size g ps.length cap2 ps hu rfl i hlt 3 rfl rfl ?_)
          intro w5 hu5 hg5
          rw [← Hp.out] at hu5
          have hM5 := heap_kept hM4 hg5 (by omega)
          have hR5 := heap_kept hR4 hg5 (by omega)
          obtain ⟨m0, m1, m2, mf⟩ := row3 hM5
          obtain ⟨r0, r1, r2, rf⟩ := row3 hR5
          have hbw5 := hbw4.trans (below_grown (base := w.heap.size) hg5 hbw4.size fun k hk => by cases hk; omega)
          clear hM4 hR4 hu hg5
          go_wp2_with fail
          exact bodyPost_ret (v := .tuple #[.agg #[.int .i64 (ver + 1), .int .i64 next, .slice (some ⟨g, 0, none⟩) ps.length cap2], .int .i64 0]) (by simp [results, Tryz.results70, go_sem, r0, r1, r2]) rfl ⟨_, by rw [Hm2.out], by rw [Hm2.out]; exact OwnPcs.base (OwnPcs.setCell3 hu5 (by omega)) (by omega), below_setCell3 hbw5 (by omega) _ _ _⟩

  · have Hm := hid (show (stepM ver next ps id 3 (mayDrop ps)) = ((0, 0, []), checkM ver next ps) by rw [stepM, if_pos hck])
    have hcb : (checkM ver next ps != 0) = true := by simpa using hck
    generalize checkM ver next ps = ce at *
    clear hck hs HV hS
    go_enter Tryz.func70, Tryz.ntmps70
    go_wp2_with fail
    refine (K.out _ hb0).mono ?_
    rintro e w1 ⟨rfl, hb1⟩
    have hR : w1.heap[w.heap.size + 1 + 1]? = some (.cells #[.int .i64 0, .int .i64 0, .slice none 0 0] 24 (0, 0)) := blk_new hb1 (by simp)
    have hbw := hb0.step hb1
    obtain ⟨r0, r1, r2, rf⟩ := row3 hR
    clear hb1 hb0 K
    go_wp2_with fail
    exact bodyPost_ret (v := .tuple #[.agg #[.int .i64 0, .int .i64 0, .slice none 0 0], .int .i64 ce]) (by simp [results, Tryz.results70, go_sem, r0, r1, r2]) rfl ⟨_, by rw [Hm.out], by rw [Hm.out]; exact OwnPcs.nil _ _, below_setCell3 hbw (by omega) _ _ _⟩
theorem done_any (ver next id : Int) (ps : List Piece) (v : Value) (w : World) (hS : StepsAt w 0) (hv : PcsAt w v ps) :
    Calls Tryz.prog 30 #[.agg #[.int .i64 ver, .int .i64 next, v], .int .i64 id] w fun e w' => ∃ u, e = .returned (.tuple #[.agg #[.int .i64 (stepM ver next ps id 2 (fun _ => true)).1.1, .int .i64 (stepM ver next ps id 2 (fun _ => true)).1.2.1, u], .int .i64 (stepM ver next ps id 2 (fun _ => true)).2]) ∧ OwnPcs w' w.heap.size u (stepM ver next ps id 2 (fun _ => true)).1.2.2 ∧ Below w.heap.size w w' := by
  obtain ⟨a, cap, hvs, hn⟩ := hv.form
  subst hvs
  have hb0 := (below_alloc w (.cells #[.int .i64 ver, .int .i64 next, .slice a ps.length cap] 24)).step (below_alloc _ (.cells #[.int .i64 0, .int .i64 0, .slice none 0 0] 24))
  have C := hid (stepDone_any ver next id ps (.slice a ps.length cap) _ (hS.below hb0) (hv.mono hb0))
  generalize (stepM ver next ps id 2 (fun _ => true)) = r at *
  obtain ⟨⟨rv, rn, rp⟩, re⟩ := r
  simp only at C
  clear hv hS
  go_enter Tryz.func30, Tryz.ntmps30
  go_wp2_with fail
  refine C.out.mono ?_
  rintro e w1 ⟨u, rfl, hu, hb1⟩
  have hR := blk_new hb1 (by simp : (w.alloc (.cells #[.int .i64 ver, .int .i64 next, .slice a ps.length cap] 24)).heap.size = w.heap.size + 1)
  have hbw := hb0.step hb1
  have hsz : (((w.alloc (.cells #[.int .i64 ver, .int .i64 next, .slice a ps.length cap] 24)).alloc (.cells #[.int .i64 0, .int .i64 0, .slice none 0 0] 24))).heap.size = w.heap.size + 2 := by simp
  rw [hsz] at hu
  obtain ⟨a2, cap2, rfl⟩ := OwnPcs.form hu
  obtain ⟨rl, hrl⟩ : ∃ rl, rl = rp.length := ⟨_, rfl⟩
  rw [← hrl] at hu ⊢
  have Hu := hid hu
  obtain ⟨r0, r1, r2, rf⟩ := row3 hR
  clear hb1 hb0 C hsz hrl hu
  go_wp2_with fail
  exact bodyPost_ret (v := .tuple #[.agg #[.int .i64 rv, .int .i64 rn, .slice a2 rl cap2], .int .i64 re]) (by simp [results, Tryz.results30, go_sem, r0, r1, r2]) rfl ⟨_, rfl, OwnPcs.base (OwnPcs.setCell3 Hu.out (by omega)) (by omega), below_setCell3 hbw (by omega) _ _ _⟩
theorem left_any (ver next id : Int) (ps : List Piece) (v : Value) (w : World) (hS : StepsAt w 0) (hv : PcsAt w v ps) :
    Calls Tryz.prog 34 #[.agg #[.int .i64 ver, .int .i64 next, v], .int .i64 id] w fun e w' => ∃ u, e = .returned (.tuple #[.agg #[.int .i64 (stepM ver next ps id 4 (fun _ => true)).1.1, .int .i64 (stepM ver next ps id 4 (fun _ => true)).1.2.1, u], .int .i64 (stepM ver next ps id 4 (fun _ => true)).2]) ∧ OwnPcs w' w.heap.size u (stepM ver next ps id 4 (fun _ => true)).1.2.2 ∧ Below w.heap.size w w' := by
  obtain ⟨a, cap, hvs, hn⟩ := hv.form
  subst hvs
  have hb0 := (below_alloc w (.cells #[.int .i64 ver, .int .i64 next, .slice a ps.length cap] 24)).step (below_alloc _ (.cells #[.int .i64 0, .int .i64 0, .slice none 0 0] 24))
  have C := hid (stepLeft_any ver next id ps (.slice a ps.length cap) _ (hS.below hb0) (hv.mono hb0))
  generalize (stepM ver next ps id 4 (fun _ => true)) = r at *
  obtain ⟨⟨rv, rn, rp⟩, re⟩ := r
  simp only at C
  clear hv hS
  go_enter Tryz.func34, Tryz.ntmps34
  go_wp2_with fail
  refine C.out.mono ?_
  rintro e w1 ⟨u, rfl, hu, hb1⟩
  have hR := blk_new hb1 (by simp : (w.alloc (.cells #[.int .i64 ver, .int .i64 next, .slice a ps.length cap] 24)).heap.size = w.heap.size + 1)
  have hbw := hb0.step hb1
  have hsz : (((w.alloc (.cells #[.int .i64 ver, .int .i64 next, .slice a ps.length cap] 24)).alloc (.cells #[.int .i64 0, .int .i64 0, .slice none 0 0] 24))).heap.size = w.heap.size + 2 := by simp
  rw [hsz] at hu
  obtain ⟨a2, cap2, rfl⟩ := OwnPcs.form hu
  obtain ⟨rl, hrl⟩ : ∃ rl, rl = rp.length := ⟨_, rfl⟩
  rw [← hrl] at hu ⊢
  have Hu := hid hu
  obtain ⟨r0, r1, r2, rf⟩ := row3 hR
  clear hb1 hb0 C hsz hrl hu
  go_wp2_with fail
  exact bodyPost_ret (v := .tuple #[.agg #[.int .i64 rv, .int .i64 rn, .slice a2 rl cap2], .int .i64 re]) (by simp [results, Tryz.results34, go_sem, r0, r1, r2]) rfl ⟨_, rfl, OwnPcs.base (OwnPcs.setCell3 Hu.out (by omega)) (by omega), below_setCell3 hbw (by omega) _ _ _⟩
theorem drop_any (ver next id : Int) (ps : List Piece) (v : Value) (w : World) (hS : StepsAt w 0) (hv : PcsAt w v ps) :
    Calls Tryz.prog 32 #[.agg #[.int .i64 ver, .int .i64 next, v], .int .i64 id] w fun e w' => ∃ u, e = .returned (.tuple #[.agg #[.int .i64 (stepM ver next ps id 3 (mayDrop ps)).1.1, .int .i64 (stepM ver next ps id 3 (mayDrop ps)).1.2.1, u], .int .i64 (stepM ver next ps id 3 (mayDrop ps)).2]) ∧ OwnPcs w' w.heap.size u (stepM ver next ps id 3 (mayDrop ps)).1.2.2 ∧ Below w.heap.size w w' := by
  obtain ⟨a, cap, hvs, hn⟩ := hv.form
  subst hvs
  have hb0 := (below_alloc w (.cells #[.int .i64 ver, .int .i64 next, .slice a ps.length cap] 24)).step (below_alloc _ (.cells #[.int .i64 0, .int .i64 0, .slice none 0 0] 24))
  have C := hid (stepDrop_any ver next id ps (.slice a ps.length cap) w.heap.size _ (hS.below hb0) (hv.mono hb0) (blk_below (heap_alloc_new w _) (below_alloc _ _)))
  generalize (stepM ver next ps id 3 (mayDrop ps)) = r at *
  obtain ⟨⟨rv, rn, rp⟩, re⟩ := r
  simp only at C
  clear hv hS
  go_enter Tryz.func32, Tryz.ntmps32
  go_wp2_with fail
  refine C.out.mono ?_
  rintro e w1 ⟨u, rfl, hu, hb1⟩
  have hR := blk_new hb1 (by simp : (w.alloc (.cells #[.int .i64 ver, .int .i64 next, .slice a ps.length cap] 24)).heap.size = w.heap.size + 1)
  have hbw := hb0.step hb1
  have hsz : (((w.alloc (.cells #[.int .i64 ver, .int .i64 next, .slice a ps.length cap] 24)).alloc (.cells #[.int .i64 0, .int .i64 0, .slice none 0 0] 24))).heap.size = w.heap.size + 2 := by simp
  rw [hsz] at hu
  obtain ⟨a2, cap2, rfl⟩ := OwnPcs.form hu
  obtain ⟨rl, hrl⟩ : ∃ rl, rl = rp.length := ⟨_, rfl⟩
  rw [← hrl] at hu ⊢
  have Hu := hid hu
  obtain ⟨r0, r1, r2, rf⟩ := row3 hR
  clear hb1 hb0 C hsz hrl hu
  go_wp2_with fail
  exact bodyPost_ret (v := .tuple #[.agg #[.int .i64 rv, .int .i64 rn, .slice a2 rl cap2], .int .i64 re]) (by simp [results, Tryz.results32, go_sem, r0, r1, r2]) rfl ⟨_, rfl, OwnPcs.base (OwnPcs.setCell3 Hu.out (by omega)) (by omega), below_setCell3 hbw (by omega) _ _ _⟩
end Go.Proofs.YtcpecponmaakoaaGreatDoor
