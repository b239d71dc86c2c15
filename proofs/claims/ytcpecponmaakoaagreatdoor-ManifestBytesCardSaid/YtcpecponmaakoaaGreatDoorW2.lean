/- Walks: whether a manifest may be: the document's Check. -/
import Derived.Test.YtcpecponmaakoaaGreatDoorW1
namespace Go.Proofs.YtcpecponmaakoaaGreatDoor
open Go.RowKit Go.Wm
def lastOf (ps : List Piece) : Nat → Int
  | 0 => -1
  | k + 1 => match ps[k]? with | some p => p.id | none => -1
theorem lastOf_succ (ps : List Piece) (k : Nat) (h : k < ps.length) : lastOf ps (k + 1) = ps[k].id := by
  simp [lastOf, List.getElem?_eq_getElem h]
theorem in_below (n : Int) (b : Bool) (w : World) (h : beyond n = b) : Calls Tryz.prog 69 #[.int .i64 n] w fun e w' => e = .returned (.bool (!b)) ∧ Below w.heap.size w w' :=
  (in_any n b w h).mono fun _ _ ⟨h1, h2⟩ => ⟨h1, h2 ▸ Below.refl _ _⟩
theorem not_decide {p : Prop} [Decidable p] (h : decide p = false) : ¬ p := of_decide_eq_false h
set_option maxHeartbeats 8000000 in
set_option maxRecDepth 100000 in
theorem refCheck_any (ver next : Int) (ps : List Piece) (v : Value) (w : World) (hv : PcsAt w v ps) :
    Calls Tryz.prog 36 #[.agg #[.int .i64 ver, .int .i64 next, v]] w fun e w' => e = .returned (.int .i64 (checkM ver next ps)) ∧ Below w.heap.size w w' := by
  obtain ⟨a, cap, rfl, hn, hs⟩ := hv
  rcases Bool.eq_false_or_eq_true (beyond ver) with hver | hver
  · go_enter Tryz.func36, Tryz.ntmps36
    go_wp2_with (go_at_call 69; refine (in_any _ _ _ (by assumption)).mono ?_; rintro e w' ⟨rfl, rfl⟩)
    go_ret
    exact ⟨ret_errno (by simp [checkM, hver]), below_alloc _ _⟩
  · rcases Bool.eq_false_or_eq_true (beyond next) with hnext | hnext
    · go_enter Tryz.func36, Tryz.ntmps36
      go_wp2_with (go_at_call 69; refine (in_any _ _ _ (by assumption)).mono ?_; rintro e w' ⟨rfl, rfl⟩)
      go_ret
      exact ⟨ret_errno (by simp [checkM, hnext]), below_alloc _ _⟩
    · have Hc := hid (show checkM ver next ps = if chk next (-1) 0 true ps = false then 1 else if 256 < ps.length then 2 else 0 by simp [checkM, hver, hnext])
      go_enter Tryz.func36, Tryz.ntmps36
      go_wp2_with (go_at_call 69; refine (in_any _ _ _ (by assumption)).mono ?_; rintro e w' ⟨rfl, rfl⟩)
      refine wp_name fun W hW => ?_
      have hB : Below w.heap.size w W := by rw [hW]; exact below_alloc _ _
      have hN1 : W.cell? ⟨w.heap.size, 1, none⟩ = some (.int .i64 next) := by rw [hW]; simp
      have hN2 : W.cell? ⟨w.heap.size, 2, none⟩ = some (.slice a ps.length cap) := by rw [hW]; simp
      clear hW hver hnext
      go_loopw [3, 4, 5] (fun e o i wr => ∃ (k : Nat) (fin : Int) (op : Bool), k ≤ ps.length ∧ i = .int .i64 k ∧ e = .int .i64 fin ∧ o = .bool op ∧ chk next (-1) 0 true ps = chk next (lastOf ps k) fin (!op) (ps.drop k) ∧ -1 ≤ lastOf ps k ∧ Below W.heap.size W wr) (fun _ _ i _ => ps.length - (intOf i).toNat)
      case atStart => exact ⟨0, 0, false, by omega, rfl, rfl, rfl, rfl, by simp [lastOf], Below.refl _ _⟩
      case round =>
        obtain ⟨k, fin, op, hk, rfl, rfl, rfl, hc, hl, hwr⟩ := hrel
        have hm1 := cell_below hwr hN1
        have hm2 := cell_below hwr hN2
        have g1 := fun X => cell_alloc_old X hm1
        have g2 := fun X => cell_alloc_old X hm2
        by_cases hlt : k < ps.length
        · rw [List.drop_eq_getElem_cons hlt] at hc
          have Hls := hid (lastOf_succ ps k hlt)
          obtain ⟨b, o, rfl, hx⟩ := hs k hlt
          obtain ⟨e0, e1, e2, e3, e4, e5⟩ := ((hx _ (List.getElem?_eq_getElem hlt)).mono hB).mono hwr
          have hprev : ∀ j, k = j + 1 → ∃ q : Piece, wr.cell? ⟨b, o + j * 6, none⟩ = some (.int .i64 q.id) ∧ lastOf ps k = q.id := by
            intro j hj
            subst hj
            obtain ⟨b2, o2, ha2, hx2⟩ := hs j (by omega)
            cases ha2
            exact ⟨ps[j], ((hx2 _ (List.getElem?_eq_getElem (by omega))).mono hB |>.mono hwr).c0, lastOf_succ ps j (by omega)⟩
          obtain ⟨p, hp⟩ : ∃ p, p = ps[k] := ⟨_, rfl⟩
          rw [← hp] at e0 e1 e2 e3 e4 e5 hc Hls
          obtain ⟨last, hlast⟩ : ∃ l, l = lastOf ps k := ⟨_, rfl⟩
          rw [← hlast] at hc hl hprev
          have hz : k = 0 → last = -1 := fun h => by rw [hlast, h]; rfl
          have HC := hid hc
          have Hl := hid hl
          clear hc hx hs hp hN1 hN2 hl hlast
          obtain ⟨wo, rfl⟩ : ∃ wo : World, wo = wr := ⟨_, rfl⟩
          have hD := fun X => hB.step (hwr.step (below_alloc wo X))
          have Hbad : badP next last p = true → Ending.returned (.int .i64 1) = Ending.returned (.int .i64 (checkM ver next ps)) := fun h => ret_errno (by rw [Hc.out, HC.out]; simp [chk, h])
          have Hst : badP next last p = false → p.state ≠ 1 → p.state ≠ 2 → p.state ≠ 3 → Ending.returned (.int .i64 1) = Ending.returned (.int .i64 (checkM ver next ps)) := fun h h1 h2 h3 => ret_errno (by rw [Hc.out, HC.out, chk_none h h1 h2 h3]; rfl)
          have Hbad := hid Hbad
          have Hst := hid Hst
          rcases Nat.eq_zero_or_pos k with hk0 | hk0
          · have hq0 := hz hk0
            have hkg : decide (0 < (k : Int)) = false := decide_eq_false (by omega)
            have hkg2 : decide (0 < k) = false := decide_eq_false (by omega)
            have Hk0 := hid hk0
            clear hprev hz hk0
            go_wp2
            refine wp_name fun V hV => ?_
            have hBV : Below wo.heap.size wo V := by rw [hV]; exact below_alloc _ _
            have q0 : V.cell? ⟨wo.heap.size, 0, none⟩ = some (.int .i64 p.id) := by rw [hV]; simp
            have q1 : V.cell? ⟨wo.heap.size, 1, none⟩ = some (.int .i64 p.base) := by rw [hV]; simp
            have q2 : V.cell? ⟨wo.heap.size, 2, none⟩ = some (.int .i64 p.fin) := by rw [hV]; simp
            have q3 : V.cell? ⟨wo.heap.size, 3, none⟩ = some (.int .i64 p.size) := by rw [hV]; simp
            have q5 : V.cell? ⟨wo.heap.size, 5, none⟩ = some (.int .i64 p.state) := by rw [hV]; simp
            clear hV
            have v1 := cell_below hBV hm1
            have v2 := cell_below hBV hm2
            have rq0 := Later.cell q0
            have rq1 := Later.cell q1
            have rq2 := Later.cell q2
            have rq3 := Later.cell q3
            have rq5 := Later.cell q5
            have rv1 := Later.cell v1
            have rv2 := Later.cell v2
            rcases Bool.eq_false_or_eq_true (decide (p.id < 0)) with t1 | t1
            · have Hx := hid (Hbad.out (by simp at t1; simp [badP]; have := Hl.out; omega))
              refine wp_region_later (by kernel_rfl) (by kernel_rfl) ?_
              repeat (go_big_quiet_step ((go_at_call 69; exact Later.call (in_below _ _ _ (by assumption)))))
              refine wpQuiet_nil ?_
              intro w2 hb2
              go_wp2
              go_ret
              exact ⟨Hx.out, hB.step (hwr.step (hBV.step hb2))⟩
            · skip
              rcases Bool.eq_false_or_eq_true (decide (next ≤ p.id)) with t2 | t2
              · have Hx := hid (Hbad.out (by simp [badP, t2]))
                refine wp_region_later (by kernel_rfl) (by kernel_rfl) ?_
                repeat (go_big_quiet_step ((go_at_call 69; exact Later.call (in_below _ _ _ (by assumption)))))
                refine wpQuiet_nil ?_
                intro w2 hb2
                go_wp2
                go_ret
                exact ⟨Hx.out, hB.step (hwr.step (hBV.step hb2))⟩
              · skip
                rcases Bool.eq_false_or_eq_true (beyond p.base) with t3 | t3
                · have Hx := hid (Hbad.out (by simp [badP, t3]))
                  refine wp_region_later (by kernel_rfl) (by kernel_rfl) ?_
                  repeat (go_big_quiet_step ((go_at_call 69; exact Later.call (in_below _ _ _ (by assumption)))))
                  refine wpQuiet_nil ?_
                  intro w2 hb2
                  go_wp2
                  go_ret
                  exact ⟨Hx.out, hB.step (hwr.step (hBV.step hb2))⟩
                · skip
                  rcases Bool.eq_false_or_eq_true (beyond p.fin) with t4 | t4
                  · have Hx := hid (Hbad.out (by simp [badP, t4]))
                    refine wp_region_later (by kernel_rfl) (by kernel_rfl) ?_
                    repeat (go_big_quiet_step ((go_at_call 69; exact Later.call (in_below _ _ _ (by assumption)))))
                    refine wpQuiet_nil ?_
                    intro w2 hb2
                    go_wp2
                    go_ret
                    exact ⟨Hx.out, hB.step (hwr.step (hBV.step hb2))⟩
                  · skip
                    rcases Bool.eq_false_or_eq_true (beyond p.size) with t5 | t5
                    · have Hx := hid (Hbad.out (by simp [badP, t5]))
                      refine wp_region_later (by kernel_rfl) (by kernel_rfl) ?_
                      repeat (go_big_quiet_step ((go_at_call 69; exact Later.call (in_below _ _ _ (by assumption)))))
                      refine wpQuiet_nil ?_
                      intro w2 hb2
                      go_wp2
                      go_ret
                      exact ⟨Hx.out, hB.step (hwr.step (hBV.step hb2))⟩
                    · skip
                      rcases Bool.eq_false_or_eq_true (decide (p.fin ≤ p.base)) with t6 | t6
                      · have Hx := hid (Hbad.out (by simp [badP, t6]))
                        refine wp_region_later (by kernel_rfl) (by kernel_rfl) ?_
                        repeat (go_big_quiet_step ((go_at_call 69; exact Later.call (in_below _ _ _ (by assumption)))))
                        refine wpQuiet_nil ?_
                        intro w2 hb2
                        go_wp2
                        go_ret
                        exact ⟨Hx.out, hB.step (hwr.step (hBV.step hb2))⟩
                      · skip
                        have t0 : decide (p.id ≤ last) = false := decide_eq_false (by have := of_decide_eq_false t1; omega)
                        have Hgood := hid (show badP next last p = false by simp only [badP, t0, t2, t3, t4, t5, t6, Bool.or_false])
                        clear t0
                        clear Hbad
                        rcases Bool.eq_false_or_eq_true (decide (p.state < 1)) with s1 | s1
                        · have Hx := hid (Hst.out Hgood.out (by simp at s1; omega) (by simp at s1; omega) (by simp at s1; omega))
                          refine wp_region_later (by kernel_rfl) (by kernel_rfl) ?_
                          repeat (go_big_quiet_step ((go_at_call 69; exact Later.call (in_below _ _ _ (by assumption)))))
                          refine wpQuiet_nil ?_
                          intro w2 hb2
                          go_wp2
                          go_ret
                          exact ⟨Hx.out, hB.step (hwr.step (hBV.step hb2))⟩
                        · skip
                          rcases Bool.eq_false_or_eq_true (decide (3 < p.state)) with s2 | s2
                          · have Hx := hid (Hst.out Hgood.out (by simp at s2; omega) (by simp at s2; omega) (by simp at s2; omega))
                            refine wp_region_later (by kernel_rfl) (by kernel_rfl) ?_
                            repeat (go_big_quiet_step ((go_at_call 69; exact Later.call (in_below _ _ _ (by assumption)))))
                            refine wpQuiet_nil ?_
                            intro w2 hb2
                            go_wp2
                            go_ret
                            exact ⟨Hx.out, hB.step (hwr.step (hBV.step hb2))⟩
                          · skip
                            refine wp_region_later (by kernel_rfl) (by kernel_rfl) ?_
                            repeat (go_big_quiet_step ((go_at_call 69; exact Later.call (in_below _ _ _ (by assumption)))))
                            refine wpQuiet_nil ?_
                            intro w2 hb2
                            clear Hst
                            have c1 := cell_below hb2 q1
                            have c2 := cell_below hb2 q2
                            have c5 := cell_below hb2 q5
                            have hE := hwr.step (hBV.step hb2)
                            clear rq0 rq1 rq2 rq3 rq5 rv1 rv2 q0 q1 q2 q3 q5 g1 g2
                            by_cases y3 : p.state = 3
                            · have H := hid (HC.out.trans (chk_going Hgood.out y3))
                              go_wp2
                              go_roundw
                              case rel => exact ⟨k + 1, fin, op, by omega, by go_num, rfl, rfl, by rw [Hls.out]; exact H.out, by rw [Hls.out]; simp at t1; omega, hE⟩
                              case measure => simp [intOf]; omega
                            · by_cases u1 : p.base < fin
                              · have H := hid (show chk next (-1) 0 true ps = false by rw [HC.out, chk_counts Hgood.out (by simp at s1 s2; omega), if_pos (Or.inl u1)])
                                go_wp2
                                go_ret
                                exact ⟨ret_errno (by rw [Hc.out, H.out]; rfl), hB.step hE⟩
                              · cases op
                                · have H := hid (show chk next (-1) 0 true ps = chk next p.id p.fin (decide (p.state = 2)) (ps.drop (k + 1)) by rw [HC.out, chk_counts Hgood.out (by simp at s1 s2; omega), if_neg (by simp [u1])])
                                  have Hd := hid (show (!decide (p.state = 1)) = decide (p.state = 2) by (rw [Bool.eq_iff_iff]; simp at s1 s2; simp; omega))
                                  go_wp2
                                  go_roundw
                                  case rel => exact ⟨k + 1, p.fin, decide (p.state = 1), by omega, by go_num, rfl, rfl, by rw [Hls.out, Hd.out]; exact H.out, by rw [Hls.out]; simp at t1; omega, hE⟩
                                  case measure => simp [intOf]; omega
                                · have H := hid (show chk next (-1) 0 true ps = false by rw [HC.out, chk_counts Hgood.out (by simp at s1 s2; omega), if_pos (show p.base < fin ∨ (!true) = false from Or.inr rfl)])
                                  go_wp2
                                  go_ret
                                  exact ⟨ret_errno (by rw [Hc.out, H.out]; rfl), hB.step hE⟩
          · obtain ⟨j, rfl⟩ : ∃ j, k = j + 1 := ⟨k - 1, by omega⟩
            obtain ⟨q, qp0, hq⟩ := hprev j rfl
            clear hprev hz
            go_wp2
            refine wp_name fun V hV => ?_
            have hBV : Below wo.heap.size wo V := by rw [hV]; exact below_alloc _ _
            have q0 : V.cell? ⟨wo.heap.size, 0, none⟩ = some (.int .i64 p.id) := by rw [hV]; simp
            have q1 : V.cell? ⟨wo.heap.size, 1, none⟩ = some (.int .i64 p.base) := by rw [hV]; simp
            have q2 : V.cell? ⟨wo.heap.size, 2, none⟩ = some (.int .i64 p.fin) := by rw [hV]; simp
            have q3 : V.cell? ⟨wo.heap.size, 3, none⟩ = some (.int .i64 p.size) := by rw [hV]; simp
            have q5 : V.cell? ⟨wo.heap.size, 5, none⟩ = some (.int .i64 p.state) := by rw [hV]; simp
            clear hV
            have v1 := cell_below hBV hm1
            have v2 := cell_below hBV hm2
            have qp := cell_below hBV qp0
            have rqp := Later.cell qp
            have rq0 := Later.cell q0
            have rq1 := Later.cell q1
            have rq2 := Later.cell q2
            have rq3 := Later.cell q3
            have rq5 := Later.cell q5
            have rv1 := Later.cell v1
            have rv2 := Later.cell v2
            rcases Bool.eq_false_or_eq_true (decide (p.id < 0)) with t1 | t1
            · have Hx := hid (Hbad.out (by simp at t1; simp [badP]; have := Hl.out; omega))
              refine wp_region_later (by kernel_rfl) (by kernel_rfl) ?_
              repeat (go_big_quiet_step ((go_at_call 69; exact Later.call (in_below _ _ _ (by assumption)))))
              refine wpQuiet_nil ?_
              intro w2 hb2
              go_wp2
              go_ret
              exact ⟨Hx.out, hB.step (hwr.step (hBV.step hb2))⟩
            · skip
              rcases Bool.eq_false_or_eq_true (decide (next ≤ p.id)) with t2 | t2
              · have Hx := hid (Hbad.out (by simp [badP, t2]))
                refine wp_region_later (by kernel_rfl) (by kernel_rfl) ?_
                repeat (go_big_quiet_step ((go_at_call 69; exact Later.call (in_below _ _ _ (by assumption)))))
                refine wpQuiet_nil ?_
                intro w2 hb2
                go_wp2
                go_ret
                exact ⟨Hx.out, hB.step (hwr.step (hBV.step hb2))⟩
              · skip
                rcases Bool.eq_false_or_eq_true (decide (p.id ≤ q.id)) with tp | tp
                · have Hx := hid (Hbad.out (by have h9 : decide (p.id ≤ last) = true := (by rw [hq]; exact tp); simp only [badP, h9, Bool.true_or]))
                  refine wp_region_later (by kernel_rfl) (by kernel_rfl) ?_
                  repeat (go_big_quiet_step ((go_at_call 69; exact Later.call (in_below _ _ _ (by assumption)))))
                  refine wpQuiet_nil ?_
                  intro w2 hb2
                  go_wp2
                  go_ret
                  exact ⟨Hx.out, hB.step (hwr.step (hBV.step hb2))⟩
                · skip
                  rcases Bool.eq_false_or_eq_true (beyond p.base) with t3 | t3
                  · have Hx := hid (Hbad.out (by simp [badP, t3]))
                    refine wp_region_later (by kernel_rfl) (by kernel_rfl) ?_
                    repeat (go_big_quiet_step ((go_at_call 69; exact Later.call (in_below _ _ _ (by assumption)))))
                    refine wpQuiet_nil ?_
                    intro w2 hb2
                    go_wp2
                    go_ret
                    exact ⟨Hx.out, hB.step (hwr.step (hBV.step hb2))⟩
                  · skip
                    rcases Bool.eq_false_or_eq_true (beyond p.fin) with t4 | t4
                    · have Hx := hid (Hbad.out (by simp [badP, t4]))
                      refine wp_region_later (by kernel_rfl) (by kernel_rfl) ?_
                      repeat (go_big_quiet_step ((go_at_call 69; exact Later.call (in_below _ _ _ (by assumption)))))
                      refine wpQuiet_nil ?_
                      intro w2 hb2
                      go_wp2
                      go_ret
                      exact ⟨Hx.out, hB.step (hwr.step (hBV.step hb2))⟩
                    · skip
                      rcases Bool.eq_false_or_eq_true (beyond p.size) with t5 | t5
                      · have Hx := hid (Hbad.out (by simp [badP, t5]))
                        refine wp_region_later (by kernel_rfl) (by kernel_rfl) ?_
                        repeat (go_big_quiet_step ((go_at_call 69; exact Later.call (in_below _ _ _ (by assumption)))))
                        refine wpQuiet_nil ?_
                        intro w2 hb2
                        go_wp2
                        go_ret
                        exact ⟨Hx.out, hB.step (hwr.step (hBV.step hb2))⟩
                      · skip
                        rcases Bool.eq_false_or_eq_true (decide (p.fin ≤ p.base)) with t6 | t6
                        · have Hx := hid (Hbad.out (by simp [badP, t6]))
                          refine wp_region_later (by kernel_rfl) (by kernel_rfl) ?_
                          repeat (go_big_quiet_step ((go_at_call 69; exact Later.call (in_below _ _ _ (by assumption)))))
                          refine wpQuiet_nil ?_
                          intro w2 hb2
                          go_wp2
                          go_ret
                          exact ⟨Hx.out, hB.step (hwr.step (hBV.step hb2))⟩
                        · skip
                          have t0 : decide (p.id ≤ last) = false := by rw [hq]; exact tp
                          have Hgood := hid (show badP next last p = false by simp only [badP, t0, t2, t3, t4, t5, t6, Bool.or_false])
                          clear t0
                          clear Hbad
                          rcases Bool.eq_false_or_eq_true (decide (p.state < 1)) with s1 | s1
                          · have Hx := hid (Hst.out Hgood.out (by simp at s1; omega) (by simp at s1; omega) (by simp at s1; omega))
                            refine wp_region_later (by kernel_rfl) (by kernel_rfl) ?_
                            repeat (go_big_quiet_step ((go_at_call 69; exact Later.call (in_below _ _ _ (by assumption)))))
                            refine wpQuiet_nil ?_
                            intro w2 hb2
                            go_wp2
                            go_ret
                            exact ⟨Hx.out, hB.step (hwr.step (hBV.step hb2))⟩
                          · skip
                            rcases Bool.eq_false_or_eq_true (decide (3 < p.state)) with s2 | s2
                            · have Hx := hid (Hst.out Hgood.out (by simp at s2; omega) (by simp at s2; omega) (by simp at s2; omega))
                              refine wp_region_later (by kernel_rfl) (by kernel_rfl) ?_
                              repeat (go_big_quiet_step ((go_at_call 69; exact Later.call (in_below _ _ _ (by assumption)))))
                              refine wpQuiet_nil ?_
                              intro w2 hb2
                              go_wp2
                              go_ret
                              exact ⟨Hx.out, hB.step (hwr.step (hBV.step hb2))⟩
                            · skip
                              refine wp_region_later (by kernel_rfl) (by kernel_rfl) ?_
                              repeat (go_big_quiet_step ((go_at_call 69; exact Later.call (in_below _ _ _ (by assumption)))))
                              refine wpQuiet_nil ?_
                              intro w2 hb2
                              clear Hst
                              have c1 := cell_below hb2 q1
                              have c2 := cell_below hb2 q2
                              have c5 := cell_below hb2 q5
                              have hE := hwr.step (hBV.step hb2)
                              clear rq0 rq1 rq2 rq3 rq5 rv1 rv2 q0 q1 q2 q3 q5 g1 g2 rqp qp
                              by_cases y3 : p.state = 3
                              · have H := hid (HC.out.trans (chk_going Hgood.out y3))
                                go_wp2
                                go_roundw
                                case rel => exact ⟨j + 1 + 1, fin, op, by omega, by go_num, rfl, rfl, by rw [Hls.out]; exact H.out, by rw [Hls.out]; simp at t1; omega, hE⟩
                                case measure => simp [intOf]; omega
                              · by_cases u1 : p.base < fin
                                · have H := hid (show chk next (-1) 0 true ps = false by rw [HC.out, chk_counts Hgood.out (by simp at s1 s2; omega), if_pos (Or.inl u1)])
                                  go_wp2
                                  go_ret
                                  exact ⟨ret_errno (by rw [Hc.out, H.out]; rfl), hB.step hE⟩
                                · cases op
                                  · have H := hid (show chk next (-1) 0 true ps = chk next p.id p.fin (decide (p.state = 2)) (ps.drop (j + 1 + 1)) by rw [HC.out, chk_counts Hgood.out (by simp at s1 s2; omega), if_neg (by simp [u1])])
                                    have Hd := hid (show (!decide (p.state = 1)) = decide (p.state = 2) by (rw [Bool.eq_iff_iff]; simp at s1 s2; simp; omega))
                                    go_wp2
                                    go_roundw
                                    case rel => exact ⟨j + 1 + 1, p.fin, decide (p.state = 1), by omega, by go_num, rfl, rfl, by rw [Hls.out, Hd.out]; exact H.out, by rw [Hls.out]; simp at t1; omega, hE⟩
                                    case measure => simp [intOf]; omega
                                  · have H := hid (show chk next (-1) 0 true ps = false by rw [HC.out, chk_counts Hgood.out (by simp at s1 s2; omega), if_pos (show p.base < fin ∨ (!true) = false from Or.inr rfl)])
                                    go_wp2
                                    go_ret
                                    exact ⟨ret_errno (by rw [Hc.out, H.out]; rfl), hB.step hE⟩
        · have hke : k = ps.length := by omega
          have HC := hid (show chk next (-1) 0 true ps = true by rw [hc, hke, List.drop_length]; rfl)
          clear hc
          have Hke := hid hke; clear hke
          by_cases hb : 256 < ps.length
          · go_wp2
            go_ret
            exact ⟨ret_errno (by rw [Hc.out, HC.out, if_pos hb]; rfl), hB.step hwr⟩
          · go_wp2
            go_ret
            exact ⟨ret_errno (by rw [Hc.out, HC.out, if_neg hb]; rfl), hB.step hwr⟩
end Go.Proofs.YtcpecponmaakoaaGreatDoor
