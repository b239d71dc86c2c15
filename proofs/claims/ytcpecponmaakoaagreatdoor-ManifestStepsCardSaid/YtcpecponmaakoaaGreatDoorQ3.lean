/- Walks: the reference's step, Done, Drop, Left. -/
import Derived.Test.YtcpecponmaakoaaGreatDoorQ1
import Derived.Test.YtcpecponmaakoaaGreatDoorQ2
namespace Go.Proofs.YtcpecponmaakoaaGreatDoor
open Go.RowKit Go.Wm
theorem find_id {ver next id : Int} {ps : List Piece} (h : checkM ver next ps = 0) {k : Nat} (hk : k < ps.length) (he : ps[k].id = id) : ps.findIdx? (idIs id) = some k := by
  cases hf : ps.findIdx? (idIs id) with
  | none =>
    rw [List.findIdx?_eq_none_iff] at hf
    have := hf _ (List.getElem_mem hk)
    simp [idIs, he] at this
  | some i =>
    rw [List.findIdx?_eq_some_iff_getElem] at hf
    obtain ⟨hi, hp, _⟩ := hf
    have hid : ps[i].id = id := by simpa [idIs] using hp
    rw [id_alone h hi hk (by rw [hid, he])]
/-- Which place the reference's search has found behind k places. -/
def atR (ps : List Piece) (id what : Int) (k : Nat) : Int := match ps.findIdx? (idIs id) with | some i => if i < k ∧ mayR ps i what = true then (i : Int) else -1 | none => -1
theorem atR_other {ps : List Piece} {id what : Int} {k : Nat} (hk : k < ps.length) (he : ps[k].id ≠ id) : atR ps id what (k + 1) = atR ps id what k := by
  unfold atR
  cases hf : ps.findIdx? (idIs id) with
  | none => rfl
  | some i =>
    rw [List.findIdx?_eq_some_iff_getElem] at hf
    obtain ⟨hi, hp, _⟩ := hf
    have hne : i ≠ k := by
      intro h
      subst h
      exact he (by simpa [idIs] using hp)
    simp only
    by_cases h1 : i < k ∧ mayR ps i what = true
    · rw [if_pos h1, if_pos ⟨by omega, h1.2⟩]
    · rw [if_neg h1, if_neg (fun h => h1 ⟨by omega, h.2⟩)]
theorem atR_hit {ps : List Piece} {id what : Int} {k : Nat} (hf : ps.findIdx? (idIs id) = some k) (hm : mayR ps k what = true) : atR ps id what (k + 1) = k := by
  unfold atR
  rw [hf]
  simp only
  rw [if_pos ⟨by omega, hm⟩]
theorem atR_miss {ps : List Piece} {id what : Int} {k : Nat} (hf : ps.findIdx? (idIs id) = some k) (hm : mayR ps k what = false) (j : Nat) : atR ps id what j = -1 := by
  unfold atR
  rw [hf]
  simp only
  rw [if_neg (by rw [hm]; simp)]
/-- What the reference has put down behind k places. -/
def outK (ps : List Piece) (i : Nat) (p0 : Piece) (what : Int) (k : Nat) : List Piece := if what = 3 then (ps.take k).eraseIdx i else (ps.take k).set i (setState p0 (what + 1))
theorem outK_other {ps : List Piece} {i k : Nat} {p0 : Piece} {what : Int} (hk : k < ps.length) (hne : k ≠ i) : outK ps i p0 what (k + 1) = outK ps i p0 what k ++ [ps[k]] := by
  have hl : (ps.take k).length = k := by rw [List.length_take]; omega
  unfold outK
  rw [List.take_succ_eq_append_getElem hk]
  by_cases h3 : what = 3
  · rw [if_pos h3, if_pos h3]
    rcases Nat.lt_or_ge i k with h | h
    · rw [List.eraseIdx_append_of_lt_length (by omega)]
    · rw [List.eraseIdx_of_length_le (by simp; omega), List.eraseIdx_of_length_le (by omega)]
  · rw [if_neg h3, if_neg h3]
    rcases Nat.lt_or_ge i k with h | h
    · rw [List.set_append_left _ _ (by omega)]
    · rw [List.set_eq_of_length_le (by simp; omega), List.set_eq_of_length_le (by omega)]
theorem outK_gone {ps : List Piece} {k : Nat} {p0 : Piece} (hk : k < ps.length) : outK ps k p0 3 (k + 1) = outK ps k p0 3 k := by
  have hl : (ps.take k).length = k := by rw [List.length_take]; omega
  unfold outK
  rw [List.take_succ_eq_append_getElem hk, if_pos rfl, if_pos rfl, List.eraseIdx_append_of_length_le (by omega), hl, List.eraseIdx_of_length_le (l := ps.take k) (by omega), Nat.sub_self]
  simp
theorem outK_new {ps : List Piece} {k : Nat} {p0 : Piece} {what : Int} (hk : k < ps.length) (h3 : what ≠ 3) : outK ps k p0 what (k + 1) = outK ps k p0 what k ++ [setState p0 (what + 1)] := by
  have hl : (ps.take k).length = k := by rw [List.length_take]; omega
  unfold outK
  rw [List.take_succ_eq_append_getElem hk, if_neg h3, if_neg h3, List.set_append_right _ _ (by omega), hl, Nat.sub_self, List.set_eq_of_length_le (l := ps.take k) (by omega)]
  rfl
theorem outK_length (ps : List Piece) (i : Nat) (p0 : Piece) (what : Int) (k : Nat) : (outK ps i p0 what k).length ≤ ps.length := by
  unfold outK
  split
  · rw [List.length_eraseIdx, List.length_take]
    split <;> omega
  · rw [List.length_set, List.length_take]
    omega
theorem row6_set5 {w : World} {R : Nat} {x0 x1 x2 x3 x4 x5 y : Value} {t : TypeId} (h : w.heap[R]? = some (.cells #[x0, x1, x2, x3, x4, x5] t (0, 0))) :
    (w.setCell ⟨R, 5, none⟩ y).heap[R]? = some (.cells #[x0, x1, x2, x3, x4, y] t (0, 0)) := by
  have h1 := heap_setCell_same w R 5 _ t y h
  simpa using h1
set_option maxHeartbeats 4000000 in
set_option maxRecDepth 100000 in
theorem refStep_any (ver next id what : Int) (may : Nat → Bool) (ps : List Piece) (v : Value) (w : World) (hv : PcsAt w v ps) (hw1 : 1 ≤ what) (hw3 : what ≤ 3)
    (hmay : ∀ i, i < ps.length → mayR ps i what = (tbl.any (isPair (ps.getD i zeroP).state (what + 1)) && may i)) :
    Calls Tryz.prog 72 #[.agg #[.int .i64 ver, .int .i64 next, v], .int .i64 id, .int .i64 what] w fun e w' => ∃ u, e = .returned (.tuple #[.agg #[.int .i64 (stepM ver next ps id (what + 1) may).1.1, .int .i64 (stepM ver next ps id (what + 1) may).1.2.1, u], .int .i64 (stepM ver next ps id (what + 1) may).2]) ∧ OwnPcs w' w.heap.size u (stepM ver next ps id (what + 1) may).1.2.2 ∧ Below w.heap.size w w' := by
  have K := hid (fun W (h : Below w.heap.size w W) => refCheck_any ver next ps v W (hv.mono h))
  have MY := hid (fun i (hi : i < ps.length) W (h : Below w.heap.size w W) => may_any ver next what i ps v W (hv.mono h) hi)
  obtain ⟨a, cap, rfl, hn, hs0⟩ := hv
  have HPS := hid hs0
  have hb0 := (below_alloc w (.cells #[.int .i64 ver, .int .i64 next, .slice a ps.length cap] 24)).step (below_alloc _ (.cells #[.int .i64 0, .int .i64 0, .slice none 0 0] 24))
  clear hs0
  by_cases hck : checkM ver next ps = 0
  · have Hck := hid (checkM_ok hck)
    have FIND := hid (fun k (hk : k < ps.length) (he : ps[k].id = id) => find_id hck hk he)
    have Hm := hid (show stepM ver next ps id (what + 1) may = _ from by rw [stepM, if_neg (by simp [hck])])
    rw [hck] at K
    clear hck
    go_enter Tryz.func72, Tryz.ntmps72
    go_wp2_with fail
    refine (K.out _ hb0).mono ?_
    rintro e w1 ⟨rfl, hb1⟩
    have hM1 : w1.heap[w.heap.size]? = some (.cells #[.int .i64 ver, .int .i64 next, .slice a ps.length cap] 24 (0, 0)) := blk_below (blk_below (heap_alloc_new w _) (below_alloc _ _)) hb1
    have hR1 : w1.heap[w.heap.size + 1]? = some (.cells #[.int .i64 0, .int .i64 0, .slice none 0 0] 24 (0, 0)) := blk_new hb1 (by simp)
    have hbw1 := hb0.step hb1
    have hs1 : w.heap.size + 2 ≤ w1.heap.size := by have := hb1.size; simpa using this
    have HM1 := hid hM1
    have HR1 := hid hR1
    clear hb1 hb0 K hM1 hR1
    go_wp2_with fail
    go_loopw [9, 10] (fun t i wr => ∃ k : Nat, i = .int .i64 k ∧ k ≤ ps.length ∧ t = .int .i64 (atR ps id what k) ∧ Below w1.heap.size w1 wr) (fun _ i _ => ps.length - (intOf i).toNat)
    case atStart =>
      refine ⟨0, rfl, by omega, ?_, Below.refl _ _⟩
      have : atR ps id what 0 = -1 := by unfold atR; split <;> simp
      rw [this]
    case round =>
      obtain ⟨k, rfl, hk, rfl, hwr⟩ := hrel
      have hbwr := hbw1.step hwr
      obtain ⟨m0, m1, m2, mf⟩ := row3 (blk_below HM1.out hwr)
      by_cases hlt : k < ps.length
      · obtain ⟨b, o, rfl, hx⟩ := HPS.out k hlt
        obtain ⟨e0, e1, e2, e3, e4, e5⟩ := ((hx _ (List.getElem?_eq_getElem hlt)).mono hbw1).mono hwr
        clear hx
        obtain ⟨p, hp⟩ : ∃ p, p = ps[k] := ⟨_, rfl⟩
        rw [← hp] at e0 e1 e2 e3 e4 e5
        have Hp := hid hp
        clear hp
        by_cases hid1 : p.id = id
        · have hf := FIND.out k hlt (by rw [← Hp.out]; exact hid1)
          have h1 : (p.id == id) = true := by simp [hid1]
          have T := MY.out k hlt wr hbwr
          cases hmm : mayR ps k what
          · have HA := hid (atR_miss hf hmm)
            rw [hmm] at T
            have T := hid T
            clear hmm hf hid1
            go_wp2_with fail
            refine T.out.mono ?_
            rintro e w2 ⟨rfl, hb2⟩
            go_wp2_with fail
            go_roundw
            case rel => exact ⟨k + 1, by go_num, by omega, by rw [HA.out, HA.out], hwr.step hb2⟩
            case measure => simp [intOf]; omega
          · have HA := hid (atR_hit hf hmm)
            rw [hmm] at T
            have T := hid T
            clear hmm hf hid1
            go_wp2_with fail
            refine T.out.mono ?_
            rintro e w2 ⟨rfl, hb2⟩
            go_wp2_with fail
            go_roundw
            case rel => exact ⟨k + 1, by go_num, by omega, by rw [HA.out], hwr.step hb2⟩
            case measure => simp [intOf]; omega
        · have HA := hid (atR_other (what := what) hlt (by rw [← Hp.out]; exact hid1))
          have h1 : (p.id == id) = false := by simp [hid1]
          clear hid1
          go_wp2
          go_roundw
          case rel => exact ⟨k + 1, by go_num, by omega, by rw [HA.out], hwr⟩
          case measure => simp [intOf]; omega
      · have hke : k = ps.length := by omega
        have HK := hid hke
        have hR := blk_below HR1.out hwr
        by_cases hno : ∃ i, ps.findIdx? (idIs id) = some i ∧ mayR ps i what = true
        · obtain ⟨i, hfi, hmi⟩ := hno
          have hil : i < ps.length := by
            rw [List.findIdx?_eq_some_iff_getElem] at hfi
            exact hfi.1
          have hat : atR ps id what k = (i : Int) := by
            unfold atR
            rw [hfi]
            simp only
            rw [if_pos ⟨by omega, hmi⟩]
          rw [hat]
          have hgd : ps.getD i zeroP = ps[i] := by simp [List.getD, hil]
          have Hm := hid (show stepM ver next ps id (what + 1) may = if ver = 1099511627776 then ((0, 0, []), 2) else ((ver + 1, next, outK ps i ps[i] what ps.length), 0) by
            rw [Hm.out, hfi]
            simp only
            rw [← hmay i hil, hmi, if_neg (by simp)]
            congr 2
            unfold outK
            rw [List.take_length, hgd]
            by_cases h3 : what = 3
            · rw [if_pos h3, if_pos (by omega)]
            · rw [if_neg h3, if_neg (by omega)])
          obtain ⟨p0, hp0⟩ : ∃ p0, p0 = ps[i] := ⟨_, rfl⟩
          rw [← hp0] at Hm
          have Hp0 := hid hp0
          clear hat hgd hfi hmi hke hp0
          by_cases hv40 : ver = 1099511627776
          · have Hm := hid (show stepM ver next ps id (what + 1) may = ((0, 0, []), 2) by rw [Hm.out, if_pos hv40])
            have h40 : (ver == 1099511627776) = true := by simp [hv40]
            clear hv40
            obtain ⟨r0, r1, r2, rf⟩ := row3 hR
            go_wp2_with fail
            exact bodyPost_ret (v := .tuple #[.agg #[.int .i64 0, .int .i64 0, .slice none 0 0], .int .i64 2]) (by simp [results, Tryz.results72, go_sem, r0, r1, r2]) rfl ⟨_, by rw [Hm.out], by rw [Hm.out]; exact OwnPcs.nil _ _, below_setCell3 hbwr (by omega) _ _ _⟩
          · have Hm := hid (show stepM ver next ps id (what + 1) may = ((ver + 1, next, outK ps i p0 what ps.length), 0) by rw [Hm.out, if_neg hv40])
            obtain ⟨⟨v0, v1⟩, _⟩ := Hck.out
            have h40 : (ver == 1099511627776) = false := by simp [hv40]
            have HR2 := hid hR
            have HM2 := hid (blk_below HM1.out hwr)
            have hsr : w1.heap.size ≤ wr.heap.size := hwr.size
            clear hR mf
            go_wp2_with fail
            obtain ⟨wo, hwo⟩ : ∃ wo : World, wo = wr := ⟨_, rfl⟩
            rw [← hwo] at hwr hbwr HR2 HM2 hsr m0 m1 m2 ⊢
            clear hwo m0 m1 m2
            go_loopw [11, 12] (fun u j wr => ∃ k : Nat, j = .int .i64 k ∧ k ≤ ps.length ∧ OwnPcs wr wo.heap.size u (outK ps i p0 what k) ∧ Below wo.heap.size wo wr) (fun _ j _ => ps.length - (intOf j).toNat)
            case atStart => exact ⟨0, rfl, by omega, by have : outK ps i p0 what 0 = [] := (by unfold outK; simp); rw [this]; exact OwnPcs.nil _ _, Below.refl _ _⟩
            case round =>
              obtain ⟨j, rfl, hj, hu, hwr2⟩ := hrel
              have HU := hid hu
              clear hu
              by_cases hjl : j < ps.length
              · have hlen : (outK ps i p0 what j).length ≤ 1000000 := Nat.le_trans (outK_length ps i p0 what j) hn
                obtain ⟨b, o, rfl, hx⟩ := HPS.out j hjl
                obtain ⟨e0, e1, e2, e3, e4, e5⟩ := (hx _ (List.getElem?_eq_getElem hjl)).mono (hbwr.step hwr2)
                obtain ⟨p, hp⟩ : ∃ p, p = ps[j] := ⟨_, rfl⟩
                rw [← hp] at e0 e1 e2 e3 e4 e5
                have Hp := hid hp
                clear hx hp
                obtain ⟨m0, m1, m2, mf⟩ := row3 (blk_below HM2.out hwr2)
                go_upto_region 19 with fail
                refine wp_name fun W hW => ?_
                have hP : W.heap[wr.heap.size]? = some (.cells #[.int .i64 p.id, .int .i64 p.base, .int .i64 p.fin, .int .i64 p.size, .int .u32 p.sum, .int .i64 p.state] 29 (0, 0)) := by rw [hW]; exact heap_alloc_new wr _
                have hbW : Below wr.heap.size wr W := by rw [hW]; exact below_alloc _ _
                have hwW : wr.heap.size < W.heap.size := by rw [hW, size_alloc]; omega
                obtain ⟨bp, hbp⟩ : ∃ bp, bp = wr.heap.size := ⟨_, rfl⟩
                rw [← hbp] at hP ⊢
                have Hbp := hid hbp
                clear hbp
                clear hW m0 m1 m2 mf e0 e1 e2 e3 e4 e5
                obtain ⟨y0, y1, y2, y3, y4, y5, yf⟩ := row6 hP
                by_cases hji : j = i
                · have hq : ((j : Int) == (i : Int)) = true := by simp [hji]
                  have hq2 : ((j : Int) != (i : Int)) = false := by simp [hji]
                  have hp0e : p0 = p := by
                    rw [Hp.out, Hp0.out]
                    congr 1
                    exact hji.symm
                  have hP5 := row6_set5 (y := .int .i64 (what + 1)) hP
                  have hb5 : Below wr.heap.size wr (W.setCell ⟨bp, 5, none⟩ (.int .i64 (what + 1))) := hbW.setCell (p := ⟨bp, 5, none⟩) (by rw [Hbp.out]; exact Nat.le_refl _) _
                  by_cases h3 : what = 3
                  · have NX := hid (show outK ps i p0 what (j + 1) = outK ps i p0 what j by subst hji; subst h3; exact outK_gone hjl)
                    have h3' : ¬ (what < 3) := by omega
                    clear hji hp0e h3
                    go_wp2
                    go_roundw
                    case rel => exact ⟨j + 1, by go_num, by omega, by rw [NX.out]; exact OwnPcs.below HU.out hb5, hwr2.step hb5⟩
                    case measure => simp [intOf]; omega
                  · have NX := hid (show outK ps i p0 what (j + 1) = outK ps i p0 what j ++ [⟨p.id, p.base, p.fin, p.size, p.sum, what + 1⟩] by subst hji; rw [outK_new hjl h3, hp0e]; rfl)
                    have h3' : what < 3 := by omega
                    clear hji hp0e h3
                    go_upto_region 22 with fail
                    refine wp_name fun W5 hW5 => ?_
                    rw [← hW5] at hP5 hb5
                    clear hW5 hP y0 y1 y2 y3 y4 y5 yf
                    obtain ⟨q0, q1, q2, q3, q4, q5, qf⟩ := row6 hP5
                    go_wp2_with (at_builtin; refine wpList_append_pcs rfl (.tmp 74) (.tmp 76) rfl Tryz.underlying22 Tryz.inf29 wo.heap.size _ _ _ [⟨p.id, p.base, p.fin, p.size, p.sum, what + 1⟩] rfl (OwnPcs.below HU.out (hb5.step (below_alloc _ _))) rfl (piece_new W5 ⟨p.id, p.base, p.fin, p.size, p.sum, what + 1⟩) hlen ((hwr2.step hb5).step (below_alloc _ _)).size ?_; intro v7 w7 ho7 hb7 hg7)
                    go_roundw
                    case rel => exact ⟨j + 1, by go_num, by omega, by rw [NX.out]; exact ho7, ((hwr2.step hb5).step (below_alloc _ _)).trans hb7⟩
                    case measure => simp [intOf]; omega
                · have hq : ((j : Int) == (i : Int)) = false := by rw [beq_eq_false_iff_ne]; omega
                  have hq2 : ((j : Int) != (i : Int)) = true := by rw [bne_iff_ne]; omega
                  have NX := hid (show outK ps i p0 what (j + 1) = outK ps i p0 what j ++ [p] by rw [outK_other hjl hji, Hp.out])
                  clear hji
                  obtain ⟨q0, q1, q2, q3, q4, q5, qf⟩ := row6 hP
                  go_wp2_with (at_builtin; refine wpList_append_pcs rfl (.tmp 74) (.tmp 76) rfl Tryz.underlying22 Tryz.inf29 wo.heap.size _ _ _ [p] rfl (OwnPcs.below HU.out (hbW.step (below_alloc _ _))) rfl (piece_new W p) hlen ((hwr2.step hbW).step (below_alloc _ _)).size ?_; intro v7 w7 ho7 hb7 hg7)
                  go_roundw
                  case rel => exact ⟨j + 1, by go_num, by omega, by rw [NX.out]; exact ho7, ((hwr2.step hbW).step (below_alloc _ _)).trans hb7⟩
                  case measure => simp [intOf]; omega
              · have hje : j = ps.length := by omega
                have HO := hid (show OwnPcs wr wo.heap.size u11 (outK ps i p0 what ps.length) by have := HU.out; rw [hje] at this; exact this)
                obtain ⟨L, hL⟩ : ∃ L, L = outK ps i p0 what ps.length := ⟨_, rfl⟩
                rw [← hL] at HO Hm
                obtain ⟨a3, c3, hu3⟩ := OwnPcs.form HO.out
                obtain ⟨ql, hql⟩ : ∃ ql, ql = L.length := ⟨_, rfl⟩
                rw [← hql] at hu3
                subst hu3
                clear hje hL hql HU
                obtain ⟨m0, m1, m2, mf⟩ := row3 (blk_below HM2.out hwr2)
                obtain ⟨r0, r1, r2, rf⟩ := row3 (blk_below HR2.out hwr2)
                have hbw3 := hbwr.step hwr2
                have hR7 := row3_set (x' := .int .i64 (ver + 1)) (y' := .int .i64 next) (z' := .slice a3 ql c3) (blk_below HR2.out hwr2)
                obtain ⟨z0, z1, z2, zf⟩ := row3 hR7
                go_wp2_with fail
                have HB8 := hid (below_setCell3 hbw3 (R := w.heap.size + 1) (by omega) (.int .i64 (ver + 1)) (.int .i64 next) (.slice a3 ql c3))
                have HO8 := hid (OwnPcs.base (OwnPcs.setCell3 HO.out (R := w.heap.size + 1) (x := .int .i64 (ver + 1)) (y := .int .i64 next) (z := .slice a3 ql c3) (by omega)) (show w.heap.size ≤ wo.heap.size by omega))
                exact bodyPost_ret (v := .tuple #[.agg #[.int .i64 (ver + 1), .int .i64 next, .slice a3 ql c3], .int .i64 0]) (by simp [results, Tryz.results72, go_sem, z0, z1, z2]) rfl ⟨_, by rw [Hm.out], by rw [Hm.out]; exact HO8.out, HB8.out⟩
        · have Hm := hid (show stepM ver next ps id (what + 1) may = ((0, 0, []), 150) by
            rw [Hm.out]
            cases hf : ps.findIdx? (idIs id) with
            | none => rfl
            | some i =>
              simp only
              have hil : i < ps.length := by
                rw [List.findIdx?_eq_some_iff_getElem] at hf
                exact hf.1
              rw [← hmay i hil, if_pos]
              rcases Bool.eq_false_or_eq_true (mayR ps i what) with h | h
              · exact absurd ⟨i, hf, h⟩ hno
              · exact h)
          have hat : atR ps id what k = -1 := by
            unfold atR
            split
            · rename_i i hf
              rw [if_neg]
              rintro ⟨_, h⟩
              exact hno ⟨i, hf, h⟩
            · rfl
          rw [hat]
          clear hat hno hke
          obtain ⟨r0, r1, r2, rf⟩ := row3 hR
          go_wp2_with fail
          exact bodyPost_ret (v := .tuple #[.agg #[.int .i64 0, .int .i64 0, .slice none 0 0], .int .i64 150]) (by simp [results, Tryz.results72, go_sem, r0, r1, r2]) rfl ⟨_, by rw [Hm.out], by rw [Hm.out]; exact OwnPcs.nil _ _, below_setCell3 hbwr (by omega) _ _ _⟩
  · have Hm := hid (show stepM ver next ps id (what + 1) may = ((0, 0, []), checkM ver next ps) by rw [stepM, if_pos hck])
    have hcb : (checkM ver next ps != 0) = true := by simpa using hck
    generalize checkM ver next ps = ce at *
    clear hck HPS MY hmay
    go_enter Tryz.func72, Tryz.ntmps72
    go_wp2_with fail
    refine (K.out _ hb0).mono ?_
    rintro e w1 ⟨rfl, hb1⟩
    have hR : w1.heap[w.heap.size + 1]? = some (.cells #[.int .i64 0, .int .i64 0, .slice none 0 0] 24 (0, 0)) := blk_new hb1 (by simp)
    have hbw := hb0.step hb1
    obtain ⟨r0, r1, r2, rf⟩ := row3 hR
    clear hb1 hb0 K
    go_wp2_with fail
    exact bodyPost_ret (v := .tuple #[.agg #[.int .i64 0, .int .i64 0, .slice none 0 0], .int .i64 ce]) (by simp [results, Tryz.results72, go_sem, r0, r1, r2]) rfl ⟨_, by rw [Hm.out], by rw [Hm.out]; exact OwnPcs.nil _ _, below_setCell3 hbw (by omega) _ _ _⟩
end Go.Proofs.YtcpecponmaakoaaGreatDoor
