/- Walk: the reference's Begin. -/
import Derived.Test.YtcpecponmaakoaaGreatDoorH2
import Derived.Test.YtcpecponmaakoaaGreatDoorW2
import Derived.Test.YtcpecponmaakoaaGreatDoorM6
namespace Go.Proofs.YtcpecponmaakoaaGreatDoor
open Go.RowKit Go.Wm
theorem spanP_step (ps : List Piece) (k : Nat) (h : k < ps.length) (hs : ps[k].state = 2) : (spanP (ps.take (k + 1))).2 = ps[k].fin := by
  unfold spanP
  rw [pieces_step ps k h hs, spanL_snoc]
theorem spanP_skip (ps : List Piece) (k : Nat) (h : k < ps.length) (hs : ps[k].state ≠ 2) : (spanP (ps.take (k + 1))).2 = (spanP (ps.take k)).2 := by
  unfold spanP
  rw [pieces_skip ps k h hs]
theorem piece_new (w : World) (p : Piece) : PcsAt (w.alloc (.cells #[.int .i64 p.id, .int .i64 p.base, .int .i64 p.fin, .int .i64 p.size, .int .u32 p.sum, .int .i64 p.state] 29)) (.slice (some ⟨w.heap.size, 0, none⟩) 1 1) [p] := by
  refine ⟨_, 1, rfl, by simp, fun k hk => ⟨w.heap.size, 0, rfl, fun q hq => ?_⟩⟩
  have hk0 : k = 0 := by simpa using hk
  subst hk0
  cases hq
  obtain ⟨h0, h1, h2, h3, h4, h5⟩ := pieceAt_of_row (heap_alloc_new w (.cells p.cells.toArray 29))
  exact ⟨h0, h1, h2, h3, h4, h5⟩
theorem noBusy (ps : List Piece) (h : ∀ j (hj : j < ps.length), stIs 1 ps[j] = false) : ps.any (stIs 1) = false := by
  rw [List.any_eq_false]
  intro q hq
  obtain ⟨j, hj, rfl⟩ := List.getElem_of_mem hq
  rw [h j hj]
  simp
set_option maxHeartbeats 4000000 in
set_option maxRecDepth 100000 in
theorem refBegin_any (ver next base fin size sum : Int) (ps : List Piece) (v : Value) (w : World) (hv : PcsAt w v ps) :
    Calls Tryz.prog 29 #[.agg #[.int .i64 ver, .int .i64 next, v], .int .i64 base, .int .i64 fin, .int .i64 size, .int .u32 sum] w fun e w' => ∃ u, e = .returned (.tuple #[.agg #[.int .i64 (beginM ver next base fin size sum ps).1.1, .int .i64 (beginM ver next base fin size sum ps).1.2.1, u], .int .i64 (beginM ver next base fin size sum ps).2.1, .int .i64 (beginM ver next base fin size sum ps).2.2]) ∧ OwnPcs w' w.heap.size u (beginM ver next base fin size sum ps).1.2.2 ∧ Below w.heap.size w w' := by
  have K := hid (fun W (h : Below w.heap.size w W) => refCheck_any ver next ps v W (hv.mono h))
  have HV := hid hv
  obtain ⟨a, cap, rfl, hn, hs0⟩ := hv
  have HPS := hid hs0
  have hb0 := (below_alloc w (.cells #[.int .i64 ver, .int .i64 next, .slice a ps.length cap] 24)).step (below_alloc _ (.cells #[.int .i64 0, .int .i64 0, .slice none 0 0] 24))
  clear hs0
  by_cases hck : checkM ver next ps = 0
  · have Hck := hid (checkM_ok hck)
    have Hm := hid (show beginM ver next base fin size sum ps = _ from by rw [beginM, if_neg (by simp [hck])])
    rw [hck] at K
    clear hck
    have HE := hid (show beginE ver next base fin size ps = if beyond base = true ∨ beyond fin = true ∨ beyond size = true ∨ fin ≤ base then 1 else if ps.any (stIs 1) = true then 211 else if base < (spanP ps).2 then 71 else if ps.length = 256 ∨ ver = 1099511627776 ∨ next = 1099511627776 then 2 else 0 from rfl)
    go_enter Tryz.func29, Tryz.ntmps29
    go_wp2_with fail
    refine (K.out _ hb0).mono ?_
    rintro e w1 ⟨rfl, hb1⟩
    have hM1 : w1.heap[w.heap.size]? = some (.cells #[.int .i64 ver, .int .i64 next, .slice a ps.length cap] 24 (0, 0)) := blk_below (blk_below (heap_alloc_new w _) (below_alloc _ _)) hb1
    have hR1 : w1.heap[w.heap.size + 1]? = some (.cells #[.int .i64 0, .int .i64 0, .slice none 0 0] 24 (0, 0)) := blk_new hb1 (by simp)
    have hbw1 := hb0.step hb1
    have hs1 : w.heap.size + 2 ≤ w1.heap.size := by have := hb1.size; simpa using this
    obtain ⟨m0, m1, m2, mf⟩ := row3 hM1
    have HM1 := hid hM1
    have HR1 := hid hR1
    clear hb1 hb0 K hM1 hR1
    rcases Bool.eq_false_or_eq_true (beyond base) with hb1 | hb1
    · have Hm := hid (show beginM ver next base fin size sum ps = ((0, 0, []), 0, 1) by rw [Hm.out, show beginE ver next base fin size ps = 1 by rw [HE.out]; simp [hb1]]; rfl)
      have B1 := hid hb1
      clear hb1
      go_wp2_with fail
      refine (in_any _ _ _ B1.out).mono ?_
      rintro e w3 ⟨rfl, hw3⟩
      subst w3
      obtain ⟨r0, r1, r2, rf⟩ := row3 (HR1.out)
      go_wp2_with fail
      exact bodyPost_ret (v := .tuple #[.agg #[.int .i64 0, .int .i64 0, .slice none 0 0], .int .i64 0, .int .i64 1]) (by simp [results, Tryz.results29, go_sem, r0, r1, r2]) rfl ⟨_, by rw [Hm.out], by rw [Hm.out]; exact OwnPcs.nil _ _, below_setCell3 hbw1 (by omega) _ _ _⟩
    · rcases Bool.eq_false_or_eq_true (beyond fin) with hb2 | hb2
      · have Hm := hid (show beginM ver next base fin size sum ps = ((0, 0, []), 0, 1) by rw [Hm.out, show beginE ver next base fin size ps = 1 by rw [HE.out]; simp [hb2]]; rfl)
        have B1 := hid hb1
        have B2 := hid hb2
        clear hb1 hb2
        go_wp2_with fail
        refine (in_any _ _ _ B1.out).mono ?_
        rintro e w3 ⟨rfl, hw3⟩
        subst w3
        go_wp2_with fail
        refine (in_any _ _ _ B2.out).mono ?_
        rintro e w3 ⟨rfl, hw3⟩
        subst w3
        obtain ⟨r0, r1, r2, rf⟩ := row3 (HR1.out)
        go_wp2_with fail
        exact bodyPost_ret (v := .tuple #[.agg #[.int .i64 0, .int .i64 0, .slice none 0 0], .int .i64 0, .int .i64 1]) (by simp [results, Tryz.results29, go_sem, r0, r1, r2]) rfl ⟨_, by rw [Hm.out], by rw [Hm.out]; exact OwnPcs.nil _ _, below_setCell3 hbw1 (by omega) _ _ _⟩
      · rcases Bool.eq_false_or_eq_true (beyond size) with hb3 | hb3
        · have Hm := hid (show beginM ver next base fin size sum ps = ((0, 0, []), 0, 1) by rw [Hm.out, show beginE ver next base fin size ps = 1 by rw [HE.out]; simp [hb3]]; rfl)
          have B1 := hid hb1
          have B2 := hid hb2
          have B3 := hid hb3
          clear hb1 hb2 hb3
          go_wp2_with fail
          refine (in_any _ _ _ B1.out).mono ?_
          rintro e w3 ⟨rfl, hw3⟩
          subst w3
          go_wp2_with fail
          refine (in_any _ _ _ B2.out).mono ?_
          rintro e w3 ⟨rfl, hw3⟩
          subst w3
          go_wp2_with fail
          refine (in_any _ _ _ B3.out).mono ?_
          rintro e w3 ⟨rfl, hw3⟩
          subst w3
          obtain ⟨r0, r1, r2, rf⟩ := row3 (HR1.out)
          go_wp2_with fail
          exact bodyPost_ret (v := .tuple #[.agg #[.int .i64 0, .int .i64 0, .slice none 0 0], .int .i64 0, .int .i64 1]) (by simp [results, Tryz.results29, go_sem, r0, r1, r2]) rfl ⟨_, by rw [Hm.out], by rw [Hm.out]; exact OwnPcs.nil _ _, below_setCell3 hbw1 (by omega) _ _ _⟩
        · by_cases hge : fin ≤ base
          · have Hm := hid (show beginM ver next base fin size sum ps = ((0, 0, []), 0, 1) by rw [Hm.out, show beginE ver next base fin size ps = 1 by rw [HE.out]; simp [hge]]; rfl)
            have B1 := hid hb1
            have B2 := hid hb2
            have B3 := hid hb3
            clear hb1 hb2 hb3
            go_wp2_with fail
            refine (in_any _ _ _ B1.out).mono ?_
            rintro e w3 ⟨rfl, hw3⟩
            subst w3
            go_wp2_with fail
            refine (in_any _ _ _ B2.out).mono ?_
            rintro e w3 ⟨rfl, hw3⟩
            subst w3
            go_wp2_with fail
            refine (in_any _ _ _ B3.out).mono ?_
            rintro e w3 ⟨rfl, hw3⟩
            subst w3
            obtain ⟨r0, r1, r2, rf⟩ := row3 (HR1.out)
            go_wp2_with fail
            exact bodyPost_ret (v := .tuple #[.agg #[.int .i64 0, .int .i64 0, .slice none 0 0], .int .i64 0, .int .i64 1]) (by simp [results, Tryz.results29, go_sem, r0, r1, r2]) rfl ⟨_, by rw [Hm.out], by rw [Hm.out]; exact OwnPcs.nil _ _, below_setCell3 hbw1 (by omega) _ _ _⟩
          · have HE := hid (show beginE ver next base fin size ps = if ps.any (stIs 1) = true then 211 else if base < (spanP ps).2 then 71 else if ps.length = 256 ∨ ver = 1099511627776 ∨ next = 1099511627776 then 2 else 0 by rw [HE.out]; simp [hb1, hb2, hb3, hge])
            have B1 := hid hb1
            have B2 := hid hb2
            have B3 := hid hb3
            clear hb1 hb2 hb3
            go_wp2_with fail
            refine (in_any _ _ _ B1.out).mono ?_
            rintro e w3 ⟨rfl, hw3⟩
            subst w3
            go_wp2_with fail
            refine (in_any _ _ _ B2.out).mono ?_
            rintro e w3 ⟨rfl, hw3⟩
            subst w3
            go_wp2_with fail
            refine (in_any _ _ _ B3.out).mono ?_
            rintro e w3 ⟨rfl, hw3⟩
            subst w3
            go_wp2_with fail
            go_loopw [14, 15] (fun la i wr => ∃ k : Nat, i = .int .i64 k ∧ k ≤ ps.length ∧ la = .int .i64 (spanP (ps.take k)).2 ∧ (∀ j (h : j < ps.length), j < k → stIs 1 ps[j] = false) ∧ Below w1.heap.size w1 wr) (fun _ i _ => ps.length - (intOf i).toNat)
            case atStart => exact ⟨0, rfl, by omega, rfl, fun _ _ h => by omega, Below.refl _ _⟩
            case round =>
              obtain ⟨k, rfl, hk, rfl, hall, hwr⟩ := hrel
              have Hall := hid hall
              clear hall
              have hbwr := hbw1.step hwr
              obtain ⟨m0, m1, m2, mf⟩ := row3 (blk_below HM1.out hwr)
              by_cases hlt : k < ps.length
              · obtain ⟨b, o, rfl, hx⟩ := HPS.out k hlt
                obtain ⟨e0, e1, e2, e3, e4, e5⟩ := ((hx _ (List.getElem?_eq_getElem hlt)).mono hbw1).mono hwr
                clear hx
                obtain ⟨p, hp⟩ : ∃ p, p = ps[k] := ⟨_, rfl⟩
                rw [← hp] at e0 e1 e2 e3 e4 e5
                have Hp := hid hp
                clear hp
                by_cases h1 : p.state = 1
                · have Hm := hid (show beginM ver next base fin size sum ps = ((0, 0, []), 0, 211) by
                    rw [Hm.out, show beginE ver next base fin size ps = 211 by
                      rw [HE.out, if_pos]
                      rw [List.any_eq_true]
                      exact ⟨p, by rw [Hp.out]; exact List.getElem_mem hlt, by simp [stIs, h1]⟩]
                    rfl)
                  have h1' : (p.state == 1) = true := by simp [h1]
                  clear h1
                  obtain ⟨r0, r1, r2, rf⟩ := row3 (blk_below HR1.out hwr)
                  go_wp2_with fail
                  exact bodyPost_ret (v := .tuple #[.agg #[.int .i64 0, .int .i64 0, .slice none 0 0], .int .i64 0, .int .i64 211]) (by simp [results, Tryz.results29, go_sem, r0, r1, r2]) rfl ⟨_, by rw [Hm.out], by rw [Hm.out]; exact OwnPcs.nil _ _, below_setCell3 hbwr (by omega) _ _ _⟩
                · have h1' : (p.state == 1) = false := by simp [h1]
                  have NEXT := hid (show ∀ j (h : j < ps.length), j < k + 1 → stIs 1 ps[j] = false from fun j hj hjk => by
                    by_cases hjk' : j = k
                    · subst hjk'; rw [← Hp.out]; simp [stIs, h1]
                    · exact Hall.out j hj (by omega))
                  clear h1
                  by_cases h2 : p.state = 2
                  · have HS := hid (show (spanP (ps.take (k + 1))).2 = p.fin by rw [spanP_step ps k hlt (by rw [← Hp.out]; exact h2), ← Hp.out])
                    have h2' : (p.state == 2) = true := by simp [h2]
                    clear h2
                    go_wp2
                    go_roundw
                    case rel => exact ⟨k + 1, by go_num, by omega, by rw [HS.out], NEXT.out, hwr⟩
                    case measure => simp [intOf]; omega
                  · have HS := hid (show (spanP (ps.take (k + 1))).2 = (spanP (ps.take k)).2 from spanP_skip ps k hlt (by rw [← Hp.out]; exact h2))
                    have h2' : (p.state == 2) = false := by simp [h2]
                    clear h2
                    go_wp2
                    go_roundw
                    case rel => exact ⟨k + 1, by go_num, by omega, by rw [HS.out], NEXT.out, hwr⟩
                    case measure => simp [intOf]; omega
              · have hke : k = ps.length := by omega
                have HTK := hid (show ps.take k = ps by rw [hke, List.take_length])
                have hnb : ps.any (stIs 1) = false := noBusy ps (fun j hj => Hall.out j hj (by omega))
                have HE := hid (show beginE ver next base fin size ps = if base < (spanP ps).2 then 71 else if ps.length = 256 ∨ ver = 1099511627776 ∨ next = 1099511627776 then 2 else 0 by rw [HE.out, if_neg (by rw [hnb]; simp)])
                obtain ⟨la, hla⟩ : ∃ la, la = (spanP ps).2 := ⟨_, rfl⟩
                rw [HTK.out]
                rw [← hla] at HE ⊢
                have hR := blk_below HR1.out hwr
                clear hke hnb hla
                by_cases hlo : base < la
                · have Hm := hid (show beginM ver next base fin size sum ps = ((0, 0, []), 0, 71) by rw [Hm.out, show beginE ver next base fin size ps = 71 by rw [HE.out, if_pos hlo]]; rfl)
                  obtain ⟨r0, r1, r2, rf⟩ := row3 (blk_below HR1.out hwr)
                  go_wp2_with fail
                  exact bodyPost_ret (v := .tuple #[.agg #[.int .i64 0, .int .i64 0, .slice none 0 0], .int .i64 0, .int .i64 71]) (by simp [results, Tryz.results29, go_sem, r0, r1, r2]) rfl ⟨_, by rw [Hm.out], by rw [Hm.out]; exact OwnPcs.nil _ _, below_setCell3 hbwr (by omega) _ _ _⟩
                · by_cases hf1 : ps.length = 256
                  · have Hm := hid (show beginM ver next base fin size sum ps = ((0, 0, []), 0, 2) by rw [Hm.out, show beginE ver next base fin size ps = 2 by rw [HE.out, if_neg hlo, if_pos (.inl hf1)]]; rfl)
                    have hl1 : ((ps.length : Int) == 256) = true := by simp [hf1]
                    have Hf1 := hid hf1
                    clear hf1
                    obtain ⟨r0, r1, r2, rf⟩ := row3 (blk_below HR1.out hwr)
                    go_wp2_with fail
                    exact bodyPost_ret (v := .tuple #[.agg #[.int .i64 0, .int .i64 0, .slice none 0 0], .int .i64 0, .int .i64 2]) (by simp [results, Tryz.results29, go_sem, r0, r1, r2]) rfl ⟨_, by rw [Hm.out], by rw [Hm.out]; exact OwnPcs.nil _ _, below_setCell3 hbwr (by omega) _ _ _⟩
                  · have hl1 : ((ps.length : Int) == 256) = false := by rw [beq_eq_false_iff_ne]; omega
                    by_cases hf2 : ver = 1099511627776
                    · have Hm := hid (show beginM ver next base fin size sum ps = ((0, 0, []), 0, 2) by rw [Hm.out, show beginE ver next base fin size ps = 2 by rw [HE.out, if_neg hlo, if_pos (.inr (.inl hf2))]]; rfl)
                      have hl2 : (ver == 1099511627776) = true := by simp [hf2]
                      clear hf2
                      obtain ⟨r0, r1, r2, rf⟩ := row3 (blk_below HR1.out hwr)
                      go_wp2_with fail
                      exact bodyPost_ret (v := .tuple #[.agg #[.int .i64 0, .int .i64 0, .slice none 0 0], .int .i64 0, .int .i64 2]) (by simp [results, Tryz.results29, go_sem, r0, r1, r2]) rfl ⟨_, by rw [Hm.out], by rw [Hm.out]; exact OwnPcs.nil _ _, below_setCell3 hbwr (by omega) _ _ _⟩
                    · have hl2 : (ver == 1099511627776) = false := by rw [beq_eq_false_iff_ne]; exact hf2
                      by_cases hf3 : next = 1099511627776
                      · have Hm := hid (show beginM ver next base fin size sum ps = ((0, 0, []), 0, 2) by rw [Hm.out, show beginE ver next base fin size ps = 2 by rw [HE.out, if_neg hlo, if_pos (.inr (.inr hf3))]]; rfl)
                        have hl3 : (next == 1099511627776) = true := by simp [hf3]
                        clear hf3
                        obtain ⟨r0, r1, r2, rf⟩ := row3 (blk_below HR1.out hwr)
                        go_wp2_with fail
                        exact bodyPost_ret (v := .tuple #[.agg #[.int .i64 0, .int .i64 0, .slice none 0 0], .int .i64 0, .int .i64 2]) (by simp [results, Tryz.results29, go_sem, r0, r1, r2]) rfl ⟨_, by rw [Hm.out], by rw [Hm.out]; exact OwnPcs.nil _ _, below_setCell3 hbwr (by omega) _ _ _⟩
                      · have hl3 : (next == 1099511627776) = false := by rw [beq_eq_false_iff_ne]; exact hf3
                        have Hm := hid (show beginM ver next base fin size sum ps = ((ver + 1, next + 1, ps ++ [⟨next, base, fin, size, sum, 1⟩]), next, 0) by rw [Hm.out, show beginE ver next base fin size ps = 0 by rw [HE.out, if_neg hlo, if_neg (by rintro (h | h | h); exact hf1 h; exact hf2 h; exact hf3 h)]]; rfl)
                        obtain ⟨⟨v0, v1⟩, ⟨n0, n1⟩, _⟩ := Hck.out
                        clear hf1 hf2 hf3 HE
                        have HPZ := hid (HV.out.mono hbwr)
                        have HM := hid (blk_below HM1.out hwr)
                        have HR := hid hR
                        clear hR
                        go_upto_region 19 with fail
                        refine wp_name fun W18 hW18 => ?_
                        have hP18 : W18.heap[wr.heap.size]? = some (.cells #[.int .i64 next, .int .i64 base, .int .i64 fin, .int .i64 size, .int .u32 sum, .int .i64 1] 29 (0, 0)) := by rw [hW18]; exact heap_alloc_new wr _
                        have hb18 : Below wr.heap.size wr W18 := by rw [hW18]; exact below_alloc _ _
                        clear hW18 m0 m1 m2 mf
                        obtain ⟨bp, hbp⟩ : ∃ bp, bp = wr.heap.size := ⟨_, rfl⟩
                        rw [← hbp] at hP18 ⊢
                        have hbw18 := hbwr.step hb18
                        have HPZ := hid (HPZ.out.mono hb18)
                        have HM := hid (blk_below HM.out hb18)
                        have HR := hid (blk_below HR.out hb18)
                        have hs18 : w.heap.size + 2 ≤ W18.heap.size := Nat.le_trans hs1 (Nat.le_trans hwr.size hb18.size)
                        clear hb18 hbwr hwr hbp
                        obtain ⟨m0, m1, m2, mf⟩ := row3 HM.out
                        have m0 := fun X => cell_alloc_old X m0
                        have m1 := fun X => cell_alloc_old X m1
                        have m2 := fun X => cell_alloc_old X m2
                        go_upto_region 20 with (at_builtin; refine wpList_append_pcs rfl (.tmp 97) (.tmp 99) rfl Tryz.underlying22 Tryz.inf29 W18.heap.size _ _ [] ps rfl (empty_pcs W18 _ (Nat.le_refl _)) rfl (HPZ.out.mono (below_alloc _ _)) (by simp) (by simp) ?_; intro v2 w2 ho2 hb2 hg2)
                        have r2 : Below W18.heap.size W18 w2 := (below_alloc _ _).trans hb2
                        have ho2 : OwnPcs w2 W18.heap.size v2 ps := ho2
                        obtain ⟨p0, p1, p2, p3, p4, p5, pf⟩ := row6 (blk_below hP18 r2)
                        clear m0 m1 m2 mf hb2 hg2
                        go_upto_region 21 with (at_builtin; refine wpList_append_pcs rfl (.tmp 101) (.tmp 103) rfl Tryz.underlying22 Tryz.inf29 W18.heap.size v2 _ ps [⟨next, base, fin, size, sum, 1⟩] rfl (OwnPcs.below ho2 (below_alloc _ _)) rfl (piece_new w2 ⟨next, base, fin, size, sum, 1⟩) hn (Nat.le_trans r2.size (below_alloc _ _).size) ?_; intro v3 w3 ho3 hb3 hg3)
                        have r3 : Below W18.heap.size W18 w3 := r2.trans (((Below.refl _ _).alloc r2.size _).trans hb3)
                        obtain ⟨qs, hqs⟩ : ∃ qs, qs = ps ++ [⟨next, base, fin, size, sum, 1⟩] := ⟨_, rfl⟩
                        rw [← hqs] at ho3 Hm
                        clear hqs p0 p1 p2 p3 p4 p5 pf hb3 hg3 ho2 r2
                        obtain ⟨a3, c3, rfl⟩ := OwnPcs.form ho3
                        obtain ⟨ql, hql⟩ : ∃ ql, ql = qs.length := ⟨_, rfl⟩
                        rw [← hql] at ho3 ⊢
                        have HO := hid ho3
                        clear hql ho3
                        obtain ⟨m0, m1, m2, mf⟩ := row3 (blk_below HM.out r3)
                        obtain ⟨r0, r1, r2, rf⟩ := row3 (blk_below HR.out r3)
                        have hbw3 := hbw18.step r3
                        go_region
                        go_wp2
                        have HB8 := hid (below_setCell3 hbw3 (R := w.heap.size + 1) (by omega) (.int .i64 (ver + 1)) (.int .i64 (next + 1)) (.slice a3 ql c3)).drew
                        have HO8 := hid (OwnPcs.base (OwnPcs.below (OwnPcs.setCell3 HO.out (R := w.heap.size + 1) (x := .int .i64 (ver + 1)) (y := .int .i64 (next + 1)) (z := .slice a3 ql c3) (by omega)) (Below.refl _ _).drew) (show w.heap.size ≤ W18.heap.size by omega))
                        exact bodyPost_ret (v := .tuple #[.agg #[.int .i64 (ver + 1), .int .i64 (next + 1), .slice a3 ql c3], .int .i64 next, .int .i64 0]) (by simp [results, Tryz.results29, go_sem, r0, r1, r2]) rfl ⟨_, by rw [Hm.out], by rw [Hm.out]; exact HO8.out, HB8.out⟩
  · have Hm := hid (show beginM ver next base fin size sum ps = ((0, 0, []), 0, checkM ver next ps) by rw [beginM, if_pos hck])
    have hcb : (checkM ver next ps != 0) = true := by simpa using hck
    generalize checkM ver next ps = ce at *
    clear hck HV HPS
    go_enter Tryz.func29, Tryz.ntmps29
    go_wp2_with fail
    refine (K.out _ hb0).mono ?_
    rintro e w1 ⟨rfl, hb1⟩
    have hR : w1.heap[w.heap.size + 1]? = some (.cells #[.int .i64 0, .int .i64 0, .slice none 0 0] 24 (0, 0)) := blk_new hb1 (by simp)
    have hbw := hb0.step hb1
    obtain ⟨r0, r1, r2, rf⟩ := row3 hR
    clear hb1 hb0 K
    go_wp2_with fail
    exact bodyPost_ret (v := .tuple #[.agg #[.int .i64 0, .int .i64 0, .slice none 0 0], .int .i64 0, .int .i64 ce]) (by simp [results, Tryz.results29, go_sem, r0, r1, r2]) rfl ⟨_, by rw [Hm.out], by rw [Hm.out]; exact OwnPcs.nil _ _, below_setCell3 hbw (by omega) _ _ _⟩
end Go.Proofs.YtcpecponmaakoaaGreatDoor
