/- Walk: the reference's Heal. -/
import Derived.Test.YtcpecponmaakoaaGreatDoorM5
import Derived.Test.YtcpecponmaakoaaGreatDoorW2
import Derived.Deep.RegionHeld3
import Derived.Deep.RegionLaw
import Derived.Deep.AppendLies
import Derived.Deep.DeepCutAuto
namespace Go.Proofs.YtcpecponmaakoaaGreatDoor
open Go.RowKit Go.Wm
theorem row3_set2 {w : World} {R : Nat} {x y z z' : Value} {t : TypeId} (h : w.heap[R]? = some (.cells #[x, y, z] t (0, 0))) :
    (w.setCell ⟨R, 2, none⟩ z').heap[R]? = some (.cells #[x, y, z'] t (0, 0)) := by
  have h1 := heap_setCell_same w R 2 _ t z' h
  simpa using h1
theorem pieces_step (ps : List Piece) (k : Nat) (h : k < ps.length) (hs : ps[k].state = 2) : (ps.take (k + 1)).filter (stIs 2) = (ps.take k).filter (stIs 2) ++ [ps[k]] := by
  rw [List.take_succ_eq_append_getElem h, List.filter_append]
  congr 1
  simp [stIs, hs]
theorem pieces_skip (ps : List Piece) (k : Nat) (h : k < ps.length) (hs : ps[k].state ≠ 2) : (ps.take (k + 1)).filter (stIs 2) = (ps.take k).filter (stIs 2) := by
  rw [List.take_succ_eq_append_getElem h, List.filter_append]
  simp [stIs, hs]
theorem heap_keptO {w w' : World} {row : Option Nat} {C : Nat} {X : Obj} (h : w.heap[C]? = some X) (hg : w.grownBy w' row) (hne : ∀ g, row = some g → C ≠ g) : w'.heap[C]? = some X := by
  have hlt : C < w.heap.size := (Array.getElem?_eq_some_iff.1 h).1
  rw [hg.block C hlt (fun e => hne C e.symm rfl)]
  exact h
theorem below_da (w : World) (X : Obj) : Below w.heap.size w (w.drew.alloc X) := (Below.refl _ _).drew.alloc (Nat.le_refl _) X
theorem below_ad (w : World) (X : Obj) : Below w.heap.size w (w.alloc X).drew := ((Below.refl _ _).alloc (Nat.le_refl _) X).drew
theorem blk_ad (w : World) (X : Obj) : (w.alloc X).drew.heap[w.heap.size]? = some X := heap_alloc_new w X
theorem blk_da (w : World) (X : Obj) : (w.drew.alloc X).heap[w.heap.size]? = some X := heap_alloc_new w.drew X
set_option maxHeartbeats 4000000 in
set_option maxRecDepth 100000 in
theorem refHeal_any (ver next : Int) (ps : List Piece) (pre : ByteArray) (names : List ByteArray) (v nv : Value) (w : World) (hv : PcsAt w v ps) (hnv : TextsAt w nv names) (hpre : pre.size ≤ 1000) (hns : ∀ s ∈ names, s.size ≤ 1000) (hnl : names.length ≤ 1000) :
    Calls Tryz.prog 18 #[.agg #[.int .i64 ver, .int .i64 next, v], .string pre, nv] w fun e w' => ∃ u d, e = .returned (.tuple #[.agg #[.int .i64 (healM ver next ps pre names).1.1, .int .i64 (healM ver next ps pre names).1.2.1, u], d]) ∧ OwnPcs w' w.heap.size u (healM ver next ps pre names).1.2.2 ∧ OwnTexts w' w.heap.size d (healM ver next ps pre names).2 ∧ Below w.heap.size w w' := by
  have K := hid (fun W (h : Below w.heap.size w W) => refCheck_any ver next ps v W (hv.mono h))
  have TH := hid (fun x W (h : Below w.heap.size w W) => there_any ver next x ps v W (hv.mono h))
  have HV := hid hv
  obtain ⟨a, cap, rfl, hn, hs0⟩ := hv
  obtain ⟨na, ncap, rfl, hnn, hns'⟩ := hnv
  have HPS := hid hs0
  have HNS := hid hns'
  have HSZ := hid hns
  have hb0 := (below_alloc w (.cells #[.int .i64 ver, .int .i64 next, .slice a ps.length cap] 24)).step (below_alloc _ (.cells #[.int .i64 0, .int .i64 0, .slice none 0 0] 24))
  clear hs0 hns' hns
  by_cases hck : checkM ver next ps = 0
  · have Hm := hid (healM_ref ver next ps pre names hck)
    have Hck := hid (checkM_ok hck)
    rw [hck] at K
    clear hck
    go_enter Tryz.func18, Tryz.ntmps18
    go_wp2_with fail
    refine (K.out _ hb0).mono ?_
    rintro e w1 ⟨rfl, hb1⟩
    have hM1 : w1.heap[w.heap.size]? = some (.cells #[.int .i64 ver, .int .i64 next, .slice a ps.length cap] 24 (0, 0)) := blk_below (blk_below (heap_alloc_new w _) (below_alloc _ _)) hb1
    have hR1 : w1.heap[w.heap.size + 1]? = some (.cells #[.int .i64 0, .int .i64 0, .slice none 0 0] 24 (0, 0)) := blk_new hb1 (by simp)
    have hbw1 := hb0.step hb1
    have hs1 : w.heap.size + 2 ≤ w1.heap.size := by have := hb1.size; simpa using this
    obtain ⟨m0, m1, m2, mf⟩ := row3 hM1
    have HM1 := hid hM1
    have HR1 := hid hR1
    clear hb1 hb0 K hM1 hR1
    go_wp2_with fail
    refine wp_name fun W hW => ?_
    have hX : W.heap[w1.heap.size]? = some (.cells #[.int .i64 ver, .int .i64 next, .slice none 0 0] 24 (0, 0)) := by rw [hW]; exact heap_alloc_new w1 _
    have hBW : Below w1.heap.size w1 W := by rw [hW]; exact below_alloc _ _
    have hWs : w1.heap.size + 1 = W.heap.size := by rw [hW, size_alloc]
    clear hW m0 m1 m2 mf
    go_loopw [9] (fun i wr => ∃ (k : Nat) (u : Value), i = .int .i64 k ∧ k ≤ ps.length ∧ wr.heap[w1.heap.size]? = some (.cells #[.int .i64 ver, .int .i64 next, u] 24 (0, 0)) ∧ OwnPcs wr (w1.heap.size + 1) u ((ps.take k).filter (stIs 2)) ∧ Below w1.heap.size w1 wr ∧ w1.heap.size + 1 ≤ wr.heap.size) (fun i _ => ps.length - (intOf i).toNat)
    case atStart => exact ⟨0, _, rfl, by omega, hX, by simpa using OwnPcs.nil _ _, hBW, by omega⟩
    case round =>
      obtain ⟨k, u, rfl, hk, hXr, hu, hwr, hsr⟩ := hrel
      have HU := hid hu
      have HX := hid hXr
      have hM := blk_below HM1.out hwr
      obtain ⟨m0, m1, m2, mf⟩ := row3 hM
      obtain ⟨x0, x1, x2, xf⟩ := row3 hXr
      clear hu hXr hM hX hBW hWs
      by_cases hlt : k < ps.length
      · obtain ⟨b, o, rfl, hx⟩ := HPS.out k hlt
        obtain ⟨e0, e1, e2, e3, e4, e5⟩ := ((hx _ (List.getElem?_eq_getElem hlt)).mono hbw1).mono hwr
        clear hx
        obtain ⟨p, hp⟩ : ∃ p, p = ps[k] := ⟨_, rfl⟩
        rw [← hp] at e0 e1 e2 e3 e4 e5
        have Hp := hid hp
        clear hp
        by_cases hst : p.state = 2
        · have Hst := hid (show (ps.take (k + 1)).filter (stIs 2) = (ps.take k).filter (stIs 2) ++ [p] by rw [Hp.out]; exact pieces_step ps k hlt (by rw [← Hp.out]; exact hst))
          have hst' : (p.state == 2) = true := by simp [hst]
          clear hst
          obtain ⟨i0, hi', hz, hsize, hby⟩ := info_parts Tryz.inf29
          have HO := hid (fun W (h : Below wr.heap.size wr W) => OwnPcs.below HU.out h)
          have hFl : ((ps.take k).filter (stIs 2)).length ≤ 1000000 := Nat.le_trans (List.length_filter_le _ _) (by rw [List.length_take]; omega)
          have HX2 := hid (fun W (h : Below wr.heap.size wr W) w2 (hg : W.grownBy w2 u.ownBlock) => show w2.heap[w1.heap.size]? = some (.cells #[.int .i64 ver, .int .i64 next, u] 24 (0, 0)) from heap_keptO (blk_below HX.out h) hg (fun g hg' => by have := (World.ownsRow.lt HU.out g hg').1; omega))
          have HB2 := hid (fun W (h : Below wr.heap.size wr W) w2 (hg : W.grownBy w2 u.ownBlock) => show Below w1.heap.size w1 w2 ∧ w1.heap.size + 1 ≤ w2.heap.size from ⟨(hwr.step h).trans (below_grown hg (hwr.step h).size (fun g hg' => by have := (World.ownsRow.lt HU.out g hg').1; omega)), by have h1 := h.size; have h2 := hg.size; omega⟩)
          have x2a := fun X => cell_alloc_old X x2
          go_wp2_with fail
          go_region_law (refine step_append_lies _ rfl (.tmp 37) (.tmp 43) 22 rfl (w1.heap.size + 1) 29 i0 _ 6 48 Tryz.underlying22 hi' hz hsize hby rfl (by decide) u _ (pcCells ((ps.take k).filter (stIs 2))) (by simp [Act.eval]) (by first | exact HO.out _ (below_da wr _) | exact HO.out _ (below_ad wr _)) ⟨wr.heap.size, 0, none⟩ 1 1 p.cells (by simp [Act.eval]) rfl (World.news_of_block (cs := p.cells.toArray) (t := 29) (fr := (0, 0)) (by first | exact blk_da wr _ | exact blk_ad wr _)) (Piece.cells_one _) (by decide) (by simp only [maxLen]; omega) (by omega) (by simp; omega) _ rfl ?_; intro g gc w2 ho2 hg2 hgo hg2s; have hX2 := HX2.out _ (by first | exact below_da wr _ | exact below_ad wr _) w2 hg2; obtain ⟨y0, y1, y2, yf⟩ := row3 hX2; have hB2 := HB2.out _ (by first | exact below_da wr _ | exact below_ad wr _) w2 hg2; have hO2 : OwnPcs w2 (w1.heap.size + 1) (.slice (some ⟨g, 0, none⟩) (((ps.take k).filter (stIs 2)).length + 1) gc) ((ps.take k).filter (stIs 2) ++ [p]) := (by unfold OwnPcs; rw [pcCells_append, List.length_append]; exact ho2); clear ho2 hg2 hgo hg2s)
          all_goals
            go_wp2
            go_roundw
            case rel => exact ⟨k + 1, _, by go_num, by omega, row3_set2 hX2, by rw [Hst.out]; exact OwnPcs.setCell1 hO2 (by omega), hB2.1.setCell (p := ⟨w1.heap.size, 2, none⟩) (Nat.le_refl _) _, by simpa using hB2.2⟩
            case measure => simp [intOf]; omega
        · have Hst := hid (show (ps.take (k + 1)).filter (stIs 2) = (ps.take k).filter (stIs 2) from pieces_skip ps k hlt (by rw [← Hp.out]; exact hst))
          have hst' : (p.state == 2) = false := by simp [hst]
          clear hst
          go_wp2
          go_roundw
          case rel => exact ⟨k + 1, u, by go_num, by omega, HX.out, by rw [Hst.out]; exact HU.out, hwr, hsr⟩
          case measure => simp [intOf]; omega
      · have hke : k = ps.length := by omega
        obtain ⟨L, hLd⟩ : ∃ L, L = ps.filter (stIs 2) := ⟨_, rfl⟩
        have hu : OwnPcs wr (w1.heap.size + 1) u L := by
          have := HU.out
          rw [hke, List.take_length] at this
          rw [hLd]
          exact this
        have hLn : L.length ≤ ps.length := by rw [hLd]; exact List.length_filter_le _ _
        rw [← hLd] at Hm
        have HLd := hid hLd
        have hXr := HX.out
        obtain ⟨a2, cap2, rfl⟩ := OwnPcs.form hu
        obtain ⟨lL, hlL⟩ : ∃ lL, lL = L.length := ⟨_, rfl⟩
        rw [← hlL] at hXr hu hLn Hm x2
        have HlL := hid hlL
        clear hlL hLd HU HX hke
        obtain ⟨vL, hvL⟩ : ∃ vL : Int, vL = if lL < ps.length then (if ver = 1099511627776 then ver else ver + 1) else ver := ⟨_, rfl⟩
        rw [← hvL] at Hm
        go_upto_if 52 with fail
        go_cut [] (fun wx => wx.heap[w1.heap.size]? = some (.cells #[.int .i64 vL, .int .i64 next, .slice a2 lL cap2] 24 (0, 0)) ∧ OwnPcs wx (w1.heap.size + 1) (.slice a2 lL cap2) L ∧ Below w1.heap.size w1 wx ∧ w1.heap.size + 1 ≤ wx.heap.size)
        case first =>
          obtain ⟨⟨v0, v1⟩, _⟩ := Hck.out
          by_cases hlt2 : lL < ps.length
          · by_cases hv40 : ver = 1099511627776
            · rw [if_pos hlt2, if_pos hv40] at hvL
              subst hv40
              subst hvL
              go_wp2_with fail
              go_meet
              exact ⟨row3_set0 hXr, OwnPcs.setCell1 hu (by omega), hwr.setCell (p := ⟨w1.heap.size, 0, none⟩) (Nat.le_refl _) _, by simpa using hsr⟩
            · rw [if_pos hlt2, if_neg hv40] at hvL
              subst hvL
              have hmin : min (ver + 1) 1099511627776 = ver + 1 := by omega
              go_wp2_with fail
              go_meet
              exact ⟨row3_set0 hXr, OwnPcs.setCell1 hu (by omega), hwr.setCell (p := ⟨w1.heap.size, 0, none⟩) (Nat.le_refl _) _, by simpa using hsr⟩
          · rw [if_neg hlt2] at hvL
            subst hvL
            go_wp2_with fail
            go_meet
            exact ⟨hXr, hu, hwr, hsr⟩
        case rest =>
          obtain ⟨hX4, hu4, hbx4, hs4⟩ := hcut
          have HX4 := hid hX4
          have Hu4 := hid hu4
          have hbw4 := hbw1.step hbx4
          clear hX4 hu4 hXr hu hwr hsr hvL m0 m1 m2 mf x0 x1 x2 xf
          go_wp2_with fail
          go_loopw [10, 11] (fun d i wr => ∃ k : Nat, i = .int .i64 k ∧ k ≤ names.length ∧ OwnTexts wr wc.heap.size d (((names.take k).filter (goB pre ps)).foldl putT []) ∧ Below wc.heap.size wc wr) (fun d i _ => names.length - (intOf i).toNat)
          case atStart => exact ⟨0, rfl, by omega, by simpa using OwnTexts.nil _ _, Below.refl _ _⟩
          case round =>
            obtain ⟨j, rfl, hj, hdel, hwr2⟩ := hrel
            have Hdel := hid hdel
            clear hdel
            have hM := blk_below HM1.out (hbx4.step hwr2)
            obtain ⟨m0, m1, m2, mf⟩ := row3 hM
            clear hM
            by_cases hjl : j < names.length
            · obtain ⟨b, o, rfl, hx⟩ := HNS.out j hjl
              have e0 := cell_below (hbw4.step hwr2) (hx _ (List.getElem?_eq_getElem hjl))
              rw [Nat.mul_one] at e0
              clear hx
              obtain ⟨s, hs⟩ : ∃ s, s = names[j] := ⟨_, rfl⟩
              rw [← hs] at e0
              have hss : s.size ≤ 1000 := by rw [hs]; exact HSZ.out _ (List.getElem_mem hjl)
              have Hs := hid hs
              clear hs
              have SKIP := hid (fun (hb : goB pre ps s = false) => show (names.take (j + 1)).filter (goB pre ps) = (names.take j).filter (goB pre ps) from filter_skip hjl (by rw [← Hs.out]; exact hb))
              have GROW := hid (fun (hb : goB pre ps s = true) => show ((names.take (j + 1)).filter (goB pre ps)).foldl putT [] = putT (((names.take j).filter (goB pre ps)).foldl putT []) s by
                rw [filter_step _ _ _ hjl, ← Hs.out, if_pos hb, List.foldl_append]
                rfl)
              have NU := number_any pre s wr hpre hss
              obtain ⟨x, hx⟩ : ∃ x, x = numM pre s := ⟨_, rfl⟩
              rw [← hx] at NU
              have NU := hid NU
              have Hgo := hid (show goB pre ps s = (decide (0 ≤ x) && !thereB x ps) by rw [hx]; rfl)
              clear hx
              go_wp2_with fail
              refine NU.out.mono ?_
              rintro e w5 ⟨rfl, hb5⟩
              have m0' := cell_below hb5 m0
              have m1' := cell_below hb5 m1
              have m2' := cell_below hb5 m2
              clear NU m0 m1 m2 mf
              by_cases hx0 : 0 ≤ x
              · have T := TH.out x w5 (hbw4.step (hwr2.step hb5))
                rcases Bool.eq_false_or_eq_true (thereB x ps) with hth | hth
                · rw [hth] at T
                  have T := hid T
                  have hd : goB pre ps s = false := by rw [Hgo.out, hth]; simp
                  clear hth
                  go_wp2_with fail
                  refine T.out.mono ?_
                  rintro e w6 ⟨rfl, hb6⟩
                  clear T
                  go_wp2_with fail
                  go_roundw
                  case rel => exact ⟨j + 1, by go_num, by omega, by rw [SKIP.out hd]; exact OwnTexts.below Hdel.out (hb5.step hb6), hwr2.step (hb5.step hb6)⟩
                  case measure => simp [intOf]; omega
                · rw [hth] at T
                  have T := hid T
                  have hd : goB pre ps s = true := by rw [Hgo.out, hth, decide_eq_true hx0]; rfl
                  clear hth
                  have hDl : (((names.take j).filter (goB pre ps)).foldl putT []).length ≤ 100000 := by
                    have h1 := foldl_putT_length ((names.take j).filter (goB pre ps)) []
                    have h2 := List.length_filter_le (goB pre ps) (names.take j)
                    rw [List.length_take] at h2
                    simp only [List.length_nil] at h1
                    omega
                  go_wp2_with fail
                  refine T.out.mono ?_
                  rintro e w6 ⟨rfl, hb6⟩
                  clear T
                  have e0' := cell_below (hb5.step hb6) e0
                  have PU := hid (put_any _ s u10 wc.heap.size w6 (OwnTexts.below Hdel.out (hb5.step hb6)) (hwr2.step (hb5.step hb6)).size hDl)
                  go_wp2_with fail
                  refine PU.out.mono ?_
                  rintro e w7 ⟨d7, rfl, hd7, hb7⟩
                  clear PU
                  go_wp2_with fail
                  go_roundw
                  case rel => exact ⟨j + 1, by go_num, by omega, by rw [GROW.out hd]; exact hd7, hwr2.step (hb5.step (hb6.step hb7))⟩
                  case measure => simp [intOf]; omega
              · have hd : goB pre ps s = false := by rw [Hgo.out, decide_eq_false hx0]; rfl
                go_wp2_with fail
                go_roundw
                case rel => exact ⟨j + 1, by go_num, by omega, by rw [SKIP.out hd]; exact OwnTexts.below Hdel.out hb5, hwr2.step hb5⟩
                case measure => simp [intOf]; omega
            · have hje : j = names.length := by omega
              have hD : OwnTexts wr wc.heap.size u10 ((names.filter (goB pre ps)).foldl putT []) := by
                have := Hdel.out
                rw [hje, List.take_length] at this
                exact this
              have HD := hid hD
              have hX6 := blk_below HX4.out hwr2
              obtain ⟨x0, x1, x2, xf⟩ := row3 hX6
              have hR6 := blk_below HR1.out (hbx4.step hwr2)
              obtain ⟨r0, r1, r2, rf⟩ := row3 hR6
              have HX6 := hid hX6
              have HR6 := hid hR6
              have hsz1 : w1.heap.size ≤ wr.heap.size := (hbx4.step hwr2).size
              clear hje hD hX6 hR6 m0 m1 m2 mf
              have hR7 := row3_set (x' := .int .i64 vL) (y' := .int .i64 next) (z' := .slice a2 lL cap2) HR6.out
              obtain ⟨p0, p1, p2, pf⟩ := row3 hR7
              have hHm : healM ver next ps pre names = ((vL, next, L), (names.filter (goB pre ps)).foldl putT []) := Hm.out
              have hu6 := OwnPcs.below Hu4.out hwr2
              have HB8 := hid (below_setCell3 (hbw4.step hwr2) (R := w.heap.size + 1) (by omega) (.int .i64 vL) (.int .i64 next) (.slice a2 lL cap2))
              have HO8 := hid (OwnPcs.base (OwnPcs.setCell3 hu6 (R := w.heap.size + 1) (x := .int .i64 vL) (y := .int .i64 next) (z := .slice a2 lL cap2) (by omega)) (show w.heap.size ≤ w1.heap.size + 1 by omega))
              have HD8 := hid (OwnTexts.setCell3 HD.out (R := w.heap.size + 1) (x := .int .i64 vL) (y := .int .i64 next) (z := .slice a2 lL cap2) (by omega))
              clear hR7 hu6
              go_wp2_with fail
              exact bodyPost_ret (v := .tuple #[.agg #[.int .i64 vL, .int .i64 next, .slice a2 lL cap2], u10]) (by simp [results, Tryz.results18, go_sem, p0, p1, p2]) rfl ⟨_, _, by rw [hHm], by rw [hHm]; exact HO8.out, by rw [hHm]; exact ownsRow_mono HD8.out (by omega), HB8.out⟩
  · have Hm := hid (show healM ver next ps pre names = ((0, 0, []), []) by rw [healM, if_pos hck])
    have hcb : (checkM ver next ps != 0) = true := by simpa using hck
    generalize checkM ver next ps = ce at *
    clear hck HV HNS HSZ HPS TH
    go_enter Tryz.func18, Tryz.ntmps18
    go_wp2_with fail
    refine (K.out _ hb0).mono ?_
    rintro e w1 ⟨rfl, hb1⟩
    have hR : w1.heap[w.heap.size + 1]? = some (.cells #[.int .i64 0, .int .i64 0, .slice none 0 0] 24 (0, 0)) := blk_new hb1 (by simp)
    have hbw := hb0.step hb1
    obtain ⟨r0, r1, r2, rf⟩ := row3 hR
    clear hb1 hb0 K
    go_wp2_with fail
    exact bodyPost_ret (v := .tuple #[.agg #[.int .i64 0, .int .i64 0, .slice none 0 0], .slice none 0 0]) (by simp [results, Tryz.results18, go_sem, r0, r1, r2]) rfl ⟨_, _, by rw [Hm.out], by rw [Hm.out]; exact OwnPcs.nil _ _, by rw [Hm.out]; exact OwnTexts.nil _ _, below_setCell3 hbw (by omega) _ _ _⟩
end Go.Proofs.YtcpecponmaakoaaGreatDoor
