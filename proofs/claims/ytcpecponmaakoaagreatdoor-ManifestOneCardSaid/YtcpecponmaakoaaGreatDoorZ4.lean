/- Walk: ManifestOne. -/
import Derived.Test.YtcpecponmaakoaaGreatDoorZ3
import Derived.Test.YtcpecponmaakoaaGreatDoorO2
import Derived.Test.YtcpecponmaakoaaGreatDoorK1
import Derived.StillTailTactics
namespace Go.Proofs.YtcpecponmaakoaaGreatDoor
open Go.RowKit Go.Wm
/-- A step of the law's, in three cells. -/
structure DoAt (w : World) (b o : Nat) (d : Int × Int × Int) : Prop where
  c0 : w.cell? ⟨b, o, none⟩ = some (.int .i64 d.1)
  c1 : w.cell? ⟨b, o + 1, none⟩ = some (.int .i64 d.2.1)
  c2 : w.cell? ⟨b, o + 2, none⟩ = some (.int .i64 d.2.2)
theorem DoAt.mono {w w' : World} (hb : Below w.heap.size w w') {b o : Nat} {d : Int × Int × Int} (h : DoAt w b o d) : DoAt w' b o d := ⟨cell_below hb h.c0, cell_below hb h.c1, cell_below hb h.c2⟩
def DosBig (w : World) (v : Value) (l : List (Int × Int × Int)) : Prop :=
  ∃ a cap, v = .slice a l.length cap ∧ SliceAt a l.length 3 (fun k b o => ∀ d, l[k]? = some d → DoAt w b o d)
open Go.ChangeShapes Go.WideShapes Go.ChangeAt in
theorem open_dos {H : Type} {enc : TypeId × Value → H} {W : World} {n : Nat} {v : Value} {y : DataW H × List MemPlace} (h : DataW.trod enc Tryz.prog W 0 (fun _ => true) true n 56 [v] = some y) : ∃ l, DosBig W v l := by
  rcases open_slice_fields Tryz.underlying56 Tryz.underlying59 (by kernel_rfl) (by kernel_rfl) h with ⟨hv, _⟩ | ⟨a, len, cap, m, D, hv, hlc, hm, hy, hi⟩
  · simp only [List.cons.injEq, and_true] at hv
    subst hv
    exact ⟨[], none, 0, rfl, fun k hk => by simp at hk⟩
  · simp only [List.cons.injEq, and_true] at hv
    subst hv
    simp only [if_true] at hm
    have hsp0 : 0 < len → a.spot = none := by
      intro h0
      obtain ⟨ys, n', hD, hyl, hf⟩ := hi 0 (by omega)
      obtain ⟨v0, y0, c0, _, t0⟩ := hf 0 _ rfl
      have := World.cell?_spot c0
      simpa [Addr.add] using this
    have each : ∀ i, i < len → ∃ r : Int × Int × Int, ∃ b o, a = ⟨b, o, none⟩ ∧ DoAt W b (o + i * 3) r := by
      intro i hil
      obtain ⟨ys, n', hD, hyl, hf⟩ := hi i (by omega)
      obtain ⟨v0, y0, c0, _, t0⟩ := hf 0 _ rfl
      obtain ⟨v1, y1, c1, _, t1⟩ := hf 1 _ rfl
      obtain ⟨v2, y2, c2, _, t2⟩ := hf 2 _ rfl
      obtain ⟨o0, e0, _, _⟩ := DataW.trod_int Tryz.underlying3 t0
      obtain ⟨o1, e1, _, _⟩ := DataW.trod_int Tryz.underlying3 t1
      obtain ⟨o2, e2, _, _⟩ := DataW.trod_int Tryz.underlying3 t2
      simp only [List.cons.injEq, and_true] at e0 e1 e2
      subst e0 e1 e2
      obtain ⟨b, o, sp⟩ := a
      have hsp : sp = none := hsp0 (by omega)
      subst hsp
      rw [addr_add] at c0 c1 c2
      simp only [← Nat.add_assoc] at c0 c1 c2
      exact ⟨(o0, o1, o2), b, o, rfl, ⟨c0, c1, c2⟩⟩
    obtain ⟨rs, hrl, hr⟩ := list_of each
    subst hrl
    refine ⟨rs, some a, cap, rfl, fun k hk => ?_⟩
    obtain ⟨b, o, ha, _⟩ := hr k _ (List.getElem?_eq_getElem hk)
    refine ⟨b, o, by rw [ha], fun r hrk => ?_⟩
    obtain ⟨b', o', ha', hra⟩ := hr k r hrk
    rw [ha] at ha'
    simp only [Addr.mk.injEq, and_true] at ha'
    obtain ⟨rfl, rfl⟩ := ha'
    exact hra
/-- A row of pieces lies in no block of three cells. -/
theorem PcsAt.set3 {w : World} {B : Nat} {x y z x' y' z' : Value} {t : TypeId} {u : Value} {ps : List Piece} (h : PcsAt w u ps) (hB : w.heap[B]? = some (.cells #[x, y, z] t (0, 0))) :
    PcsAt (((w.setCell ⟨B, 0, none⟩ x').setCell ⟨B, 1, none⟩ y').setCell ⟨B, 2, none⟩ z') u ps := by
  obtain ⟨a, cap, rfl, h1, h3⟩ := h
  refine ⟨a, cap, rfl, h1, fun k hk => ?_⟩
  obtain ⟨b, o, ha, hp⟩ := h3 k hk
  refine ⟨b, o, ha, fun p hpk => ?_⟩
  have hpp := hp p hpk
  have hne : b ≠ B := by
    intro hb
    subst hb
    have h5 := hpp.c5
    simp only [World.cell?, hB] at h5
    rw [Array.getElem?_eq_none (by simp)] at h5
    cases h5
  have keep : ∀ j v, w.cell? ⟨b, j, none⟩ = some v → (((w.setCell ⟨B, 0, none⟩ x').setCell ⟨B, 1, none⟩ y').setCell ⟨B, 2, none⟩ z').cell? ⟨b, j, none⟩ = some v := by
    intro j v hv
    rw [cell_set_other _ _ _ _ hne, cell_set_other _ _ _ _ hne, cell_set_other _ _ _ _ hne]
    exact hv
  exact ⟨keep _ _ hpp.c0, keep _ _ hpp.c1, keep _ _ hpp.c2, keep _ _ hpp.c3, keep _ _ hpp.c4, keep _ _ hpp.c5⟩
/-- What is told of an offset. -/
theorem at_facts {ver next off : Int} {ps : List Piece} (hc : checkM ver next ps = 0) :
    ((atM ps off).2 = true → (atM ps off).1.base ≤ off ∧ off < (atM ps off).1.fin ∧ (atM ps off).1.state = 2 ∧ (spanP ps).1 ≤ off ∧ off < (spanP ps).2) ∧ (ps.filter (atP off)).length ≤ 1 ∧ (atM ps off).2 = decide ((ps.filter (atP off)).length = 1) := by
  obtain ⟨_, _, _, _, hk⟩ := checkM_ok hc
  obtain ⟨hb, hp⟩ := chk_pairs ps hk
  have h1 : (ps.filter (atP off)).length ≤ 1 := by rw [atP_filter]; exact count_one hp
  unfold atM
  cases hf : ps.findIdx? (atP off) with
  | none =>
    refine ⟨by simp, h1, ?_⟩
    rw [List.findIdx?_eq_none_iff] at hf
    have : ps.filter (atP off) = [] := by
      rw [List.filter_eq_nil_iff]
      intro p hp
      rw [hf p hp]
      simp
    rw [this]
    rfl
  | some i =>
    rw [List.findIdx?_eq_some_iff_getElem] at hf
    obtain ⟨hi, hpi, _⟩ := hf
    have hg : ps.getD i zeroP = ps[i] := by simp [List.getD, hi]
    simp only [hg]
    have hpi' := hpi
    unfold atP at hpi'
    simp only [Bool.and_eq_true, decide_eq_true_eq] at hpi'
    obtain ⟨⟨a1, a2⟩, a3⟩ := hpi'
    have hm : ps[i] ∈ ps.filter (stIs 2) := List.mem_filter.2 ⟨List.getElem_mem hi, by simp [stIs, a1]⟩
    obtain ⟨s1, s2⟩ := spanL_in hp (fun p hp => (hb p hp).2) ps[i] hm
    have hmm : ps[i] ∈ ps.filter (atP off) := List.mem_filter.2 ⟨List.getElem_mem hi, hpi⟩
    have hpos := List.length_pos_of_mem hmm
    refine ⟨fun _ => ⟨a2, a3, a1, Int.le_trans s1 a2, Int.lt_of_lt_of_le a3 s2⟩, h1, ?_⟩
    rw [decide_eq_true (by omega)]
theorem count_step (off : Int) (ps : List Piece) (k : Nat) (h : k < ps.length) : ((ps.take (k + 1)).filter (atP off)).length = ((ps.take k).filter (atP off)).length + if atP off ps[k] = true then 1 else 0 := by
  rw [List.take_succ_eq_append_getElem h, List.filter_append, List.length_append]
  congr 1
  by_cases hp : atP off ps[k] = true
  · simp [hp]
  · simp [hp]
set_option maxHeartbeats 4000000 in
set_option maxRecDepth 100000 in
theorem one_any (off : Int) (ds : List (Int × Int × Int)) (v : Value) (w : World) (hL : Laid w) (hS : StepsAt w 0) (hv : DosBig w v ds) :
    Calls Tryz.prog 8 #[v, .int .i64 off] w fun e w' => e = .returned (.bool true) ∧ Below w.heap.size w w' := by
  obtain ⟨a, cap, rfl, hds⟩ := hv
  have HDS := hid hds
  have CL := hid (live_any w hL hS)
  have HL := hid hL
  have HS := hid hS
  clear hL hS hds
  go_enter Tryz.func8, Tryz.ntmps8
  go_wp2_with fail
  refine CL.out.mono ?_
  rintro e w1 ⟨rfl, hb1⟩
  clear CL
  by_cases hn : ds.length ≤ 60
  · have hn' : ¬ (60 < ds.length) := by omega
    go_upto_region 5 with fail
    refine wp_name fun W hW => ?_
    have hX : W.heap[w1.heap.size]? = some (.cells #[.int .i64 0, .int .i64 0, .slice none 0 0] 24 (0, 0)) := by rw [hW]; exact heap_alloc_new w1 _
    have hBW : Below w1.heap.size w1 W := by rw [hW]; exact below_alloc _ _
    clear hW
    obtain ⟨B, hBe⟩ : ∃ B, B = w1.heap.size := ⟨_, rfl⟩
    rw [← hBe] at hX ⊢
    have HBe := hid hBe
    clear hBe
    go_wp2_with fail
    go_loopw [7] (fun i wr => ∃ (k : Nat) (ver next : Int) (ps : List Piece) (u : Value), i = .int .i64 k ∧ k ≤ ds.length ∧ wr.heap[B]? = some (.cells #[.int .i64 ver, .int .i64 next, u] 24 (0, 0)) ∧ PcsAt wr u ps ∧ CapOk u ∧ checkM ver next ps = 0 ∧ ps.length ≤ k ∧ Below w1.heap.size w1 wr) (fun i _ => ds.length - (intOf i).toNat)
    case atStart => exact ⟨0, 0, 0, [], _, rfl, by omega, hX, ⟨none, 0, rfl, by simp, fun k hk => by simp at hk⟩, by intro x n c h; cases h; exact Nat.le_refl _, by decide, by simp, hBW⟩
    case round =>
      obtain ⟨k, ver, next, ps, u, rfl, hk, hXr, hP, hcap, hgood, hlen, hwr⟩ := hrel
      have HG := hid hgood
      have HP := hid hP
      have HC := hid hcap
      obtain ⟨a2, c2, rfl, hpl⟩ := hP.form
      clear hgood hP hcap
      have HX := hid hXr
      obtain ⟨x0, x1, x2, xf⟩ := row3 hXr
      have hbwr := hb1.step hwr
      clear hXr
      by_cases hlt : k < ds.length
      · obtain ⟨b, o, rfl, hx⟩ := HDS.out k hlt
        obtain ⟨e0, e1, e2⟩ := (hx _ (List.getElem?_eq_getElem hlt)).mono hbwr
        obtain ⟨d, hd⟩ : ∃ d, d = ds[k] := ⟨_, rfl⟩
        rw [← hd] at e0 e1 e2
        clear hx hd
        obtain ⟨dk, db, dn⟩ := d
        simp only at e0 e1 e2
        have DN := hid (done1_any ver next dk db dn ps (.slice a2 ps.length c2) wr.drew (HL.out.below hbwr.drew) (HS.out.below hbwr.drew) (HP.out.mono (Below.refl _ _).drew) HC.out)
        have hg := done_good dk db dn HG.out
        have hl := done_len ver next ps dk db dn
        generalize doneM ver next ps dk db dn = X at DN hg hl
        obtain ⟨xv, xn, xl⟩ := X
        have Hg := hid hg
        have Hl := hid hl
        clear hg hl
        go_wp2_with fail
        go_still_tail 5, (by kernel_rfl)
        change wpList _ _ _ _ _ wr.drew
        go_wp2_with fail
        refine DN.out.mono ?_
        rintro e w5 ⟨u5, rfl, hu5, hc5, hb5⟩
        obtain ⟨a5, c5, rfl, _⟩ := hu5.form
        have hb5 : Below wr.heap.size wr w5 := (Below.refl _ _).drew.step hb5
        have hX5 := blk_below HX.out hb5
        have HU5 := hid (PcsAt.set3 (x' := .int .i64 xv) (y' := .int .i64 xn) (z' := .slice a5 xl.length c5) hu5 hX5)
        have HX5 := hid (row3_set (x' := .int .i64 xv) (y' := .int .i64 xn) (z' := .slice a5 xl.length c5) hX5)
        have HB5 := hid (show Below w1.heap.size w1 (((w5.setCell ⟨B, 0, none⟩ (.int .i64 xv)).setCell ⟨B, 1, none⟩ (.int .i64 xn)).setCell ⟨B, 2, none⟩ (.slice a5 xl.length c5)) from below_setCell3 (hwr.step hb5) (by rw [HBe.out]; exact Nat.le_refl _) _ _ _)
        clear DN hu5 x0 x1 x2 xf e0 e1 e2
        obtain ⟨x0, x1, x2, xf⟩ := row3 hX5
        go_wp2_with fail
        go_roundw
        case rel => exact ⟨k + 1, xv, xn, xl, _, by go_num, by omega, HX5.out, HU5.out, hc5, Hg.out, by have h : xl.length ≤ ps.length + 1 := Hl.out; omega, HB5.out⟩
        case measure => simp [intOf]; omega
      · have hke : k = ds.length := by omega
        have hlen : ps.length ≤ ds.length := by omega
        clear hke
        obtain ⟨f1, f2, f3⟩ := at_facts (off := off) HG.out
        have AT := fun W (h : Below wr.heap.size wr W) => at_any ver next off ps (.slice a2 ps.length c2) W (HP.out.mono h)
        have SP := fun W (h : Below wr.heap.size wr W) => span_any ver next ps (.slice a2 ps.length c2) W (HP.out.mono h)
        have CK := fun W (h : Below wr.heap.size wr W) => check_any ver next ps (.slice a2 ps.length c2) W (HP.out.mono h)
        rw [HG.out] at CK
        have CNT := hid (fun k (h : k < ps.length) => count_step off ps k h)
        obtain ⟨cnt, hcnt⟩ : ∃ cnt, cnt = (ps.filter (atP off)).length := ⟨_, rfl⟩
        rw [← hcnt] at f2 f3
        have Hcnt := hid hcnt
        generalize atM ps off = X at AT f1 f3
        obtain ⟨p, ok⟩ := X
        generalize spanP ps = Y at SP f1
        obtain ⟨s1, s2⟩ := Y
        simp only at f1 f3
        have AT := hid AT
        have SP := hid SP
        have CK := hid CK
        have F1 := hid f1
        have F3 := hid f3
        clear f1 f3 hcnt
        obtain ⟨wo, hwo⟩ : ∃ wo : World, wo = wr := ⟨_, rfl⟩
        rw [← hwo] at AT SP CK HP HX hwr hbwr x0 x1 x2 xf ⊢
        clear hwo
        obtain ⟨_, _, e', _, hps⟩ := HP.out
        cases e'
        have HPS := hid hps
        clear hps
        go_wp2_with fail
        refine (AT.out _ (Below.refl _ _)).mono ?_
        rintro e w5 ⟨rfl, hb5⟩
        have hX5 := blk_below HX.out hb5
        clear AT x0 x1 x2 xf
        obtain ⟨x0, x1, x2, xf⟩ := row3 hX5
        have x0 := fun X => cell_alloc_old X x0
        have x1 := fun X => cell_alloc_old X x1
        have x2 := fun X => cell_alloc_old X x2
        go_wp2_with fail
        refine (SP.out _ (hb5.step (below_alloc _ _))).mono ?_
        rintro e w6 ⟨rfl, hb6⟩
        have hP6 : w6.heap[w5.heap.size]? = some (.cells #[.int .i64 p.id, .int .i64 p.base, .int .i64 p.fin, .int .i64 p.size, .int .u32 p.sum, .int .i64 p.state] 29 (0, 0)) := blk_new hb6 rfl
        have r56 : Below w5.heap.size w5 w6 := (below_alloc _ _).step hb6
        have hX6 := blk_below hX5 r56
        have hc6 : Below wo.heap.size wo w6 := hb5.step r56
        obtain ⟨b8, hb8⟩ : ∃ b8, b8 = w5.heap.size := ⟨_, rfl⟩
        rw [← hb8] at hP6 ⊢
        have HX6 := hid hX6
        have HP6 := hid hP6
        clear SP x0 x1 x2 xf hX5 hX6 hP6 r56 hb6 hb5 hb8
        go_wp2_with fail
        go_loopw [12, 13] (fun c i wx => ∃ j : Nat, i = .int .i64 j ∧ j ≤ ps.length ∧ c = .int .i64 (((ps.take j).filter (atP off)).length : Nat) ∧ Below w6.heap.size w6 wx) (fun _ i _ => ps.length - (intOf i).toNat)
        case atStart => exact ⟨0, rfl, by omega, rfl, Below.refl _ _⟩
        case round =>
          obtain ⟨j, rfl, hj, rfl, hwx⟩ := hrel
          obtain ⟨x0, x1, x2, xf⟩ := row3 (blk_below HX6.out hwx)
          by_cases hjl : j < ps.length
          · obtain ⟨b, o, rfl, hx⟩ := HPS.out j hjl
            obtain ⟨e0, e1, e2, e3, e4, e5⟩ := (hx _ (List.getElem?_eq_getElem hjl)).mono (hc6.step hwx)
            have hcl : ((ps.take j).filter (atP off)).length ≤ 1000000 := Nat.le_trans (List.length_filter_le _ _) (by rw [List.length_take]; omega)
            have CS := CNT.out j hjl
            obtain ⟨q, hq⟩ : ∃ q, q = ps[j] := ⟨_, rfl⟩
            rw [← hq] at e0 e1 e2 e3 e4 e5 CS
            clear hx hq
            by_cases h1 : q.state = 2
            · by_cases h2 : q.base ≤ off
              · by_cases h3 : off < q.fin
                · have NX := hid (show ((ps.take (j + 1)).filter (atP off)).length = ((ps.take j).filter (atP off)).length + 1 by rw [CS, if_pos (by simp [atP, h1, h2, h3])])
                  clear CS
                  go_wp2
                  go_roundw
                  case rel => exact ⟨j + 1, by go_num, by omega, by rw [NX.out]; go_num, hwx⟩
                  case measure => simp [intOf]; omega
                · have NX := hid (show ((ps.take (j + 1)).filter (atP off)).length = ((ps.take j).filter (atP off)).length by rw [CS, if_neg (by simp [atP, h3]), Nat.add_zero])
                  clear CS
                  go_wp2
                  go_roundw
                  case rel => exact ⟨j + 1, by go_num, by omega, by rw [NX.out], hwx⟩
                  case measure => simp [intOf]; omega
              · have NX := hid (show ((ps.take (j + 1)).filter (atP off)).length = ((ps.take j).filter (atP off)).length by rw [CS, if_neg (by simp [atP, h2]), Nat.add_zero])
                clear CS
                go_wp2
                go_roundw
                case rel => exact ⟨j + 1, by go_num, by omega, by rw [NX.out], hwx⟩
                case measure => simp [intOf]; omega
            · have NX := hid (show ((ps.take (j + 1)).filter (atP off)).length = ((ps.take j).filter (atP off)).length by rw [CS, if_neg (by simp [atP, h1]), Nat.add_zero])
              clear CS
              go_wp2
              go_roundw
              case rel => exact ⟨j + 1, by go_num, by omega, by rw [NX.out], hwx⟩
              case measure => simp [intOf]; omega
          · have hje : j = ps.length := by omega
            have hcc : ((ps.take j).filter (atP off)).length = cnt := by rw [hje, List.take_length, Hcnt.out]
            rw [hcc]
            clear hje hcc
            have CK2 := hid (CK.out wr (hc6.step hwx))
            have hfin : Below w.heap.size w wr := hbwr.step (hc6.step hwx)
            obtain ⟨p0, p1, p2, p3, p4, p5, pf⟩ := row6 (blk_below HP6.out hwx)
            cases ok
            · have hc0 : cnt = 0 := by
                have := F3.out
                have h1 : ¬ cnt = 1 := of_decide_eq_false this.symm
                omega
              subst hc0
              go_wp2_with fail
              refine CK2.out.mono ?_
              rintro e w8 ⟨rfl, hb8⟩
              obtain ⟨x0, x1, x2, xf⟩ := row3 (blk_below (blk_below HX6.out hwx) hb8)
              go_wp2_with fail
              go_ret
              exact ⟨rfl, hfin.step hb8⟩
            · have hc1 : cnt = 1 := of_decide_eq_true F3.out.symm
              obtain ⟨g1, g2, g3, g4, g5⟩ := F1.out rfl
              subst hc1
              rw [g3] at p5
              go_wp2_with fail
              refine CK2.out.mono ?_
              rintro e w8 ⟨rfl, hb8⟩
              obtain ⟨x0, x1, x2, xf⟩ := row3 (blk_below (blk_below HX6.out hwx) hb8)
              go_wp2_with fail
              go_ret
              exact ⟨rfl, hfin.step hb8⟩
  · have hn' : 60 < ds.length := by omega
    go_wp2_with fail
    go_ret
    exact ⟨rfl, hb1⟩
end Go.Proofs.YtcpecponmaakoaaGreatDoor
