/- Walks of the statements: CleanLazy. -/
import Derived.Test.YtceamgkifjmbcaaRW
import Derived.Deep.RegionHeld3
namespace Go.Proofs.Ytceamgkifjmbcaa
open Go.RowKit Go.Wm
theorem batCells_len (ps : List (Batch × Value)) : (batCells ps).length = ps.length * 10 := batCells_length ps
theorem batCells_app (ps qs : List (Batch × Value)) : batCells (ps ++ qs) = batCells ps ++ batCells qs := by simp [batCells]
/-- 'append(out, xs..)' of several batches that lie one behind the other, at a step of a region. -/
theorem step_append_from {w : World} {ops : Array Oper} {o : Oper} {a : Act} {K : Act → World → Prop} {Q : Exit → Act → World → Prop} {E : Prop} (hgd : o.guard = none) (s x : Operand)
    (ho : o.op = .call { callee := .builtin .append, args := #[s, x], argTypes := #[22, 22] })
    (base : Nat) (v : Value) (xs : List Batch) (hs : a.eval s = v) (hown : OwnBats w base v xs) (g off cap : Nat) (qs : List (Batch × Value)) (m : Nat) (hm : qs.length = m) (hx : a.eval x = .slice (some ⟨g, off, none⟩) m cap)
    (hcell : ∀ j u, (batCells qs)[j]? = some u → w.cell? ⟨g, off + j, none⟩ = some u) (hq : ∀ p ∈ qs, OwnRecs w base p.2 p.1.recs ∧ smallRecs p.1.recs) (hn : xs.length + qs.length ≤ 100000000) (hbase : base ≤ w.heap.size)
    (h : ∀ v' w', OwnBats w' base v' (xs ++ qs.map (·.1)) → Below base w w' → w.grownBy w' v.ownBlock → K (a.put o.dst v') w') :
    if Region.wanted o (yielded ops a.tmps) = true then Oper.wp Try.prog o a w K Q else E := by
  subst hm
  have hw : Region.wanted o (yielded ops a.tmps) = true := by simp [Region.wanted, hgd]
  rw [if_pos hw]
  obtain ⟨ps, hps, hown, hrec⟩ := hown
  have hlen : ps.length = xs.length := by rw [← hps, List.length_map]
  obtain ⟨i', hi', hz, hsize, hby⟩ := info_parts Try.inf28
  have hone : ∀ p ∈ qs, p.2.oneCell' = true := fun p hp => by
    rcases (hq p hp).1.2 with ⟨h, _⟩ | ⟨g, cap, cur, h, _⟩ <;> rw [h] <;> rfl
  obtain ⟨v', w', hr', h2, h3, _⟩ := run_append_own (P := Try.prog) w base 22 o.type 28 i' _ 10 96 Try.underlying22 hi' hz hsize hby rfl (by decide) v ps.length (batCells ps) hown ⟨g, off, none⟩ qs.length cap (batCells qs) (batCells_length qs) (by
    intro j u hj
    have e : (⟨g, off, none⟩ : Addr).add j = ⟨g, off + j, none⟩ := by simp only [Addr.add]; split <;> simp_all
    rw [e]
    exact hcell j u hj) (by
    intro u hu
    simp only [batCells, List.mem_flatMap] at hu
    obtain ⟨p, hp, hu⟩ := hu
    have h1 := hone p hp
    simp [Batch.cells] at hu
    rcases hu with rfl | rfl | rfl | rfl | rfl | rfl | rfl | rfl | rfl | rfl <;> first | rfl | exact h1) (by simp only [maxLen]; omega) (by omega) hbase
  unfold Oper.wp execOp
  simp only [ho, resolve, invoke, builtin, Sem.run_bind, Sem.run_pure, Result.andThen_ok, List.map_toArray, List.map_cons, List.map_nil, hs, hx, hr']
  refine h v' w' ⟨ps ++ qs, by simp [hps], ?_, ?_⟩ (below_grown h3 hbase fun k hk => (hown.lt k hk).1) h3
  · rw [batCells_app, List.length_append]; exact h2
  · intro p hp
    rcases List.mem_append.1 hp with hp | hp
    · exact ⟨(hrec p hp).1.kept h3 (own_ne (hrec p hp).1 hown (by decide)), (hrec p hp).2⟩
    · exact ⟨(hq p hp).1.kept h3 (own_ne (hq p hp).1 hown (by decide)), (hq p hp).2⟩
/-- 's[k:]' and 's[:k]' of batches. -/
theorem bats_to (g n cap k : Nat) (hk : k ≤ n) (hn : n ≤ cap) (W : World) : (Instr.slice 22 (.slice (some ⟨g, 0, none⟩) n cap) none (some (.int .i64 (k : Int))) none).run Try.prog W = .ok (.slice (some ⟨g, 0, none⟩) k cap) W := by
  have hb := run_sliceBound (P := Try.prog) W .i64 (k : Int) cap .sliceAcap (by omega) (by omega)
  simp [Instr.slice, run_underlying Try.underlying22, Instr.sliceBounds, hb, go_sem]
theorem bats_tail (g n cap k : Nat) (hk : k ≤ n) (W : World) : (Instr.slice 22 (.slice (some ⟨g, 0, none⟩) n cap) (some (.int .i64 (k : Int))) none none).run Try.prog W = .ok (.slice (some ⟨g, if cap = k then 0 else k * 10, none⟩) (n - k) (cap - k)) W := by
  have hb := run_sliceBound (P := Try.prog) W .i64 (k : Int) n .sliceB (by omega) (by omega)
  by_cases hck : cap = k
  · simp [Instr.slice, run_underlying Try.underlying22, Instr.sliceBounds, hb, hck, go_sem]
  · simp [Instr.slice, run_underlying Try.underlying22, Instr.sliceBounds, hb, hck, go_sem]
theorem take_cells {ps : List (Batch × Value)} {p : Nat} {j : Nat} {u : Value} (h : (batCells (ps.take p))[j]? = some u) : (batCells ps)[j]? = some u := by
  have e : batCells ps = batCells (ps.take p) ++ batCells (ps.drop p) := by rw [← batCells_app, List.take_append_drop]
  rw [e, List.getElem?_append_left (List.getElem?_eq_some_iff.1 h).1]
  exact h
theorem drop_cells {ps : List (Batch × Value)} {p : Nat} (hp : p ≤ ps.length) {j : Nat} {u : Value} (h : (batCells (ps.drop p))[j]? = some u) : (batCells ps)[p * 10 + j]? = some u := by
  have e : batCells ps = batCells (ps.take p) ++ batCells (ps.drop p) := by rw [← batCells_app, List.take_append_drop]
  have hl : (batCells (ps.take p)).length = p * 10 := by rw [batCells_length, List.length_take, Nat.min_eq_left hp]
  rw [e, List.getElem?_append_right (by omega), hl, Nat.add_sub_cancel_left]
  exact h
set_option maxRecDepth 100000 in
set_option maxHeartbeats 4000000 in
theorem lazy_any (bs : List Batch) (l : List Gone) (vb vl : Value) (to now keep at_ : Int) (w : World) (hb : BatchesBig w vb bs) (hcap : CapsAt w vb) (hl : GonesBig w vl l) (hp : ∀ x ∈ bs, (Lit.int .i64 x.pid).wf = true) :
    Calls Try.prog 8 #[vb, vl, .int .i64 to, .int .i64 now, .int .i64 keep, .int .i64 at_] w fun e w' => e = .returned (.bool true) ∧ Below w.heap.size w w' := by
  cases hf : fewB bs l
  · have F := hid (fun W (h : Below w.heap.size w W) => few_big bs l vb vl W (hb.mono h) (hl.mono h))
    rw [hf] at F
    clear hb hl hcap
    go_enter Try.func8, Try.ntmps8
    go_wp2_with fail
    refine (live_any _).mono ?_
    rintro e1 w1 ⟨rfl, hb1⟩
    go_wp2_with fail
    refine (F.out w1 hb1).mono ?_
    rintro e2 w2 ⟨rfl, hb2⟩
    go_wp2
    go_ret
    exact ⟨rfl, hb1.step hb2⟩
  · have hb' := hb.small (few_cut hf).1
    have hl' := hl.small (few_cut hf).2
    obtain ⟨hn16, hn60⟩ := few_cnt hf
    have HC := hid (hb'.caps hcap)
    have F := hid (fun W (h : Below w.heap.size w W) => few_big bs l vb vl W (hb.mono h) (hl.mono h))
    rw [hf] at F
    have C := hid (fun W (h : Below w.heap.size w W) => clean_any bs l vb vl to now keep W (hb'.mono h) (hl'.mono h) hp)
    have hclen := cleanTo_length bs l to now keep bs.length
    have hcnt := recCount_clean bs l to now keep bs.length (Nat.le_refl _)
    rw [List.take_length] at hcnt
    change (cleanG bs l to now keep).length ≤ _ at hclen
    change recCount (cleanG bs l to now keep) ≤ _ at hcnt
    have LL := hid (lazy_law bs l to now keep)
    have RI := hid (fun W (h : Below w.heap.size w W) => rising_any bs vb W (hb'.mono h))
    have CS := hid (fun W (h : Below w.heap.size w W) => check_any bs bs l vb vb vl to now keep W (HC.out.mono h) (HC.out.mono h) (hl'.mono h) hp (by omega) (by omega) (by omega) (by omega))
    rw [self_law bs l to now keep] at CS
    have CK := hid (fun p vy W (h : Below w.heap.size w W) (hy : BatchesC W vy ((cleanG bs l to now keep).take p ++ (cleanG bs l to now keep).drop (p + 1))) => check_any bs ((cleanG bs l to now keep).take p ++ (cleanG bs l to now keep).drop (p + 1)) l vb vy vl to now keep W (HC.out.mono h) hy (hl'.mono h) hp (by omega) (by simp only [List.length_append, List.length_take, List.length_drop]; omega) (by omega) (by have := recCount_cut (cleanG bs l to now keep) p; omega))
    obtain ⟨ab, capb, rfl, hnb, _⟩ := hb'
    clear hb hl hf hl' hp hcap HC
    generalize cleanG bs l to now keep = xs at *
    go_enter Try.func8, Try.ntmps8
    go_wp2_with fail
    refine (live_any _).mono ?_
    rintro e1 w1 ⟨rfl, hb1⟩
    go_wp2_with fail
    refine (F.out w1 hb1).mono ?_
    rintro e2 w2 ⟨rfl, hb2⟩
    have hB2 := hb1.step hb2
    clear F
    go_wp2_with fail
    refine (CS.out w2 hB2).mono ?_
    rintro e3 w3 ⟨rfl, hb3⟩
    have hB3 := hB2.step hb3
    clear CS
    go_wp2_with fail
    refine (C.out w3 hB3).mono ?_
    rintro e4 w4 ⟨ux, rfl, hux, hb4⟩
    have hB4 := hB3.step hb4
    have HX := hid hux
    obtain ⟨ax, capx, rfl, hnx, _⟩ := hux.at (by omega)
    clear C hux
    have hle : decide ((xs.length : Int) ≤ (bs.length : Int)) = true := by simp; omega
    have hgt : decide ((bs.length : Int) < (xs.length : Int)) = false := by simp; omega
    rcases Bool.eq_false_or_eq_true (decide (at_ < 0)) with h1 | h1
    · clear HX CK LL RI
      go_wp2
      go_ret
      exact ⟨rfl, hB4⟩
    · rcases Bool.eq_false_or_eq_true (decide ((xs.length : Int) ≤ at_)) with h2 | h2
      · clear HX CK LL RI
        go_wp2
        go_ret
        exact ⟨rfl, hB4⟩
      · have g1 := of_decide_eq_false h1
        have g2 := of_decide_eq_false h2
        obtain ⟨p, rfl⟩ := Int.eq_ofNat_of_zero_le (show 0 ≤ at_ by omega)
        have hpx : p < xs.length := by omega
        have HLZ := hid (fun hr => LL.out hr p hpx)
        obtain ⟨ps, hps, hrow, hrs⟩ := HX.out
        have hpl : ps.length = xs.length := by rw [← hps, List.length_map]
        rcases id hrow.2 with ⟨_, h0⟩ | ⟨g, cap, cur, hv, hg, hgc, hncap, hmcap, _⟩
        · omega
        · simp only [Value.slice.injEq] at hv
          obtain ⟨rfl, hxl, hcx⟩ := hv
          clear hxl
          have S1 := hid (bats_to g xs.length (xs.length + capx) p (by omega) (by omega))
          have S2 := hid (bats_tail g xs.length (xs.length + capx) (p + 1) (by omega))
          have hcell : ∀ j v, (batCells ps)[j]? = some v → w4.cell? ⟨g, j, none⟩ = some v := by
            intro j v hj
            have := World.ownsRow.cells (v := .slice (some ⟨g, 0, none⟩) xs.length (xs.length + capx)) hrow rfl j v hj
            have e : (⟨g, 0, none⟩ : Addr).add j = ⟨g, j, none⟩ := by simp only [Addr.add]; split <;> simp_all
            rwa [e] at this
          have HT := hid (fun W (hb : Below w4.heap.size w4 W) j u (h : (batCells (ps.take p))[j]? = some u) => show W.cell? ⟨g, 0 + j, none⟩ = some u by
            rw [Nat.zero_add]; exact cell_below hb (hcell j u (take_cells h)))
          obtain ⟨off, hoff⟩ : ∃ off, off = (if xs.length + capx = p + 1 then 0 else (p + 1) * 10) := ⟨_, rfl⟩
          rw [← hoff] at S2
          have HD := hid (fun W (hb : Below w4.heap.size w4 W) j u (h : (batCells (ps.drop (p + 1)))[j]? = some u) => show W.cell? ⟨g, off + j, none⟩ = some u by
            by_cases hc : xs.length + capx = p + 1
            · rw [List.drop_eq_nil_of_le (by omega)] at h
              simp [batCells] at h
            · rw [hoff, if_neg hc]
              exact cell_below hb (hcell _ u (drop_cells (by omega) h)))
          have HRt := hid (fun W (hb : Below w4.heap.size w4 W) q (h : q ∈ ps.take p) => show OwnRecs W w3.heap.size q.2 q.1.recs ∧ smallRecs q.1.recs from ⟨(hrs q (List.mem_of_mem_take h)).1.below hb, (hrs q (List.mem_of_mem_take h)).2⟩)
          have HRd := hid (fun W (hb : Below w4.heap.size w4 W) q (h : q ∈ ps.drop (p + 1)) => show OwnRecs W w3.heap.size q.2 q.1.recs ∧ smallRecs q.1.recs from ⟨(hrs q (List.mem_of_mem_drop h)).1.below hb, (hrs q (List.mem_of_mem_drop h)).2⟩)
          have HLt : (ps.take p).length = p := by rw [List.length_take]; omega
          have HLd : (ps.drop (p + 1)).length = xs.length - (p + 1) := by rw [List.length_drop]; omega
          have HY := hid (show ([] ++ (ps.take p).map (·.1)) ++ (ps.drop (p + 1)).map (·.1) = xs.take p ++ xs.drop (p + 1) by rw [← hps]; simp)
          have hbd : Below w4.heap.size w4 w4.drew := (Below.refl _ _).drew
          have hs34 : w3.heap.size ≤ w4.drew.heap.size := hb4.size
          have hn1 : ([] : List Batch).length + (ps.take p).length ≤ 100000000 := by rw [HLt]; simp; omega
          have hn2 : ([] ++ (ps.take p).map (·.1) : List Batch).length + (ps.drop (p + 1)).length ≤ 100000000 := by rw [HLd]; simp; omega
          have hw1 : IntKind.i64.wrap ((p : Int) + 1) = (p : Int) + 1 := IntWalk.i64_in _ (by omega)
          have s1 := S1.out
          have s2 := S2.out
          rw [show ((p + 1 : Nat) : Int) = (p : Int) + 1 from by omega] at s2
          clear S1 S2 hcell hrow hrs HX hoff LL g1 g2 hg hgc hncap hmcap hcx
          go_wp2
          go_region_held3 (fun _ => True) (trivial)
            (first
              | (refine step_append_from rfl (.const (.slice none 0 0)) (.tmp 57) rfl w3.heap.size _ [] rfl (OwnBats.nil _ _) g 0 _ (ps.take p) p HLt rfl (HT.out _ hbd) (HRt.out _ hbd) hn1 hs34 ?_; intro v1 w5 hown5 hbel5 hgr5; have hB5 : Below w4.heap.size w4 w5 := hbd.trans (below_grown hgr5 (Nat.le_refl _) (fun k hk => by cases hk)))
              | (refine step_append_from rfl (.tmp 58) (.tmp 62) rfl w3.heap.size _ _ rfl hown5 g off _ (ps.drop (p + 1)) _ HLd rfl (HD.out _ hB5) (HRd.out _ hB5) hn2 (Nat.le_trans hb4.size hB5.size) ?_; intro v2 w6 hown6 hbel6 hgr6))
          all_goals
            rw [HY.out] at hown6
            have hB6 : Below w.heap.size w w6 := hB3.step ((hb4.step hB5).trans hbel6)
            have hyl : (xs.take p ++ xs.drop (p + 1)).length ≤ 1000000 := by simp only [List.length_append, List.length_take, List.length_drop]; omega
            have HYC := hid (hown6.atC hyl)
            clear hown5 hown6 hgr5 hgr6 hbel5 hbel6 HT HD HRt HRd HLt HLd HY hn1 hn2 s1 s2 hw1 hyl
            go_wp2_with fail
            refine (RI.out w6 hB6).mono ?_
            rintro e7 w7 ⟨rfl, hb7⟩
            clear RI
            have hB7 := hB6.step hb7
            cases hr : risingB bs with
            | false =>
              clear HLZ CK HYC hr
              go_wp2
              go_ret
              exact ⟨rfl, hB7⟩
            | true =>
              have CQ := hid (CK.out p v2 w7 hB7 (HYC.out.mono hb7))
              rw [HLZ.out hr] at CQ
              clear HLZ CK HYC hr
              go_wp2_with fail
              refine CQ.out.mono ?_
              rintro e8 w8 ⟨rfl, hb8⟩
              go_wp2
              go_ret
              exact ⟨rfl, hB7.step hb8⟩
end Go.Proofs.Ytceamgkifjmbcaa
