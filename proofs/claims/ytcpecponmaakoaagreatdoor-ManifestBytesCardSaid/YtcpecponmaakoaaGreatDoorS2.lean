/- Walks: a piece's step to There or Going (the program's step, at 'always'). -/
import Derived.Test.YtcpecponmaakoaaGreatDoorS1
import Derived.Test.YtcpecponmaakoaaGreatDoorL3
namespace Go.Proofs.YtcpecponmaakoaaGreatDoor
open Go.RowKit Go.Wm
def setState (p : Piece) (s : Int) : Piece := ⟨p.id, p.base, p.fin, p.size, p.sum, s⟩
theorem over_state (l : List Piece) (i : Nat) (s : Int) (h : i < l.length) : (pcCells l).set (i * 6 + 5) (.int .i64 s) = pcCells (l.set i (setState l[i] s)) := by
  have h1 := over_piece l i (setState l[i] s) h
  have h2 : over (pcCells l) (i * 6) (setState l[i] s).cells = (pcCells l).set (i * 6 + 5) (.int .i64 s) := by
    apply List.ext_getElem?
    intro j
    have hl := pcCells_length l
    rw [over_eq _ _ _ (by rw [hl]; show i * 6 + 6 ≤ _; omega)]
    have hc : (setState l[i] s).cells = [.int .i64 l[i].id, .int .i64 l[i].base, .int .i64 l[i].fin, .int .i64 l[i].size, .int .u32 l[i].sum, .int .i64 s] := rfl
    rw [hc, List.getElem?_set]
    have hf := fun j hj => flat_get Piece.cells 6 Piece.cells_length l i j h hj
    by_cases hj1 : j < i * 6
    · rw [List.append_assoc, List.getElem?_append_left (by rw [List.length_take]; omega), List.getElem?_take, if_pos hj1, if_neg (by omega)]
    · by_cases hj2 : j < i * 6 + 6
      · rw [List.getElem?_append_left (by rw [List.length_append, List.length_take]; simp; omega), List.getElem?_append_right (by rw [List.length_take]; omega), List.length_take, Nat.min_eq_left (by omega)]
        obtain ⟨m, rfl⟩ : ∃ m, j = i * 6 + m := ⟨j - i * 6, by omega⟩
        rw [Nat.add_sub_cancel_left]
        have hm : m < 6 := by omega
        match m, hm with
        | 0, _ => rw [if_neg (by omega)]; exact (hf 0 (by omega)).symm
        | 1, _ => rw [if_neg (by omega)]; exact (hf 1 (by omega)).symm
        | 2, _ => rw [if_neg (by omega)]; exact (hf 2 (by omega)).symm
        | 3, _ => rw [if_neg (by omega)]; exact (hf 3 (by omega)).symm
        | 4, _ => rw [if_neg (by omega)]; exact (hf 4 (by omega)).symm
        | 5, _ => rw [if_pos rfl, if_pos (by rw [hl]; omega)]; rfl
      · rw [List.getElem?_append_right (by rw [List.length_append, List.length_take]; simp; omega), if_neg (by omega), List.getElem?_drop, List.length_append, List.length_take, Nat.min_eq_left (by omega)]
        congr 1
        simp
        omega
  rw [← h2, h1]
/-- A step: the manifest behind it, and the error. -/
def stepM (ver next : Int) (ps : List Piece) (id to : Int) (may : Nat → Bool) : (Int × Int × List Piece) × Int :=
  if checkM ver next ps ≠ 0 then ((0, 0, []), checkM ver next ps)
  else match ps.findIdx? (idIs id) with
    | none => ((0, 0, []), 150)
    | some i => if (tbl.any (isPair (ps.getD i zeroP).state to) && may i) = false then ((0, 0, []), 150)
      else if ver = 1099511627776 then ((0, 0, []), 2)
      else ((ver + 1, next, if to = 4 then ps.eraseIdx i else ps.set i (setState (ps.getD i zeroP) to)), 0)
theorem OwnPcs.setCell3 {w : World} {b R : Nat} {v x y z : Value} {l : List Piece} (h : OwnPcs w b v l) (hR : R < b) : OwnPcs (((w.setCell ⟨R, 0, none⟩ x).setCell ⟨R, 1, none⟩ y).setCell ⟨R, 2, none⟩ z) b v l := by
  refine ownsRow_same h fun g hg => ?_
  have hne : g ≠ R := by have := (World.ownsRow.lt h g hg).1; omega
  rw [heap_setCell_other _ _ g _ hne, heap_setCell_other _ _ g _ hne, heap_setCell_other _ _ g _ hne]
theorem below_setCell3 {w w' : World} {R : Nat} (h : Below w.heap.size w w') (hR : w.heap.size ≤ R) (x y z : Value) : Below w.heap.size w (((w'.setCell ⟨R, 0, none⟩ x).setCell ⟨R, 1, none⟩ y).setCell ⟨R, 2, none⟩ z) :=
  ((h.setCell (p := ⟨R, 0, none⟩) hR _).setCell (p := ⟨R, 1, none⟩) hR _).setCell (p := ⟨R, 2, none⟩) hR _
theorem wpList_store_cell {P : Program} {w : World} {ops : Array Oper} {rest : List Oper} {o : Oper} {a : Act} {Q : Exit → Act → World → Prop} (hgd : o.guard = none) (ty : TypeId) (x y : Operand) (ho : o.op = .store ty x y) (hi : (P.info? ty).map (·.size) = some 1)
    (g j : Nat) (v : Value) (hx : a.eval x = .pointer (some ⟨g, j, none⟩)) (hy : a.eval y = v) (h1 : v.oneCell' = true) (hc : (w.cell? ⟨g, j, none⟩).isSome = true) (hf : w.frozen? ⟨g, j, none⟩ = false)
    (h : wpList P ops Q rest (a.put o.dst undef) (w.setCell ⟨g, j, none⟩ v)) : wpList P ops Q (o :: rest) a w := by
  have hc' := hc
  refine wpList_plain hgd fun K hK => ?_
  have hr : (storeVar ty ⟨g, j, none⟩ v).run P w = .ok () (w.setCell ⟨g, j, none⟩ v) := by
    cases hq : P.info? ty with
    | none => rw [hq] at hi; cases hi
    | some i =>
      rw [hq] at hi
      have hs : i.size = 1 := by simpa using hi
      have hc1 : v.cells = #[v] := by cases v <;> first | rfl | cases h1
      have := run_storeCells_cells (P := P) g j [v] 0 w (fun k hk => by simp at hk; subst hk; simpa using hc') (fun k hk => by simp at hk; subst hk; simpa using hf) (by simpa using h1)
      simp only [Nat.add_zero] at this
      simp [storeVar, sizeOf, typeInfo, hq, hs, hc1, this, World.setCells]
  unfold Oper.wp execOp
  simp only [ho, hx, hy, Instr.storeAt, Instr.sureAddr, Sem.run_bind, Sem.run_pure, Result.andThen_ok, hr]
  exact hK _ _ h
theorem wpList_store_state {P : Program} {w : World} {ops : Array Oper} {rest : List Oper} {o : Oper} {a : Act} {Q : Exit → Act → World → Prop} (hgd : o.guard = none) (x y : Operand) (ho : o.op = .store 3 x y) (hi : (P.info? 3).map (·.size) = some 1)
    (base g n cap : Nat) (l : List Piece) (hown : OwnPcs w base (.slice (some ⟨g, 0, none⟩) n cap) l) (hn : n = l.length) (i : Nat) (hil : i < l.length) (s : Int)
    (hx : a.eval x = .pointer (some ⟨g, i * 6 + 5, none⟩)) (hy : a.eval y = .int .i64 s)
    (h : ∀ w', OwnPcs w' base (.slice (some ⟨g, 0, none⟩) n cap) (l.set i (setState l[i] s)) → w.grownBy w' (some g) → wpList P ops Q rest (a.put o.dst undef) w') : wpList P ops Q (o :: rest) a w := by
  subst hn
  have hth := OwnPcs.there hown hil 5 (by omega)
  refine wpList_store_cell hgd 3 x y ho hi g (i * 6 + 5) _ hx hy rfl hth.1 hth.2 ?_
  have h1 := World.ownsRow.stored (show w.ownsRow base 29 6 (.slice (some ⟨g, 0, none⟩) l.length cap) l.length (pcCells l) from hown) (i * 6 + 5) (.int .i64 s)
  rw [over_state l i s hil] at h1
  refine h _ ?_ ?_
  · unfold OwnPcs; rw [List.length_set]; exact h1.1
  · exact h1.2
set_option maxHeartbeats 2000000 in
set_option maxRecDepth 100000 in
theorem stepDone_any (ver next id : Int) (ps : List Piece) (v : Value) (w : World) (hS : StepsAt w 0) (hv : PcsAt w v ps) :
    Calls Tryz.prog 70 #[.agg #[.int .i64 ver, .int .i64 next, v], .int .i64 id, .int .i64 2, .func (.func 71) #[] #[]] w fun e w' => ∃ u, e = .returned (.tuple #[.agg #[.int .i64 (stepM ver next ps id 2 (fun _ => true)).1.1, .int .i64 (stepM ver next ps id 2 (fun _ => true)).1.2.1, u], .int .i64 (stepM ver next ps id 2 (fun _ => true)).2]) ∧ OwnPcs w' w.heap.size u (stepM ver next ps id 2 (fun _ => true)).1.2.2 ∧ Below w.heap.size w w' := by
  have K := hid (fun W (h : Below w.heap.size w W) => check_any ver next ps v W (hv.mono h))
  have HV := hid hv
  obtain ⟨a, cap, rfl, hn, hs⟩ := hv
  have hb0 := ((below_alloc w (.cells #[.int .i64 ver, .int .i64 next, .slice a ps.length cap] 24)).step (below_alloc _ (.cells #[.int .i64 id] 3))).step (below_alloc _ (.cells #[.int .i64 0, .int .i64 0, .slice none 0 0] 24))
  by_cases hck : checkM ver next ps = 0
  · have Hck := hid (checkM_ok hck)
    have Hm := hid (show (stepM ver next ps id 2 (fun _ => true)) = _ from by rw [stepM, if_neg (by simp [hck])])
    rw [hck] at K
    have I := hid (fun W B (h : Below w.heap.size w W) (hB : W.cell? ⟨B, 0, none⟩ = some (.int .i64 id)) => index92_any (idIs id) ps B (.slice a ps.length cap) W (HV.out.mono h) (fun W' h' p _ => step1_any id B p W' (cell_below h' hB)))
    go_enter Tryz.func70, Tryz.ntmps70
    go_wp2_with fail
    refine (K.out _ hb0).mono ?_
    rintro e w1 ⟨rfl, hb1⟩
    have hR1 : w1.heap[w.heap.size + 1 + 1]? = some (.cells #[.int .i64 0, .int .i64 0, .slice none 0 0] 24 (0, 0)) := blk_new hb1 (by simp)
    have hM1 : w1.heap[w.heap.size]? = some (.cells #[.int .i64 ver, .int .i64 next, .slice a ps.length cap] 24 (0, 0)) := blk_below (blk_below (blk_below (heap_alloc_new w _) (below_alloc _ _)) (below_alloc _ _)) hb1
    have hI1 : VarAt w1 (w.heap.size + 1) 3 (.int .i64 id) := blk_below (blk_below (blk_new (Below.refl _ _) (by simp)) (below_alloc _ _)) hb1
    have hbw := hb0.step hb1
    have hs1 : w.heap.size + 3 ≤ w1.heap.size := by have := hb1.size; simpa using this
    obtain ⟨m0, m1, m2, mf⟩ := row3 hM1
    have hS1 := hS.below hbw
    have I := hid (I.out w1 (w.heap.size + 1) hbw hI1.cell)
    clear hb1 hb0 K hS hck
    go_wp2_with fail
    refine I.out.mono ?_
    rintro e w2 ⟨rfl, hb2⟩
    have hR2 := blk_below hR1 hb2
    have hM2 := blk_below hM1 hb2
    have hbw2 := hbw.step hb2
    have hs2 : w.heap.size + 3 ≤ w2.heap.size := Nat.le_trans hs1 hb2.size
    have hS2 := hS1.below hb2
    clear I hI1 hR1 hM1 hbw hs1 hS1 hb2 m0 m1 m2 mf
    obtain ⟨m0, m1, m2, mf⟩ := row3 hM2
    cases hf : ps.findIdx? (idIs id) with
    | none =>
      have hi : idxOf (idIs id) ps = -1 := by simp [idxOf, hf]
      have Hm2 := hid (show (stepM ver next ps id 2 (fun _ => true)) = ((0, 0, []), 150) by rw [Hm.out, hf])
      rw [hi]
      obtain ⟨r0, r1, r2, rf⟩ := row3 hR2
      clear hi hf hs HV Hm
      go_wp2_with fail
      refine wp_region_later (by kernel_rfl) (by kernel_rfl) ?_
      repeat (go_big_quiet_step (fail))
      refine wpQuiet_nil ?_
      intro w3 hb3
      obtain ⟨r0, r1, r2, rf⟩ := row3 (blk_below hR2 hb3)
      have hbw3 := hbw2.step hb3
      clear hb3 m0 m1 m2 mf
      go_wp2_with fail
      exact bodyPost_ret (v := .tuple #[.agg #[.int .i64 0, .int .i64 0, .slice none 0 0], .int .i64 150]) (by simp [results, Tryz.results70, go_sem, r0, r1, r2]) rfl ⟨_, by rw [Hm2.out], by rw [Hm2.out]; exact OwnPcs.nil _ _, below_setCell3 hbw3 (by omega) _ _ _⟩
    | some i =>
      have hi : idxOf (idIs id) ps = i := by simp [idxOf, hf]
      obtain ⟨hlt, _⟩ := List.findIdx?_eq_some_iff_getElem.1 hf
      rw [hi]
      have hgd : ps.getD i zeroP = ps[i] := by simp [List.getD, hlt]
      have Hm1 := hid (show (stepM ver next ps id 2 (fun _ => true)) = _ from by rw [Hm.out, hf])
      simp only [hgd, Bool.and_true] at Hm1
      clear Hm
      have hsx := hs i hlt
      obtain ⟨b, o, rfl, hx⟩ := hsx
      have hx := (hx _ (List.getElem?_eq_getElem hlt)).mono hbw2
      obtain ⟨p, hp⟩ : ∃ p, p = ps[i] := ⟨_, rfl⟩
      rw [← hp] at hx Hm1
      have Hp := hid hp
      have e5 := hx.c5
      have HS := hid hs
      clear hp hx hgd hi hf hs
      have k2 := Later.cell m2
      have k5 := Later.cell e5
      have hneg : decide ((i : Int) < 0) = false := decide_eq_false (by omega)
      have P := hid (fun (n : Later w2) => containsPair_any 0 p.state 2 n.w (hS2.below n.below))
      have A := hid (fun (n : Later w2) => always_any i n.w)
      cases hpr : tbl.any (isPair p.state 2) with
      | false =>
        rw [hpr] at P Hm1
        have Hm2 := hid (show (stepM ver next ps id 2 (fun _ => true)) = ((0, 0, []), 150) by rw [Hm1.out]; rfl)
        clear Hm1
        go_wp2_with fail
        refine wp_region_later (by kernel_rfl) (by kernel_rfl) ?_
        repeat (go_big_quiet_step ((first | (go_at_call 93; exact Later.call (P.out _)) | (go_at_call 71; exact Later.call (A.out _)))))
        refine wpQuiet_nil ?_
        intro w3 hb3
        obtain ⟨r0, r1, r2, rf⟩ := row3 (blk_below hR2 hb3)
        have hbw3 := hbw2.step hb3
        clear hb3 m0 m1 m2 mf k2 k5 P A
        go_wp2_with fail
        exact bodyPost_ret (v := .tuple #[.agg #[.int .i64 0, .int .i64 0, .slice none 0 0], .int .i64 150]) (by simp [results, Tryz.results70, go_sem, r0, r1, r2]) rfl ⟨_, by rw [Hm2.out], by rw [Hm2.out]; exact OwnPcs.nil _ _, below_setCell3 hbw3 (by omega) _ _ _⟩
      | true =>
        rw [hpr] at P Hm1
        have Hx := hid True.intro
        have Hver := hid Hck.out.1
        by_cases hvm : ver = 1099511627776
        · have Hm2 := hid (show (stepM ver next ps id 2 (fun _ => true)) = ((0, 0, []), 2) by rw [Hm1.out]; simp [hvm])
          have hvb : (ver == 1099511627776) = true := by simpa using hvm
          clear Hm1
          go_wp2_with fail
          refine wp_region_later (by kernel_rfl) (by kernel_rfl) ?_
          repeat (go_big_quiet_step ((first | (go_at_call 93; exact Later.call (P.out _)) | (go_at_call 71; exact Later.call (A.out _)))))
          refine wpQuiet_nil ?_
          intro w3 hb3
          obtain ⟨r0, r1, r2, rf⟩ := row3 (blk_below hR2 hb3)
          have hbw3 := hbw2.step hb3
          clear m0 m1 m2 mf k2 k5 P A
          obtain ⟨m0, m1, m2, mf⟩ := row3 (blk_below hM2 hb3)
          clear hb3
          go_wp2_with fail
          exact bodyPost_ret (v := .tuple #[.agg #[.int .i64 0, .int .i64 0, .slice none 0 0], .int .i64 2]) (by simp [results, Tryz.results70, go_sem, r0, r1, r2]) rfl ⟨_, by rw [Hm2.out], by rw [Hm2.out]; exact OwnPcs.nil _ _, below_setCell3 hbw3 (by omega) _ _ _⟩
        · have Hm2 := hid (show (stepM ver next ps id 2 (fun _ => true)) = ((ver + 1, next, ps.set i (setState p 2)), 0) by rw [Hm1.out]; simp [hvm])
          have hvb : (ver == 1099511627776) = false := by simpa using hvm
          clear Hm1 hvm
          go_wp2_with fail
          refine wp_region_later (by kernel_rfl) (by kernel_rfl) ?_
          repeat (go_big_quiet_step ((first | (go_at_call 93; exact Later.call (P.out _)) | (go_at_call 71; exact Later.call (A.out _)))))
          refine wpQuiet_nil ?_
          intro w3 hb3
          have hbw3 := hbw2.step hb3
          clear m0 m1 m2 mf k2 k5 P A
          have hM3 := blk_below hM2 hb3
          have hR3 := blk_below hR2 hb3
          have hs3 : w.heap.size + 3 ≤ w3.heap.size := Nat.le_trans hs2 hb3.size
          obtain ⟨m0, m1, m2, mf⟩ := row3 hM3
          clear hb3 e5
          go_wp2_with fail
          refine (clone_any ps _ _ (HV.out.mono hbw3)).mono ?_
          rintro e w4 ⟨u, rfl, hu, hb4⟩
          have hM4 := blk_below hM3 hb4
          have hR4 := blk_below hR3 hb4
          have hbw4 := hbw3.step hb4
          have hu4 : ∃ g cap2, u = .slice (some ⟨g, 0, none⟩) ps.length cap2 ∧ w3.heap.size ≤ g ∧ ps.length ≤ cap2 := by
            rcases hu.2 with ⟨h, h0⟩ | ⟨g, cap', cur, h, hg, _, hc, _⟩
            · omega
            · exact ⟨g, cap', h, hg, hc⟩
          obtain ⟨g, cap2, rfl, hg, hcap2⟩ := hu4
          have Hver1 : 0 ≤ ver := Hver.out.1
          have Hver2 : ver ≤ 1099511627776 := Hver.out.2
          have hb4s := hb4.size
          clear hb4 m0 m1 m2 mf HV HS
          go_wp2_with (refine wpList_store_state rfl (.tmp 56) (.tmp 54) rfl (by kernel_rfl) w3.heap.size g ps.length cap2 ps hu rfl i hlt 2 rfl rfl ?_)
          intro w5 hu5 hg5
          rw [← Hp.out] at hu5
          have hM5 := heap_kept hM4 hg5 (by omega)
          have hR5 := heap_kept hR4 hg5 (by omega)
          obtain ⟨m0, m1, m2, mf⟩ := row3 hM5
          obtain ⟨r0, r1, r2, rf⟩ := row3 hR5
          have hbw5 := hbw4.trans (below_grown (base := w.heap.size) hg5 hbw4.size fun k hk => by cases hk; omega)
          clear hM4 hR4 hu hg5
          go_wp2_with fail
          exact bodyPost_ret (v := .tuple #[.agg #[.int .i64 (ver + 1), .int .i64 next, .slice (some ⟨g, 0, none⟩) ps.length cap2], .int .i64 0]) (by simp [results, Tryz.results70, go_sem, r0, r1, r2]) rfl ⟨_, by rw [Hm2.out], by rw [Hm2.out]; exact OwnPcs.base (OwnPcs.setCell3 hu5 (by omega)) (by omega), below_setCell3 hbw5 (by omega) _ _ _⟩

  · have Hm := hid (show (stepM ver next ps id 2 (fun _ => true)) = ((0, 0, []), checkM ver next ps) by rw [stepM, if_pos hck])
    have hcb : (checkM ver next ps != 0) = true := by simpa using hck
    generalize checkM ver next ps = ce at *
    clear hck hs HV hS
    go_enter Tryz.func70, Tryz.ntmps70
    go_wp2_with fail
    refine (K.out _ hb0).mono ?_
    rintro e w1 ⟨rfl, hb1⟩
    have hR : w1.heap[w.heap.size + 1 + 1]? = some (.cells #[.int .i64 0, .int .i64 0, .slice none 0 0] 24 (0, 0)) := blk_new hb1 (by simp)
    have hbw := hb0.step hb1
    obtain ⟨r0, r1, r2, rf⟩ := row3 hR
    clear hb1 hb0 K
    go_wp2_with fail
    exact bodyPost_ret (v := .tuple #[.agg #[.int .i64 0, .int .i64 0, .slice none 0 0], .int .i64 ce]) (by simp [results, Tryz.results70, go_sem, r0, r1, r2]) rfl ⟨_, by rw [Hm.out], by rw [Hm.out]; exact OwnPcs.nil _ _, below_setCell3 hbw (by omega) _ _ _⟩
end Go.Proofs.YtcpecponmaakoaaGreatDoor
