/- Walks of the document's text: the batches of a mark's transaction; a copy of a batch. -/
import Derived.Test.YtceamgkifjmbcaaMath
import Derived.Test.YtceamgkifjmbcaaOwn
namespace Go.Proofs.Ytceamgkifjmbcaa
open Go.RowKit Go.Wm
set_option maxHeartbeats 2000000 in
theorem txn_any (bs : List Batch) (i : Nat) (y : Batch) (hi : bs[i]? = some y) (v : Value) (w : World) (hb : BatchesAt w v bs) :
    Calls Try.prog 54 #[v, .int .i64 i] w
      fun e w' => ∃ u, e = .returned u ∧ OwnInts w' w.heap.size u (txnTo bs y.pid i) ∧ Below w.heap.size w w' := by
  obtain ⟨a, cap, rfl, hn, hs⟩ := hb
  obtain ⟨b', o, rfl, _⟩ := hs i (List.getElem?_eq_some_iff.1 hi).1
  have hil := (List.getElem?_eq_some_iff.1 hi).1
  have hc : ∀ k, k < bs.length → ∀ x, bs[k]? = some x → ∃ sv, BatchAt w b' (o + k * 10) x sv := by
    intro k hk x hx
    obtain ⟨b2, o2, ha, h⟩ := hs k hk
    simp only [Option.some.injEq, Addr.mk.injEq, and_true] at ha
    obtain ⟨rfl, rfl⟩ := ha
    obtain ⟨sv, h1, _⟩ := h x hx
    exact ⟨sv, h1⟩
  clear hs
  obtain ⟨svy, hy⟩ := hc i hil y hi
  go_enter Try.func54, Try.ntmps54
  go_wp2
  go_loopw [5, 8] (fun u i' wr => ∃ k : Nat, k ≤ i ∧ i' = .int .i64 k ∧ OwnInts wr w.heap.size u (txnTo bs y.pid k) ∧ Below w.heap.size w wr) (fun _ i' _ => i - (intOf i').toNat)
  case atStart => exact ⟨0, by omega, rfl, OwnInts.nil _ _, Below.refl _ _⟩
  case round =>
    obtain ⟨k, hk, rfl, hown, hwr⟩ := hrel
    by_cases hlt : k < i
    · have hkl : k < bs.length := by omega
      obtain ⟨sv, hx⟩ := hc k hkl _ (List.getElem?_eq_getElem hkl)
      have Hs := hid (txnTo_succ bs y.pid k hkl)
      have hlen := txnTo_length bs y.pid k
      clear hc
      obtain ⟨x, hxe⟩ : ∃ x, x = bs[k] := ⟨_, rfl⟩
      rw [← hxe] at hx Hs
      clear hxe
      have e4 := Later.cell (hx.mono hwr).c4
      have e8 := hid (hx.mono hwr).c8
      have e7 := hid (hx.mono hwr).c7
      have y4 := Later.cell (hy.mono hwr).c4
      clear hx hy
      generalize txnTo bs y.pid k = L at *
      rcases Bool.eq_false_or_eq_true (x.pid != y.pid) with h1 | h1
      · have h1' : ¬ x.pid = y.pid := by simpa using h1
        rw [if_neg h1'] at Hs
        clear h1'
        go_wp2
        refine wp_region_later (by kernel_rfl) (by kernel_rfl) ?_
        repeat (go_big_quiet_step (fail))
        refine wpQuiet_nil ?_
        intro w2 hb2
        clear e4 y4
        go_wp2
        go_roundw
        case rel => exact ⟨k + 1, by omega, by go_num, by rw [Hs.out]; exact hown.below hb2, hwr.step hb2⟩
        case measure => simp [intOf]; omega
      · have h1' : x.pid = y.pid := by simpa using h1
        rw [if_pos h1'] at Hs
        clear h1'
        rcases Bool.eq_false_or_eq_true (x.ctl != 0) with h2 | h2
        · have h2' : ¬ x.ctl = 0 := by simpa using h2
          rw [if_neg h2'] at Hs
          clear h2'
          go_wp2
          refine wp_region_later (by kernel_rfl) (by kernel_rfl) ?_
          repeat (go_big_quiet_step (fail))
          refine wpQuiet_nil ?_
          intro w2 hb2
          clear e4 y4 h1
          have f8 := cell_below hb2 e8.out
          go_wp2
          go_roundw
          case rel => exact ⟨k + 1, by omega, by go_num, by rw [Hs.out]; exact OwnInts.nil _ _, hwr.step hb2⟩
          case measure => simp [intOf]; omega
        · have h2' : x.ctl = 0 := by simpa using h2
          rw [if_pos h2'] at Hs
          clear h2'
          rcases Bool.eq_false_or_eq_true x.txn with h3 | h3
          · rw [if_pos h3] at Hs
            go_wp2
            refine wp_region_later (by kernel_rfl) (by kernel_rfl) ?_
            repeat (go_big_quiet_step (fail))
            refine wpQuiet_nil ?_
            intro w2 hb2
            clear e4 y4 h1
            have f8 := cell_below hb2 e8.out
            have f7 := cell_below hb2 e7.out
            go_wp2_with (at_builtin; refine wpList_append_int rfl (.tmp 33) (.tmp 35) rfl Try.underlying85 Try.inf3 w.heap.size _ L (k : Int) rfl ((hown.below hb2).below (below_alloc _ _)) w2.heap.size rfl (by simp) (by omega) ?_ ?_)
            · have := hwr.size; have := hb2.size; simp at *; omega
            intro v' w' hown' hbel _
            go_wp2
            go_roundw
            case rel => exact ⟨k + 1, by omega, by go_num, by rw [Hs.out]; exact hown', ((hwr.step hb2).step (below_alloc _ _)).trans hbel⟩
            case measure => simp [intOf]; omega
          · rw [if_neg (by simp [h3])] at Hs
            go_wp2
            refine wp_region_later (by kernel_rfl) (by kernel_rfl) ?_
            repeat (go_big_quiet_step (fail))
            refine wpQuiet_nil ?_
            intro w2 hb2
            clear e4 y4 h1
            have f8 := cell_below hb2 e8.out
            have f7 := cell_below hb2 e7.out
            go_wp2
            go_roundw
            case rel => exact ⟨k + 1, by omega, by go_num, by rw [Hs.out]; exact hown.below hb2, hwr.step hb2⟩
            case measure => simp [intOf]; omega
    · have hke : k = i := by omega
      have Hk := hid hke; clear hke
      go_wp2
      go_ret
      exact ⟨_, rfl, by rw [Hk.out] at hown; exact hown, hwr⟩
/-- 'append(nil, src..)': a row of the call's own that holds the source's records. -/
theorem append_nil_recs {P : Program} (w : World) (ty : TypeId) (ht : P.underlying 26 = some (.slice 33)) (hi : (P.info? 33).map (fun i => (i.zero, i.size, i.bytes)) = some (some (.agg #[.int .i64 0, .string ⟨#[]⟩, .string ⟨#[]⟩, .bool false, .int .i64 0]), 5, 56))
    (base : Nat) (u v : Value) (rs : List Rec) (hu : OwnRecs w base u []) (hv : RecsAt w v rs) (hbase : base ≤ w.heap.size) :
    ∃ v' w', (Builtin.append_ #[26, 26] ty #[u, v]).run P w = .ok v' w' ∧ OwnRecs w' base v' rs ∧ w.grownBy w' u.ownBlock := by
  obtain ⟨i, hi', hz, hsize, hby⟩ := info_parts hi
  obtain ⟨a, cap, rfl, hn, _, hs⟩ := hv
  rcases hs.shape with ⟨b, o, rfl, hc⟩ | h0
  · obtain ⟨v', w', hr, ho, hg, _⟩ := run_append_own (P := P) w base 26 ty 33 i _ 5 56 ht hi' hz hsize hby rfl (by decide) u 0 [] hu ⟨b, o, none⟩ rs.length cap (recCells rs) (recCells_length rs) (by
      intro j c hj
      have hjl : j < rs.length * 5 := by
        have := (List.getElem?_eq_some_iff.1 hj).1
        rwa [recCells_length] at this
      have hk : j / 5 < rs.length := by omega
      have hr := hc (j / 5) hk _ (List.getElem?_eq_getElem hk)
      have e : (⟨b, o, none⟩ : Addr).add j = ⟨b, o + j, none⟩ := by simp only [Addr.add]; split <;> simp_all
      rw [e]
      have hf := flat_get Rec.cells 5 Rec.cells_length rs (j / 5) (j % 5) hk (by omega)
      have e2 : j / 5 * 5 + j % 5 = j := by omega
      rw [e2] at hf
      have hj2 : (Rec.cells rs[j / 5])[j % 5]? = some c := by rw [← hf]; exact hj
      have e3 : o + j = o + j / 5 * 5 + j % 5 := by omega
      rw [e3]
      have h5 : j % 5 < 5 := by omega
      generalize j % 5 = m at *
      match m, h5, hj2 with
      | 0, _, hj2 => simp [Rec.cells] at hj2; subst hj2; exact hr.c0
      | 1, _, hj2 => simp [Rec.cells] at hj2; subst hj2; exact hr.c1
      | 2, _, hj2 => simp [Rec.cells] at hj2; subst hj2; exact hr.c2
      | 3, _, hj2 => simp [Rec.cells] at hj2; subst hj2; exact hr.c3
      | 4, _, hj2 => simp [Rec.cells] at hj2; subst hj2; exact hr.c4) (by
      intro c hcm
      simp only [recCells, List.mem_flatMap] at hcm
      obtain ⟨r, _, hr⟩ := hcm
      simp [Rec.cells] at hr
      rcases hr with rfl | rfl | rfl | rfl | rfl <;> rfl) (by simp only [maxLen]; omega) (by
      exact Nat.le_trans (Nat.mul_le_mul_right 56 (show 0 + rs.length ≤ 1000000 by omega)) (by decide)) hbase
    exact ⟨v', w', hr, by unfold OwnRecs; simpa using ho, hg⟩
  · have hrs : rs = [] := List.eq_nil_of_length_eq_zero h0
    subst hrs
    refine ⟨u, w, ?_, hu, World.grownBy.refl _ _⟩
    rcases hu.2 with ⟨rfl, _⟩ | ⟨g, cap', cur, rfl, hg, hb, hnc, hm, hcs, htake⟩
    · cases a <;> simp [Builtin.append_, run_underlying ht, sizeOf, typeInfo, hi', Builtin.lenOf, Builtin.firstCells, loadCells, loadCellsFrom]
    · cases a <;> simp [Builtin.append_, run_underlying ht, sizeOf, typeInfo, hi', Builtin.lenOf, Builtin.firstCells, loadCells, loadCellsFrom, storeCells]
/-- 'append(u, src..)' of a list of records, u empty. -/
theorem wpList_append_recs {P : Program} {w : World} {ops : Array Oper} {rest : List Oper} {o : Oper} {a : Act} {Q : Exit → Act → World → Prop} (hgd : o.guard = none) (s x : Operand)
    (ho : o.op = .call { callee := .builtin .append, args := #[s, x], argTypes := #[26, 26] })
    (ht : P.underlying 26 = some (.slice 33)) (hi : (P.info? 33).map (fun i => (i.zero, i.size, i.bytes)) = some (some (.agg #[.int .i64 0, .string ⟨#[]⟩, .string ⟨#[]⟩, .bool false, .int .i64 0]), 5, 56))
    (base : Nat) (u v : Value) (rs : List Rec) (hs : a.eval s = u) (hx : a.eval x = v) (hu : OwnRecs w base u []) (hv : RecsAt w v rs) (hbase : base ≤ w.heap.size)
    (h : ∀ v' w', OwnRecs w' base v' rs → Below base w w' → w.grownBy w' u.ownBlock → wpList P ops Q rest (a.put o.dst v') w') : wpList P ops Q (o :: rest) a w :=
  wpList_plain hgd fun K hK => by
    obtain ⟨v', w', hr, h2, h3⟩ := append_nil_recs (P := P) w o.type ht hi base u v rs hu hv hbase
    unfold Oper.wp execOp
    simp only [ho, resolve, invoke, builtin, Sem.run_bind, Sem.run_pure, Result.andThen_ok, List.map_toArray, List.map_cons, List.map_nil, hs, hx, hr]
    exact hK _ _ (h v' w' h2 (below_grown h3 hbase fun k hk => (hu.lt k hk).1) h3)
theorem frozen_of_row {w : World} {b : Nat} {cs : Array Value} {e : TypeId} (h : w.heap[b]? = some (.cells cs e (0, 0))) (j : Nat) : w.frozen? ⟨b, j, none⟩ = false := by
  simp [World.frozen?, h]
theorem cell_row {w : World} {b : Nat} {cs : List Value} {e : TypeId} (h : w.heap[b]? = some (.cells cs.toArray e (0, 0))) (j : Nat) (v : Value) (hj : cs[j]? = some v) : w.cell? ⟨b, j, none⟩ = some v := by
  simp [World.cell?, h, hj]
set_option maxHeartbeats 2000000 in
theorem copy_any (x : Batch) (sv : Value) (w : World) (hr : RecsAt w sv x.recs) :
    Calls Try.prog 13 #[.agg #[.int .i64 x.base, .int .i64 x.last, .int .i64 x.frm, .int .i64 x.epoch, .int .i64 x.pid, .int .i64 x.gen, .int .i64 x.seq, .bool x.txn, .int .i64 x.ctl, sv]] w
      fun e w' => ∃ u, e = .returned (.agg #[.int .i64 x.base, .int .i64 x.last, .int .i64 x.frm, .int .i64 x.epoch, .int .i64 x.pid, .int .i64 x.gen, .int .i64 x.seq, .bool x.txn, .int .i64 x.ctl, u]) ∧ OwnRecs w' w.heap.size u x.recs ∧ Below w.heap.size w w' := by
  obtain ⟨a2, cap2, rfl, hn2⟩ := hr.form
  go_enter Try.func13, Try.ntmps13
  go_wp2_with (at_builtin; refine wpList_append_recs rfl (.const (.slice none 0 0)) (.tmp 4) rfl Try.underlying26 Try.inf33 (w.heap.size + 2) _ _ x.recs rfl rfl (OwnRecs.nil _ _) ((hr.mono (below_alloc _ _)).mono (below_alloc _ _)) (by simp) ?_)
  intro v' w' hown hb hg
  have hb0 : w'.heap[w.heap.size]? = some (.cells [.int .i64 x.base, .int .i64 x.last, .int .i64 x.frm, .int .i64 x.epoch, .int .i64 x.pid, .int .i64 x.gen, .int .i64 x.seq, .bool x.txn, .int .i64 x.ctl, .slice a2 x.recs.length cap2].toArray 28 (0, 0)) := by
    rw [hb.block _ (by omega)]; exact (Below.heap_alloc _ _ _ (by simp)).trans (heap_alloc_new _ _)
  have hb1 : w'.heap[w.heap.size + 1]? = some (.cells [.int .i64 0, .int .i64 0, .int .i64 0, .int .i64 0, .int .i64 0, .int .i64 0, .int .i64 0, .bool false, .int .i64 0, .slice none 0 0].toArray 28 (0, 0)) := by
    rw [hb.block _ (by omega)]; have := heap_alloc_new (w.alloc (.cells #[.int .i64 x.base, .int .i64 x.last, .int .i64 x.frm, .int .i64 x.epoch, .int .i64 x.pid, .int .i64 x.gen, .int .i64 x.seq, .bool x.txn, .int .i64 x.ctl, .slice a2 x.recs.length cap2] 28)) (.cells [.int .i64 0, .int .i64 0, .int .i64 0, .int .i64 0, .int .i64 0, .int .i64 0, .int .i64 0, .bool false, .int .i64 0, .slice none 0 0].toArray 28 (0, 0)); rw [size_alloc] at this; exact this
  have hbw : Below w.heap.size w w' := ((below_alloc _ _).step (below_alloc _ _)).trans (hb.mono (by omega))
  have fz0 := frozen_of_row hb0
  have fz1 := frozen_of_row hb1
  have c0 := cell_row hb0
  have c1 := cell_row hb1
  have p0 := c0 0 _ rfl
  have p1 := c0 1 _ rfl
  have p2 := c0 2 _ rfl
  have p3 := c0 3 _ rfl
  have p4 := c0 4 _ rfl
  have p5 := c0 5 _ rfl
  have p6 := c0 6 _ rfl
  have p7 := c0 7 _ rfl
  have p8 := c0 8 _ rfl
  have p9 := c0 9 _ rfl
  have q0 := c1 0 _ rfl
  have q1 := c1 1 _ rfl
  have q2 := c1 2 _ rfl
  have q3 := c1 3 _ rfl
  have q4 := c1 4 _ rfl
  have q5 := c1 5 _ rfl
  have q6 := c1 6 _ rfl
  have q7 := c1 7 _ rfl
  have q8 := c1 8 _ rfl
  have q9 := c1 9 _ rfl
  have hform : ∃ a3 cap3, v' = .slice a3 x.recs.length cap3 := by
    obtain ⟨a3, cap3, h, _⟩ := (hown.at (let ⟨_, _, _, h1, h2, _⟩ := hr; ⟨h1, h2⟩)).form
    exact ⟨a3, cap3, h⟩
  obtain ⟨a3, cap3, rfl⟩ := hform
  have Hb0 := hid hb0
  have Hb1 := hid hb1
  clear c0 c1 hb0 hb1
  go_wp2
  refine bodyPost_ret (v := .agg #[.int .i64 x.base, .int .i64 x.last, .int .i64 x.frm, .int .i64 x.epoch, .int .i64 x.pid, .int .i64 x.gen, .int .i64 x.seq, .bool x.txn, .int .i64 x.ctl, .slice a3 x.recs.length cap3]) (by simp [results, Try.results13, go_sem, q0, q1, q2, q3, q4, q5, q6, q7, q8, q9]) rfl ⟨_, rfl, ?_, ?_⟩
  · refine OwnRecs.base (b := w.heap.size + 2) ?_ (by omega)
    repeat (refine ownsRow_setCell_below ?_ (by simp) _)
    exact hown
  · repeat (refine Below.setCell ?_ (by simp) _)
    exact hbw
end Go.Proofs.Ytceamgkifjmbcaa
