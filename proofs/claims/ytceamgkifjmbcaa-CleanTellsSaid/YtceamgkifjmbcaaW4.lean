/- Walks: whether batches, and lists of batches, are the same (the document's text). -/
import Derived.Test.YtceamgkifjmbcaaW3
namespace Go.Proofs.Ytceamgkifjmbcaa
open Go.RowKit Go.Wm
theorem batch_eq_iff (x y : Batch) : x = y ↔ x.base = y.base ∧ x.last = y.last ∧ x.frm = y.frm ∧ x.epoch = y.epoch ∧ x.pid = y.pid ∧ x.gen = y.gen ∧ x.seq = y.seq ∧ x.txn = y.txn ∧ x.ctl = y.ctl ∧ x.recs = y.recs := by
  cases x; cases y; simp
set_option maxHeartbeats 4000000 in
theorem same_any (x y : Batch) (v u : Value) (w : World) (hx : RecsAt w v x.recs) (hy : RecsAt w u y.recs) :
    Calls Try.prog 31 #[.agg #[.int .i64 x.base, .int .i64 x.last, .int .i64 x.frm, .int .i64 x.epoch, .int .i64 x.pid, .int .i64 x.gen, .int .i64 x.seq, .bool x.txn, .int .i64 x.ctl, v],
        .agg #[.int .i64 y.base, .int .i64 y.last, .int .i64 y.frm, .int .i64 y.epoch, .int .i64 y.pid, .int .i64 y.gen, .int .i64 y.seq, .bool y.txn, .int .i64 y.ctl, u]] w
      fun e w' => e = .returned (.bool (decide (x = y))) ∧ Below w.heap.size w w' := by
  obtain ⟨a, cap, rfl, hn⟩ := hx.form
  obtain ⟨a2, cap2, rfl, hn2⟩ := hy.form
  have E := hid (batch_eq_iff x y)
  have C := hid (fun X Y => sameRecs_any x.recs y.recs _ _ ((w.alloc X).alloc Y) ((hx.mono (below_alloc _ _)).mono (below_alloc _ _)) ((hy.mono (below_alloc _ _)).mono (below_alloc _ _)))
  clear hx hy
  rcases Bool.eq_false_or_eq_true (x.base == y.base) with h0 | h0
  rotate_left
  · have N0 := hid h0
    go_enter Try.func31, Try.ntmps31
    go_wp2_with fail
    go_ret
    refine ⟨ret_bool ?_, (below_alloc _ _).step (below_alloc _ _)⟩
    rw [eq_comm, decide_eq_false_iff_not, E.out]
    intro h
    have hh := N0.out
    simp [h] at hh
  rcases Bool.eq_false_or_eq_true (x.last == y.last) with h1 | h1
  rotate_left
  · have N1 := hid h1
    go_enter Try.func31, Try.ntmps31
    go_wp2_with fail
    go_ret
    refine ⟨ret_bool ?_, (below_alloc _ _).step (below_alloc _ _)⟩
    rw [eq_comm, decide_eq_false_iff_not, E.out]
    intro h
    have hh := N1.out
    simp [h] at hh
  rcases Bool.eq_false_or_eq_true (x.frm == y.frm) with h2 | h2
  rotate_left
  · have N2 := hid h2
    go_enter Try.func31, Try.ntmps31
    go_wp2_with fail
    go_ret
    refine ⟨ret_bool ?_, (below_alloc _ _).step (below_alloc _ _)⟩
    rw [eq_comm, decide_eq_false_iff_not, E.out]
    intro h
    have hh := N2.out
    simp [h] at hh
  rcases Bool.eq_false_or_eq_true (x.epoch == y.epoch) with h3 | h3
  rotate_left
  · have N3 := hid h3
    go_enter Try.func31, Try.ntmps31
    go_wp2_with fail
    go_ret
    refine ⟨ret_bool ?_, (below_alloc _ _).step (below_alloc _ _)⟩
    rw [eq_comm, decide_eq_false_iff_not, E.out]
    intro h
    have hh := N3.out
    simp [h] at hh
  rcases Bool.eq_false_or_eq_true (x.pid == y.pid) with h4 | h4
  rotate_left
  · have N4 := hid h4
    go_enter Try.func31, Try.ntmps31
    go_wp2_with fail
    go_ret
    refine ⟨ret_bool ?_, (below_alloc _ _).step (below_alloc _ _)⟩
    rw [eq_comm, decide_eq_false_iff_not, E.out]
    intro h
    have hh := N4.out
    simp [h] at hh
  rcases Bool.eq_false_or_eq_true (x.gen == y.gen) with h5 | h5
  rotate_left
  · have N5 := hid h5
    go_enter Try.func31, Try.ntmps31
    go_wp2_with fail
    go_ret
    refine ⟨ret_bool ?_, (below_alloc _ _).step (below_alloc _ _)⟩
    rw [eq_comm, decide_eq_false_iff_not, E.out]
    intro h
    have hh := N5.out
    simp [h] at hh
  rcases Bool.eq_false_or_eq_true (x.seq == y.seq) with h6 | h6
  rotate_left
  · have N6 := hid h6
    go_enter Try.func31, Try.ntmps31
    go_wp2_with fail
    go_ret
    refine ⟨ret_bool ?_, (below_alloc _ _).step (below_alloc _ _)⟩
    rw [eq_comm, decide_eq_false_iff_not, E.out]
    intro h
    have hh := N6.out
    simp [h] at hh
  rcases Bool.eq_false_or_eq_true (x.txn == y.txn) with h7 | h7
  rotate_left
  · have N7 := hid h7
    go_enter Try.func31, Try.ntmps31
    go_wp2_with fail
    go_ret
    refine ⟨ret_bool ?_, (below_alloc _ _).step (below_alloc _ _)⟩
    rw [eq_comm, decide_eq_false_iff_not, E.out]
    intro h
    have hh := N7.out
    simp [h] at hh
  rcases Bool.eq_false_or_eq_true (x.ctl == y.ctl) with h8 | h8
  rotate_left
  · have N8 := hid h8
    go_enter Try.func31, Try.ntmps31
    go_wp2_with fail
    go_ret
    refine ⟨ret_bool ?_, (below_alloc _ _).step (below_alloc _ _)⟩
    rw [eq_comm, decide_eq_false_iff_not, E.out]
    intro h
    have hh := N8.out
    simp [h] at hh
  have N0 := hid h0
  have N1 := hid h1
  have N2 := hid h2
  have N3 := hid h3
  have N4 := hid h4
  have N5 := hid h5
  have N6 := hid h6
  have N7 := hid h7
  have N8 := hid h8
  go_enter Try.func31, Try.ntmps31
  go_wp2_with (go_at_call 23; refine (C.out _ _).mono ?_; rintro e w1 ⟨rfl, hb1⟩)
  go_ret
  refine ⟨ret_bool ?_, ((below_alloc _ _).step (below_alloc _ _)).step hb1⟩
  rw [Bool.eq_iff_iff, decide_eq_true_iff, decide_eq_true_iff, E.out]
  refine ⟨fun h => ⟨beq_iff_eq.1 N0.out, beq_iff_eq.1 N1.out, beq_iff_eq.1 N2.out, beq_iff_eq.1 N3.out, beq_iff_eq.1 N4.out, beq_iff_eq.1 N5.out, beq_iff_eq.1 N6.out, beq_iff_eq.1 N7.out, beq_iff_eq.1 N8.out, h⟩, fun h => h.2.2.2.2.2.2.2.2.2⟩
set_option maxHeartbeats 1000000 in
theorem sameAll_any (xs ys : List Batch) (v u : Value) (w : World) (hx : BatchesAt w v xs) (hy : BatchesAt w u ys) :
    Calls Try.prog 15 #[v, u] w fun e w' => e = .returned (.bool (decide (xs = ys))) ∧ Below w.heap.size w w' := by
  obtain ⟨a, cap, rfl, hn, hs⟩ := hx
  obtain ⟨a2, cap2, rfl, hn2, hs2⟩ := hy
  by_cases hlen : xs.length = ys.length
  · have L1 : ((xs.length : Int) != (ys.length : Int)) = false := by simp [hlen]
    have Hlen := hid hlen; clear hlen
    go_enter Try.func15, Try.ntmps15
    go_wp2
    clear L1
    go_loopw [13] (fun i wr => ∃ k : Nat, k ≤ xs.length ∧ i = .int .i64 k ∧ (∀ j (h : j < xs.length) (h' : j < ys.length), j < k → xs[j] = ys[j]) ∧ Below w.heap.size w wr) (fun i _ => xs.length - (intOf i).toNat)
    case atStart => exact ⟨0, by omega, rfl, fun _ _ _ h => by omega, Below.refl _ _⟩
    case round =>
      obtain ⟨k, hk, rfl, hall, hwr⟩ := hrel
      have Hall := hid hall; clear hall
      by_cases hlt : k < xs.length
      · have hlt2 : k < ys.length := by have := Hlen.out; omega
        obtain ⟨b, o, ha, hc⟩ := hs k hlt
        obtain ⟨b2, o2, ha2, hc2⟩ := hs2 k hlt2
        obtain ⟨v1, hx1, hr1⟩ := hc _ (List.getElem?_eq_getElem hlt)
        obtain ⟨v2, hx2, hr2⟩ := hc2 _ (List.getElem?_eq_getElem hlt2)
        obtain ⟨a3, cap3, rfl, hn3⟩ := hr1.form
        obtain ⟨a4, cap4, rfl, hn4⟩ := hr2.form
        obtain ⟨e0, e1, e2, e3, e4, e5, e6, e7, e8, e9⟩ := hx1.mono hwr
        obtain ⟨g0, g1, g2, g3, g4, g5, g6, g7, g8, g9⟩ := hx2.mono hwr
        have e0 := Later.cell e0
        have e1 := Later.cell e1
        have e2 := Later.cell e2
        have e3 := Later.cell e3
        have e4 := Later.cell e4
        have e5 := Later.cell e5
        have e6 := Later.cell e6
        have e7 := Later.cell e7
        have e8 := Later.cell e8
        have e9 := Later.cell e9
        have g0 := Later.cell g0
        have g1 := Later.cell g1
        have g2 := Later.cell g2
        have g3 := Later.cell g3
        have g4 := Later.cell g4
        have g5 := Later.cell g5
        have g6 := Later.cell g6
        have g7 := Later.cell g7
        have g8 := Later.cell g8
        have g9 := Later.cell g9
        have C := hid (fun n : Later wr => same_any xs[k] ys[k] _ _ n.w ((hr1.mono hwr).mono n.below) ((hr2.mono hwr).mono n.below))
        clear hc hs hc2 hs2
        cases hf : decide (xs[k] = ys[k])
        · have Hf := hid hf
          rw [hf] at C
          clear hf
          go_wp2
          refine wp_region_later (by kernel_rfl) (by kernel_rfl) ?_
          repeat (go_big_quiet_step ((go_at_call 31; exact Later.call (C.out _))))
          refine wpQuiet_nil ?_
          intro w2 hb2
          clear ha ha2
          go_wp2
          go_ret
          refine ⟨ret_bool ?_, hwr.step hb2⟩
          rw [eq_comm, decide_eq_false_iff_not]
          intro h
          exact decide_eq_false_iff_not.1 Hf.out (by simp [h])
        · have Hf := hid hf
          rw [hf] at C
          clear hf
          go_wp2
          refine wp_region_later (by kernel_rfl) (by kernel_rfl) ?_
          repeat (go_big_quiet_step ((go_at_call 31; exact Later.call (C.out _))))
          refine wpQuiet_nil ?_
          intro w2 hb2
          clear ha ha2
          go_wp2
          go_roundw
          case rel =>
            refine ⟨k + 1, by omega, by go_num, ?_, hwr.step hb2⟩
            intro j hj hj' hjk
            by_cases hjk' : j = k
            · subst hjk'; exact of_decide_eq_true Hf.out
            · exact Hall.out j hj hj' (by omega)
          case measure => simp [intOf]; omega
      · have hke : k = xs.length := by omega
        have Hk := hid hke; clear hke
        go_wp2
        go_ret
        refine ⟨ret_bool ?_, hwr⟩
        rw [eq_comm, decide_eq_true_iff]
        exact List.ext_getElem Hlen.out fun j h1 h2 => Hall.out j h1 h2 (by omega)
  · have L1 : ((xs.length : Int) != (ys.length : Int)) = true := by simp; omega
    have Hlen := hid hlen; clear hlen
    go_enter Try.func15, Try.ntmps15
    go_wp2
    go_ret
    refine ⟨ret_bool ?_, Below.refl _ _⟩
    rw [eq_comm, decide_eq_false_iff_not]
    intro h
    exact Hlen.out (by rw [h])
end Go.Proofs.Ytceamgkifjmbcaa
