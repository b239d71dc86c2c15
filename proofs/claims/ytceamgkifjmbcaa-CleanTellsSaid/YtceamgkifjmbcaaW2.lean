/- Walks: whether a batch is gone, and whether its records count (both texts). -/
import Derived.Test.YtceamgkifjmbcaaProg
import Derived.Test.YtceamgkifjmbcaaMath
namespace Go.Proofs.Ytceamgkifjmbcaa
open Go.RowKit Go.Wm
set_option maxHeartbeats 400000 in
theorem gone_closure (x : Batch) (g : Gone) (b : Nat) (w : World)
    (h0 : w.cell? ⟨b, 0, none⟩ = some (.int .i64 x.base)) (h4 : w.cell? ⟨b, 4, none⟩ = some (.int .i64 x.pid)) :
    Calls Try.prog 68 #[.agg #[.int .i64 g.pid, .int .i64 g.no, .int .i64 g.first, .int .i64 g.last], .pointer (some ⟨b, 0, none⟩)] w
      fun e w' => e = .returned (.bool (goneP x g)) ∧ Below w.heap.size w w' := by
  have hb := lt_of_cell h0
  go_enter Try.func68, Try.ntmps68
  go_wp2
  all_goals (go_ret; refine ⟨ret_bool ?_, below_alloc _ _⟩; simp_all [goneP] <;> omega)
set_option maxHeartbeats 400000 in
theorem gone_index (x : Batch) (gs : List Gone) (v : Value) (b : Nat) (w : World) (hg : GonesAt w v gs)
    (h0 : w.cell? ⟨b, 0, none⟩ = some (.int .i64 x.base)) (h4 : w.cell? ⟨b, 4, none⟩ = some (.int .i64 x.pid)) :
    Calls Try.prog 76 #[v, .func (.func 68) #[] #[.pointer (some ⟨b, 0, none⟩)]] w
      fun e w' => e = .returned (.int .i64 (idxOf (goneP x) gs)) ∧ Below w.heap.size w w' := by
  obtain ⟨a, cap, rfl, hn, hs⟩ := hg
  go_enter Try.func76, Try.ntmps76
  go_wp2
  go_loopw [8] (fun i wr => ∃ k : Nat, k ≤ gs.length ∧ i = .int .i64 k ∧ (∀ j (h : j < gs.length), j < k → goneP x gs[j] = false) ∧ Below w.heap.size w wr) (fun i _ => gs.length - (intOf i).toNat)
  case atStart => exact ⟨0, by omega, rfl, fun _ _ h => by omega, Below.refl _ _⟩
  case round =>
    obtain ⟨k, hk, rfl, hall, hwr⟩ := hrel
    have Hall := hid hall; clear hall
    by_cases hlt : k < gs.length
    · obtain ⟨b', o, ha, hc⟩ := hs k hlt
      obtain ⟨e0, e1, e2, e3⟩ := (hc _ (List.getElem?_eq_getElem hlt)).mono hwr
      have C := hid (gone_closure x gs[k] b wr (cell_below hwr h0) (cell_below hwr h4))
      clear hc hs
      cases hf : goneP x gs[k]
      · have Hf := hid hf
        rw [hf] at C; clear hf h0 h4
        go_wp2_with (go_at_call 68; clear ha; refine C.out.mono ?_; rintro e w1 ⟨rfl, hb1⟩)
        go_roundw
        case rel =>
          refine ⟨k + 1, by omega, by go_num, ?_, hwr.step hb1⟩
          intro j hj hjk
          by_cases hjk' : j = k
          · subst hjk'; exact Hf.out
          · exact Hall.out j hj (by omega)
        case measure => simp [intOf]; omega
      · have Hf := hid hf
        rw [hf] at C; clear hf h0 h4
        go_wp2_with (go_at_call 68; clear ha; refine C.out.mono ?_; rintro e w1 ⟨rfl, hb1⟩)
        go_ret
        exact ⟨ret_int (idxOf_found hlt Hf.out Hall.out).symm, hwr.step hb1⟩
    · have hke : k = gs.length := by omega
      have Hk := hid hke; clear hke
      go_wp2
      go_ret
      exact ⟨ret_int (idxOf_none (fun j hj => Hall.out j hj (by omega))).symm, hwr⟩
set_option maxHeartbeats 400000 in
theorem gone_contains (x : Batch) (gs : List Gone) (v : Value) (b : Nat) (w : World) (hg : GonesAt w v gs)
    (h0 : w.cell? ⟨b, 0, none⟩ = some (.int .i64 x.base)) (h4 : w.cell? ⟨b, 4, none⟩ = some (.int .i64 x.pid)) :
    Calls Try.prog 69 #[v, .func (.func 68) #[] #[.pointer (some ⟨b, 0, none⟩)]] w
      fun e w' => e = .returned (.bool (gs.any (goneP x))) ∧ Below w.heap.size w w' := by
  have C := hid (gone_index x gs v b w hg h0 h4)
  rw [← idxOf_nonneg]
  clear h0 h4
  go_enter Try.func69, Try.ntmps69
  go_wp2_with (go_at_call 76; refine C.out.mono ?_; rintro e w1 ⟨rfl, hb1⟩)
  go_ret
  exact ⟨ret_bool (by simp), hb1⟩

/-- The rules behind their pointer. -/
structure RulesAt (w : World) (R : Nat) (vb vl : Value) (to now keep : Int) (m : Nat) (e : Int) : Prop where
  c0 : w.cell? ⟨R, 0, none⟩ = some vb
  c1 : w.cell? ⟨R, 1, none⟩ = some vl
  c2 : w.cell? ⟨R, 2, none⟩ = some (.int .i64 to)
  c3 : w.cell? ⟨R, 3, none⟩ = some (.int .i64 now)
  c4 : w.cell? ⟨R, 4, none⟩ = some (.int .i64 keep)
  c5 : w.cell? ⟨R, 5, none⟩ = some (.map (some m))
  c6 : w.cell? ⟨R, 6, none⟩ = some (.int .i64 e)
theorem RulesAt.mono {w w' : World} (hb : Below w.heap.size w w') {R : Nat} {vb vl : Value} {to now keep : Int} {m : Nat} {e : Int} (h : RulesAt w R vb vl to now keep m e) : RulesAt w' R vb vl to now keep m e :=
  ⟨cell_below hb h.c0, cell_below hb h.c1, cell_below hb h.c2, cell_below hb h.c3, cell_below hb h.c4, cell_below hb h.c5, cell_below hb h.c6⟩
set_option maxHeartbeats 1000000 in
theorem counts_any (bs : List Batch) (l : List Gone) (vb vl : Value) (R : Nat) (to now keep : Int) (m : Nat) (e : Int) (i : Nat) (hi : i < bs.length) (w : World)
    (hr : RulesAt w R vb vl to now keep m e) (hb : BatchesAt w vb bs) (hl : GonesAt w vl l) :
    Calls Try.prog 49 #[.pointer (some ⟨R, 0, none⟩), .int .i64 i] w fun e w' => e = .returned (.bool (countsB l to bs[i])) ∧ Below w.heap.size w w' := by
  obtain ⟨a, cap, rfl, hn, hs⟩ := hb
  obtain ⟨b', o, rfl, hc⟩ := hs i hi
  obtain ⟨sv, hx, hrs⟩ := hc _ (List.getElem?_eq_getElem hi)
  obtain ⟨a2, cap2, rfl, hn2⟩ := hrs.form
  obtain ⟨a3, cap3, rfl, hn3⟩ := hl.form
  clear hc hs hrs
  generalize bs[i] = x at *
  obtain ⟨e0, e1, e2, e3, e4, e5, e6, e7, e8, e9⟩ := hx
  obtain ⟨r0, r1, r2, r3, r4, r5, r6⟩ := hr
  go_enter Try.func49, Try.ntmps49
  go_wp2
  refine wp_name fun W hW => ?_
  have hB : Below w.heap.size w W := by rw [hW]; exact below_alloc _ _
  have n0 : W.cell? ⟨w.heap.size, 0, none⟩ = some (.int .i64 x.base) := by rw [hW]; simp
  have n1 := Later.cell (show W.cell? ⟨w.heap.size, 1, none⟩ = some (.int .i64 x.last) by rw [hW]; simp)
  have n4 : W.cell? ⟨w.heap.size, 4, none⟩ = some (.int .i64 x.pid) := by rw [hW]; simp
  have n7 := Later.cell (show W.cell? ⟨w.heap.size, 7, none⟩ = some (.bool x.txn) by rw [hW]; simp)
  have n8 := Later.cell (show W.cell? ⟨w.heap.size, 8, none⟩ = some (.int .i64 x.ctl) by rw [hW]; simp)
  have q1 := Later.cell (cell_below hB r1)
  have q2 := Later.cell (cell_below hB r2)
  clear hW
  have C := hid (fun n : Later W => gone_contains x l _ w.heap.size n.w ((hl.mono hB).mono n.below) (Later.cell n0 n) (Later.cell n4 n))
  clear n0 n4 e0 e1 e2 e3 e4 e5 e6 e7 e8 e9 r0 r1 r2 r3 r4 r5 r6
  have Fin : countsB l to x = (decide (x.last < to) && (x.ctl == 0) && !(x.txn && l.any (goneP x))) := rfl
  generalize l.any (goneP x) = B4 at *
  rcases Bool.eq_false_or_eq_true (decide (x.last < to)) with h1 | h1
  · rcases Bool.eq_false_or_eq_true (x.ctl == 0) with h2 | h2
    · rcases Bool.eq_false_or_eq_true x.txn with h3 | h3
      · rw [h1, h2, h3] at Fin
        replace Fin := hid Fin
        refine wp_region_later (by kernel_rfl) (by kernel_rfl) ?_
        repeat (go_big_quiet_step ((go_at_call 69; exact Later.call (C.out _))))
        refine wpQuiet_nil ?_
        intro w2 hb2
        go_wp2
        go_ret
        exact ⟨ret_bool (by rw [Fin.out]; simp), hB.step hb2⟩
      · rw [h1, h2, h3] at Fin
        replace Fin := hid Fin
        refine wp_region_later (by kernel_rfl) (by kernel_rfl) ?_
        repeat (go_big_quiet_step (fail))
        refine wpQuiet_nil ?_
        intro w2 hb2
        go_wp2
        go_ret
        exact ⟨ret_bool (by rw [Fin.out]; simp), hB.step hb2⟩
    · rw [h1, h2] at Fin
      replace Fin := hid Fin
      refine wp_region_later (by kernel_rfl) (by kernel_rfl) ?_
      repeat (go_big_quiet_step (fail))
      refine wpQuiet_nil ?_
      intro w2 hb2
      go_wp2
      go_ret
      exact ⟨ret_bool (by rw [Fin.out]; simp), hB.step hb2⟩
  · rw [h1] at Fin
    replace Fin := hid Fin
    refine wp_region_later (by kernel_rfl) (by kernel_rfl) ?_
    repeat (go_big_quiet_step (fail))
    refine wpQuiet_nil ?_
    intro w2 hb2
    go_wp2
    go_ret
    exact ⟨ret_bool (by rw [Fin.out]; simp), hB.step hb2⟩
end Go.Proofs.Ytceamgkifjmbcaa
