/- Walks of the document's text: a batch as it is left. -/
import Derived.Test.YtceamgkifjmbcaaW7
import Derived.Test.YtceamgkifjmbcaaW8
import Derived.Test.YtceamgkifjmbcaaMath2
namespace Go.Proofs.Ytceamgkifjmbcaa
open Go.RowKit Go.Wm
theorem blk_below {w w' : World} {b : Nat} {X : Obj} (h : w.heap[b]? = some X) (hb : Below w.heap.size w w') : w'.heap[b]? = some X := by
  rw [hb.block b (Array.getElem?_eq_some_iff.1 h).1]; exact h
theorem cells10 {w : World} {b : Nat} {e : TypeId} {v0 v1 v2 v3 v4 v5 v6 v7 v8 v9 : Value} (h : w.heap[b]? = some (.cells #[v0, v1, v2, v3, v4, v5, v6, v7, v8, v9] e (0, 0))) :
    w.cell? ⟨b, 0, none⟩ = some v0 ∧ w.cell? ⟨b, 1, none⟩ = some v1 ∧ w.cell? ⟨b, 2, none⟩ = some v2 ∧ w.cell? ⟨b, 3, none⟩ = some v3 ∧ w.cell? ⟨b, 4, none⟩ = some v4 ∧ w.cell? ⟨b, 5, none⟩ = some v5 ∧ w.cell? ⟨b, 6, none⟩ = some v6 ∧ w.cell? ⟨b, 7, none⟩ = some v7 ∧ w.cell? ⟨b, 8, none⟩ = some v8 ∧ w.cell? ⟨b, 9, none⟩ = some v9 := by
  simp [World.cell?, h]
/-- A whole row of the call's own written; the world behind it by its blocks. -/
theorem wpList_store_all {P : Program} {ops : Array Oper} {rest : List Oper} {o : Oper} {a : Act} {w : World} {Q : Exit → Act → World → Prop} (hgd : o.guard = none) (ty : TypeId) (x y : Operand) (ho : o.op = .store ty x y)
    (g : Nat) (cells : List Value) (hx : a.eval x = .pointer (some ⟨g, 0, none⟩)) (hy : a.eval y = .agg cells.toArray)
    (t : TypeId) (old : List Value) (hg : w.heap[g]? = some (.cells old.toArray t (0, 0))) (hi : (P.info? ty).map (·.size) = some cells.length)
    (hold : old.length = cells.length) (h1 : cells.all (·.oneCell') = true)
    (h : ∀ w', w'.heap[g]? = some (.cells cells.toArray t (0, 0)) → w.grownBy w' (some g) → wpList P ops Q rest (a.put o.dst undef) w') : wpList P ops Q (o :: rest) a w :=
  wpList_store_row hgd ty x y ho g cells.toArray hx hy t old.toArray hg (by simpa using hi) (by simpa using hold) (by simpa using h1) (h _ (setRow_heap w g old.toArray cells.toArray t (0, 0) hg) ⟨rfl, rfl, rfl, by simp, fun k _ hk => setRow_other w g k _ (fun e => hk (by rw [e]))⟩)
theorem own_not {w : World} {b : Nat} {e : TypeId} {s : Nat} {v : Value} {n : Nat} {xs : List Value} (h : w.ownsRow b e s v n xs) {N : Nat} (hN : N < b) : v.ownBlock = none ∨ v.ownBlock ≠ some N := by
  rcases hv : v.ownBlock with _ | k
  · exact .inl rfl
  · refine .inr ?_
    have := h.lt k hv
    simp; omega
theorem below_row {w w' : World} {B N : Nat} (hg : w.grownBy w' (some N)) (hB : B ≤ w.heap.size) (hN : B ≤ N) : Below B w w' :=
  below_grown hg hB fun k hk => by cases hk; exact hN
theorem leftG_small {bs : List Batch} {l : List Gone} {to now keep : Int} {i : Nat} {x : Batch} (h : smallRecs x.recs) : smallRecs (leftG bs l to now keep i x) :=
  ⟨Nat.le_trans (leftTo_length _ _ _ _ _ _ _ _) h.1, fun r hr => h.2 r (leftTo_mem _ _ _ _ _ _ _ _ r hr)⟩
theorem OwnRecs.form {w : World} {b : Nat} {v : Value} {rs : List Rec} (h : OwnRecs w b v rs) : ∃ a cap, v = .slice a rs.length cap := by
  rcases h.2 with ⟨rfl, h0⟩ | ⟨g, cap, cur, rfl, _⟩
  · exact ⟨none, 0, by rw [h0]⟩
  · exact ⟨_, cap, rfl⟩
set_option maxHeartbeats 1000000 in
theorem cleaned_any (bs : List Batch) (l : List Gone) (to now keep : Int) (i : Nat) (x : Batch) (hi : bs[i]? = some x) (v g : Value) (w : World) (hb : BatchesAt w v bs) (hg : GonesAt w g l) :
    Calls Try.prog 33 #[v, g, .int .i64 to, .int .i64 now, .int .i64 keep, .int .i64 i] w
      fun e w' => ∃ u, e = .returned (.agg #[.int .i64 x.base, .int .i64 x.last, .int .i64 x.frm, .int .i64 x.epoch, .int .i64 x.pid, .int .i64 x.gen, .int .i64 x.seq, .bool x.txn, .int .i64 x.ctl, u]) ∧ OwnRecs w' w.heap.size u (cleanedRecs bs l to now keep i x) ∧ Below w.heap.size w w' := by
  have hbw := hb
  obtain ⟨a, cap, rfl, hn, hs⟩ := hb
  obtain ⟨b', o, rfl, hc⟩ := hs i (List.getElem?_eq_some_iff.1 hi).1
  obtain ⟨sv, hx, hrs⟩ := hc _ hi
  have hil := (List.getElem?_eq_some_iff.1 hi).1
  obtain ⟨a3, cap3, rfl, hn3⟩ := hg.form
  clear hs hc
  obtain ⟨a2, cap2, rfl, hn2⟩ := hrs.form
  obtain ⟨e0, e1, e2, e3, e4, e5, e6, e7, e8, e9⟩ := hx
  have e0 := fun X => cell_alloc_old X e0
  have e1 := fun X => cell_alloc_old X e1
  have e2 := fun X => cell_alloc_old X e2
  have e3 := fun X => cell_alloc_old X e3
  have e4 := fun X => cell_alloc_old X e4
  have e5 := fun X => cell_alloc_old X e5
  have e6 := fun X => cell_alloc_old X e6
  have e7 := fun X => cell_alloc_old X e7
  have e8 := fun X => cell_alloc_old X e8
  have e9 := fun X => cell_alloc_old X e9
  have C := hid (fun X => copy_any x _ (w.alloc X) (hrs.mono (below_alloc _ _)))
  have L := hid (fun W (h : Below w.heap.size w W) => left_any bs l to now keep i x hi _ _ W (hbw.mono h) (hg.mono h))
  have Fin := hid (show cleanedRecs bs l to now keep i x = if (decide (x.last < to) && (x.ctl == 0)) = true then leftG bs l to now keep i x else x.recs from rfl)
  clear hbw hg hrs
  rcases Bool.eq_false_or_eq_true (decide (x.last < to)) with h1 | h1
  · rcases Bool.eq_false_or_eq_true (x.ctl == 0) with h2 | h2
    · rw [h1, h2] at Fin
      go_enter Try.func33, Try.ntmps33
      go_wp2_with (first
        | (go_at_call 13; refine (C.out _).mono ?_; rintro e w1 ⟨u, rfl, hu, hb1⟩; have HN := hid (blk_below (heap_alloc_new w _) hb1); obtain ⟨a4, cap4, rfl⟩ := OwnRecs.form hu; have hlt1 : w.heap.size < w1.heap.size := by (have := hb1.size; simp at this; omega))
        | (go_at_call 53; refine (L.out _ (((below_alloc _ _).step hb1).step (below_alloc _ _))).mono ?_; rintro e w2 ⟨u2, rfl, hu2, hb2⟩; have HM := hid (blk_below (heap_alloc_new w1 _) hb2); have HN2 := hid (blk_below (blk_below HN.out (below_alloc _ _)) hb2); obtain ⟨a5, cap5, rfl⟩ := OwnRecs.form hu2; obtain ⟨p0, p1, p2, p3, p4, p5, p6, p7, p8, p9⟩ := cells10 HM.out; have fzM := frozen_of_row HM.out)
        | (refine wpList_store_all rfl 28 (.tmp 12) (.tmp 36) rfl w.heap.size _ rfl rfl 28 _ ((Below.heap_setCell _ _ _ _ (by simp; omega)).trans HN2.out) (by kernel_rfl) rfl rfl ?_))
      intro w3 hN3 hg3
      obtain ⟨q0, q1, q2, q3, q4, q5, q6, q7, q8, q9⟩ := cells10 hN3
      go_wp2
      refine bodyPost_ret (v := .agg #[.int .i64 x.base, .int .i64 x.last, .int .i64 x.frm, .int .i64 x.epoch, .int .i64 x.pid, .int .i64 x.gen, .int .i64 x.seq, .bool x.txn, .int .i64 x.ctl, .slice a5 (leftG bs l to now keep i x).length cap5]) (by simp [results, Try.results33, go_sem, q0, q1, q2, q3, q4, q5, q6, q7, q8, q9]) rfl ⟨_, rfl, ?_, ?_⟩
      · rw [Fin.out]; first | rw [if_pos (by decide)] | rw [if_neg (by simp)]
        have hu2' : OwnRecs w2 (w1.heap.size + 1) (.slice a5 (leftG bs l to now keep i x).length cap5) (leftG bs l to now keep i x) := by simpa using hu2
        have hu3 := ownsRow_setCell_below hu2' (a := ⟨w1.heap.size, 9, none⟩) (by simp) (.slice a5 (leftG bs l to now keep i x).length cap5)
        exact OwnRecs.base (World.ownsRow.kept hu3 hg3 (own_not hu3 (by omega))) (by omega)
      · have hbs := (((below_alloc w _).step hb1).step (below_alloc _ _)).step hb2
        have hbs2 := hbs.setCell (p := ⟨w1.heap.size, 9, none⟩) (by simp; omega) (.slice a5 (leftG bs l to now keep i x).length cap5)
        exact hbs2.trans (below_row hg3 hbs2.size (Nat.le_refl _))
    · rw [h1, h2] at Fin
      go_enter Try.func33, Try.ntmps33
      go_wp2_with (first
        | (go_at_call 13; refine (C.out _).mono ?_; rintro e w1 ⟨u, rfl, hu, hb1⟩; have HN := hid (blk_below (heap_alloc_new w _) hb1); obtain ⟨a4, cap4, rfl⟩ := OwnRecs.form hu; have hlt1 : w.heap.size < w1.heap.size := by (have := hb1.size; simp at this; omega))
        | (refine wpList_store_all rfl 28 (.tmp 12) (.tmp 36) rfl w.heap.size _ rfl rfl 28 _ (blk_below HN.out (below_alloc _ _)) (by kernel_rfl) rfl rfl ?_))
      intro w3 hN3 hg3
      obtain ⟨q0, q1, q2, q3, q4, q5, q6, q7, q8, q9⟩ := cells10 hN3
      go_wp2
      refine bodyPost_ret (v := .agg #[.int .i64 x.base, .int .i64 x.last, .int .i64 x.frm, .int .i64 x.epoch, .int .i64 x.pid, .int .i64 x.gen, .int .i64 x.seq, .bool x.txn, .int .i64 x.ctl, .slice a4 x.recs.length cap4]) (by simp [results, Try.results33, go_sem, q0, q1, q2, q3, q4, q5, q6, q7, q8, q9]) rfl ⟨_, rfl, ?_, ?_⟩
      · rw [Fin.out]; first | rw [if_pos (by decide)] | rw [if_neg (by simp)]
        have hu2' : OwnRecs w1 (w.heap.size + 1) (.slice a4 x.recs.length cap4) x.recs := by simpa using hu
        have hu3 := World.ownsRow.alloc hu2' (.cells #[.int .i64 x.base, .int .i64 x.last, .int .i64 x.frm, .int .i64 x.epoch, .int .i64 x.pid, .int .i64 x.gen, .int .i64 x.seq, .bool x.txn, .int .i64 x.ctl, .slice a4 x.recs.length cap4] 28)
        exact OwnRecs.base (World.ownsRow.kept hu3 hg3 (own_not hu3 (by omega))) (by omega)
      · refine (((below_alloc w _).step hb1).step (below_alloc _ _)).trans (below_row hg3 ?_ (Nat.le_refl _)); simp; omega
  · rw [h1] at Fin
    go_enter Try.func33, Try.ntmps33
    go_wp2_with (first
      | (go_at_call 13; refine (C.out _).mono ?_; rintro e w1 ⟨u, rfl, hu, hb1⟩; have HN := hid (blk_below (heap_alloc_new w _) hb1); obtain ⟨a4, cap4, rfl⟩ := OwnRecs.form hu; have hlt1 : w.heap.size < w1.heap.size := by (have := hb1.size; simp at this; omega))
      | (refine wpList_store_all rfl 28 (.tmp 12) (.tmp 36) rfl w.heap.size _ rfl rfl 28 _ (blk_below HN.out (below_alloc _ _)) (by kernel_rfl) rfl rfl ?_))
    intro w3 hN3 hg3
    obtain ⟨q0, q1, q2, q3, q4, q5, q6, q7, q8, q9⟩ := cells10 hN3
    go_wp2
    refine bodyPost_ret (v := .agg #[.int .i64 x.base, .int .i64 x.last, .int .i64 x.frm, .int .i64 x.epoch, .int .i64 x.pid, .int .i64 x.gen, .int .i64 x.seq, .bool x.txn, .int .i64 x.ctl, .slice a4 x.recs.length cap4]) (by simp [results, Try.results33, go_sem, q0, q1, q2, q3, q4, q5, q6, q7, q8, q9]) rfl ⟨_, rfl, ?_, ?_⟩
    · rw [Fin.out]; first | rw [if_pos (by decide)] | rw [if_neg (by simp)]
      have hu2' : OwnRecs w1 (w.heap.size + 1) (.slice a4 x.recs.length cap4) x.recs := by simpa using hu
      have hu3 := World.ownsRow.alloc hu2' (.cells #[.int .i64 x.base, .int .i64 x.last, .int .i64 x.frm, .int .i64 x.epoch, .int .i64 x.pid, .int .i64 x.gen, .int .i64 x.seq, .bool x.txn, .int .i64 x.ctl, .slice a4 x.recs.length cap4] 28)
      exact OwnRecs.base (World.ownsRow.kept hu3 hg3 (own_not hu3 (by omega))) (by omega)
    · refine (((below_alloc w _).step hb1).step (below_alloc _ _)).trans (below_row hg3 ?_ (Nat.le_refl _)); simp; omega
end Go.Proofs.Ytceamgkifjmbcaa
