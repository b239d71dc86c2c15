/- Walks: whether a batch is gone, and whether its records count (the document's text). -/
import Derived.Test.YtceamgkifjmbcaaW2
namespace Go.Proofs.Ytceamgkifjmbcaa
open Go.RowKit Go.Wm
def goneR (x : Batch) (g : Gone) : Bool := (x.ctl == 0) && x.txn && goneP x g
set_option maxHeartbeats 2000000 in
theorem goneRef_any (x : Batch) (gs : List Gone) (sv v : Value) (w : World) (hr : RecsAt w sv x.recs) (hg : GonesAt w v gs) :
    Calls Try.prog 17 #[.agg #[.int .i64 x.base, .int .i64 x.last, .int .i64 x.frm, .int .i64 x.epoch, .int .i64 x.pid, .int .i64 x.gen, .int .i64 x.seq, .bool x.txn, .int .i64 x.ctl, sv], v] w
      fun e w' => e = .returned (.bool (gs.any (goneR x))) ∧ Below w.heap.size w w' := by
  obtain ⟨a2, cap2, rfl, hn2⟩ := hr.form
  clear hr
  obtain ⟨a, cap, rfl, hn, hs⟩ := hg
  obtain ⟨base, last, frm, epoch, pid, gen, seq, txn, ctl, recs⟩ := x
  simp only at hn2 ⊢
  generalize hX : (⟨base, last, frm, epoch, pid, gen, seq, txn, ctl, recs⟩ : Batch) = x
  have F := hid (show ∀ g, goneR x g = ((ctl == 0) && txn && (g.pid == pid && decide (g.first ≤ base) && decide (base < g.last))) from by intro g; rw [← hX]; rfl)
  clear hX
  rcases hs.shape with ⟨b', o, rfl, hc⟩ | h0
  · clear hs
    go_enter Try.func17, Try.ntmps17
    go_wp2
    refine wp_name fun W hW => ?_
    have hB : Below w.heap.size w W := by rw [hW]; exact below_alloc _ _
    have n0 : W.cell? ⟨w.heap.size, 0, none⟩ = some (.int .i64 base) := by rw [hW]; simp
    have n4 : W.cell? ⟨w.heap.size, 4, none⟩ = some (.int .i64 pid) := by rw [hW]; simp
    have n7 : W.cell? ⟨w.heap.size, 7, none⟩ = some (.bool txn) := by rw [hW]; simp
    have n8 : W.cell? ⟨w.heap.size, 8, none⟩ = some (.int .i64 ctl) := by rw [hW]; simp
    clear hW
    go_loopw [9] (fun i wr => ∃ k : Nat, k ≤ gs.length ∧ i = .int .i64 k ∧ (∀ j (h : j < gs.length), j < k → goneR x gs[j] = false) ∧ Below W.heap.size W wr) (fun i _ => gs.length - (intOf i).toNat)
    case atStart => exact ⟨0, by omega, rfl, fun _ _ h => by omega, Below.refl _ _⟩
    case round =>
      obtain ⟨k, hk, rfl, hall, hwr⟩ := hrel
      have Hall := hid hall; clear hall
      have m0 := fun X => cell_alloc_old X (cell_below hwr n0)
      have m4 := fun X => cell_alloc_old X (cell_below hwr n4)
      have m7 := fun X => cell_alloc_old X (cell_below hwr n7)
      have m8 := fun X => cell_alloc_old X (cell_below hwr n8)
      clear n0 n4 n7 n8
      by_cases hlt : k < gs.length
      · obtain ⟨e0, e1, e2, e3⟩ := (((hc k hlt) _ (List.getElem?_eq_getElem hlt)).mono hB).mono hwr
        have Fk := hid (F.out gs[k])
        clear hc
        obtain ⟨g, hg⟩ : ∃ g, g = gs[k] := ⟨_, rfl⟩
        rw [← hg] at e0 e1 e2 e3
        have Fg := hid (show goneR x gs[k] = ((ctl == 0) && txn && (g.pid == pid && decide (g.first ≤ base) && decide (base < g.last))) by rw [hg]; exact F.out _)
        clear hg Fk
        rcases Bool.eq_false_or_eq_true ((ctl == 0)) with h1 | h1
        · cases txn
          · have N1 := hid h1
            go_wp2
            go_roundw
            case rel =>
              refine ⟨k + 1, by omega, by go_num, ?_, hwr.step (below_alloc _ _)⟩
              intro j hj hjk
              by_cases hjk' : j = k
              · subst hjk'; rw [Fg.out, N1.out]; simp
              · exact Hall.out j hj (by omega)
            case measure => simp [intOf]; omega
          · rcases Bool.eq_false_or_eq_true ((g.pid == pid)) with h3 | h3
            · rcases Bool.eq_false_or_eq_true (decide (g.first ≤ base)) with h4 | h4
              · rcases Bool.eq_false_or_eq_true (decide (base < g.last)) with h5 | h5
                · have N1 := hid h1
                  have N3 := hid h3
                  have N4 := hid h4
                  have N5 := hid h5
                  go_wp2
                  go_ret
                  refine ⟨ret_bool ?_, hB.step (hwr.step (below_alloc _ _))⟩
                  rw [eq_comm, List.any_eq_true]
                  exact ⟨gs[k], List.getElem_mem _, by rw [Fg.out, N1.out, N3.out, N4.out, N5.out]; simp⟩
                · have N1 := hid h1
                  have N3 := hid h3
                  have N4 := hid h4
                  have N5 := hid h5
                  go_wp2
                  go_roundw
                  case rel =>
                    refine ⟨k + 1, by omega, by go_num, ?_, hwr.step (below_alloc _ _)⟩
                    intro j hj hjk
                    by_cases hjk' : j = k
                    · subst hjk'; rw [Fg.out, N1.out, N3.out, N4.out, N5.out]; simp
                    · exact Hall.out j hj (by omega)
                  case measure => simp [intOf]; omega
              · have N1 := hid h1
                have N3 := hid h3
                have N4 := hid h4
                go_wp2
                go_roundw
                case rel =>
                  refine ⟨k + 1, by omega, by go_num, ?_, hwr.step (below_alloc _ _)⟩
                  intro j hj hjk
                  by_cases hjk' : j = k
                  · subst hjk'; rw [Fg.out, N1.out, N3.out, N4.out]; simp
                  · exact Hall.out j hj (by omega)
                case measure => simp [intOf]; omega
            · have N1 := hid h1
              have N3 := hid h3
              go_wp2
              go_roundw
              case rel =>
                refine ⟨k + 1, by omega, by go_num, ?_, hwr.step (below_alloc _ _)⟩
                intro j hj hjk
                by_cases hjk' : j = k
                · subst hjk'; rw [Fg.out, N1.out, N3.out]; simp
                · exact Hall.out j hj (by omega)
              case measure => simp [intOf]; omega
        · have N1 := hid h1
          go_wp2
          go_roundw
          case rel =>
            refine ⟨k + 1, by omega, by go_num, ?_, hwr.step (below_alloc _ _)⟩
            intro j hj hjk
            by_cases hjk' : j = k
            · subst hjk'; rw [Fg.out, N1.out]; simp
            · exact Hall.out j hj (by omega)
          case measure => simp [intOf]; omega
      · have hke : k = gs.length := by omega
        have Hk := hid hke; clear hke
        go_wp2
        go_ret
        refine ⟨ret_bool ?_, hB.step hwr⟩
        rw [eq_comm, List.any_eq_false]
        intro g hg
        obtain ⟨j, hj, rfl⟩ := List.getElem_of_mem hg
        simp [Hall.out j hj (by have := Hk.out; omega)]
  · obtain rfl : gs = [] := List.eq_nil_of_length_eq_zero h0
    clear hs h0 hn
    go_enter Try.func17, Try.ntmps17
    go_wp2
    refine wp_loop_once ?_
    go_wp2
    go_ret
    exact ⟨ret_bool (by simp), below_alloc _ _⟩
theorem any_goneR (x : Batch) (l : List Gone) (h : (x.ctl == 0) = true) : l.any (goneR x) = (x.txn && l.any (goneP x)) := by
  induction l with
  | nil => simp
  | cons g l ih => simp only [List.any_cons, ih, goneR, h]; cases x.txn <;> simp
set_option maxHeartbeats 1000000 in
theorem countsRef_any (x : Batch) (l : List Gone) (to : Int) (sv v : Value) (w : World) (hr : RecsAt w sv x.recs) (hg : GonesAt w v l) :
    Calls Try.prog 67 #[.agg #[.int .i64 x.base, .int .i64 x.last, .int .i64 x.frm, .int .i64 x.epoch, .int .i64 x.pid, .int .i64 x.gen, .int .i64 x.seq, .bool x.txn, .int .i64 x.ctl, sv], v, .int .i64 to] w
      fun e w' => e = .returned (.bool (countsB l to x)) ∧ Below w.heap.size w w' := by
  obtain ⟨a2, cap2, rfl, hn2⟩ := hr.form
  obtain ⟨a, cap, rfl, hn⟩ := hg.form
  have C := hid (fun X => goneRef_any x l _ _ (w.alloc X) (hr.mono (below_alloc _ _)) (hg.mono (below_alloc _ _)))
  have Fin := hid (show countsB l to x = (decide (x.last < to) && (x.ctl == 0) && !(x.txn && l.any (goneP x))) from rfl)
  have E := hid (any_goneR x l)
  rcases Bool.eq_false_or_eq_true (decide (x.last < to)) with h1 | h1
  · rcases Bool.eq_false_or_eq_true (x.ctl == 0) with h2 | h2
    · have H2 := hid h2
      go_enter Try.func67, Try.ntmps67
      go_wp2_with (go_at_call 17; refine (C.out _).mono ?_; rintro e w1 ⟨rfl, hb1⟩)
      go_ret
      refine ⟨ret_bool ?_, (below_alloc _ _).step hb1⟩
      rw [Fin.out, E.out H2.out, h1, H2.out]; simp
    · have H2 := hid h2
      go_enter Try.func67, Try.ntmps67
      go_wp2
      go_ret
      refine ⟨ret_bool ?_, (below_alloc _ _)⟩
      rw [Fin.out, h1, H2.out]; simp
  · go_enter Try.func67, Try.ntmps67
    go_wp2
    go_ret
    refine ⟨ret_bool ?_, (below_alloc _ _)⟩
    rw [Fin.out, h1]; simp
end Go.Proofs.Ytceamgkifjmbcaa
