/- Walks of the program: whether two batches are alike but for their records; where a record stands among others; whether records are some of others. -/
import Derived.Test.YtceamgkifjmbcaaW13
namespace Go.Proofs.Ytceamgkifjmbcaa
open Go.RowKit Go.Wm
def alikeB (x y : Batch) : Bool := (x.base == y.base) && ((x.last == y.last) && ((x.frm == y.frm) && ((x.epoch == y.epoch) && ((x.pid == y.pid) && ((x.gen == y.gen) && ((x.seq == y.seq) && ((x.txn == y.txn) && (x.ctl == y.ctl))))))))
set_option maxRecDepth 100000 in
set_option maxHeartbeats 4000000 in
theorem alike_any (x y : Batch) (v u : Value) (w : World) (hx : RecsAt w v x.recs) (hy : RecsAt w u y.recs) :
    Calls Try.prog 64 #[.agg #[.int .i64 x.base, .int .i64 x.last, .int .i64 x.frm, .int .i64 x.epoch, .int .i64 x.pid, .int .i64 x.gen, .int .i64 x.seq, .bool x.txn, .int .i64 x.ctl, v],
        .agg #[.int .i64 y.base, .int .i64 y.last, .int .i64 y.frm, .int .i64 y.epoch, .int .i64 y.pid, .int .i64 y.gen, .int .i64 y.seq, .bool y.txn, .int .i64 y.ctl, u]] w
      fun e w' => e = .returned (.bool (alikeB x y)) ∧ Below w.heap.size w w' := by
  obtain ⟨a, cap, rfl, hn⟩ := hx.form
  obtain ⟨a2, cap2, rfl, hn2⟩ := hy.form
  clear hx hy
  have F := hid (show alikeB x y = ((x.base == y.base) && ((x.last == y.last) && ((x.frm == y.frm) && ((x.epoch == y.epoch) && ((x.pid == y.pid) && ((x.gen == y.gen) && ((x.seq == y.seq) && ((x.txn == y.txn) && (x.ctl == y.ctl)))))))))  from rfl)
  generalize alikeB x y = B at *
  generalize x.recs.length = N1 at *
  generalize y.recs.length = N2 at *
  rcases Bool.eq_false_or_eq_true (x.base == y.base) with h0 | h0
  · skip
    rcases Bool.eq_false_or_eq_true (x.last == y.last) with h1 | h1
    · skip
      rcases Bool.eq_false_or_eq_true (x.frm == y.frm) with h2 | h2
      · skip
        rcases Bool.eq_false_or_eq_true (x.epoch == y.epoch) with h3 | h3
        · skip
          rcases Bool.eq_false_or_eq_true (x.pid == y.pid) with h4 | h4
          · skip
            rcases Bool.eq_false_or_eq_true (x.gen == y.gen) with h5 | h5
            · skip
              rcases Bool.eq_false_or_eq_true (x.seq == y.seq) with h6 | h6
              · skip
                rcases Bool.eq_false_or_eq_true (x.txn == y.txn) with h7 | h7
                · skip
                  rcases Bool.eq_false_or_eq_true (x.ctl == y.ctl) with h8 | h8
                  · skip
                    have G := hid (show B = true by rw [F.out, h0, h1, h2, h3, h4, h5, h6, h7, h8]; rfl)
                    rw [G.out]
                    go_enter Try.func64, Try.ntmps64
                    go_wp2
                    go_ret
                    exact ⟨rfl, (below_alloc _ _).step (below_alloc _ _)⟩
                  · skip
                    have G := hid (show B = false by rw [F.out, h0, h1, h2, h3, h4, h5, h6, h7, h8]; rfl)
                    rw [G.out]
                    go_enter Try.func64, Try.ntmps64
                    go_wp2
                    go_ret
                    exact ⟨rfl, (below_alloc _ _).step (below_alloc _ _)⟩
                · skip
                  have G := hid (show B = false by rw [F.out, h0, h1, h2, h3, h4, h5, h6, h7]; rfl)
                  rw [G.out]
                  go_enter Try.func64, Try.ntmps64
                  go_wp2
                  go_ret
                  exact ⟨rfl, (below_alloc _ _).step (below_alloc _ _)⟩
              · skip
                have G := hid (show B = false by rw [F.out, h0, h1, h2, h3, h4, h5, h6]; rfl)
                rw [G.out]
                go_enter Try.func64, Try.ntmps64
                go_wp2
                go_ret
                exact ⟨rfl, (below_alloc _ _).step (below_alloc _ _)⟩
            · skip
              have G := hid (show B = false by rw [F.out, h0, h1, h2, h3, h4, h5]; rfl)
              rw [G.out]
              go_enter Try.func64, Try.ntmps64
              go_wp2
              go_ret
              exact ⟨rfl, (below_alloc _ _).step (below_alloc _ _)⟩
          · skip
            have G := hid (show B = false by rw [F.out, h0, h1, h2, h3, h4]; rfl)
            rw [G.out]
            go_enter Try.func64, Try.ntmps64
            go_wp2
            go_ret
            exact ⟨rfl, (below_alloc _ _).step (below_alloc _ _)⟩
        · skip
          have G := hid (show B = false by rw [F.out, h0, h1, h2, h3]; rfl)
          rw [G.out]
          go_enter Try.func64, Try.ntmps64
          go_wp2
          go_ret
          exact ⟨rfl, (below_alloc _ _).step (below_alloc _ _)⟩
      · skip
        have G := hid (show B = false by rw [F.out, h0, h1, h2]; rfl)
        rw [G.out]
        go_enter Try.func64, Try.ntmps64
        go_wp2
        go_ret
        exact ⟨rfl, (below_alloc _ _).step (below_alloc _ _)⟩
    · skip
      have G := hid (show B = false by rw [F.out, h0, h1]; rfl)
      rw [G.out]
      go_enter Try.func64, Try.ntmps64
      go_wp2
      go_ret
      exact ⟨rfl, (below_alloc _ _).step (below_alloc _ _)⟩
  · skip
    have G := hid (show B = false by rw [F.out, h0]; rfl)
    rw [G.out]
    go_enter Try.func64, Try.ntmps64
    go_wp2
    go_ret
    exact ⟨rfl, (below_alloc _ _).step (below_alloc _ _)⟩
end Go.Proofs.Ytceamgkifjmbcaa
