/- Walks of the program: which of the batches that are left a batch that was is. -/
import Derived.Test.YtceamgkifjmbcaaC2
import Derived.Test.YtceamgkifjmbcaaW15
import Derived.Outline
namespace Go.Proofs.Ytceamgkifjmbcaa
open Go.RowKit Go.Wm
def matchB (y b : Batch) : Bool := alikeB b y && amongB y.recs b.recs
set_option maxRecDepth 100000 in
set_option maxHeartbeats 2000000 in
theorem matchClosure_any (iss : List Batch) (vis : Value) (i : Nat) (y b : Batch) (hy : iss[i]? = some y) (sv : Value) (B1 B2 : Nat) (w : World) (h1 : w.cell? ⟨B1, 0, none⟩ = some vis) (h2 : w.cell? ⟨B2, 0, none⟩ = some (.int .i64 i)) (his : BatchesC w vis iss) (hb : RecsC w sv b.recs) :
    Calls Try.prog 63 #[.agg #[.int .i64 b.base, .int .i64 b.last, .int .i64 b.frm, .int .i64 b.epoch, .int .i64 b.pid, .int .i64 b.gen, .int .i64 b.seq, .bool b.txn, .int .i64 b.ctl, sv], .pointer (some ⟨B1, 0, none⟩), .pointer (some ⟨B2, 0, none⟩)] w
      fun e w' => e = .returned (.bool (matchB y b)) ∧ Below w.heap.size w w' := by
  have hil := (List.getElem?_eq_some_iff.1 hy).1
  obtain ⟨a, cap, rfl, hn, hs⟩ := his
  obtain ⟨b', o, rfl, hya⟩ := hs i hil
  obtain ⟨sy, hya, hyr⟩ := hya y hy
  obtain ⟨a2, cap2, rfl, hn2⟩ := hyr.1.form
  obtain ⟨a3, cap3, rfl, hn3⟩ := hb.1.form
  have Fin := hid (show matchB y b = (alikeB b y && amongB y.recs b.recs) from rfl)
  generalize matchB y b = Mb at *
  clear hs hy
  go_enter Try.func63, Try.ntmps63
  go_wp2
  refine wp_name fun W hW => ?_
  have hB : Below w.heap.size w W := by rw [hW]; exact below_alloc _ _
  have hN : BatchAt W w.heap.size 0 b (.slice a3 b.recs.length cap3) := by rw [hW]; exact ⟨by simp, by simp, by simp, by simp, by simp, by simp, by simp, by simp, by simp, by simp⟩
  clear hW
  have C64 := fun n : Later W => Later.call (n := n) (alike_any b y _ _ n.w ((hb.1.mono hB).mono n.below) ((hyr.1.mono hB).mono n.below))
  have C42 := fun n : Later W => Later.call (n := n) (among_any y.recs b.recs _ _ n.w ((hyr.1.mono hB).mono n.below) ((hb.mono hB).mono n.below))
  obtain ⟨e0, e1, e2, e3, e4, e5, e6, e7, e8, e9⟩ := hya.mono hB
  obtain ⟨g0, g1, g2, g3, g4, g5, g6, g7, g8, g9⟩ := hN
  have q1 := Later.cell (cell_below hB h1)
  have q2 := Later.cell (cell_below hB h2)
  have e0 := Later.cell e0
  have e1 := Later.cell e1
  have e2 := Later.cell e2
  have e3 := Later.cell e3
  have e4 := Later.cell e4
  have e5 := Later.cell e5
  have e6 := Later.cell e6
  have e7 := Later.cell e7
  have e8 := Later.cell e8
  have e9 := Later.cell e9
  have g0 := Later.cell g0
  have g1 := Later.cell g1
  have g2 := Later.cell g2
  have g3 := Later.cell g3
  have g4 := Later.cell g4
  have g5 := Later.cell g5
  have g6 := Later.cell g6
  have g7 := Later.cell g7
  have g8 := Later.cell g8
  have g9 := Later.cell g9
  have H64 := hid C64
  have H42 := hid C42
  clear C64 C42 h1 h2 hya hyr hb
  cases hal : alikeB b y with
  | false =>
    rw [hal] at H64 Fin
    clear hal H42
    refine wp_region_later (by kernel_rfl) (by kernel_rfl) ?_
    repeat (go_big_quiet_step ((go_at_call 64; exact H64.out _)))
    refine wpQuiet_nil ?_
    intro w3 hb3
    clear q1 q2 e0 e1 e2 e3 e4 e5 e6 e7 e8 e9 g0 g1 g2 g3 g4 g5 g6 g7 g8 g9
    go_wp2
    go_ret
    exact ⟨ret_bool (by rw [Fin.out]; rfl), hB.step hb3⟩
  | true =>
    rw [hal] at H64 Fin
    clear hal
    refine wp_region_later (by kernel_rfl) (by kernel_rfl) ?_
    repeat (go_big_quiet_step ((first | (go_at_call 64; exact H64.out _) | (go_at_call 42; exact H42.out _))))
    refine wpQuiet_nil ?_
    intro w3 hb3
    clear q1 q2 e0 e1 e2 e3 e4 e5 e6 e7 e8 e9 g0 g1 g2 g3 g4 g5 g6 g7 g8 g9
    go_wp2
    go_ret
    exact ⟨ret_bool (by rw [Fin.out]; rfl), hB.step hb3⟩
end Go.Proofs.Ytceamgkifjmbcaa
