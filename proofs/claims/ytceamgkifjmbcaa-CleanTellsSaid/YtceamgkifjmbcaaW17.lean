/- Walks of the statements: a batch of one record; the chapter's example. -/
import Derived.Test.YtceamgkifjmbcaaW16
import Derived.Outline
namespace Go.Proofs.Ytceamgkifjmbcaa
open Go.RowKit Go.Wm
def oneRec (off : Int) (key val : ByteArray) : Rec := ⟨off, key, val, false, 0⟩
def oneB (off : Int) (key val : ByteArray) : Batch := ⟨off, off, 0, 0, -1, 0, 0, false, 0, [oneRec off key val]⟩
def Batch.agg (x : Batch) (sv : Value) : Value := .agg #[.int .i64 x.base, .int .i64 x.last, .int .i64 x.frm, .int .i64 x.epoch, .int .i64 x.pid, .int .i64 x.gen, .int .i64 x.seq, .bool x.txn, .int .i64 x.ctl, sv]
theorem own_recs_of_row {w : World} {base g : Nat} {rs : List Rec} {cs : Array Value} (h : w.heap[g]? = some (.cells cs 33 (0, 0))) (hc : cs.toList = recCells rs) (hg : base ≤ g) (hn : rs.length ≤ 1000000) : OwnRecs w base (.slice (some ⟨g, 0, none⟩) rs.length rs.length) rs := by
  have hsz : cs.size = rs.length * 5 := by rw [← Array.length_toList, hc, recCells_length]
  refine ⟨recCells_length rs, .inr ⟨g, rs.length, cs, rfl, hg, h, Nat.le_refl _, by simp only [maxLen]; omega, hsz, ?_⟩⟩
  rw [hc]
  exact List.take_of_length_le (by rw [recCells_length]; exact Nat.le_refl _)
set_option maxHeartbeats 1000000 in
theorem one_any (off : Int) (key val : ByteArray) (w : World) :
    Calls Try.prog 19 #[.int .i64 off, .string key, .string val] w
      fun e w' => ∃ u, e = .returned (Batch.agg (oneB off key val) u) ∧ OwnRecs w' w.heap.size u (oneB off key val).recs ∧ Below w.heap.size w w' := by
  go_enter Try.func19, Try.ntmps19
  go_wp2
  refine bodyPost_ret (v := .agg #[.int .i64 off, .int .i64 off, .int .i64 0, .int .i64 0, .int .i64 (-1), .int .i64 0, .int .i64 0, .bool false, .int .i64 0, .slice (some ⟨w.heap.size + 1, 0, none⟩) 1 1]) (by simp [results, Try.results19, go_sem]) rfl ⟨_, rfl, ?_, (below_alloc _ _).step (below_alloc _ _)⟩
  refine own_recs_of_row (rs := [oneRec off key val]) (cs := #[.int .i64 off, .string key, .string val, .bool false, .int .i64 0]) ?_ rfl (by omega) (by simp)
  have h := fun W X => heap_alloc_new W X
  have h1 := h (w.alloc (.cells #[.int .i64 off, .int .i64 off, .int .i64 0, .int .i64 0, .int .i64 (-1), .int .i64 0, .int .i64 0, .bool false, .int .i64 0, .slice (some ⟨w.heap.size + 1, 0, none⟩) 1 1] 28)) (.cells #[.int .i64 off, .string key, .string val, .bool false, .int .i64 0] 33)
  rw [size_alloc] at h1
  exact h1
theorem batCells_length (ps : List (Batch × Value)) : (batCells ps).length = ps.length * 10 := by
  induction ps with
  | nil => rfl
  | cons p ps ih => simp [batCells] at *; rw [ih]; simp [Batch.cells]; omega
theorem own_bats_of_row {w : World} {base g : Nat} (ps : List (Batch × Value)) {cs : Array Value} (h : w.heap[g]? = some (.cells cs 28 (0, 0))) (hc : cs.toList = batCells ps) (hg : base ≤ g) (hn : ps.length ≤ 1000000)
    (hr : ∀ p ∈ ps, OwnRecs w base p.2 p.1.recs ∧ smallRecs p.1.recs) : OwnBats w base (.slice (some ⟨g, 0, none⟩) ps.length ps.length) (ps.map (·.1)) := by
  have hsz : cs.size = ps.length * 10 := by rw [← Array.length_toList, hc, batCells_length]
  refine ⟨ps, rfl, ⟨batCells_length ps, .inr ⟨g, ps.length, cs, rfl, hg, h, Nat.le_refl _, by simp only [maxLen]; omega, hsz, ?_⟩⟩, hr⟩
  rw [hc]
  exact List.take_of_length_le (by rw [batCells_length]; exact Nat.le_refl _)
def liveBs : List Batch := [oneB 0 ⟨#[97]⟩ ⟨#[49]⟩, oneB 1 ⟨#[98]⟩ ⟨#[50]⟩, oneB 2 ⟨#[97]⟩ ⟨#[51]⟩]
theorem live_clean : cleanG liveBs [] 3 0 10 = [oneB 1 ⟨#[98]⟩ ⟨#[50]⟩, oneB 2 ⟨#[97]⟩ ⟨#[51]⟩] := by decide +kernel
theorem smallRecs_one (off : Int) (key val : ByteArray) (h1 : key.size ≤ 140737488351232) (h2 : val.size ≤ 140737488351232) : smallRecs (oneB off key val).recs :=
  ⟨by simp [oneB], fun r hr => by simp [oneB] at hr; subst hr; exact ⟨h1, h2⟩⟩
set_option maxHeartbeats 2000000 in
theorem live_any (w : World) : Calls Try.prog 11 #[] w fun e w' => e = .returned (.bool true) ∧ Below w.heap.size w w' := by
  have Cl := hid (fun vb W hb => clean_any liveBs [] vb (.slice none 0 0) 3 0 10 W hb ⟨none, 0, rfl, by simp, fun k hk => by simp at hk⟩ (by decide +kernel))
  rw [live_clean] at Cl
  go_enter Try.func11, Try.ntmps11
  go_wp2_with fail
  refine (one_any _ _ _ _).mono ?_
  rintro e1 w1 ⟨u1, rfl, hu1, hb1⟩
  unfold Batch.agg
  go_wp2_with fail
  refine (one_any _ _ _ _).mono ?_
  rintro e2 w2 ⟨u2, rfl, hu2, hb2⟩
  unfold Batch.agg
  go_wp2_with fail
  refine (one_any _ _ _ _).mono ?_
  rintro e3 w3 ⟨u3, rfl, hu3, hb3⟩
  unfold Batch.agg
  go_wp2_with fail
  refine (Cl.out _ _ ?_).mono ?_
  · have h := own_bats_of_row (w := w3.alloc (.cells (batCells [(oneB 0 ⟨#[97]⟩ ⟨#[49]⟩, u1), (oneB 1 ⟨#[98]⟩ ⟨#[50]⟩, u2), (oneB 2 ⟨#[97]⟩ ⟨#[51]⟩, u3)]).toArray 28)) (base := w.heap.size) [(oneB 0 ⟨#[97]⟩ ⟨#[49]⟩, u1), (oneB 1 ⟨#[98]⟩ ⟨#[50]⟩, u2), (oneB 2 ⟨#[97]⟩ ⟨#[51]⟩, u3)] (heap_alloc_new _ _) rfl (by have := hb1.size; have := hb2.size; have := hb3.size; omega) (by simp) (by
      have h1 := hb1.size
      have h2 := hb2.size
      intro p hp
      simp only [List.mem_cons, List.not_mem_nil, or_false] at hp
      rcases hp with rfl | rfl | rfl
      · exact ⟨((hu1.below hb2).below hb3).below (below_alloc _ _), smallRecs_one _ _ _ (by decide +kernel) (by decide +kernel)⟩
      · exact ⟨OwnRecs.base ((hu2.below hb3).below (below_alloc _ _)) h1, smallRecs_one _ _ _ (by decide +kernel) (by decide +kernel)⟩
      · exact ⟨OwnRecs.base (hu3.below (below_alloc _ _)) (by omega), smallRecs_one _ _ _ (by decide +kernel) (by decide +kernel)⟩)
    exact h.at (by simp)
  · rintro e4 w4 ⟨u, rfl, hu, hb4⟩
    obtain ⟨a, cap, rfl, _, hs⟩ := hu.at (by simp)
    obtain ⟨b, o, ha, h0⟩ := hs 0 (by simp)
    obtain ⟨sv0, h0, hr0⟩ := h0 _ rfl
    obtain ⟨b', o', ha', h1⟩ := hs 1 (by simp)
    obtain ⟨sv1, h1, hr1⟩ := h1 _ rfl
    subst ha
    simp only [Option.some.injEq, Addr.mk.injEq, and_true] at ha'
    obtain ⟨rfl, rfl⟩ := ha'
    obtain ⟨a0, c0, rfl, _⟩ := hr0.form
    obtain ⟨a1, c1, rfl, _⟩ := hr1.form
    have k0 := h0.c0
    have k9 := h0.c9
    have l0 := h1.c0
    have l9 := h1.c9
    simp only [oneB, Nat.zero_mul, Nat.one_mul, Nat.add_zero, List.length_cons, List.length_nil] at k0 k9 l0 l9
    clear h0 h1 hs hu hr0 hr1 Cl
    go_wp2
    go_ret
    exact ⟨rfl, ((hb1.step hb2).step hb3).step ((below_alloc _ _).step hb4)⟩
end Go.Proofs.Ytceamgkifjmbcaa
