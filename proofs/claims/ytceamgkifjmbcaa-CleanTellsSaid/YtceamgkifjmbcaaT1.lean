/- Walks of the reference: whether marks are the same. -/
import Derived.Test.YtceamgkifjmbcaaW22
namespace Go.Proofs.Ytceamgkifjmbcaa
open Go.RowKit Go.Wm
theorem mark_eq_iff (r s : Mark) : r = s ↔ r.key.toList = s.key.toList ∧ r.off = s.off := by
  rw [toList_inj]
  cases r; cases s; simp
theorem mark_equalIn (r s : Mark) (w : World) : (Op.equalIn 10000 41 (.agg #[.string r.key, .int .i64 0, .int .i64 0, .int .i64 r.off]) (.agg #[.string s.key, .int .i64 0, .int .i64 0, .int .i64 s.off])).run Try.prog w = .ok (decide (r = s)) w := by
  have e : decide (r = s) = ((r.key.toList == s.key.toList) && (r.off == s.off)) := by
    rw [Bool.eq_iff_iff]; simp [mark_eq_iff]
  rw [e]
  clear e
  by_cases h1 : r.key.toList = s.key.toList <;> by_cases h2 : r.off = s.off <;> simp [go_sem, h1, h2]
theorem mark_neq_run (r s : Mark) (w : World) : (binOp .neq 41 (.agg #[.string r.key, .int .i64 0, .int .i64 0, .int .i64 r.off]) (.agg #[.string s.key, .int .i64 0, .int .i64 0, .int .i64 s.off])).run Try.prog w = .ok (.bool (!decide (r = s))) w := by
  rw [run_neq_struct, mark_equalIn]; rfl
theorem mark_at_mono {w w' : World} (hb : Below w.heap.size w w') {b o : Nat} {m : Mark} (h : MarkAt w b o m) : MarkAt w' b o m :=
  ⟨cell_below hb h.c0, cell_below hb h.c1, cell_below hb h.c2, cell_below hb h.c3⟩
/-- What own marks read as. -/
theorem OwnMarks.read {w : World} {base : Nat} {v : Value} {ms : List Mark} (h : OwnMarks w base v ms) : ∃ a cap, v = .slice a ms.length cap ∧ ms.length ≤ cap ∧ ∀ k (hk : k < ms.length), ∃ g, a = some ⟨g, 0, none⟩ ∧ MarkAt w g (k * 4) ms[k] := by
  rcases h.2 with ⟨h1, h2⟩ | ⟨g', cap, cur, rfl, _, _, hn, _⟩
  · exact ⟨none, 0, by rw [h1, h2], by omega, fun k hk => by omega⟩
  · refine ⟨_, cap, rfl, hn, fun k hk => ⟨g', rfl, ?_⟩⟩
    have hcell : ∀ j u, (ms.flatMap Mark.cells)[j]? = some u → w.cell? ⟨g', j, none⟩ = some u := by
      intro j u hj
      have := World.ownsRow.cells (v := .slice (some ⟨g', 0, none⟩) ms.length cap) h rfl j u hj
      have e : (⟨g', 0, none⟩ : Addr).add j = ⟨g', j, none⟩ := by simp only [Addr.add]; split <;> simp_all
      rwa [e] at this
    have hf := fun j hj => flat_get Mark.cells 4 (fun _ => rfl) ms k j hk hj
    exact ⟨hcell _ _ (hf 0 (by omega)), hcell _ _ (hf 1 (by omega)), hcell _ _ (hf 2 (by omega)), hcell _ _ (hf 3 (by omega))⟩
set_option maxHeartbeats 1000000 in
theorem sameMarks_any (ms : List Mark) (b1 b2 : Nat) (v u : Value) (w : World) (hv : OwnMarks w b1 v ms) (hu : OwnMarks w b2 u ms) (hn : ms.length ≤ 1000000000) :
    Calls Try.prog 24 #[v, u] w fun e w' => e = .returned (.bool true) ∧ Below w.heap.size w w' := by
  obtain ⟨a, cap, rfl, _, hs⟩ := hv.read
  obtain ⟨a2, cap2, rfl, _, hs2⟩ := hu.read
  have HS := hid hs
  have HS2 := hid hs2
  clear hv hu hs hs2
  have L1 : ((ms.length : Int) != (ms.length : Int)) = false := by simp
  go_enter Try.func24, Try.ntmps24
  go_wp2
  clear L1
  go_loopw [13] (fun i wr => ∃ k : Nat, k ≤ ms.length ∧ i = .int .i64 k ∧ Below w.heap.size w wr) (fun i _ => ms.length - (intOf i).toNat)
  case atStart => exact ⟨0, by omega, rfl, Below.refl _ _⟩
  case round =>
    obtain ⟨k, hk, rfl, hwr⟩ := hrel
    by_cases hlt : k < ms.length
    · obtain ⟨g, ha, hm⟩ := HS.out k hlt
      obtain ⟨g2, ha2, hm2⟩ := HS2.out k hlt
      obtain ⟨e0, e1, e2, e3⟩ := mark_at_mono hwr hm
      obtain ⟨f0, f1, f2, f3⟩ := mark_at_mono hwr hm2
      have R := fun w => mark_neq_run ms[k] ms[k] w
      simp only [decide_true, Bool.not_true] at R
      have e0 := Later.cell e0
      have e1 := Later.cell e1
      have e2 := Later.cell e2
      have e3 := Later.cell e3
      have f0 := Later.cell f0
      have f1 := Later.cell f1
      have f2 := Later.cell f2
      have f3 := Later.cell f3
      clear hm hm2
      generalize ms[k] = m at *
      go_wp2
      refine wp_region_later (by kernel_rfl) (by kernel_rfl) ?_
      repeat (go_big_quiet_step (fail))
      refine wpQuiet_nil ?_
      intro w2 hb2
      clear R ha ha2
      go_wp2
      go_roundw
      case rel => exact ⟨k + 1, by omega, by go_num, hwr.step hb2⟩
      case measure => simp [intOf]; omega
    · have hke : k = ms.length := by omega
      have Hk := hid hke; clear hke
      go_wp2
      go_ret
      exact ⟨rfl, hwr⟩
end Go.Proofs.Ytceamgkifjmbcaa
