/- A map's places, collected: the calls. Turned from the kit's worked contracts on iterators (SlIter). -/
import Derived.Test.YtceamgkifjmbcaaIterQ
namespace Go.Proofs.Ytceamgkifjmbcaa
open Go.RowKit Go.Maps Go.Sort Go.Shelf Go.Wm
def ValuesOf (D0 : DataW Unit) (xs : List (Int × Int)) : Prop := ∃ ps, PairsOf D0 ps ∧ xs = ps.map (·.2)
theorem ownsMap_below {w w' : World} {b nn : Nat} {D0 : DataW Unit} (h : w.ownsMap Try.prog 9 placeR b nn D0) (hb : Below w.heap.size w w') : w'.ownsMap Try.prog 9 placeR b nn D0 := by
  have hbl := h.lt
  obtain ⟨es, clock, hk, Ft, hs, hD⟩ := h
  exact ⟨es, clock, (hb.block b hbl).trans hk, Ft, hs, hD⟩
set_option maxRecDepth 100000 in
set_option maxHeartbeats 2000000 in
theorem appendSeqP_in (n : Nat) (hn : 2 ≤ n) (Bm b nn : Nat) (D0 : DataW Unit) (hN : Maps.size D0 ≤ maxLen) (hNb : Maps.size D0 * 16 ≤ 140737488355328) (w : World) (hBm : Bm < w.heap.size) (hm : w.cell? ⟨Bm, 0, none⟩ = some (.map (some b)))
    (hown : w.ownsMap Try.prog 9 placeR b nn D0) :
    CallsIn Fence.wide n Try.prog 74 #[.slice none 0 0, .func (.func 60) #[] #[.pointer (some ⟨Bm, 0, none⟩)]] w fun e w' => ∃ (v : Value) (xs : List (Int × Int)), e = .returned v ∧ ValuesOf D0 xs ∧ plRow w' w.heap.size v xs ∧ (v = .slice none 0 0 ↔ xs = []) ∧ Below w.heap.size w w' := by
  have h1 : 1 ≤ n := by omega
  have h74 : Fence.wide.fn 74 := trivial
  have eg : ∀ args w, (callFunc 60 args).run Try.prog w = .ok (.enter 60 args) w := enters_of Try.func60 (by kernel_rfl) rfl
  refine callsIn_of_wp_marks Try.func74 rfl h74 ?_ rfl
  simp only [Try.ntmps74, List.size_toArray, List.length_cons, List.length_nil, Nat.reduceAdd, Nat.reduceSub, Array.replicate_succ, Array.replicate_zero, List.push_toArray, List.append_toArray, List.nil_append, List.cons_append]
  gi_wp2
  refine wpIn_rangeFunc ?_
  intro fn hfn
  obtain ⟨W0, hW0⟩ : ∃ W0, w.alloc (.cells #[.slice none 0 0] 73) = W0 := ⟨_, rfl⟩
  have hs0 : W0.heap.size = w.heap.size + 1 := by rw [← hW0]; simp
  have hv0 : W0.heap[w.heap.size]? = some (.cells #[.slice none 0 0] 73 (0, 0)) := by rw [← hW0]; exact World.alloc_heap_new w _
  have hb0 : Below w.heap.size w W0 := by rw [← hW0]; exact (Below.refl _ w).alloc (Nat.le_refl _) _
  rw [hW0]
  obtain ⟨W1, hW1⟩ : ∃ W1, (W0.alloc (.deferred (some []))).alloc (.loop (apRec fn (.func (.func 60) #[] #[.pointer (some ⟨Bm, 0, none⟩)]) w.heap.size W0.heap.size .ready none)) = W1 := ⟨_, rfl⟩
  have hold : ∀ k, k < W0.heap.size → W1.heap[k]? = W0.heap[k]? := fun k hk => by
    rw [← hW1]; exact (Below.heap_alloc _ _ k (by simp; omega)).trans (Below.heap_alloc _ _ k hk)
  have hb1 : Below w.heap.size w W1 := by rw [← hW1]; exact (hb0.alloc hb0.size _).alloc (by have := hb0.size; simp; omega) _
  have hs1 : W1.heap.size = W0.heap.size + 2 := by rw [← hW1]; simp
  have hM : ApAt w fn (.func (.func 60) #[] #[.pointer (some ⟨Bm, 0, none⟩)]) w.heap.size (W0.heap.size + 1) W0.heap.size [] W1 :=
    ⟨⟨_, (hold w.heap.size (by omega)).trans hv0, ⟨rfl, .inl ⟨rfl, rfl⟩⟩, by simp⟩,
     by rw [← hW1]; have := World.alloc_heap_new (W0.alloc (.deferred (some []))) (.loop (apRec fn (.func (.func 60) #[] #[.pointer (some ⟨Bm, 0, none⟩)]) w.heap.size W0.heap.size .ready none)); rwa [World.size_alloc] at this,
     by rw [← hW1]; exact (Below.heap_alloc _ _ _ (by simp)).trans (World.alloc_heap_new W0 _), hb1⟩
  refine ⟨W0.heap.size + 1, [{ target := .collected W0.heap.size, args := #[] }], W1, { target := .fn (.func 60) #[.pointer (some ⟨Bm, 0, none⟩)], args := #[.func (.yield (W0.heap.size + 1)) #[] #[]] }, W1, 60,
    #[.func (.yield (W0.heap.size + 1)) #[] #[], .pointer (some ⟨Bm, 0, none⟩)], W1, ?_, ?_, ?_, ?_, fun _ => h1, ?_⟩
  · rw [← hW1]; exact run_enterLoop_outer _ _ _ _ _
  · simp [resolve, go_sem]
  · intro f' hf'; exact trivial
  · simp [invoke, go_sem, eg]
  · refine (valuesIter_in (n - 1) (by omega) (W0.heap.size + 1) Bm b nn D0 (ApAt w fn (.func (.func 60) #[] #[.pointer (some ⟨Bm, 0, none⟩)]) w.heap.size (W0.heap.size + 1) W0.heap.size)
      (fun pre x W hJ hl => apYield (n - 1 - 1) w fn hfn _ w.heap.size (W0.heap.size + 1) W0.heap.size (by omega) (by omega) (by omega) (Nat.le_refl _) (by omega) _ hN hNb pre x W hJ hl) W1 (ap_abides _ _ _ _ _ _ _ hb1.size) (ap_alloc _ _ _ _ _ _) ((hb1.cell (p := ⟨Bm, 0, none⟩) hBm).trans hm) (ownsMap_below hown hb1) hM).mono ?_
    rintro e W2 ⟨⟨v0, rfl⟩, ss, hS, h2⟩
    obtain ⟨v, hv, hrow, hnil⟩ := h2.box
    have hend := run_endLoop (P := Try.prog) h2.L (by simp [apRec])
    obtain ⟨W3, hW3⟩ : ∃ W3, W2.putObj (W0.heap.size + 1) (.loop { apRec fn (.func (.func 60) #[] #[.pointer (some ⟨Bm, 0, none⟩)]) w.heap.size W0.heap.size .ready none with state := .exhausted }) = W3 := ⟨_, rfl⟩
    rw [hW3] at hend
    have hg3 : W2.grownBy W3 (some (W0.heap.size + 1)) := by rw [← hW3]; exact grownBy_putObj_a _ _ _
    have hv3 : W3.heap[w.heap.size]? = some (.cells #[v] 73 (0, 0)) := by rw [← hW3]; exact (World.putObj_heap_other (by omega)).trans hv
    have hK3 : W3.heap[W0.heap.size]? = some (.deferred (some [])) := by rw [← hW3]; exact (World.putObj_heap_other (by omega)).trans h2.K
    have hrow3 := World.ownsRow.kept hrow hg3 (ownsRow_ne_a hrow h2.L (fun cur e => by cases e))
    have hb3 : Below w.heap.size w W3 := h2.below.grown hg3 h2.below.size (fun k e => by cases e; omega)
    obtain ⟨hc3, hf3⟩ := cell_of_box_a hv3
    clear hW3
    refine ⟨none, W3, hend, ?_⟩
    gi_wp2
    rw [← hs0]
    refine ⟨by simp, .inl ⟨_, _, rfl, run_takeDeferred hK3, ?_⟩⟩
    exact ⟨_, results_tmp rfl _ _ _, v, ss, rfl, hS, World.ownsRow.kept hrow3 (grownBy_putObj_a _ _ _) (ownsRow_ne_a hrow3 hK3 (fun cur e => by cases e)), hnil, hb3.grown (grownBy_putObj_a _ _ _) hb3.size (fun k e => by cases e; omega)⟩
set_option maxHeartbeats 1000000 in
theorem collectP_in (n : Nat) (hn : 3 ≤ n) (Bm b nn : Nat) (D0 : DataW Unit) (hN : Maps.size D0 ≤ maxLen) (hNb : Maps.size D0 * 16 ≤ 140737488355328) (w : World) (hBm : Bm < w.heap.size) (hm : w.cell? ⟨Bm, 0, none⟩ = some (.map (some b)))
    (hown : w.ownsMap Try.prog 9 placeR b nn D0) :
    CallsIn Fence.wide n Try.prog 58 #[.func (.func 60) #[] #[.pointer (some ⟨Bm, 0, none⟩)]] w fun e w' => ∃ (v : Value) (xs : List (Int × Int)), e = .returned v ∧ ValuesOf D0 xs ∧ plRow w' w.heap.size v xs ∧ (v = .slice none 0 0 ↔ xs = []) ∧ Below w.heap.size w w' := by
  have h1 : 1 ≤ n := by omega
  have h58 : Fence.wide.fn 58 := trivial
  refine callsIn_of_wp Try.func58 rfl h58 ?_ rfl
  simp only [Try.ntmps58, List.size_toArray, List.length_cons, List.length_nil, Nat.reduceAdd, Nat.reduceSub, Array.replicate_succ, Array.replicate_zero, List.push_toArray, List.append_toArray, List.nil_append, List.cons_append]
  have hf74 : Fence.wide.fn 74 := trivial
  gi_wp2_with (gi_at_call 74; refine (appendSeqP_in (n - 1) (by omega) Bm b nn D0 hN hNb _ hBm hm hown).mono ?_; rintro e w' ⟨v, ss, rfl, hS, hrow, hnil, hb⟩)
  go_ret
  exact ⟨v, ss, rfl, hS, hrow, hnil, hb⟩
set_option maxHeartbeats 1000000 in
theorem mapsValues_any (m : Nat) (w : World) : Calls Try.prog 37 #[.map (some m)] w fun e w' => e = .returned (.func (.func 60) #[] #[.pointer (some ⟨w.heap.size, 0, none⟩)]) ∧ w' = w.alloc (.cells #[.map (some m)] 68) := by
  go_enter Try.func37, Try.ntmps37
  go_wp2
  go_ret
  exact ⟨rfl, rfl⟩
theorem collectP_any (Bm b nn : Nat) (D0 : DataW Unit) (hN : Maps.size D0 ≤ 1000000000000) (w : World) (hBm : Bm < w.heap.size) (hm : w.cell? ⟨Bm, 0, none⟩ = some (.map (some b)))
    (hown : w.ownsMap Try.prog 9 placeR b nn D0) :
    Calls Try.prog 58 #[.func (.func 60) #[] #[.pointer (some ⟨Bm, 0, none⟩)]] w fun e w' => ∃ (v : Value) (xs : List (Int × Int)), e = .returned v ∧ ValuesOf D0 xs ∧ plRow w' w.heap.size v xs ∧ (v = .slice none 0 0 ↔ xs = []) ∧ Below w.heap.size w w' :=
  callsIn_wide.1 (collectP_in 3 (by omega) Bm b nn D0 (by simp only [maxLen]; omega) (by omega) w hBm hm hown)
end Go.Proofs.Ytceamgkifjmbcaa
