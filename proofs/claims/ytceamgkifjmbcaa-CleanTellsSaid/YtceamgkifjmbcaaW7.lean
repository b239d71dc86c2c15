/- Walks of the document's text: whether a record stays; what is left of a batch. -/
import Derived.Test.YtceamgkifjmbcaaW6
import Derived.Test.YtceamgkifjmbcaaOwn
namespace Go.Proofs.Ytceamgkifjmbcaa
open Go.RowKit Go.Wm
set_option maxHeartbeats 2000000 in
theorem stays_any (bs : List Batch) (l : List Gone) (to now keep : Int) (i k : Nat) (x : Batch) (hi : bs[i]? = some x) (r : Rec) (hk : x.recs[k]? = some r) (v g : Value) (w : World) (hb : BatchesAt w v bs) (hg : GonesAt w g l) :
    Calls Try.prog 70 #[v, g, .int .i64 to, .int .i64 now, .int .i64 keep, .int .i64 i, .int .i64 k] w
      fun e w' => e = .returned (.bool (staysB bs l to now keep i k x r)) ∧ Below w.heap.size w w' := by
  have hbw := hb
  obtain ⟨a, cap, rfl, hn, hs⟩ := hb
  obtain ⟨a3, cap3, rfl, hn3⟩ := hg.form
  obtain ⟨b', o, rfl, hc⟩ := hs i (List.getElem?_eq_some_iff.1 hi).1
  obtain ⟨sv, hx, hrs⟩ := hc _ hi
  have hil := (List.getElem?_eq_some_iff.1 hi).1
  have hkl := (List.getElem?_eq_some_iff.1 hk).1
  clear hs hc hi
  have hrw := hrs
  obtain ⟨a2, cap2, rfl, hn2, _, hs2⟩ := hrs
  obtain ⟨b2, o2, rfl, hc2⟩ := hs2 k hkl
  have hr := hc2 _ hk
  clear hs2 hc2 hk
  have Fin := hid (show staysB bs l to now keep i k x r = (countsB l to x && (r.key.toList.isEmpty || ((lastG bs l to r.key).1 == (i : Int) && (lastG bs l to r.key).2 == (k : Int) && (!r.dead || decide (wrap64 (now - r.stamp) < keep))))) from rfl)
  obtain ⟨e0, e1, e2, e3, e4, e5, e6, e7, e8, e9⟩ := hx
  have C := hid (fun W (h : Below w.heap.size w W) => countsRef_any x l to _ _ W (hrw.mono h) (hg.mono h))
  have L := hid (fun W (h : Below w.heap.size w W) => last_any bs l to r.key _ _ W (hbw.mono h) (hg.mono h))
  clear hbw hrw hg
  have e9h := hid e9
  have hrh := hid hr
  cases hf : countsB l to x
  · rw [hf] at C Fin
    clear hf hr
    go_enter Try.func70, Try.ntmps70
    go_wp2_with (go_at_call 67; refine (C.out _ (Below.refl _ _)).mono ?_; rintro e w1 ⟨rfl, hb1⟩)
    go_ret
    exact ⟨ret_bool (by rw [Fin.out]; simp), hb1⟩
  · rw [hf] at C Fin
    clear hf hr
    rcases Bool.eq_false_or_eq_true r.key.toList.isEmpty with h0 | h0
    · have N0 := hid h0
      go_enter Try.func70, Try.ntmps70
      go_wp2_with ((go_at_call 67; refine (C.out _ (Below.refl _ _)).mono ?_; rintro e w1 ⟨rfl, hb1⟩; have f9 := cell_below hb1 e9h.out; obtain ⟨g0, g1, g2, g3, g4⟩ := hrh.out.mono hb1))
      go_ret
      exact ⟨ret_bool (by rw [Fin.out, N0.out]; simp), hb1.step (below_alloc _ _)⟩
    · rcases Bool.eq_false_or_eq_true ((lastG bs l to r.key).1 == (i : Int)) with h1 | h1
      · rcases Bool.eq_false_or_eq_true ((lastG bs l to r.key).2 == (k : Int)) with h2 | h2
        · rcases Bool.eq_false_or_eq_true r.dead with h3 | h3
          · rcases Bool.eq_false_or_eq_true (decide (wrap64 (now - r.stamp) < keep)) with h4 | h4
            · have N0 := hid h0
              have N1 := hid h1
              have N2 := hid h2
              have N3 := hid h3
              have N4 := hid h4
              go_enter Try.func70, Try.ntmps70
              go_wp2_with (first | (go_at_call 67; refine (C.out _ (Below.refl _ _)).mono ?_; rintro e w1 ⟨rfl, hb1⟩; have f9 := cell_below hb1 e9h.out; obtain ⟨g0, g1, g2, g3, g4⟩ := hrh.out.mono hb1) | (go_at_call 47; refine (L.out _ (hb1.step (below_alloc _ _))).mono ?_; rintro e w2 ⟨rfl, hb2⟩; have q3 := cell_below hb2 (show (World.alloc w1 _).cell? ⟨w1.heap.size, 3, none⟩ = some (.bool r.dead) by first | (simp; done) | simp [N3.out]); have q4 := cell_below hb2 (show (World.alloc w1 _).cell? ⟨w1.heap.size, 4, none⟩ = some (.int .i64 r.stamp) by simp)))
              go_ret
              exact ⟨ret_bool (by rw [Fin.out, N0.out, N1.out, N2.out, N3.out, N4.out]; simp), (hb1.step (below_alloc _ _)).step hb2⟩
            · have N0 := hid h0
              have N1 := hid h1
              have N2 := hid h2
              have N3 := hid h3
              have N4 := hid h4
              go_enter Try.func70, Try.ntmps70
              go_wp2_with (first | (go_at_call 67; refine (C.out _ (Below.refl _ _)).mono ?_; rintro e w1 ⟨rfl, hb1⟩; have f9 := cell_below hb1 e9h.out; obtain ⟨g0, g1, g2, g3, g4⟩ := hrh.out.mono hb1) | (go_at_call 47; refine (L.out _ (hb1.step (below_alloc _ _))).mono ?_; rintro e w2 ⟨rfl, hb2⟩; have q3 := cell_below hb2 (show (World.alloc w1 _).cell? ⟨w1.heap.size, 3, none⟩ = some (.bool r.dead) by first | (simp; done) | simp [N3.out]); have q4 := cell_below hb2 (show (World.alloc w1 _).cell? ⟨w1.heap.size, 4, none⟩ = some (.int .i64 r.stamp) by simp)))
              go_ret
              exact ⟨ret_bool (by rw [Fin.out, N0.out, N1.out, N2.out, N3.out, N4.out]; simp), (hb1.step (below_alloc _ _)).step hb2⟩
          · have N0 := hid h0
            have N1 := hid h1
            have N2 := hid h2
            have N3 := hid h3
            go_enter Try.func70, Try.ntmps70
            go_wp2_with (first | (go_at_call 67; refine (C.out _ (Below.refl _ _)).mono ?_; rintro e w1 ⟨rfl, hb1⟩; have f9 := cell_below hb1 e9h.out; obtain ⟨g0, g1, g2, g3, g4⟩ := hrh.out.mono hb1) | (go_at_call 47; refine (L.out _ (hb1.step (below_alloc _ _))).mono ?_; rintro e w2 ⟨rfl, hb2⟩; have q3 := cell_below hb2 (show (World.alloc w1 _).cell? ⟨w1.heap.size, 3, none⟩ = some (.bool r.dead) by first | (simp; done) | simp [N3.out]); have q4 := cell_below hb2 (show (World.alloc w1 _).cell? ⟨w1.heap.size, 4, none⟩ = some (.int .i64 r.stamp) by simp)))
            go_ret
            exact ⟨ret_bool (by rw [Fin.out, N0.out, N1.out, N2.out, N3.out]; simp), (hb1.step (below_alloc _ _)).step hb2⟩
        · have N0 := hid h0
          have N1 := hid h1
          have N2 := hid h2
          go_enter Try.func70, Try.ntmps70
          go_wp2_with (first | (go_at_call 67; refine (C.out _ (Below.refl _ _)).mono ?_; rintro e w1 ⟨rfl, hb1⟩; have f9 := cell_below hb1 e9h.out; obtain ⟨g0, g1, g2, g3, g4⟩ := hrh.out.mono hb1) | (go_at_call 47; refine (L.out _ (hb1.step (below_alloc _ _))).mono ?_; rintro e w2 ⟨rfl, hb2⟩; have q3 := cell_below hb2 (show (World.alloc w1 _).cell? ⟨w1.heap.size, 3, none⟩ = some (.bool r.dead) by first | (simp; done) | simp [N3.out]); have q4 := cell_below hb2 (show (World.alloc w1 _).cell? ⟨w1.heap.size, 4, none⟩ = some (.int .i64 r.stamp) by simp)))
          go_ret
          exact ⟨ret_bool (by rw [Fin.out, N0.out, N1.out, N2.out]; simp), (hb1.step (below_alloc _ _)).step hb2⟩
      · have N0 := hid h0
        have N1 := hid h1
        go_enter Try.func70, Try.ntmps70
        go_wp2_with (first | (go_at_call 67; refine (C.out _ (Below.refl _ _)).mono ?_; rintro e w1 ⟨rfl, hb1⟩; have f9 := cell_below hb1 e9h.out; obtain ⟨g0, g1, g2, g3, g4⟩ := hrh.out.mono hb1) | (go_at_call 47; refine (L.out _ (hb1.step (below_alloc _ _))).mono ?_; rintro e w2 ⟨rfl, hb2⟩; have q3 := cell_below hb2 (show (World.alloc w1 _).cell? ⟨w1.heap.size, 3, none⟩ = some (.bool r.dead) by first | (simp; done) | simp [N3.out]); have q4 := cell_below hb2 (show (World.alloc w1 _).cell? ⟨w1.heap.size, 4, none⟩ = some (.int .i64 r.stamp) by simp)))
        go_ret
        exact ⟨ret_bool (by rw [Fin.out, N0.out, N1.out]; simp), (hb1.step (below_alloc _ _)).step hb2⟩

theorem smallOf {w : World} {v : Value} {rs : List Rec} (h : RecsAt w v rs) : smallRecs rs := let ⟨_, _, _, h1, h2, _⟩ := h; ⟨h1, h2⟩
set_option maxHeartbeats 2000000 in
theorem left_any (bs : List Batch) (l : List Gone) (to now keep : Int) (i : Nat) (x : Batch) (hi : bs[i]? = some x) (v g : Value) (w : World) (hb : BatchesAt w v bs) (hg : GonesAt w g l) :
    Calls Try.prog 53 #[v, g, .int .i64 to, .int .i64 now, .int .i64 keep, .int .i64 i] w
      fun e w' => ∃ u, e = .returned u ∧ OwnRecs w' w.heap.size u (leftG bs l to now keep i x) ∧ Below w.heap.size w w' := by
  have hbw := hb
  obtain ⟨a, cap, rfl, hn, hs⟩ := hb
  obtain ⟨b', o, rfl, hc⟩ := hs i (List.getElem?_eq_some_iff.1 hi).1
  obtain ⟨sv, hx, hrs⟩ := hc _ hi
  have hil := (List.getElem?_eq_some_iff.1 hi).1
  obtain ⟨a3, cap3, rfl, hn3⟩ := hg.form
  clear hs hc
  have hsm := smallOf hrs
  obtain ⟨a2, cap2, rfl, hn2, _, hs2⟩ := hrs
  obtain ⟨e0, e1, e2, e3, e4, e5, e6, e7, e8, e9⟩ := hx
  rcases hs2.shape with ⟨b2, o2, rfl, hc2⟩ | h02
  · clear hs2
    go_enter Try.func53, Try.ntmps53
    go_wp2
    clear e0 e1 e2 e3 e4 e5 e6 e7 e8 e9
    go_loopw [13, 22] (fun u i' wr => ∃ k : Nat, k ≤ x.recs.length ∧ i' = .int .i64 k ∧ OwnRecs wr w.heap.size u (leftTo bs l to now keep i x k) ∧ Below w.heap.size w wr) (fun _ i _ => x.recs.length - (intOf i).toNat)
    case atStart => exact ⟨0, by omega, rfl, OwnRecs.nil _ _, Below.refl _ _⟩
    case round =>
      obtain ⟨k, hk, rfl, hown, hwr⟩ := hrel
      by_cases hlt : k < x.recs.length
      · obtain ⟨g0, g1, g2, g3, g4⟩ := (hc2 k hlt _ (List.getElem?_eq_getElem hlt)).mono hwr
        have Hs := hid (leftTo_succ bs l to now keep i x k hlt)
        have C := hid (fun X => stays_any bs l to now keep i k x hi _ (List.getElem?_eq_getElem hlt) _ _ (wr.alloc X) ((hbw.mono hwr).mono (below_alloc _ _)) ((hg.mono hwr).mono (below_alloc _ _)))
        clear hc2
        obtain ⟨r, hr⟩ : ∃ r, r = x.recs[k] := ⟨_, rfl⟩
        rw [← hr] at g0 g1 g2 g3 g4 Hs C
        clear hr
        have hlen := leftTo_length bs l to now keep i x k
        generalize leftTo bs l to now keep i x k = L at *
        cases hf : staysB bs l to now keep i k x r
        · rw [hf] at C Hs
          clear hf
          go_wp2_with (go_at_call 70; refine (C.out _).mono ?_; rintro e w1 ⟨rfl, hb1⟩)
          go_roundw
          case rel => exact ⟨k + 1, by omega, by go_num, by rw [Hs.out]; exact (hown.below (below_alloc _ _)).below hb1, hwr.step ((below_alloc _ _).step hb1)⟩
          case measure => simp [intOf]; omega
        · rw [hf] at C Hs
          clear hf
          go_wp2_with (first
            | (go_at_call 70; refine (C.out _).mono ?_; rintro e w1 ⟨rfl, hb1⟩; have q0 := cell_below hb1 (show (World.alloc wr _).cell? ⟨wr.heap.size, 0, none⟩ = some (.int .i64 r.off) by simp); have q1 := cell_below hb1 (show (World.alloc wr _).cell? ⟨wr.heap.size, 1, none⟩ = some (.string r.key) by simp); have q2 := cell_below hb1 (show (World.alloc wr _).cell? ⟨wr.heap.size, 2, none⟩ = some (.string r.val) by simp); have q3 := cell_below hb1 (show (World.alloc wr _).cell? ⟨wr.heap.size, 3, none⟩ = some (.bool r.dead) by simp); have q4 := cell_below hb1 (show (World.alloc wr _).cell? ⟨wr.heap.size, 4, none⟩ = some (.int .i64 r.stamp) by simp))
            | (at_builtin; refine wpList_append_rec rfl (.tmp 35) (.tmp 37) rfl Try.underlying26 Try.inf33 w.heap.size _ L r rfl (((hown.below (below_alloc _ _)).below hb1).below (below_alloc _ _)) w1.heap.size rfl ⟨by simp, by simp, by simp, by simp, by simp⟩ (by omega) ?_ ?_))
          · have := hwr.size; have := hb1.size; simp at *; omega
          intro v' w' hown' hbel _
          go_wp2
          go_roundw
          case rel => exact ⟨k + 1, by omega, by go_num, by rw [Hs.out]; exact hown', ((hwr.step ((below_alloc _ _).step hb1)).step (below_alloc _ _)).trans hbel⟩
          case measure => simp [intOf]; omega
      · have hke : k = x.recs.length := by omega
        have Hk := hid hke; clear hke
        go_wp2
        go_ret
        exact ⟨_, rfl, by rw [Hk.out] at hown; exact hown, hwr⟩
  · have H02 := hid h02
    have hlt0 : ¬ (0 : Int) < (x.recs.length : Int) := by omega
    clear hs2 h02
    go_enter Try.func53, Try.ntmps53
    go_wp2
    refine wp_loop_once ?_
    go_wp2
    go_ret
    refine ⟨_, rfl, ?_, Below.refl _ _⟩
    have : leftG bs l to now keep i x = [] := by unfold leftG; rw [H02.out]; rfl
    rw [this]
    exact OwnRecs.nil _ _
end Go.Proofs.Ytceamgkifjmbcaa
