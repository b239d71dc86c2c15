/- Walks of the statements: CleanMarks. -/
import Derived.Test.YtceamgkifjmbcaaC8
namespace Go.Proofs.Ytceamgkifjmbcaa
open Go.RowKit Go.Wm
theorem marks_pids (ov ab : Bool) : ∀ x ∈ marksBs ov ab, (Lit.int .i64 x.pid).wf = true := by cases ov <;> cases ab <;> decide
theorem gones_nil (w : World) : GonesAt w (.slice none 0 0) [] := ⟨none, 0, rfl, by simp, fun k hk => by simp at hk⟩
theorem gones_of_row {w : World} {g : Nat} (h : w.heap[g]? = some (.cells #[.int .i64 4, .int .i64 0, .int .i64 0, .int .i64 1] 51 (0, 0))) : GonesAt w (.slice (some ⟨g, 0, none⟩) 1 1) (marksL true) := by
  refine ⟨_, 1, rfl, by simp [marksL], fun k hk => ⟨g, 0, rfl, fun x hx => ?_⟩⟩
  have hk0 : k = 0 := by simp [marksL] at hk; omega
  subst hk0
  simp [marksL] at hx
  subst hx
  exact ⟨by simp [World.cell?, h], by simp [World.cell?, h], by simp [World.cell?, h], by simp [World.cell?, h]⟩
theorem gones_grown {w w' : World} {g n c : Nat} {gl : List Gone} (h : GonesAt w (.slice (some ⟨g, 0, none⟩) n c) gl) {row : Option Nat} (hg : w.grownBy w' row) (hne : some g ≠ row) : GonesAt w' (.slice (some ⟨g, 0, none⟩) n c) gl := by
  obtain ⟨a, cap, e, h1, hs⟩ := h
  cases e
  refine ⟨_, _, rfl, h1, fun k hk => ?_⟩
  obtain ⟨b, o, ha, hc⟩ := hs k hk
  refine ⟨b, o, ha, fun x hx => ?_⟩
  cases ha
  obtain ⟨c0, c1, c2, c3⟩ := hc x hx
  exact ⟨hg.cell c0 hne, hg.cell c1 hne, hg.cell c2 hne, hg.cell c3 hne⟩
theorem ps3 {ps : List (Batch × Value)} {x y z : Batch} (h : ps.map (·.1) = [x, y, z]) : ∃ s0 s1 s2, ps = [(x, s0), (y, s1), (z, s2)] := by
  rcases ps with _ | ⟨a, _ | ⟨b, _ | ⟨c, _ | ⟨d, ps⟩⟩⟩⟩ <;> simp at h
  obtain ⟨rfl, rfl, rfl⟩ := h
  exact ⟨_, _, _, rfl⟩
theorem hole_bats {w9 : World} {base : Nat} (v0 v2 : Value) (h0 : OwnRecs w9 base v0 putB.recs) (h2 : OwnRecs w9 base v2 otherB.recs) (hb : base ≤ w9.heap.size) :
    OwnBats (w9.alloc (.cells (batCells [(putB, v0), (otherB, v2)]).toArray 28)) base (.slice (some ⟨w9.heap.size, 0, none⟩) 2 2) [putB, otherB] := by
  refine own_bats_of_row (w := w9.alloc (.cells (batCells [(putB, v0), (otherB, v2)]).toArray 28)) [(putB, v0), (otherB, v2)] (heap_alloc_new _ _) rfl hb (by simp) ?_
  intro p hp
  simp only [List.mem_cons, List.not_mem_nil, or_false] at hp
  rcases hp with rfl | rfl
  · exact ⟨h0.below (below_alloc _ _), one_small 0 kK kV (by decide) (by decide)⟩
  · exact ⟨h2.below (below_alloc _ _), one_small 2 kOther kW (by decide) (by decide)⟩
theorem and10 {a0 a1 a2 a3 a4 a5 a6 a7 a8 a9 b : Prop} (h : a0 ∧ a1 ∧ a2 ∧ a3 ∧ a4 ∧ a5 ∧ a6 ∧ a7 ∧ a8 ∧ a9) (hb : b) : a0 ∧ a1 ∧ a2 ∧ a3 ∧ a4 ∧ a5 ∧ a6 ∧ a7 ∧ a8 ∧ a9 ∧ b :=
  ⟨h.1, h.2.1, h.2.2.1, h.2.2.2.1, h.2.2.2.2.1, h.2.2.2.2.2.1, h.2.2.2.2.2.2.1, h.2.2.2.2.2.2.2.1, h.2.2.2.2.2.2.2.2.1, h.2.2.2.2.2.2.2.2.2, hb⟩
theorem bats3 {a : Bool} {w5 : World} {base : Nat} (v0 v2 : Value) (h0 : OwnRecs w5 base v0 putB.recs) (h2 : OwnRecs w5 base v2 (oneB 2 kOther kW).recs) (hb : base ≤ w5.heap.size) :
    OwnBats (w5.alloc (.cells (batCells [(putB, v0), (markB a, .slice none 0 0), (otherB, v2)]).toArray 28)) base (.slice (some ⟨w5.heap.size, 0, none⟩) 3 3) (marksBs false a) := by
  refine own_bats_of_row (w := w5.alloc (.cells (batCells [(putB, v0), (markB a, .slice none 0 0), (otherB, v2)]).toArray 28)) [(putB, v0), (markB a, .slice none 0 0), (otherB, v2)] (heap_alloc_new _ _) rfl hb (by simp) ?_
  intro p hp
  simp only [List.mem_cons, List.not_mem_nil, or_false] at hp
  rcases hp with rfl | rfl | rfl
  · exact ⟨h0.below (below_alloc _ _), one_small 0 kK kV (by decide) (by decide)⟩
  · exact ⟨OwnRecs.nil _ _, small_of_size (by simp [markB]) (by simp [markB])⟩
  · exact ⟨h2.below (below_alloc _ _), one_small 2 kOther kW (by decide) (by decide)⟩
set_option maxRecDepth 100000 in
set_option maxHeartbeats 4000000 in
theorem marks_ff (w : World) : Calls Try.prog 9 #[.bool false, .bool false] w fun e w' => e = .returned (.bool true) ∧ Below w.heap.size w w' := by
  have CL := hid (fun vb vl W hb hl => clean_any (marksBs false false) (marksL false) vb vl 9 0 10 W hb hl (marks_pids false false))
  rw [marks_clean false false] at CL
  have CK := hid (fun vb vx vl W hb hx hl => check_any (marksBs false false) (marksX false false) (marksL false) vb vx vl 9 0 10 W hb hx hl (marks_pids false false) (by decide) (by decide) (by decide) (by decide))
  rw [marks_right false false] at CK
  have CH := hid (fun vb vx vl W hb hx hl => check_any (marksBs false false) [putB, otherB] (marksL false) vb vx vl 9 0 10 W hb hx hl (marks_pids false false) (by decide) (by decide) (by decide) (by decide))
  rw [marks_hole] at CH
  go_enter Try.func9, Try.ntmps9
  go_wp2_with fail
  refine (live_any _).mono ?_
  rintro e1 w1 ⟨rfl, hb1⟩
  go_wp2
  refine wp_name fun W hW => ?_
  have hBW : Below w1.heap.size w1 W := by rw [hW]; exact ((below_alloc _ _).step (below_alloc _ _)).step (below_alloc _ _)
  have hWsz : W.heap.size = w1.heap.size + 3 := by rw [hW]; simp
  have hrec : W.heap[w1.heap.size]? = some (.cells #[.int .i64 0, .string ⟨#[107]⟩, .string ⟨#[118]⟩, .bool false, .int .i64 0] 33 (0, 0)) := by rw [hW]; exact blk_below (blk_below (heap_alloc_new _ _) (below_alloc _ _)) (below_alloc _ _)
  have hput : W.heap[w1.heap.size + 1]? = some (.cells #[.int .i64 0, .int .i64 0, .int .i64 0, .int .i64 0, .int .i64 4, .int .i64 0, .int .i64 0, .bool true, .int .i64 0, .slice (some ⟨w1.heap.size, 0, none⟩) 1 1] 28 (0, 0)) := by
    rw [hW]
    have h := fun X0 X1 => heap_alloc_new (w1.alloc X0) X1
    simp only [size_alloc] at h
    exact blk_below (h _ _) (below_alloc _ _)
  have hmark : W.heap[w1.heap.size + 1 + 1]? = some (.cells #[.int .i64 1, .int .i64 1, .int .i64 0, .int .i64 0, .int .i64 4, .int .i64 0, .int .i64 0, .bool true, .int .i64 1, .slice none 0 0] 28 (0, 0)) := by
    rw [hW]
    have h := fun X0 X1 X2 => heap_alloc_new ((w1.alloc X0).alloc X1) X2
    simp only [size_alloc] at h
    exact h _ _ _
  have HP := hid (own_recs_of_row (w := W) (base := w1.heap.size) (rs := putB.recs) hrec rfl (Nat.le_refl _) (by decide))
  have HG := hid (fun (w5 : World) (_ : Below W.heap.size W w5) => gones_nil w5)
  clear hW hrec
  have HSc := hid (fun w5 (hb : Below W.heap.size W w5) => show w5.cell? ⟨w1.heap.size + 1, 0, none⟩ = some (.int .i64 0) ∧ w5.cell? ⟨w1.heap.size + 1, 1, none⟩ = some (.int .i64 0) ∧ w5.cell? ⟨w1.heap.size + 1, 2, none⟩ = some (.int .i64 0) ∧ w5.cell? ⟨w1.heap.size + 1, 3, none⟩ = some (.int .i64 0) ∧ w5.cell? ⟨w1.heap.size + 1, 4, none⟩ = some (.int .i64 4) ∧ w5.cell? ⟨w1.heap.size + 1, 5, none⟩ = some (.int .i64 0) ∧ w5.cell? ⟨w1.heap.size + 1, 6, none⟩ = some (.int .i64 0) ∧ w5.cell? ⟨w1.heap.size + 1, 7, none⟩ = some (.bool true) ∧ w5.cell? ⟨w1.heap.size + 1, 8, none⟩ = some (.int .i64 0) ∧ w5.cell? ⟨w1.heap.size + 1, 9, none⟩ = some (.slice (some ⟨w1.heap.size, 0, none⟩) 1 1) ∧ w5.cell? ⟨w1.heap.size + 1 + 1, 0, none⟩ = some (.int .i64 1) ∧ w5.cell? ⟨w1.heap.size + 1 + 1, 1, none⟩ = some (.int .i64 1) ∧ w5.cell? ⟨w1.heap.size + 1 + 1, 2, none⟩ = some (.int .i64 0) ∧ w5.cell? ⟨w1.heap.size + 1 + 1, 3, none⟩ = some (.int .i64 0) ∧ w5.cell? ⟨w1.heap.size + 1 + 1, 4, none⟩ = some (.int .i64 4) ∧ w5.cell? ⟨w1.heap.size + 1 + 1, 5, none⟩ = some (.int .i64 0) ∧ w5.cell? ⟨w1.heap.size + 1 + 1, 6, none⟩ = some (.int .i64 0) ∧ w5.cell? ⟨w1.heap.size + 1 + 1, 7, none⟩ = some (.bool true) ∧ w5.cell? ⟨w1.heap.size + 1 + 1, 8, none⟩ = some (.int .i64 1) ∧ w5.cell? ⟨w1.heap.size + 1 + 1, 9, none⟩ = some (.slice none 0 0) from and10 (cells10 (blk_below hput hb)) (cells10 (blk_below hmark hb)))
  obtain ⟨k0, k1, k2, k3, k4, k5, k6, k7, k8, k9, k10, k11, k12, k13, k14, k15, k16, k17, k18, k19⟩ := HSc.out W (Below.refl _ _)
  clear hput hmark
  go_region_held3 (fun w' => w'.cell? ⟨w1.heap.size + 1, 0, none⟩ = some (.int .i64 0) ∧ w'.cell? ⟨w1.heap.size + 1, 1, none⟩ = some (.int .i64 0) ∧ w'.cell? ⟨w1.heap.size + 1, 2, none⟩ = some (.int .i64 0) ∧ w'.cell? ⟨w1.heap.size + 1, 3, none⟩ = some (.int .i64 0) ∧ w'.cell? ⟨w1.heap.size + 1, 4, none⟩ = some (.int .i64 4) ∧ w'.cell? ⟨w1.heap.size + 1, 5, none⟩ = some (.int .i64 0) ∧ w'.cell? ⟨w1.heap.size + 1, 6, none⟩ = some (.int .i64 0) ∧ w'.cell? ⟨w1.heap.size + 1, 7, none⟩ = some (.bool true) ∧ w'.cell? ⟨w1.heap.size + 1, 8, none⟩ = some (.int .i64 0) ∧ w'.cell? ⟨w1.heap.size + 1, 9, none⟩ = some (.slice (some ⟨w1.heap.size, 0, none⟩) 1 1) ∧ w'.cell? ⟨w1.heap.size + 1 + 1, 0, none⟩ = some (.int .i64 1) ∧ w'.cell? ⟨w1.heap.size + 1 + 1, 1, none⟩ = some (.int .i64 1) ∧ w'.cell? ⟨w1.heap.size + 1 + 1, 2, none⟩ = some (.int .i64 0) ∧ w'.cell? ⟨w1.heap.size + 1 + 1, 3, none⟩ = some (.int .i64 0) ∧ w'.cell? ⟨w1.heap.size + 1 + 1, 4, none⟩ = some (.int .i64 4) ∧ w'.cell? ⟨w1.heap.size + 1 + 1, 5, none⟩ = some (.int .i64 0) ∧ w'.cell? ⟨w1.heap.size + 1 + 1, 6, none⟩ = some (.int .i64 0) ∧ w'.cell? ⟨w1.heap.size + 1 + 1, 7, none⟩ = some (.bool true) ∧ w'.cell? ⟨w1.heap.size + 1 + 1, 8, none⟩ = some (.int .i64 1) ∧ w'.cell? ⟨w1.heap.size + 1 + 1, 9, none⟩ = some (.slice none 0 0)) (first | assumption | go_keep)
    (first
      | (go_at_call 19; refine (one_any 2 kOther kW _).mono ?_; rintro e w5 ⟨u5, rfl, hu5, hb5⟩; have hb5W : Below W.heap.size W w5 := ⟨hb5.os, hb5.tape, hb5.output, hb5.size, hb5.block⟩; have HSS := HSc.out _ hb5W; obtain ⟨a5, cap5, rfl⟩ := OwnRecs.form hu5; unfold Batch.agg))
  all_goals
    have hszW : w1.heap.size ≤ W.heap.size := by omega
    have hsz5 := hb5W.size
    clear HSS HSc k0 k1 k2 k3 k4 k5 k6 k7 k8 k9 k10 k11 k12 k13 k14 k15 k16 k17 k18 k19
    have H5 := hid (bats3 (a := false) (w5 := w5) (base := w1.heap.size) (.slice (some ⟨w1.heap.size, 0, none⟩) 1 1) (.slice a5 (oneB 2 kOther kW).recs.length cap5) (HP.out.below hb5W) (OwnRecs.base hu5 hszW) (by omega))
    clear hu5 hb5
    obtain ⟨wc, hwc⟩ : ∃ wc : World, wc = (w5.alloc (.cells (batCells [(putB, (.slice (some ⟨w1.heap.size, 0, none⟩) 1 1)), (markB false, .slice none 0 0), (otherB, .slice a5 (oneB 2 kOther kW).recs.length cap5)]).toArray 28)) := ⟨_, rfl⟩
    have hbc : Below W.heap.size W wc := by rw [hwc]; exact hb5W.step (below_alloc _ _)
    rw [← hwc] at H5
    have HB := hid ((H5.out).atC (by decide))
    clear H5
    go_wp2_with fail
    refine (show Calls _ _ _ (w5.alloc (.cells (batCells [(putB, (.slice (some ⟨w1.heap.size, 0, none⟩) 1 1)), (markB false, .slice none 0 0), (otherB, .slice a5 (oneB 2 kOther kW).recs.length cap5)]).toArray 28)) _ from ?_)
    rw [← hwc]
    refine (CL.out (.slice (some ⟨w5.heap.size, 0, none⟩) 3 3) (.slice none 0 0) wc HB.out.at (HG.out _ hbc)).mono ?_
    rintro e7 w7 ⟨u, rfl, hu, hb7⟩
    have HX := hid (hu.atC (by decide))
    have hsz7 := hb7.size
    have HBl := hid (show (marksBs false false).length = 3 from rfl)
    have HXl := hid (show (marksX false false).length = 3 from rfl)
    obtain ⟨ps, hps, hrow, hrs⟩ := hu
    obtain ⟨s0, s1, s2, rfl⟩ := ps3 (show ps.map (·.1) = [putB, markB false, otherB] from hps)
    have r0 : OwnRecs w7 wc.heap.size s0 putB.recs := (hrs (putB, s0) (by simp)).1
    have r2 : OwnRecs w7 wc.heap.size s2 otherB.recs := (hrs (otherB, s2) (by simp)).1
    obtain ⟨a0, c0, rfl⟩ := OwnRecs.form r0
    obtain ⟨a2, c2, rfl⟩ := OwnRecs.form r2
    rcases id hrow.2 with ⟨_, h0⟩ | ⟨g, cap, cur, rfl, _⟩
    · cases h0
    have hcell : ∀ j v, (batCells [(putB, .slice a0 putB.recs.length c0), (markB false, s1), (otherB, .slice a2 otherB.recs.length c2)])[j]? = some v → w7.cell? ⟨g, j, none⟩ = some v := by
      intro j v hj
      have := World.ownsRow.cells (v := .slice (some ⟨g, 0, none⟩) 3 cap) hrow rfl j v hj
      have e : (⟨g, 0, none⟩ : Addr).add j = ⟨g, j, none⟩ := by simp only [Addr.add]; split <;> simp_all
      rwa [e] at this
    have HSd := hid (fun w5 (hb : Below w7.heap.size w7 w5) => show w5.cell? ⟨g, 0, none⟩ = some (.int .i64 0) ∧ w5.cell? ⟨g, 1, none⟩ = some (.int .i64 0) ∧ w5.cell? ⟨g, 2, none⟩ = some (.int .i64 0) ∧ w5.cell? ⟨g, 3, none⟩ = some (.int .i64 0) ∧ w5.cell? ⟨g, 4, none⟩ = some (.int .i64 4) ∧ w5.cell? ⟨g, 5, none⟩ = some (.int .i64 0) ∧ w5.cell? ⟨g, 6, none⟩ = some (.int .i64 0) ∧ w5.cell? ⟨g, 7, none⟩ = some (.bool true) ∧ w5.cell? ⟨g, 8, none⟩ = some (.int .i64 0) ∧ w5.cell? ⟨g, 9, none⟩ = some (.slice a0 putB.recs.length c0) ∧ w5.cell? ⟨g, 18, none⟩ = some (.int .i64 1) ∧ w5.cell? ⟨g, 20, none⟩ = some (.int .i64 2) ∧ w5.cell? ⟨g, 21, none⟩ = some (.int .i64 2) ∧ w5.cell? ⟨g, 22, none⟩ = some (.int .i64 0) ∧ w5.cell? ⟨g, 23, none⟩ = some (.int .i64 0) ∧ w5.cell? ⟨g, 24, none⟩ = some (.int .i64 (-1)) ∧ w5.cell? ⟨g, 25, none⟩ = some (.int .i64 0) ∧ w5.cell? ⟨g, 26, none⟩ = some (.int .i64 0) ∧ w5.cell? ⟨g, 27, none⟩ = some (.bool false) ∧ w5.cell? ⟨g, 28, none⟩ = some (.int .i64 0) ∧ w5.cell? ⟨g, 29, none⟩ = some (.slice a2 otherB.recs.length c2) from ⟨cell_below hb (hcell 0 _ rfl), cell_below hb (hcell 1 _ rfl), cell_below hb (hcell 2 _ rfl), cell_below hb (hcell 3 _ rfl), cell_below hb (hcell 4 _ rfl), cell_below hb (hcell 5 _ rfl), cell_below hb (hcell 6 _ rfl), cell_below hb (hcell 7 _ rfl), cell_below hb (hcell 8 _ rfl), cell_below hb (hcell 9 _ rfl), cell_below hb (hcell 18 _ rfl), cell_below hb (hcell 20 _ rfl), cell_below hb (hcell 21 _ rfl), cell_below hb (hcell 22 _ rfl), cell_below hb (hcell 23 _ rfl), cell_below hb (hcell 24 _ rfl), cell_below hb (hcell 25 _ rfl), cell_below hb (hcell 26 _ rfl), cell_below hb (hcell 27 _ rfl), cell_below hb (hcell 28 _ rfl), cell_below hb (hcell 29 _ rfl)⟩)
    have hbd : Below w7.heap.size w7 w7.drew := (Below.refl _ _).drew
    have FK := hid (CK.out (.slice (some ⟨w5.heap.size, 0, none⟩) 3 3) (.slice (some ⟨g, 0, none⟩) 3 cap) (.slice none 0 0) w7.drew ((HB.out.mono hb7).mono hbd) (HX.out.mono hbd) (((HG.out _ hbc).mono hb7).mono hbd))
    have FH0 : ∀ w9, Below w7.heap.size w7 w9 → Calls Try.prog 22 #[(.slice (some ⟨w5.heap.size, 0, none⟩) 3 3), .slice (some ⟨w9.heap.size, 0, none⟩) 2 2, (.slice none 0 0), .int .i64 9, .int .i64 0, .int .i64 10] (w9.alloc (.cells #[.int .i64 0, .int .i64 0, .int .i64 0, .int .i64 0, .int .i64 4, .int .i64 0, .int .i64 0, .bool true, .int .i64 0, .slice a0 putB.recs.length c0, .int .i64 2, .int .i64 2, .int .i64 0, .int .i64 0, .int .i64 (-1), .int .i64 0, .int .i64 0, .bool false, .int .i64 0, .slice a2 otherB.recs.length c2] 28)) (fun e w' => e = .returned (.int .i64 321) ∧ Below (w9.alloc (.cells #[.int .i64 0, .int .i64 0, .int .i64 0, .int .i64 0, .int .i64 4, .int .i64 0, .int .i64 0, .bool true, .int .i64 0, .slice a0 putB.recs.length c0, .int .i64 2, .int .i64 2, .int .i64 0, .int .i64 0, .int .i64 (-1), .int .i64 0, .int .i64 0, .bool false, .int .i64 0, .slice a2 otherB.recs.length c2] 28)).heap.size (w9.alloc (.cells #[.int .i64 0, .int .i64 0, .int .i64 0, .int .i64 0, .int .i64 4, .int .i64 0, .int .i64 0, .bool true, .int .i64 0, .slice a0 putB.recs.length c0, .int .i64 2, .int .i64 2, .int .i64 0, .int .i64 0, .int .i64 (-1), .int .i64 0, .int .i64 0, .bool false, .int .i64 0, .slice a2 otherB.recs.length c2] 28)) w') := by
      intro w9 hb
      have hbs := hb.size
      exact CH.out (.slice (some ⟨w5.heap.size, 0, none⟩) 3 3) (.slice (some ⟨w9.heap.size, 0, none⟩) 2 2) (.slice none 0 0) (w9.alloc (.cells (batCells [(putB, .slice a0 putB.recs.length c0), (otherB, .slice a2 otherB.recs.length c2)]).toArray 28)) (((HB.out.mono hb7).mono hb).mono (below_alloc _ _)) ((hole_bats (base := wc.heap.size) _ _ (r0.below hb) (r2.below hb) (by omega)).atC (by decide)) ((((HG.out _ hbc).mono hb7).mono hb).mono (below_alloc _ _))
    have FH := hid FH0
    clear FH0
    obtain ⟨k0, k1, k2, k3, k4, k5, k6, k7, k8, k9, k10, k11, k12, k13, k14, k15, k16, k17, k18, k19, k20⟩ := HSd.out w7 (Below.refl _ _)
    clear CL CK CH HX HB hcell hrow hrs hps r0 r2
    simp only [List.length_cons, List.length_nil, Nat.zero_add, Nat.reduceAdd]
    go_wp2
    go_region_held3 (fun w' => w'.cell? ⟨g, 0, none⟩ = some (.int .i64 0) ∧ w'.cell? ⟨g, 1, none⟩ = some (.int .i64 0) ∧ w'.cell? ⟨g, 2, none⟩ = some (.int .i64 0) ∧ w'.cell? ⟨g, 3, none⟩ = some (.int .i64 0) ∧ w'.cell? ⟨g, 4, none⟩ = some (.int .i64 4) ∧ w'.cell? ⟨g, 5, none⟩ = some (.int .i64 0) ∧ w'.cell? ⟨g, 6, none⟩ = some (.int .i64 0) ∧ w'.cell? ⟨g, 7, none⟩ = some (.bool true) ∧ w'.cell? ⟨g, 8, none⟩ = some (.int .i64 0) ∧ w'.cell? ⟨g, 9, none⟩ = some (.slice a0 putB.recs.length c0) ∧ w'.cell? ⟨g, 18, none⟩ = some (.int .i64 1) ∧ w'.cell? ⟨g, 20, none⟩ = some (.int .i64 2) ∧ w'.cell? ⟨g, 21, none⟩ = some (.int .i64 2) ∧ w'.cell? ⟨g, 22, none⟩ = some (.int .i64 0) ∧ w'.cell? ⟨g, 23, none⟩ = some (.int .i64 0) ∧ w'.cell? ⟨g, 24, none⟩ = some (.int .i64 (-1)) ∧ w'.cell? ⟨g, 25, none⟩ = some (.int .i64 0) ∧ w'.cell? ⟨g, 26, none⟩ = some (.int .i64 0) ∧ w'.cell? ⟨g, 27, none⟩ = some (.bool false) ∧ w'.cell? ⟨g, 28, none⟩ = some (.int .i64 0) ∧ w'.cell? ⟨g, 29, none⟩ = some (.slice a2 otherB.recs.length c2)) (first | assumption | go_keep)
      (first
        | (go_at_call 22; (with_reducible refine FK.out.mono ?_); rintro e w8 ⟨rfl, hb8⟩; have hb8W : Below w7.heap.size w7 w8 := ⟨hb8.os, hb8.tape, hb8.output, hb8.size, hb8.block⟩; have HSS := HSd.out _ hb8W)
        | (go_at_call 22; (with_reducible refine (FH.out _ hb8W).mono ?_); rintro e w9 ⟨rfl, hb9⟩; have hb9W := (hb8W.step (below_alloc _ _)).step hb9; have HSS9 := HSd.out _ hb9W))
    all_goals
      clear HSS HSS9 HSd FK FH k0 k1 k2 k3 k4 k5 k6 k7 k8 k9 k10 k11 k12 k13 k14 k15 k16 k17 k18 k19 k20
      go_wp2
      go_ret
      exact ⟨rfl, hb1.step (hBW.step (hbc.step (hb7.step hb9W)))⟩
set_option maxRecDepth 100000 in
set_option maxHeartbeats 4000000 in
theorem marks_ft (w : World) : Calls Try.prog 9 #[.bool false, .bool true] w fun e w' => e = .returned (.bool true) ∧ Below w.heap.size w w' := by
  have CL := hid (fun vb vl W hb hl => clean_any (marksBs false true) (marksL true) vb vl 9 0 10 W hb hl (marks_pids false true))
  rw [marks_clean false true] at CL
  have CK := hid (fun vb vx vl W hb hx hl => check_any (marksBs false true) (marksX false true) (marksL true) vb vx vl 9 0 10 W hb hx hl (marks_pids false true) (by decide) (by decide) (by decide) (by decide))
  rw [marks_right false true] at CK
  go_enter Try.func9, Try.ntmps9
  go_wp2_with fail
  refine (live_any _).mono ?_
  rintro e1 w1 ⟨rfl, hb1⟩
  go_wp2
  refine wp_name fun W hW => ?_
  have hBW : Below w1.heap.size w1 W := by rw [hW]; exact (((below_alloc _ _).step (below_alloc _ _)).step (below_alloc _ _)).step (below_alloc _ _)
  have hWsz : W.heap.size = w1.heap.size + 4 := by rw [hW]; simp
  have hrec : W.heap[w1.heap.size]? = some (.cells #[.int .i64 0, .string ⟨#[107]⟩, .string ⟨#[118]⟩, .bool false, .int .i64 0] 33 (0, 0)) := by rw [hW]; exact blk_below (blk_below (blk_below (heap_alloc_new _ _) (below_alloc _ _)) (below_alloc _ _)) (below_alloc _ _)
  have hput : W.heap[w1.heap.size + 1]? = some (.cells #[.int .i64 0, .int .i64 0, .int .i64 0, .int .i64 0, .int .i64 4, .int .i64 0, .int .i64 0, .bool true, .int .i64 0, .slice (some ⟨w1.heap.size, 0, none⟩) 1 1] 28 (0, 0)) := by
    rw [hW]
    have h := fun X0 X1 => heap_alloc_new (w1.alloc X0) X1
    simp only [size_alloc] at h
    exact blk_below (blk_below (h _ _) (below_alloc _ _)) (below_alloc _ _)
  have hmark : W.heap[w1.heap.size + 1 + 1]? = some (.cells #[.int .i64 1, .int .i64 1, .int .i64 0, .int .i64 0, .int .i64 4, .int .i64 0, .int .i64 0, .bool true, .int .i64 2, .slice none 0 0] 28 (0, 0)) := by
    rw [hW]
    have h := fun X0 X1 X2 => heap_alloc_new ((w1.alloc X0).alloc X1) X2
    simp only [size_alloc] at h
    exact blk_below (h _ _ _) (below_alloc _ _)
  have hgone : W.heap[w1.heap.size + 1 + 1 + 1]? = some (.cells #[.int .i64 4, .int .i64 0, .int .i64 0, .int .i64 1] 51 (0, 0)) := by
    rw [hW]
    have h := fun X0 X1 X2 X3 => heap_alloc_new (((w1.alloc X0).alloc X1).alloc X2) X3
    simp only [size_alloc] at h
    exact h _ _ _ _
  have HP := hid (own_recs_of_row (w := W) (base := w1.heap.size) (rs := putB.recs) hrec rfl (Nat.le_refl _) (by decide))
  have HG := hid (fun w5 (hb : Below W.heap.size W w5) => gones_of_row (blk_below hgone hb))
  clear hW hrec hgone
  have HSc := hid (fun w5 (hb : Below W.heap.size W w5) => show w5.cell? ⟨w1.heap.size + 1, 0, none⟩ = some (.int .i64 0) ∧ w5.cell? ⟨w1.heap.size + 1, 1, none⟩ = some (.int .i64 0) ∧ w5.cell? ⟨w1.heap.size + 1, 2, none⟩ = some (.int .i64 0) ∧ w5.cell? ⟨w1.heap.size + 1, 3, none⟩ = some (.int .i64 0) ∧ w5.cell? ⟨w1.heap.size + 1, 4, none⟩ = some (.int .i64 4) ∧ w5.cell? ⟨w1.heap.size + 1, 5, none⟩ = some (.int .i64 0) ∧ w5.cell? ⟨w1.heap.size + 1, 6, none⟩ = some (.int .i64 0) ∧ w5.cell? ⟨w1.heap.size + 1, 7, none⟩ = some (.bool true) ∧ w5.cell? ⟨w1.heap.size + 1, 8, none⟩ = some (.int .i64 0) ∧ w5.cell? ⟨w1.heap.size + 1, 9, none⟩ = some (.slice (some ⟨w1.heap.size, 0, none⟩) 1 1) ∧ w5.cell? ⟨w1.heap.size + 1 + 1, 0, none⟩ = some (.int .i64 1) ∧ w5.cell? ⟨w1.heap.size + 1 + 1, 1, none⟩ = some (.int .i64 1) ∧ w5.cell? ⟨w1.heap.size + 1 + 1, 2, none⟩ = some (.int .i64 0) ∧ w5.cell? ⟨w1.heap.size + 1 + 1, 3, none⟩ = some (.int .i64 0) ∧ w5.cell? ⟨w1.heap.size + 1 + 1, 4, none⟩ = some (.int .i64 4) ∧ w5.cell? ⟨w1.heap.size + 1 + 1, 5, none⟩ = some (.int .i64 0) ∧ w5.cell? ⟨w1.heap.size + 1 + 1, 6, none⟩ = some (.int .i64 0) ∧ w5.cell? ⟨w1.heap.size + 1 + 1, 7, none⟩ = some (.bool true) ∧ w5.cell? ⟨w1.heap.size + 1 + 1, 8, none⟩ = some (.int .i64 2) ∧ w5.cell? ⟨w1.heap.size + 1 + 1, 9, none⟩ = some (.slice none 0 0) from and10 (cells10 (blk_below hput hb)) (cells10 (blk_below hmark hb)))
  obtain ⟨k0, k1, k2, k3, k4, k5, k6, k7, k8, k9, k10, k11, k12, k13, k14, k15, k16, k17, k18, k19⟩ := HSc.out W (Below.refl _ _)
  clear hput hmark
  go_region_held3 (fun w' => w'.cell? ⟨w1.heap.size + 1, 0, none⟩ = some (.int .i64 0) ∧ w'.cell? ⟨w1.heap.size + 1, 1, none⟩ = some (.int .i64 0) ∧ w'.cell? ⟨w1.heap.size + 1, 2, none⟩ = some (.int .i64 0) ∧ w'.cell? ⟨w1.heap.size + 1, 3, none⟩ = some (.int .i64 0) ∧ w'.cell? ⟨w1.heap.size + 1, 4, none⟩ = some (.int .i64 4) ∧ w'.cell? ⟨w1.heap.size + 1, 5, none⟩ = some (.int .i64 0) ∧ w'.cell? ⟨w1.heap.size + 1, 6, none⟩ = some (.int .i64 0) ∧ w'.cell? ⟨w1.heap.size + 1, 7, none⟩ = some (.bool true) ∧ w'.cell? ⟨w1.heap.size + 1, 8, none⟩ = some (.int .i64 0) ∧ w'.cell? ⟨w1.heap.size + 1, 9, none⟩ = some (.slice (some ⟨w1.heap.size, 0, none⟩) 1 1) ∧ w'.cell? ⟨w1.heap.size + 1 + 1, 0, none⟩ = some (.int .i64 1) ∧ w'.cell? ⟨w1.heap.size + 1 + 1, 1, none⟩ = some (.int .i64 1) ∧ w'.cell? ⟨w1.heap.size + 1 + 1, 2, none⟩ = some (.int .i64 0) ∧ w'.cell? ⟨w1.heap.size + 1 + 1, 3, none⟩ = some (.int .i64 0) ∧ w'.cell? ⟨w1.heap.size + 1 + 1, 4, none⟩ = some (.int .i64 4) ∧ w'.cell? ⟨w1.heap.size + 1 + 1, 5, none⟩ = some (.int .i64 0) ∧ w'.cell? ⟨w1.heap.size + 1 + 1, 6, none⟩ = some (.int .i64 0) ∧ w'.cell? ⟨w1.heap.size + 1 + 1, 7, none⟩ = some (.bool true) ∧ w'.cell? ⟨w1.heap.size + 1 + 1, 8, none⟩ = some (.int .i64 2) ∧ w'.cell? ⟨w1.heap.size + 1 + 1, 9, none⟩ = some (.slice none 0 0)) (first | assumption | go_keep)
    (first
      | (go_at_call 19; refine (one_any 2 kOther kW _).mono ?_; rintro e w5 ⟨u5, rfl, hu5, hb5⟩; have hb5W : Below W.heap.size W w5 := ⟨hb5.os, hb5.tape, hb5.output, hb5.size, hb5.block⟩; have HSS := HSc.out _ hb5W; obtain ⟨a5, cap5, rfl⟩ := OwnRecs.form hu5; unfold Batch.agg))
  all_goals
    have hszW : w1.heap.size ≤ W.heap.size := by omega
    have hsz5 := hb5W.size
    clear HSS HSc k0 k1 k2 k3 k4 k5 k6 k7 k8 k9 k10 k11 k12 k13 k14 k15 k16 k17 k18 k19
    have H5 := hid (bats3 (a := true) (w5 := w5) (base := w1.heap.size) (.slice (some ⟨w1.heap.size, 0, none⟩) 1 1) (.slice a5 (oneB 2 kOther kW).recs.length cap5) (HP.out.below hb5W) (OwnRecs.base hu5 hszW) (by omega))
    clear hu5 hb5
    obtain ⟨wc, hwc⟩ : ∃ wc : World, wc = (w5.alloc (.cells (batCells [(putB, (.slice (some ⟨w1.heap.size, 0, none⟩) 1 1)), (markB true, .slice none 0 0), (otherB, .slice a5 (oneB 2 kOther kW).recs.length cap5)]).toArray 28)) := ⟨_, rfl⟩
    have hbc : Below W.heap.size W wc := by rw [hwc]; exact hb5W.step (below_alloc _ _)
    rw [← hwc] at H5
    have HB := hid ((H5.out).atC (by decide))
    clear H5
    go_wp2_with fail
    refine (show Calls _ _ _ (w5.alloc (.cells (batCells [(putB, (.slice (some ⟨w1.heap.size, 0, none⟩) 1 1)), (markB true, .slice none 0 0), (otherB, .slice a5 (oneB 2 kOther kW).recs.length cap5)]).toArray 28)) _ from ?_)
    rw [← hwc]
    refine (CL.out (.slice (some ⟨w5.heap.size, 0, none⟩) 3 3) (.slice (some ⟨w1.heap.size + 1 + 1 + 1, 0, none⟩) 1 1) wc HB.out.at (HG.out _ hbc)).mono ?_
    rintro e7 w7 ⟨u, rfl, hu, hb7⟩
    have HX := hid (hu.atC (by decide))
    have hsz7 := hb7.size
    have HBl := hid (show (marksBs false true).length = 3 from rfl)
    have HXl := hid (show (marksX false true).length = 1 from rfl)
    obtain ⟨ax, cx, rfl, _, hsx⟩ := hu.at (by decide)
    obtain ⟨bx, ox, rfl, h0⟩ := hsx 0 (by decide)
    obtain ⟨sx, h0, _⟩ := h0 otherB rfl
    have x0 := h0.c0
    replace x0 : w7.cell? ⟨bx, ox, none⟩ = some (.int .i64 2) := by simpa [otherB, oneB] using x0
    clear h0 hsx hu
    have CKL := hid (CK.out (.slice (some ⟨w5.heap.size, 0, none⟩) 3 3) (.slice (some ⟨bx, ox, none⟩) (marksX false true).length ((marksX false true).length + cx)) (.slice (some ⟨w1.heap.size + 1 + 1 + 1, 0, none⟩) 1 1) w7 (HB.out.mono hb7) HX.out ((HG.out _ hbc).mono hb7))
    rw [HXl.out] at CKL; rw [HXl.out]
    clear CL CK HX HB
    go_wp2_with fail
    refine CKL.out.mono ?_
    rintro e8 w8 ⟨rfl, hb8⟩
    clear x0 CKL
    go_wp2
    go_ret
    exact ⟨rfl, hb1.step (hBW.step (hbc.step (hb7.step hb8)))⟩
set_option maxRecDepth 100000 in
set_option maxHeartbeats 4000000 in
theorem marks_tf (w : World) : Calls Try.prog 9 #[.bool true, .bool false] w fun e w' => e = .returned (.bool true) ∧ Below w.heap.size w w' := by
  have CL := hid (fun vb vl W hb hl => clean_any (marksBs true false) (marksL false) vb vl 9 0 10 W hb hl (marks_pids true false))
  rw [marks_clean true false] at CL
  have CK := hid (fun vb vx vl W hb hx hl => check_any (marksBs true false) (marksX true false) (marksL false) vb vx vl 9 0 10 W hb hx hl (marks_pids true false) (by decide) (by decide) (by decide) (by decide))
  rw [marks_right true false] at CK
  go_enter Try.func9, Try.ntmps9
  go_wp2_with fail
  refine (live_any _).mono ?_
  rintro e1 w1 ⟨rfl, hb1⟩
  go_wp2
  refine wp_name fun W hW => ?_
  have hBW : Below w1.heap.size w1 W := by rw [hW]; exact ((below_alloc _ _).step (below_alloc _ _)).step (below_alloc _ _)
  have hWsz : W.heap.size = w1.heap.size + 3 := by rw [hW]; simp
  have hrec : W.heap[w1.heap.size]? = some (.cells #[.int .i64 0, .string ⟨#[107]⟩, .string ⟨#[118]⟩, .bool false, .int .i64 0] 33 (0, 0)) := by rw [hW]; exact blk_below (blk_below (heap_alloc_new _ _) (below_alloc _ _)) (below_alloc _ _)
  have hput : W.heap[w1.heap.size + 1]? = some (.cells #[.int .i64 0, .int .i64 0, .int .i64 0, .int .i64 0, .int .i64 4, .int .i64 0, .int .i64 0, .bool true, .int .i64 0, .slice (some ⟨w1.heap.size, 0, none⟩) 1 1] 28 (0, 0)) := by
    rw [hW]
    have h := fun X0 X1 => heap_alloc_new (w1.alloc X0) X1
    simp only [size_alloc] at h
    exact blk_below (h _ _) (below_alloc _ _)
  have hmark : W.heap[w1.heap.size + 1 + 1]? = some (.cells #[.int .i64 1, .int .i64 1, .int .i64 0, .int .i64 0, .int .i64 4, .int .i64 0, .int .i64 0, .bool true, .int .i64 1, .slice none 0 0] 28 (0, 0)) := by
    rw [hW]
    have h := fun X0 X1 X2 => heap_alloc_new ((w1.alloc X0).alloc X1) X2
    simp only [size_alloc] at h
    exact h _ _ _
  have HP := hid (own_recs_of_row (w := W) (base := w1.heap.size) (rs := putB.recs) hrec rfl (Nat.le_refl _) (by decide))
  have HG := hid (fun (w5 : World) (_ : Below W.heap.size W w5) => gones_nil w5)
  clear hW hrec
  have HSc := hid (fun w5 (hb : Below W.heap.size W w5) => show w5.cell? ⟨w1.heap.size + 1, 0, none⟩ = some (.int .i64 0) ∧ w5.cell? ⟨w1.heap.size + 1, 1, none⟩ = some (.int .i64 0) ∧ w5.cell? ⟨w1.heap.size + 1, 2, none⟩ = some (.int .i64 0) ∧ w5.cell? ⟨w1.heap.size + 1, 3, none⟩ = some (.int .i64 0) ∧ w5.cell? ⟨w1.heap.size + 1, 4, none⟩ = some (.int .i64 4) ∧ w5.cell? ⟨w1.heap.size + 1, 5, none⟩ = some (.int .i64 0) ∧ w5.cell? ⟨w1.heap.size + 1, 6, none⟩ = some (.int .i64 0) ∧ w5.cell? ⟨w1.heap.size + 1, 7, none⟩ = some (.bool true) ∧ w5.cell? ⟨w1.heap.size + 1, 8, none⟩ = some (.int .i64 0) ∧ w5.cell? ⟨w1.heap.size + 1, 9, none⟩ = some (.slice (some ⟨w1.heap.size, 0, none⟩) 1 1) ∧ w5.cell? ⟨w1.heap.size + 1 + 1, 0, none⟩ = some (.int .i64 1) ∧ w5.cell? ⟨w1.heap.size + 1 + 1, 1, none⟩ = some (.int .i64 1) ∧ w5.cell? ⟨w1.heap.size + 1 + 1, 2, none⟩ = some (.int .i64 0) ∧ w5.cell? ⟨w1.heap.size + 1 + 1, 3, none⟩ = some (.int .i64 0) ∧ w5.cell? ⟨w1.heap.size + 1 + 1, 4, none⟩ = some (.int .i64 4) ∧ w5.cell? ⟨w1.heap.size + 1 + 1, 5, none⟩ = some (.int .i64 0) ∧ w5.cell? ⟨w1.heap.size + 1 + 1, 6, none⟩ = some (.int .i64 0) ∧ w5.cell? ⟨w1.heap.size + 1 + 1, 7, none⟩ = some (.bool true) ∧ w5.cell? ⟨w1.heap.size + 1 + 1, 8, none⟩ = some (.int .i64 1) ∧ w5.cell? ⟨w1.heap.size + 1 + 1, 9, none⟩ = some (.slice none 0 0) from and10 (cells10 (blk_below hput hb)) (cells10 (blk_below hmark hb)))
  obtain ⟨k0, k1, k2, k3, k4, k5, k6, k7, k8, k9, k10, k11, k12, k13, k14, k15, k16, k17, k18, k19⟩ := HSc.out W (Below.refl _ _)
  clear hput hmark
  go_region_held3 (fun w' => w'.cell? ⟨w1.heap.size + 1, 0, none⟩ = some (.int .i64 0) ∧ w'.cell? ⟨w1.heap.size + 1, 1, none⟩ = some (.int .i64 0) ∧ w'.cell? ⟨w1.heap.size + 1, 2, none⟩ = some (.int .i64 0) ∧ w'.cell? ⟨w1.heap.size + 1, 3, none⟩ = some (.int .i64 0) ∧ w'.cell? ⟨w1.heap.size + 1, 4, none⟩ = some (.int .i64 4) ∧ w'.cell? ⟨w1.heap.size + 1, 5, none⟩ = some (.int .i64 0) ∧ w'.cell? ⟨w1.heap.size + 1, 6, none⟩ = some (.int .i64 0) ∧ w'.cell? ⟨w1.heap.size + 1, 7, none⟩ = some (.bool true) ∧ w'.cell? ⟨w1.heap.size + 1, 8, none⟩ = some (.int .i64 0) ∧ w'.cell? ⟨w1.heap.size + 1, 9, none⟩ = some (.slice (some ⟨w1.heap.size, 0, none⟩) 1 1) ∧ w'.cell? ⟨w1.heap.size + 1 + 1, 0, none⟩ = some (.int .i64 1) ∧ w'.cell? ⟨w1.heap.size + 1 + 1, 1, none⟩ = some (.int .i64 1) ∧ w'.cell? ⟨w1.heap.size + 1 + 1, 2, none⟩ = some (.int .i64 0) ∧ w'.cell? ⟨w1.heap.size + 1 + 1, 3, none⟩ = some (.int .i64 0) ∧ w'.cell? ⟨w1.heap.size + 1 + 1, 4, none⟩ = some (.int .i64 4) ∧ w'.cell? ⟨w1.heap.size + 1 + 1, 5, none⟩ = some (.int .i64 0) ∧ w'.cell? ⟨w1.heap.size + 1 + 1, 6, none⟩ = some (.int .i64 0) ∧ w'.cell? ⟨w1.heap.size + 1 + 1, 7, none⟩ = some (.bool true) ∧ w'.cell? ⟨w1.heap.size + 1 + 1, 8, none⟩ = some (.int .i64 1) ∧ w'.cell? ⟨w1.heap.size + 1 + 1, 9, none⟩ = some (.slice none 0 0)) (first | assumption | go_keep)
    (first
      | (go_at_call 19; refine (one_any 2 kOther kW _).mono ?_; rintro e w5 ⟨u5, rfl, hu5, hb5⟩; have hb5W : Below W.heap.size W w5 := ⟨hb5.os, hb5.tape, hb5.output, hb5.size, hb5.block⟩; have HSS := HSc.out _ hb5W; obtain ⟨a5, cap5, rfl⟩ := OwnRecs.form hu5; unfold Batch.agg))
  all_goals
    have hszW : w1.heap.size ≤ W.heap.size := by omega
    have hsz5 := hb5W.size
    clear HSS HSc k0 k1 k2 k3 k4 k5 k6 k7 k8 k9 k10 k11 k12 k13 k14 k15 k16 k17 k18 k19
    have H5 := hid (bats3 (a := false) (w5 := w5) (base := w1.heap.size) (.slice (some ⟨w1.heap.size, 0, none⟩) 1 1) (.slice a5 (oneB 2 kOther kW).recs.length cap5) (HP.out.below hb5W) (OwnRecs.base hu5 hszW) (by omega))
    clear hu5 hb5
    go_wp2_with fail
    refine (one_any 3 kK kX _).mono ?_
    rintro e6 w6 ⟨u6, rfl, hu6, hb6⟩
    obtain ⟨a6, cap6, rfl⟩ := OwnRecs.form hu6
    unfold Batch.agg
    have hsz6 := hb6.size
    have H6 := hid ((H5.out.below hb6).below (below_alloc w6 (.cells #[.int .i64 3, .int .i64 3, .int .i64 0, .int .i64 0, .int .i64 (-1), .int .i64 0, .int .i64 0, .bool false, .int .i64 0, .slice a6 (oneB 3 kK kX).recs.length cap6] 28)))
    have hb6W := (hb5W.step (below_alloc _ _)).step hb6
    rw [size_alloc] at hsz6
    clear H5
    go_wp2_with (at_builtin; refine wpList_append_bat rfl (.tmp 25) (.tmp 27) rfl Try.underlying22 Try.inf28 w1.heap.size _ (marksBs false false) (oneB 3 kK kX) (.slice a6 (oneB 3 kK kX).recs.length cap6) rfl H6.out w6.heap.size rfl ⟨by simp, by simp, by simp, by simp, by simp, by simp, by simp, by simp, by simp, by simp⟩ ((OwnRecs.base hu6 (by simp; omega)).below (below_alloc _ _)) (one_small _ _ _ (by decide) (by decide)) (by decide) ?_ ?_)
    · simp; omega
    intro v' wc hown' hbel hgr
    have hbc0 : Below w1.heap.size w1 wc := ((hBW.step hb6W).step (below_alloc _ _)).trans hbel
    have hown2 : OwnBats wc w1.heap.size v' (marksBs true false) := hown'
    have HB := hid (hown2.atC (by decide))
    have HGc := hid (gones_nil wc)
    clear H6 hown' hu6 hown2 hgr hbel
    obtain ⟨av, capv, rfl, _⟩ := id HB.out
    go_wp2_with fail
    refine (CL.out _ (.slice none 0 0) wc HB.out.at HGc.out).mono ?_
    rintro e7 w7 ⟨u, rfl, hu, hb7⟩
    have HX := hid (hu.atC (by decide))
    have hsz7 := hb7.size
    have HBl := hid (show (marksBs true false).length = 4 from rfl)
    have HXl := hid (show (marksX true false).length = 2 from rfl)
    obtain ⟨ax, cx, rfl, _, hsx⟩ := hu.at (by decide)
    obtain ⟨bx, ox, rfl, h0⟩ := hsx 0 (by decide)
    obtain ⟨sx, h0, _⟩ := h0 otherB rfl
    have x0 := h0.c0
    replace x0 : w7.cell? ⟨bx, ox, none⟩ = some (.int .i64 2) := by simpa [otherB, oneB] using x0
    clear h0 hsx hu
    have CKL := hid (CK.out (.slice av (marksBs true false).length ((marksBs true false).length + capv)) (.slice (some ⟨bx, ox, none⟩) (marksX true false).length ((marksX true false).length + cx)) (.slice none 0 0) w7 (HB.out.mono hb7) HX.out (HGc.out.mono hb7))
    rw [HBl.out, HXl.out] at CKL; rw [HBl.out, HXl.out]
    clear CL CK HX HB
    go_wp2_with fail
    refine CKL.out.mono ?_
    rintro e8 w8 ⟨rfl, hb8⟩
    clear x0 CKL
    go_wp2
    go_ret
    exact ⟨rfl, hb1.step (hbc0.step (hb7.step hb8))⟩
set_option maxRecDepth 100000 in
set_option maxHeartbeats 4000000 in
theorem marks_tt (w : World) : Calls Try.prog 9 #[.bool true, .bool true] w fun e w' => e = .returned (.bool true) ∧ Below w.heap.size w w' := by
  have CL := hid (fun vb vl W hb hl => clean_any (marksBs true true) (marksL true) vb vl 9 0 10 W hb hl (marks_pids true true))
  rw [marks_clean true true] at CL
  have CK := hid (fun vb vx vl W hb hx hl => check_any (marksBs true true) (marksX true true) (marksL true) vb vx vl 9 0 10 W hb hx hl (marks_pids true true) (by decide) (by decide) (by decide) (by decide))
  rw [marks_right true true] at CK
  go_enter Try.func9, Try.ntmps9
  go_wp2_with fail
  refine (live_any _).mono ?_
  rintro e1 w1 ⟨rfl, hb1⟩
  go_wp2
  refine wp_name fun W hW => ?_
  have hBW : Below w1.heap.size w1 W := by rw [hW]; exact (((below_alloc _ _).step (below_alloc _ _)).step (below_alloc _ _)).step (below_alloc _ _)
  have hWsz : W.heap.size = w1.heap.size + 4 := by rw [hW]; simp
  have hrec : W.heap[w1.heap.size]? = some (.cells #[.int .i64 0, .string ⟨#[107]⟩, .string ⟨#[118]⟩, .bool false, .int .i64 0] 33 (0, 0)) := by rw [hW]; exact blk_below (blk_below (blk_below (heap_alloc_new _ _) (below_alloc _ _)) (below_alloc _ _)) (below_alloc _ _)
  have hput : W.heap[w1.heap.size + 1]? = some (.cells #[.int .i64 0, .int .i64 0, .int .i64 0, .int .i64 0, .int .i64 4, .int .i64 0, .int .i64 0, .bool true, .int .i64 0, .slice (some ⟨w1.heap.size, 0, none⟩) 1 1] 28 (0, 0)) := by
    rw [hW]
    have h := fun X0 X1 => heap_alloc_new (w1.alloc X0) X1
    simp only [size_alloc] at h
    exact blk_below (blk_below (h _ _) (below_alloc _ _)) (below_alloc _ _)
  have hmark : W.heap[w1.heap.size + 1 + 1]? = some (.cells #[.int .i64 1, .int .i64 1, .int .i64 0, .int .i64 0, .int .i64 4, .int .i64 0, .int .i64 0, .bool true, .int .i64 2, .slice none 0 0] 28 (0, 0)) := by
    rw [hW]
    have h := fun X0 X1 X2 => heap_alloc_new ((w1.alloc X0).alloc X1) X2
    simp only [size_alloc] at h
    exact blk_below (h _ _ _) (below_alloc _ _)
  have hgone : W.heap[w1.heap.size + 1 + 1 + 1]? = some (.cells #[.int .i64 4, .int .i64 0, .int .i64 0, .int .i64 1] 51 (0, 0)) := by
    rw [hW]
    have h := fun X0 X1 X2 X3 => heap_alloc_new (((w1.alloc X0).alloc X1).alloc X2) X3
    simp only [size_alloc] at h
    exact h _ _ _ _
  have HP := hid (own_recs_of_row (w := W) (base := w1.heap.size) (rs := putB.recs) hrec rfl (Nat.le_refl _) (by decide))
  have HG := hid (fun w5 (hb : Below W.heap.size W w5) => gones_of_row (blk_below hgone hb))
  clear hW hrec hgone
  have HSc := hid (fun w5 (hb : Below W.heap.size W w5) => show w5.cell? ⟨w1.heap.size + 1, 0, none⟩ = some (.int .i64 0) ∧ w5.cell? ⟨w1.heap.size + 1, 1, none⟩ = some (.int .i64 0) ∧ w5.cell? ⟨w1.heap.size + 1, 2, none⟩ = some (.int .i64 0) ∧ w5.cell? ⟨w1.heap.size + 1, 3, none⟩ = some (.int .i64 0) ∧ w5.cell? ⟨w1.heap.size + 1, 4, none⟩ = some (.int .i64 4) ∧ w5.cell? ⟨w1.heap.size + 1, 5, none⟩ = some (.int .i64 0) ∧ w5.cell? ⟨w1.heap.size + 1, 6, none⟩ = some (.int .i64 0) ∧ w5.cell? ⟨w1.heap.size + 1, 7, none⟩ = some (.bool true) ∧ w5.cell? ⟨w1.heap.size + 1, 8, none⟩ = some (.int .i64 0) ∧ w5.cell? ⟨w1.heap.size + 1, 9, none⟩ = some (.slice (some ⟨w1.heap.size, 0, none⟩) 1 1) ∧ w5.cell? ⟨w1.heap.size + 1 + 1, 0, none⟩ = some (.int .i64 1) ∧ w5.cell? ⟨w1.heap.size + 1 + 1, 1, none⟩ = some (.int .i64 1) ∧ w5.cell? ⟨w1.heap.size + 1 + 1, 2, none⟩ = some (.int .i64 0) ∧ w5.cell? ⟨w1.heap.size + 1 + 1, 3, none⟩ = some (.int .i64 0) ∧ w5.cell? ⟨w1.heap.size + 1 + 1, 4, none⟩ = some (.int .i64 4) ∧ w5.cell? ⟨w1.heap.size + 1 + 1, 5, none⟩ = some (.int .i64 0) ∧ w5.cell? ⟨w1.heap.size + 1 + 1, 6, none⟩ = some (.int .i64 0) ∧ w5.cell? ⟨w1.heap.size + 1 + 1, 7, none⟩ = some (.bool true) ∧ w5.cell? ⟨w1.heap.size + 1 + 1, 8, none⟩ = some (.int .i64 2) ∧ w5.cell? ⟨w1.heap.size + 1 + 1, 9, none⟩ = some (.slice none 0 0) from and10 (cells10 (blk_below hput hb)) (cells10 (blk_below hmark hb)))
  obtain ⟨k0, k1, k2, k3, k4, k5, k6, k7, k8, k9, k10, k11, k12, k13, k14, k15, k16, k17, k18, k19⟩ := HSc.out W (Below.refl _ _)
  clear hput hmark
  go_region_held3 (fun w' => w'.cell? ⟨w1.heap.size + 1, 0, none⟩ = some (.int .i64 0) ∧ w'.cell? ⟨w1.heap.size + 1, 1, none⟩ = some (.int .i64 0) ∧ w'.cell? ⟨w1.heap.size + 1, 2, none⟩ = some (.int .i64 0) ∧ w'.cell? ⟨w1.heap.size + 1, 3, none⟩ = some (.int .i64 0) ∧ w'.cell? ⟨w1.heap.size + 1, 4, none⟩ = some (.int .i64 4) ∧ w'.cell? ⟨w1.heap.size + 1, 5, none⟩ = some (.int .i64 0) ∧ w'.cell? ⟨w1.heap.size + 1, 6, none⟩ = some (.int .i64 0) ∧ w'.cell? ⟨w1.heap.size + 1, 7, none⟩ = some (.bool true) ∧ w'.cell? ⟨w1.heap.size + 1, 8, none⟩ = some (.int .i64 0) ∧ w'.cell? ⟨w1.heap.size + 1, 9, none⟩ = some (.slice (some ⟨w1.heap.size, 0, none⟩) 1 1) ∧ w'.cell? ⟨w1.heap.size + 1 + 1, 0, none⟩ = some (.int .i64 1) ∧ w'.cell? ⟨w1.heap.size + 1 + 1, 1, none⟩ = some (.int .i64 1) ∧ w'.cell? ⟨w1.heap.size + 1 + 1, 2, none⟩ = some (.int .i64 0) ∧ w'.cell? ⟨w1.heap.size + 1 + 1, 3, none⟩ = some (.int .i64 0) ∧ w'.cell? ⟨w1.heap.size + 1 + 1, 4, none⟩ = some (.int .i64 4) ∧ w'.cell? ⟨w1.heap.size + 1 + 1, 5, none⟩ = some (.int .i64 0) ∧ w'.cell? ⟨w1.heap.size + 1 + 1, 6, none⟩ = some (.int .i64 0) ∧ w'.cell? ⟨w1.heap.size + 1 + 1, 7, none⟩ = some (.bool true) ∧ w'.cell? ⟨w1.heap.size + 1 + 1, 8, none⟩ = some (.int .i64 2) ∧ w'.cell? ⟨w1.heap.size + 1 + 1, 9, none⟩ = some (.slice none 0 0)) (first | assumption | go_keep)
    (first
      | (go_at_call 19; refine (one_any 2 kOther kW _).mono ?_; rintro e w5 ⟨u5, rfl, hu5, hb5⟩; have hb5W : Below W.heap.size W w5 := ⟨hb5.os, hb5.tape, hb5.output, hb5.size, hb5.block⟩; have HSS := HSc.out _ hb5W; obtain ⟨a5, cap5, rfl⟩ := OwnRecs.form hu5; unfold Batch.agg))
  all_goals
    have hszW : w1.heap.size ≤ W.heap.size := by omega
    have hsz5 := hb5W.size
    clear HSS HSc k0 k1 k2 k3 k4 k5 k6 k7 k8 k9 k10 k11 k12 k13 k14 k15 k16 k17 k18 k19
    have H5 := hid (bats3 (a := true) (w5 := w5) (base := w1.heap.size) (.slice (some ⟨w1.heap.size, 0, none⟩) 1 1) (.slice a5 (oneB 2 kOther kW).recs.length cap5) (HP.out.below hb5W) (OwnRecs.base hu5 hszW) (by omega))
    clear hu5 hb5
    go_wp2_with fail
    refine (one_any 3 kK kX _).mono ?_
    rintro e6 w6 ⟨u6, rfl, hu6, hb6⟩
    obtain ⟨a6, cap6, rfl⟩ := OwnRecs.form hu6
    unfold Batch.agg
    have hsz6 := hb6.size
    have H6 := hid ((H5.out.below hb6).below (below_alloc w6 (.cells #[.int .i64 3, .int .i64 3, .int .i64 0, .int .i64 0, .int .i64 (-1), .int .i64 0, .int .i64 0, .bool false, .int .i64 0, .slice a6 (oneB 3 kK kX).recs.length cap6] 28)))
    have hb6W := (hb5W.step (below_alloc _ _)).step hb6
    rw [size_alloc] at hsz6
    clear H5
    go_wp2_with (at_builtin; refine wpList_append_bat rfl (.tmp 25) (.tmp 27) rfl Try.underlying22 Try.inf28 w1.heap.size _ (marksBs false true) (oneB 3 kK kX) (.slice a6 (oneB 3 kK kX).recs.length cap6) rfl H6.out w6.heap.size rfl ⟨by simp, by simp, by simp, by simp, by simp, by simp, by simp, by simp, by simp, by simp⟩ ((OwnRecs.base hu6 (by simp; omega)).below (below_alloc _ _)) (one_small _ _ _ (by decide) (by decide)) (by decide) ?_ ?_)
    · simp; omega
    intro v' wc hown' hbel hgr
    have hbc0 : Below w1.heap.size w1 wc := ((hBW.step hb6W).step (below_alloc _ _)).trans hbel
    have hown2 : OwnBats wc w1.heap.size v' (marksBs true true) := hown'
    have HB := hid (hown2.atC (by decide))
    have HGc := hid (gones_grown (HG.out _ (hb6W.step (below_alloc w6 (.cells #[.int .i64 3, .int .i64 3, .int .i64 0, .int .i64 0, .int .i64 (-1), .int .i64 0, .int .i64 0, .bool false, .int .i64 0, .slice a6 (oneB 3 kK kX).recs.length cap6] 28)))) hgr (by simp only [Value.ownBlock, ne_eq, Option.some.injEq]; omega))
    clear H6 hown' hu6 hown2 hgr hbel
    obtain ⟨av, capv, rfl, _⟩ := id HB.out
    go_wp2_with fail
    refine (CL.out _ (.slice (some ⟨w1.heap.size + 1 + 1 + 1, 0, none⟩) 1 1) wc HB.out.at HGc.out).mono ?_
    rintro e7 w7 ⟨u, rfl, hu, hb7⟩
    have HX := hid (hu.atC (by decide))
    have hsz7 := hb7.size
    have HBl := hid (show (marksBs true true).length = 4 from rfl)
    have HXl := hid (show (marksX true true).length = 2 from rfl)
    obtain ⟨ax, cx, rfl, _, hsx⟩ := hu.at (by decide)
    obtain ⟨bx, ox, rfl, h0⟩ := hsx 0 (by decide)
    obtain ⟨sx, h0, _⟩ := h0 otherB rfl
    have x0 := h0.c0
    replace x0 : w7.cell? ⟨bx, ox, none⟩ = some (.int .i64 2) := by simpa [otherB, oneB] using x0
    clear h0 hsx hu
    have CKL := hid (CK.out (.slice av (marksBs true true).length ((marksBs true true).length + capv)) (.slice (some ⟨bx, ox, none⟩) (marksX true true).length ((marksX true true).length + cx)) (.slice (some ⟨w1.heap.size + 1 + 1 + 1, 0, none⟩) 1 1) w7 (HB.out.mono hb7) HX.out (HGc.out.mono hb7))
    rw [HBl.out, HXl.out] at CKL; rw [HBl.out, HXl.out]
    clear CL CK HX HB
    go_wp2_with fail
    refine CKL.out.mono ?_
    rintro e8 w8 ⟨rfl, hb8⟩
    clear x0 CKL
    go_wp2
    go_ret
    exact ⟨rfl, hb1.step (hbc0.step (hb7.step hb8))⟩
end Go.Proofs.Ytceamgkifjmbcaa
