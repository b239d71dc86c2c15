/- Walk: the chapter's example. -/
import Derived.Test.YtcpecponmaakoaaGreatDoorV1
import Derived.Test.YtcpecponmaakoaaGreatDoorS4
import Derived.Test.YtcpecponmaakoaaGreatDoorW6
namespace Go.Proofs.YtcpecponmaakoaaGreatDoor
open Go.RowKit Go.Wm
theorem OwnPcs.capOk {w : World} {b : Nat} {v : Value} {l : List Piece} (h : OwnPcs w b v l) : CapOk v := by
  intro a n c hv
  subst hv
  cases a with
  | none =>
    obtain ⟨_, h2⟩ := h
    rcases h2 with ⟨e, _⟩ | ⟨g, cap, cur, e, _⟩
    · cases e; exact Nat.le_refl _
    · cases e
  | some a =>
    obtain ⟨_, h2⟩ := h
    rcases h2 with ⟨e, _⟩ | ⟨g, cap, cur, e, _, _, _, hc, _⟩
    · cases e
    · cases e
      omega
theorem texts3_at (w : World) (x y z : ByteArray) : TextsAt (w.alloc (.cells #[.string x, .string y, .string z] 9)) (.slice (some ⟨w.heap.size, 0, none⟩) 3 3) [x, y, z] := by
  refine ⟨_, 3, rfl, by simp, fun k hk => ⟨w.heap.size, 0, rfl, fun s hs => ?_⟩⟩
  match k, hs with
  | 0, hs => simp at hs; subst hs; exact cell_new rfl rfl
  | 1, hs => simp at hs; subst hs; exact cell_new rfl rfl
  | 2, hs => simp at hs; subst hs; exact cell_new rfl rfl
theorem text1_at {w : World} {b : Nat} {v : Value} {s : ByteArray} (h : OwnTexts w b v [s]) : ∃ g cap, v = .slice (some ⟨g, 0, none⟩) 1 cap ∧ w.cell? ⟨g, 0, none⟩ = some (.string s) := by
  have h2 := h.2
  rcases h2 with ⟨_, h0⟩ | ⟨g, cap, cur, rfl, _⟩
  · simp at h0
  · refine ⟨g, cap, rfl, ?_⟩
    have := World.ownsRow.cells (v := .slice (some ⟨g, 0, none⟩) [s].length cap) h rfl 0 (.string s) rfl
    rw [addr_add] at this
    exact this
theorem save2_length : (saveM 3 2 [pA, pB]).1.length ≤ 1000 := by
  have hc := checkM_ok live_check
  unfold saveM
  rw [if_pos live_check]
  unfold sealM manBytes
  rw [List.length_append, List.length_append, be4_length]
  have h1 := puts_length [(3 : Int).toNat, (2 : Int).toNat, [pA, pB].length] (by decide)
  have h2 := flat_length [pA, pB] hc.2.2.2.1 (by decide)
  simp only [List.length_cons, List.length_nil] at h1 h2 ⊢
  omega
theorem save2_len : (saveM 3 2 [pA, pB]).1.length ≤ 1000000 := Nat.le_trans save2_length (by decide)
theorem pcs_form {w : World} {b : Nat} {v : Value} {l : List Piece} (h : OwnPcs w b v l) (n : Nat) (hn : l.length = n) : ∃ a cap, v = .slice a n cap := by
  subst hn
  exact OwnPcs.form h
set_option maxHeartbeats 4000000 in
set_option maxRecDepth 100000 in
theorem live_any (w : World) (hL : Laid w) (hS : StepsAt w 0) : Calls Tryz.prog 10 #[] w fun e w' => e = .returned (.bool true) ∧ Below w.heap.size w w' := by
  have HL := hid hL
  have HS := hid hS
  clear hL hS
  have C1 := hid (begin_any 0 0 0 5 100 7 [] (.slice none 0 0) w (OwnPcs.at (OwnPcs.nil w w.heap.size) (by simp)) (by intro a n c h; cases h; exact Nat.le_refl _))
  rw [live_begin1] at C1
  go_enter Tryz.func10, Tryz.ntmps10
  go_wp2_with fail
  refine C1.out.mono ?_
  rintro e w1 ⟨u1, rfl, hu1, hb1⟩
  clear C1
  obtain ⟨a1, k1, rfl⟩ := pcs_form hu1 1 rfl
  have P1 := hid (OwnPcs.at hu1 (by simp))
  have K1 := hid (OwnPcs.capOk hu1)
  clear hu1
  have C2 := hid (fun W (h : Below w1.heap.size w1 W) => done_any 1 1 0 [pA1] (.slice a1 1 k1) W (HS.out.below (hb1.step h)) (P1.out.mono h))
  rw [live_done] at C2
  go_wp2_with fail
  refine (C2.out _ (below_alloc _ _)).mono ?_
  rintro e w2 ⟨u2, rfl, hu2, hb2⟩
  clear C2
  have hc2 := hb1.step ((below_alloc _ _).step hb2)
  obtain ⟨a2, k2, rfl⟩ := pcs_form hu2 1 rfl
  have P2 := hid (OwnPcs.at hu2 (by simp))
  have K2 := hid (OwnPcs.capOk hu2)
  clear hu2 hb2 hb1 P1 K1
  have C3 := hid (fun W (h : Below w2.heap.size w2 W) => begin_any 2 1 5 8 60 9 [pA] (.slice a2 1 k2) W (P2.out.mono h) K2.out)
  rw [live_begin2] at C3
  go_wp2_with fail
  refine (C3.out _ (below_alloc _ _)).mono ?_
  rintro e w3 ⟨u3, rfl, hu3, hb3⟩
  clear C3
  have hB2 : w3.heap[w2.heap.size]? = some (.cells #[.int .i64 2, .int .i64 1, .slice a2 1 k2] 24 (0, 0)) := blk_new hb3 rfl
  have r23 : Below w2.heap.size w2 w3 := (below_alloc _ _).step hb3
  have hc3 := hc2.step r23
  obtain ⟨a3, k3, rfl⟩ := pcs_form hu3 2 rfl
  have P3 := hid (OwnPcs.at hu3 (by simp))
  have K3 := hid (OwnPcs.capOk hu3)
  have P2 := hid (P2.out.mono r23)
  clear hu3 hb3 r23 hc2 K2
  have C4 := hid (fun W (h : Below w3.heap.size w3 W) => begin_any 3 2 8 9 1 0 [pA, pB] (.slice a3 2 k3) W (P3.out.mono h) K3.out)
  rw [live_begin3] at C4
  go_wp2_with fail
  refine (C4.out _ (below_alloc _ _)).mono ?_
  rintro e w4 ⟨u4, rfl, hu4, hb4⟩
  obtain ⟨a4, k4, rfl⟩ := pcs_form hu4 0 rfl
  clear C4 hu4
  have hB3 : w4.heap[w3.heap.size]? = some (.cells #[.int .i64 3, .int .i64 2, .slice a3 2 k3] 24 (0, 0)) := blk_new hb4 rfl
  have r34 : Below w3.heap.size w3 w4 := (below_alloc _ _).step hb4
  have hB2 := blk_below hB2 r34
  have hc4 := hc3.step r34
  have P3 := hid (P3.out.mono r34)
  have P2 := hid (P2.out.mono r34)
  obtain ⟨b2, hb2⟩ : ∃ b2, b2 = w2.heap.size := ⟨_, rfl⟩
  obtain ⟨b3, hb3⟩ : ∃ b3, b3 = w3.heap.size := ⟨_, rfl⟩
  rw [← hb2] at hB2 ⊢
  rw [← hb3] at hB3 ⊢
  clear hb2 hb3 hb4 r34 hc3 K3
  obtain ⟨c0, c1, c2, cf⟩ := row3 hB3
  have c0 := fun X => cell_alloc_old X c0
  have c1 := fun X => cell_alloc_old X c1
  have c2 := fun X => cell_alloc_old X c2
  clear cf
  have C5 := hid (show ∀ W, Below w4.heap.size w4 W → Calls Tryz.prog 12 #[.agg #[.int .i64 3, .int .i64 2, .slice a3 2 k3], .int .i64 4] W fun e w' => e = .returned (.tuple #[.agg #[.int .i64 0, .int .i64 0, .int .i64 5, .int .i64 100, .int .u32 7, .int .i64 2], .bool true]) ∧ Below W.heap.size W w' from fun W h => by
    have := at_any 3 2 4 [pA, pB] (.slice a3 2 k3) W (P3.out.mono h)
    rw [live_at4] at this
    exact this)
  go_wp2_with fail
  refine (C5.out _ (below_alloc _ _)).mono ?_
  rintro e w5 ⟨rfl, hb5⟩
  clear C5 c0 c1 c2
  have r5 : Below w4.heap.size w4 w5 := (below_alloc _ _).step hb5
  have hB2 := blk_below hB2 r5
  have hB3 := blk_below hB3 r5
  have hc5 := hc4.step r5
  have P3 := hid (P3.out.mono r5)
  have P2 := hid (P2.out.mono r5)
  clear hb5 r5 hc4
  obtain ⟨c0, c1, c2, cf⟩ := row3 hB3
  have c0 := fun X => cell_alloc_old X c0
  have c1 := fun X => cell_alloc_old X c1
  have c2 := fun X => cell_alloc_old X c2
  clear cf
  have C6 := hid (show ∀ W, Below w5.heap.size w5 W → Calls Tryz.prog 12 #[.agg #[.int .i64 3, .int .i64 2, .slice a3 2 k3], .int .i64 5] W fun e w' => e = .returned (.tuple #[.agg #[.int .i64 0, .int .i64 0, .int .i64 0, .int .i64 0, .int .u32 0, .int .i64 0], .bool false]) ∧ Below W.heap.size W w' from fun W h => by
    have := at_any 3 2 5 [pA, pB] (.slice a3 2 k3) W (P3.out.mono h)
    rw [live_at5] at this
    exact this)
  go_wp2_with fail
  refine (C6.out _ (below_alloc _ _)).mono ?_
  rintro e w6 ⟨rfl, hb6⟩
  clear C6 c0 c1 c2
  have hB12 : w6.heap[w5.heap.size]? = some (.cells #[.int .i64 0, .int .i64 0, .int .i64 5, .int .i64 100, .int .u32 7, .int .i64 2] 29 (0, 0)) := blk_new hb6 rfl
  have r6 : Below w5.heap.size w5 w6 := (below_alloc _ _).step hb6
  have hB2 := blk_below hB2 r6
  have hB3 := blk_below hB3 r6
  have hc6 := hc5.step r6
  have P3 := hid (P3.out.mono r6)
  have P2 := hid (P2.out.mono r6)
  obtain ⟨b12, hb12⟩ : ∃ b12, b12 = w5.heap.size := ⟨_, rfl⟩
  rw [← hb12] at hB12 ⊢
  clear hb12 hb6 r6 hc5
  obtain ⟨c0, c1, c2, cf⟩ := row3 hB3
  have c0 := fun X => cell_alloc_old X c0
  have c1 := fun X => cell_alloc_old X c1
  have c2 := fun X => cell_alloc_old X c2
  clear cf
  have C7 := hid (show ∀ W, Below w6.heap.size w6 W → Calls Tryz.prog 14 #[.agg #[.int .i64 3, .int .i64 2, .slice a3 2 k3]] W fun e w' => e = .returned (.tuple #[.int .i64 0, .int .i64 5]) ∧ Below W.heap.size W w' from fun W h => by
    have := span_any 3 2 [pA, pB] (.slice a3 2 k3) W (P3.out.mono h)
    rw [live_span] at this
    exact this)
  go_wp2_with fail
  refine (C7.out _ (below_alloc _ _)).mono ?_
  rintro e w7 ⟨rfl, hb7⟩
  clear C7 c0 c1 c2
  have r7 : Below w6.heap.size w6 w7 := (below_alloc _ _).step hb7
  have hB2 := blk_below hB2 r7
  have hB3 := blk_below hB3 r7
  have hB12 := blk_below hB12 r7
  have hc7 := hc6.step r7
  have P3 := hid (P3.out.mono r7)
  have P2 := hid (P2.out.mono r7)
  clear hb7 r7 hc6
  obtain ⟨c0, c1, c2, cf⟩ := row3 hB3
  clear cf
  have C8 := hid (show Calls Tryz.prog 17 #[.agg #[.int .i64 3, .int .i64 2, .slice a3 2 k3], .string ⟨#[108, 111, 103]⟩, .slice (some ⟨w7.heap.size, 0, none⟩) 3 3] (w7.alloc (.cells #[.string ⟨#[108, 111, 103, 45, 48]⟩, .string ⟨#[108, 111, 103, 45, 120]⟩, .string ⟨#[108, 111, 103, 45, 49]⟩] 9)) fun e w' => ∃ u d, e = .returned (.tuple #[.agg #[.int .i64 4, .int .i64 2, u], d]) ∧ OwnPcs w' (w7.heap.size + 1) u [pA] ∧ OwnTexts w' (w7.heap.size + 1) d [log_1] ∧ Below (w7.heap.size + 1) (w7.alloc (.cells #[.string ⟨#[108, 111, 103, 45, 48]⟩, .string ⟨#[108, 111, 103, 45, 120]⟩, .string ⟨#[108, 111, 103, 45, 49]⟩] 9)) w' by
    have := heal_any 3 2 [pA, pB] log3 [log_0, log_x, log_1] (.slice a3 2 k3) (.slice (some ⟨w7.heap.size, 0, none⟩) 3 3) (w7.alloc (.cells #[.string log_0, .string log_x, .string log_1] 9)) (HL.out.below (hc7.step (below_alloc _ _))) (P3.out.mono (below_alloc _ _)) (texts3_at _ _ _ _) (by decide) (by decide)
    rw [live_heal, size_alloc] at this
    exact this)
  go_wp2_with fail
  refine C8.out.mono ?_
  rintro e w8 ⟨u8, d8, rfl, hu8, hd8, hb8⟩
  clear C8 c0 c1 c2
  obtain ⟨a8, k8, rfl⟩ := pcs_form hu8 1 rfl
  clear hu8
  obtain ⟨dg, dk, rfl, hdc⟩ := text1_at hd8
  clear hd8
  have hb8 : Below (w7.alloc (.cells #[.string ⟨#[108, 111, 103, 45, 48]⟩, .string ⟨#[108, 111, 103, 45, 120]⟩, .string ⟨#[108, 111, 103, 45, 49]⟩] 9)).heap.size (w7.alloc (.cells #[.string ⟨#[108, 111, 103, 45, 48]⟩, .string ⟨#[108, 111, 103, 45, 120]⟩, .string ⟨#[108, 111, 103, 45, 49]⟩] 9)) w8 := by rw [size_alloc]; exact hb8
  have r8 : Below w7.heap.size w7 w8 := (below_alloc _ _).step hb8
  have hB2 := blk_below hB2 r8
  have hB3 := blk_below hB3 r8
  have hB12 := blk_below hB12 r8
  have hc8 := hc7.step r8
  have P3 := hid (P3.out.mono r8)
  have P2 := hid (P2.out.mono r8)
  clear hb8 r8 hc7
  obtain ⟨c0, c1, c2, cf⟩ := row3 hB3
  have c0 := fun X => cell_alloc_old X c0
  have c1 := fun X => cell_alloc_old X c1
  have c2 := fun X => cell_alloc_old X c2
  clear cf
  have C9 := hid (show ∀ W, Below w8.heap.size w8 W → _ from fun W h => save_any 3 2 [pA, pB] (.slice a3 2 k3) W (P3.out.mono h) (by decide))
  rw [live_save] at C9
  go_wp2_with fail
  refine (C9.out _ (below_alloc _ _)).mono ?_
  rintro e w9 ⟨u9, rfl, hu9, hb9⟩
  clear C9 c0 c1 c2
  have hB18 : w9.heap[w8.heap.size]? = some (.cells #[.int .i64 4, .int .i64 2, .slice a8 1 k8] 24 (0, 0)) := blk_new hb9 rfl
  obtain ⟨b18, hb18⟩ : ∃ b18, b18 = w8.heap.size := ⟨_, rfl⟩
  have r9 : Below w8.heap.size w8 w9 := (below_alloc _ _).step hb9
  have hB2 := blk_below hB2 r9
  have hB3 := blk_below hB3 r9
  have hB12 := blk_below hB12 r9
  have hc9 := hc8.step r9
  have P3 := hid (P3.out.mono r9)
  have P2 := hid (P2.out.mono r9)
  have hdc := cell_below r9 hdc
  rw [← hb18] at hB18 ⊢
  have C10 := hid (load_any _ u9 w9 (OwnBytes.at hu9 save2_len) (OwnBytes.capOk hu9) (Nat.le_trans save2_length (by decide)))
  rw [live_load] at C10
  clear hb9 r9 hc8 hb18 hu9
  go_wp2_with fail
  refine C10.out.mono ?_
  rintro e w10 ⟨u10, rfl, hu10, hb10⟩
  clear C10
  obtain ⟨a10, k10, rfl⟩ := pcs_form hu10 2 rfl
  have P10 := hid (OwnPcs.at hu10 (by simp))
  clear hu10
  have r10 : Below w9.heap.size w9 w10 := hb10
  have hB2 := blk_below hB2 r10
  have hB3 := blk_below hB3 r10
  have hB12 := blk_below hB12 r10
  have hB18 := blk_below hB18 r10
  have hc10 := hc9.step r10
  have P3 := hid (P3.out.mono r10)
  have P2 := hid (P2.out.mono r10)
  have hdc := cell_below r10 hdc
  clear hb10 r10 hc9
  obtain ⟨c0, c1, c2, cf⟩ := row3 hB2
  have c0 := fun X => cell_alloc_old X c0
  have c1 := fun X => cell_alloc_old X c1
  have c2 := fun X => cell_alloc_old X c2
  clear cf
  have C11 := hid (show ∀ W, Below w10.heap.size w10 W → _ from fun W h => drop_any 2 1 1 [pA] (.slice a2 1 k2) W (HS.out.below (hc10.step h)) (P2.out.mono h))
  rw [live_drop] at C11
  go_wp2_with fail
  refine (C11.out _ (below_alloc _ _)).mono ?_
  rintro e w11 ⟨u11, rfl, hu11, hb11⟩
  obtain ⟨a11, k11, rfl⟩ := pcs_form hu11 0 rfl
  clear C11 c0 c1 c2 hu11
  have hB22 : w11.heap[w10.heap.size]? = some (.cells #[.int .i64 3, .int .i64 2, .slice a10 2 k10] 24 (0, 0)) := blk_new hb11 rfl
  obtain ⟨b22, hb22⟩ : ∃ b22, b22 = w10.heap.size := ⟨_, rfl⟩
  have r11 : Below w10.heap.size w10 w11 := (below_alloc _ _).step hb11
  have hB3 := blk_below hB3 r11
  have hB12 := blk_below hB12 r11
  have hB18 := blk_below hB18 r11
  have hc11 := hc10.step r11
  have P3 := hid (P3.out.mono r11)
  have P2 := hid (P2.out.mono r11)
  have hdc := cell_below r11 hdc
  have P10 := hid (P10.out.mono r11)
  rw [← hb22] at hB22 ⊢
  clear hb11 r11 hc10 hb22 hB2
  obtain ⟨c0, c1, c2, cf⟩ := row3 hB3
  have c0 := fun X => cell_alloc_old X c0
  have c1 := fun X => cell_alloc_old X c1
  have c2 := fun X => cell_alloc_old X c2
  clear cf
  obtain ⟨d0, d1, d2, df⟩ := row3 hB18
  have d0 := fun X => cell_alloc_old X d0
  have d1 := fun X => cell_alloc_old X d1
  have d2 := fun X => cell_alloc_old X d2
  clear df
  obtain ⟨x0, x1, x2, xf⟩ := row3 hB22
  have x0 := fun X => cell_alloc_old X x0
  have x1 := fun X => cell_alloc_old X x1
  have x2 := fun X => cell_alloc_old X x2
  clear xf
  obtain ⟨p0, p1, p2, p3, p4, p5, pf⟩ := row6 hB12
  have p0 := fun X => cell_alloc_old X p0
  have p1 := fun X => cell_alloc_old X p1
  have p2 := fun X => cell_alloc_old X p2
  have p3 := fun X => cell_alloc_old X p3
  have p4 := fun X => cell_alloc_old X p4
  have p5 := fun X => cell_alloc_old X p5
  have dc := fun X => cell_alloc_old X hdc
  have PE := fun W => show (binOp .eql 29 (.agg #[.int .i64 0, .int .i64 0, .int .i64 5, .int .i64 100, .int .u32 7, .int .i64 2]) (.agg #[.int .i64 0, .int .i64 0, .int .i64 5, .int .i64 100, .int .u32 7, .int .i64 2])).run Tryz.prog W = .ok (.bool true) W from piece_eql_run pA pA W
  have hs1 : log_1.toList = [108, 111, 103, 45, 49] := by rw [ByteArray.toList_eq]; rfl
  have C12 := hid (show ∀ W, Below w11.heap.size w11 W → Calls Tryz.prog 19 #[.agg #[.int .i64 3, .int .i64 2, .slice a10 2 k10], .agg #[.int .i64 3, .int .i64 2, .slice a3 2 k3]] W fun e w' => e = .returned (.bool true) ∧ Below W.heap.size W w' from fun W h => by
    have := same_any 3 2 3 2 [pA, pB] [pA, pB] (.slice a10 2 k10) (.slice a3 2 k3) W (P10.out.mono h) (P3.out.mono h)
    rw [show (decide ((3 : Int) = 3) && decide ((2 : Int) = 2) && decide ([pA, pB] = [pA, pB])) = true by decide] at this
    exact this)
  go_wp2_with fail
  refine (C12.out _ (below_alloc _ _)).mono ?_
  rintro e w12 ⟨rfl, hb12⟩
  have r12 : Below w11.heap.size w11 w12 := (below_alloc _ _).step hb12
  clear c0 c1 c2 d0 d1 d2 x0 x1 x2 p0 p1 p2 p3 p4 p5 dc PE hs1 C12 hB12 hB18 hB22 hdc pf hb12
  have hB3 := blk_below hB3 r12
  have hc12 := hc11.step r12
  have P3 := hid (P3.out.mono r12)
  have C13 := hid (show ∀ W, Below w12.heap.size w12 W → Calls Tryz.prog 21 #[.string ⟨#[108, 111, 103]⟩, .int .i64 12] W fun e w' => e = .returned (.string ⟨#[108, 111, 103, 45, 49, 50]⟩) ∧ Below W.heap.size W w' from fun W h => by
    have := name_any log3 12 W (HL.out.below (hc12.step h)) (by decide) (by decide) (by decide)
    rw [live_name] at this
    exact this)
  go_wp2_with fail
  refine (C13.out _ (Below.refl _ _)).mono ?_
  rintro e w13 ⟨rfl, hb13⟩
  have hB3 := blk_below hB3 hb13
  have hc13 := hc12.step hb13
  have P3 := hid (P3.out.mono hb13)
  clear C13 r12 hc11 hc12
  obtain ⟨c0, c1, c2, cf⟩ := row3 hB3
  clear cf
  have C14 := hid (show Calls Tryz.prog 27 #[.agg #[.int .i64 3, .int .i64 2, .slice a3 2 k3]] w13 fun e w' => e = .returned (.int .i64 0) ∧ Below w13.heap.size w13 w' by
    have := check_any 3 2 [pA, pB] (.slice a3 2 k3) w13 P3.out
    rw [live_check] at this
    exact this)
  go_wp2_with fail
  refine C14.out.mono ?_
  rintro e w14 ⟨rfl, hb14⟩
  have hc14 := hc13.step hb14
  clear C14 c0 c1 c2
  have C15 := hid (show Calls Tryz.prog 27 #[.agg #[.int .i64 (-1), .int .i64 0, .slice none 0 0]] w14 fun e w' => e = .returned (.int .i64 1) ∧ Below w14.heap.size w14 w' by
    have := check_any (-1) 0 [] (.slice none 0 0) w14 (OwnPcs.at (OwnPcs.nil w14 0) (by simp))
    rw [live_check2] at this
    exact this)
  go_wp2_with fail
  refine C15.out.mono ?_
  rintro e w15 ⟨rfl, hb15⟩
  have hc15 := hc14.step hb15
  clear C15
  go_wp2_with fail
  go_ret
  exact ⟨rfl, hc15⟩
end Go.Proofs.YtcpecponmaakoaaGreatDoor
