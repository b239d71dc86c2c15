/- Walks: bytes read back (the program's Load). -/
import Derived.Test.YtcpecponmaakoaaGreatDoorL3
namespace Go.Proofs.YtcpecponmaakoaaGreatDoor
open Go.RowKit Go.Wm Go.Lib
set_option maxHeartbeats 8000000 in
set_option maxRecDepth 100000 in
theorem load_any (b : List UInt8) (v : Value) (w : World) (hv : BytesAt w v b) (hc : capOk v) (hl : b.length ≤ 20000) :
    Calls Tryz.prog 25 #[v] w fun e w' => ∃ u, e = .returned (.tuple #[.agg #[.int .i64 (loadM b).1.1, .int .i64 (loadM b).1.2.1, u], .int .i64 (loadM b).2]) ∧ OwnPcs w' w.heap.size u (loadM b).1.2.2 ∧ Below w.heap.size w w' := by
  have O := hid (fun W (h : Below w.heap.size w W) => open_any b v W (hv.mono h) hc)
  obtain ⟨a, cap, rfl, hn⟩ := hv.form
  clear hv
  by_cases he : (openM b).2 = 0
  · have Hm := hid (show loadM b = loadBody (openM b).1 by rw [loadM, if_pos he])
    rw [he] at O
    have hol : (openM b).1.length ≤ 20000 := by
      unfold openM
      split
      · simp
      · split
        · simp
        · simp only [List.length_take]; omega
    generalize (openM b).1 = ol at *
    clear he
    go_enter Tryz.func25, Tryz.ntmps25
    go_wp2_with fail
    refine (O.out _ ((below_alloc w _).step (below_alloc _ _))).mono ?_
    rintro e w1 ⟨u, rfl, hu, hb1⟩
    have hbb : w.heap.size + 2 ≤ ((w.alloc (.cells #[.slice a b.length cap] 43)).alloc (.cells #[.int .i64 0, .int .i64 0, .slice none 0 0] 24)).heap.size := by simp
    have hu := hu.base hbb
    obtain ⟨a1, c1, rfl⟩ := OwnBytes.form hu
    have hI : VarAt w1 w.heap.size 43 (.slice a b.length cap) := blk_below (blk_below (heap_alloc_new w _) (below_alloc _ _)) hb1
    have hR : w1.heap[w.heap.size + 1]? = some (.cells #[.int .i64 0, .int .i64 0, .slice none 0 0] 24 (0, 0)) := blk_new hb1 (by simp)
    have hs1 : w.heap.size + 2 ≤ w1.heap.size := by have := hb1.size; simpa using this
    have hbw := ((below_alloc w _).step (below_alloc _ _)).step hb1
    have hR1 := fun X => blk_below hR (below_alloc w1 X)
    have hI1 := fun X => hI.below (below_alloc w1 X)
    have ho1 := own_ge hu (show w.heap.size < w.heap.size + 2 by omega)
    have ho2 := own_lt hu (Nat.le_refl _)
    clear hb1 hbb O
    go_wp2_with (first
      | (refine wpList_store_var rfl 43 (.tmp 1) (.tmp 15) rfl (by kernel_rfl) w.heap.size 43 _ (.slice a1 ol.length c1) (hI1 _) rfl rfl rfl ?_; intro w2 hI2 hg2 hz2; have hR2 := heap_kept (hR1 _) hg2 (by omega); have hE2 : VarAt w2 w1.heap.size 44 (.int .i64 0) := heap_kept (heap_alloc_new w1 _) hg2 (by omega); have hb2 := (hbw.step (below_alloc w1 _)).trans (below_grown hg2 (by simp; omega) fun k hk => by cases hk; exact Nat.le_refl _); have hu2 := World.ownsRow.kept (OwnBytes.below hu (below_alloc w1 _)) hg2 (.inr ho1); simp only [World.size_alloc] at hz2)
      | (refine wpList_store_var rfl 44 (.tmp 4) (.tmp 16) rfl (by kernel_rfl) w1.heap.size 44 _ (.int .i64 0) hE2 rfl rfl rfl ?_; intro w3 hE3 hg3 hz3; have hR3 := heap_kept hR2 hg3 (by omega); have hI3 := heap_kept hI2 hg3 (by omega); have hu3 := World.ownsRow.kept hu2 hg3 (.inr ho2); have hb3 := hb2.trans (below_grown hg3 hb2.size fun k hk => by cases hk; omega); have cE := hE3.cell))
    have hug := fun (a : Addr) (n c : Nat) (h : Value.slice a1 ol.length c1 = .slice (some a) n c) => hu.lt a.block (by rw [h]; rfl)
    obtain ⟨W5, hW5⟩ : ∃ W, W = (((w3.alloc (.cells #[.int .i64 0] 3)).alloc (.cells #[.int .i64 0, .int .i64 0, .slice none 0 0] 24)).alloc (.cells #[.int .i64 0] 3)).alloc (.cells #[.pointer (some ⟨w1.heap.size + 1 + 1, 0, none⟩), .pointer (some ⟨w1.heap.size + 1 + 1, 1, none⟩), .pointer (some ⟨w1.heap.size + 1 + 1 + 1, 0, none⟩)] 87) := ⟨_, rfl⟩
    have hz35 : w3.heap.size = w1.heap.size + 1 := by omega
    have hB5 : Below w3.heap.size w3 W5 := by rw [hW5]; exact (((below_alloc _ _).step (below_alloc _ _)).step (below_alloc _ _)).step (below_alloc _ _)
    have hz5 : W5.heap.size = w1.heap.size + 5 := by rw [hW5]; simp; omega
    have hA5 : VarAt W5 (w1.heap.size + 1) 3 (.int .i64 0) := by
      rw [hW5, ← hz35]
      exact blk_below (heap_alloc_new w3 _) (((below_alloc _ _).step (below_alloc _ _)).step (below_alloc _ _))
    have hM5 : W5.heap[w1.heap.size + 1 + 1]? = some (.cells #[.int .i64 0, .int .i64 0, .slice none 0 0] 24 (0, 0)) := by
      rw [hW5]
      exact blk_below (blk_new (Below.refl _ _) (by simp; omega)) ((below_alloc _ _).step (below_alloc _ _))
    have hN5 : VarAt W5 (w1.heap.size + 1 + 1 + 1) 3 (.int .i64 0) := by
      rw [hW5]
      exact blk_below (blk_new (Below.refl _ _) (by simp; omega)) (below_alloc _ _)
    have hP5 : PtrsAt W5 (.slice (some ⟨w1.heap.size + 1 + 1 + 1 + 1, 0, none⟩) 3 3) [⟨w1.heap.size + 1 + 1, 0, none⟩, ⟨w1.heap.size + 1 + 1, 1, none⟩, ⟨w1.heap.size + 1 + 1 + 1, 0, none⟩] := by
      refine ⟨_, _, rfl, by simp, fun k hk => ⟨_, 0, rfl, fun q hq => ?_⟩⟩
      rw [hW5]
      refine cell_new (by simp; omega) ?_
      match k, hq with
      | 0, hq => simpa using hq
      | 1, hq => simpa using hq
      | 2, hq => simpa using hq
      | k + 3, hq => simp at hq
    have hLd : LdAt W5 w.heap.size (w.heap.size + 1) w1.heap.size (w1.heap.size + 1) (w.heap.size + 2) (.slice a1 ol.length c1) ol ⟨0, 0⟩ :=
      ⟨blk_below hI3 hB5, blk_below hR3 hB5, blk_below hE3 hB5, hA5, OwnBytes.below hu3 hB5⟩
    have hbW := hb3.step hB5
    rw [← hW5]
    clear hW5 hA5 hB5 hI3 hR3 hE3 hu3 hb3 cE hb2 hR2 hI2 hu2 hE2 hg2 hg3 hz2 hz3 hbw hI hR hR1 hI1 ho1 ho2
    obtain ⟨m0, m1, m2, mf⟩ := row3 hM5
    have hap : RdApart w1.heap.size w.heap.size (w1.heap.size + 1) (.slice a1 ol.length c1) [⟨w1.heap.size + 1 + 1, 0, none⟩, ⟨w1.heap.size + 1 + 1, 1, none⟩, ⟨w1.heap.size + 1 + 1 + 1, 0, none⟩] :=
      ⟨by omega, by omega, by omega, fun q hq => by simp at hq; rcases hq with rfl | rfl | rfl <;> (simp only; omega), fun x n c hx => by
        have := hug x n c hx
        refine ⟨by omega, by omega, fun q hq => ?_⟩
        simp at hq
        rcases hq with rfl | rfl | rfl <;> (simp only; omega)⟩
    have hRd : RdAt W5 w1.heap.size w.heap.size (w1.heap.size + 1) (.slice a1 ol.length c1) ol ⟨0, 0⟩ [⟨w1.heap.size + 1 + 1, 0, none⟩, ⟨w1.heap.size + 1 + 1, 1, none⟩, ⟨w1.heap.size + 1 + 1 + 1, 0, none⟩] :=
      ⟨hLd.err, hLd.inp, hLd.pos, hLd.own.at (by omega), fun q hq => by
        simp at hq
        rcases hq with rfl | rfl | rfl
        · exact ⟨rfl, ⟨_, m0⟩, mf 0⟩
        · exact ⟨rfl, ⟨_, m1⟩, mf 1⟩
        · exact ⟨rfl, ⟨_, hN5.cell⟩, hN5.frozen 0⟩⟩
    refine (load1_any ol _ _ _ _ _ ⟨0, 0⟩ _ W5 hRd hap hP5 (fun x n c hx => by cases hx; refine ⟨by simp; omega, by simp; omega, fun q hq => ?_⟩; simp at hq; rcases hq with rfl | rfl | rfl <;> (simp only; omega)) (OwnBytes.capOk hLd.own) (by simp) (by simp)).mono ?_
    rintro e w6 ⟨rfl, hw6⟩
    have hRd6 := RdAt.rds hap _ hRd (fun q h => h)
    obtain ⟨hM6, hN6⟩ := rds_head (l := ol) (s := ⟨0, 0⟩) (E := w1.heap.size) (AT := w1.heap.size + 1) hM5 hN5 (by omega) (by omega) (by omega) (by omega) (by omega)
    have hR6 := (rdsW_other (l := ol) (E := w1.heap.size) (AT := w1.heap.size + 1) (T := w.heap.size + 1) (by omega) (by omega) [⟨w1.heap.size + 1 + 1, 0, none⟩, ⟨w1.heap.size + 1 + 1, 1, none⟩, ⟨w1.heap.size + 1 + 1 + 1, 0, none⟩] (w := W5) (s := ⟨0, 0⟩) (fun q hq => by simp at hq; rcases hq with rfl | rfl | rfl <;> (simp only; omega))).trans hLd.res
    have hu6 : OwnBytes (rdsW ol w1.heap.size (w1.heap.size + 1) W5 ⟨0, 0⟩ [⟨w1.heap.size + 1 + 1, 0, none⟩, ⟨w1.heap.size + 1 + 1, 1, none⟩, ⟨w1.heap.size + 1 + 1 + 1, 0, none⟩]).1 (w.heap.size + 2) (.slice a1 ol.length c1) ol :=
      ownsRow_same hLd.own fun g hg => by
        have := hu.lt g hg
        exact rdsW_other (by omega) (by omega) _ fun q hq => by simp at hq; rcases hq with rfl | rfl | rfl <;> (simp only; omega)
    have hb6 := rdsW_below (l := ol) (E := w1.heap.size) (AT := w1.heap.size + 1) (B := w.heap.size) (by omega) (by omega) [⟨w1.heap.size + 1 + 1, 0, none⟩, ⟨w1.heap.size + 1 + 1, 1, none⟩, ⟨w1.heap.size + 1 + 1 + 1, 0, none⟩] (s := ⟨0, 0⟩) hbW (fun q hq => by simp at hq; rcases hq with rfl | rfl | rfl <;> (simp only; omega))
    have hz6 := rdsW_size (l := ol) (E := w1.heap.size) (AT := w1.heap.size + 1) [⟨w1.heap.size + 1 + 1, 0, none⟩, ⟨w1.heap.size + 1 + 1, 1, none⟩, ⟨w1.heap.size + 1 + 1 + 1, 0, none⟩] (w := W5) (s := ⟨0, 0⟩)
    rw [← hw6] at hRd6 hM6 hN6 hR6 hu6 hb6 hz6
    have hs6 : (rdsW ol w1.heap.size (w1.heap.size + 1) W5 ⟨0, 0⟩ [⟨w1.heap.size + 1 + 1, 0, none⟩, ⟨w1.heap.size + 1 + 1, 1, none⟩, ⟨w1.heap.size + 1 + 1 + 1, 0, none⟩]).2 = (rd ol (rd ol (rd ol ⟨0, 0⟩).2).2).2 := rfl
    rw [hs6] at hRd6
    have hat6 := rd_at ol (rd ol (rd ol ⟨0, 0⟩).2).2
    have hat6b := rd_at ol (rd ol ⟨0, 0⟩).2
    have hat6c := rd_at ol ⟨0, 0⟩
    have Hm := hid (Hm.out.trans (show loadBody ol = finishM ol (rd ol ⟨0, 0⟩).1 (rd ol (rd ol ⟨0, 0⟩).2).1 (rd ol (rd ol (rd ol ⟨0, 0⟩).2).2).1 (rd ol (rd ol (rd ol ⟨0, 0⟩).2).2).2 from rfl))
    have hat : (rd ol (rd ol (rd ol ⟨0, 0⟩).2).2).2.at' ≤ 60000 := by simp only at hat6c; omega
    obtain ⟨ver, hver⟩ : ∃ x, x = (rd ol ⟨0, 0⟩).1 := ⟨_, rfl⟩
    obtain ⟨next, hnext⟩ : ∃ x, x = (rd ol (rd ol ⟨0, 0⟩).2).1 := ⟨_, rfl⟩
    obtain ⟨n, hnn⟩ : ∃ x, x = (rd ol (rd ol (rd ol ⟨0, 0⟩).2).2).1 := ⟨_, rfl⟩
    obtain ⟨s, hss⟩ : ∃ x, x = (rd ol (rd ol (rd ol ⟨0, 0⟩).2).2).2 := ⟨_, rfl⟩
    rw [← hver, ← hnext] at hM6 Hm
    rw [← hnn] at hN6 Hm
    rw [← hss] at hRd6 Hm hat
    have hLd6 : LdAt w6 w.heap.size (w.heap.size + 1) w1.heap.size (w1.heap.size + 1) (w.heap.size + 2) (.slice a1 ol.length c1) ol s := ⟨hRd6.inp, hR6, hRd6.err, hRd6.pos, hu6⟩
    have hz66 : w6.heap.size = w1.heap.size + 5 := by omega
    have hug6 : ∀ g, (Value.slice a1 ol.length c1).ownBlock = some g → w.heap.size + 2 ≤ g ∧ g < w1.heap.size := fun g hg => hu.lt g hg
    clear hw6 hs6 hat6 hat6b hat6c hver hnext hnn hss hRd6 hR6 hu6 hz6 hLd hM5 hN5 hP5 hRd hap hbW m0 m1 m2 mf hz5 hz35 hug hu
    have cE := hLd6.err.cell
    have fE := hLd6.err.frozen 0
    have cN := hN6.cell
    by_cases hbad : s.e = 0 ∧ 0 ≤ n ∧ n ≤ 256
    · obtain ⟨hs0, hn0, hn1⟩ := hbad
      obtain ⟨nn, rfl⟩ := Int.eq_ofNat_of_zero_le hn0
      have hnn : nn ≤ 256 := by omega
      obtain ⟨at0, e0⟩ := s
      simp only at hs0 hat
      subst hs0
      have Hm := hid (Hm.out.trans (finishM_good hnn))
      have hge : LdGeo w.heap.size w1.heap.size (.slice a1 ol.length c1) := ⟨hs1, hug6⟩
      have hAll : LdAll w6 w.heap.size w1.heap.size (.slice a1 ol.length c1) ol ⟨at0, 0⟩ ver next nn (.slice none 0 0) [] := ⟨hLd6, hN6, hM6, OwnPcs.nil _ _, by omega⟩
      have hng : decide ((nn : Int) < 0) = false := decide_eq_false (by omega)
      have hng2 : decide ((256 : Int) < (nn : Int)) = false := decide_eq_false (by omega)
      clear hn0 hn1
      go_wp2_with fail
      clear hng hng2 cE fE cN hLd6 hN6 hM6
      go_loopw [9] (fun i wr => ∃ (k : Nat) (s' : Rd) (pcs : List Piece) (lv : Value), k ≤ nn ∧ i = .int .i64 k ∧ LdAll wr w.heap.size w1.heap.size (.slice a1 ol.length c1) ol s' ver next nn lv pcs ∧ pcs.length = k ∧
        rdPieces ol nn ⟨at0, 0⟩ = (pcs ++ (rdPieces ol (nn - k) s').1, (rdPieces ol (nn - k) s').2) ∧ s'.at' ≤ 60000 + 130000 * k ∧ Below w.heap.size w wr) (fun i _ => nn - (intOf i).toNat)
      case atStart => exact ⟨0, ⟨at0, 0⟩, [], .slice none 0 0, by omega, rfl, hAll, rfl, by simp, by simp only; omega, hb6⟩
      case round =>
        obtain ⟨k, s', pcs, lv, hk, rfl, hA, hpl, hE, hat', hwr⟩ := hrel
        have HE := hid hE
        have Hpl := hid hpl
        clear hE hAll hb6 hpl
        obtain ⟨wo, rfl⟩ : ∃ wo : World, wo = wr := ⟨_, rfl⟩
        obtain ⟨ps', e'⟩ := s'
        have cE := hA.ld.err.cell
        have cN := hA.num.cell
        simp only at cE hat'
        by_cases hin : k < nn ∧ e' = 0
        · obtain ⟨hlt, rfl⟩ := hin
          have hsz := hA.size
          have hlv : lv.ownBlock ≠ some wo.heap.size := fun e => by have := (hA.pcs.lt _ e).2; omega
          go_wp2_with fail
          obtain ⟨W1, hW1⟩ : ∃ W, W = (wo.alloc (.cells #[.int .i64 0, .int .i64 0, .int .i64 0, .int .i64 0, .int .u32 0, .int .i64 0] 29)).alloc (.cells #[.pointer (some ⟨wo.heap.size, 0, none⟩), .pointer (some ⟨wo.heap.size, 1, none⟩), .pointer (some ⟨wo.heap.size, 2, none⟩), .pointer (some ⟨wo.heap.size, 3, none⟩)] 87) := ⟨_, rfl⟩
          have hA1 : LdAll W1 w.heap.size w1.heap.size (.slice a1 ol.length c1) ol ⟨ps', 0⟩ ver next nn lv pcs := by rw [hW1]; exact hA.below ((below_alloc _ _).step (below_alloc _ _))
          have hP1 : W1.heap[wo.heap.size]? = some (.cells #[.int .i64 0, .int .i64 0, .int .i64 0, .int .i64 0, .int .u32 0, .int .i64 0] 29 (0, 0)) := by rw [hW1]; exact blk_below (heap_alloc_new wo _) (below_alloc _ _)
          have hPt : PtrsAt W1 (.slice (some ⟨wo.heap.size + 1, 0, none⟩) 4 4) [⟨wo.heap.size, 0, none⟩, ⟨wo.heap.size, 1, none⟩, ⟨wo.heap.size, 2, none⟩, ⟨wo.heap.size, 3, none⟩] := by
            rw [hW1]; simpa using ptrsAt_new (wo.alloc (.cells #[.int .i64 0, .int .i64 0, .int .i64 0, .int .i64 0, .int .u32 0, .int .i64 0] 29)) 87 [⟨wo.heap.size, 0, none⟩, ⟨wo.heap.size, 1, none⟩, ⟨wo.heap.size, 2, none⟩, ⟨wo.heap.size, 3, none⟩] (by simp)
          have hb1 : Below w.heap.size w W1 := by rw [hW1]; exact hwr.step ((below_alloc _ _).step (below_alloc _ _))
          have hz1 : W1.heap.size = wo.heap.size + 2 := by rw [hW1]; simp
          rw [← hW1]
          clear hW1
          obtain ⟨q0, q1, q2, q3, q4, q5, qf⟩ := row6 hP1
          have hq1 : ∀ q ∈ [(⟨wo.heap.size, 0, none⟩ : Addr), ⟨wo.heap.size, 1, none⟩, ⟨wo.heap.size, 2, none⟩, ⟨wo.heap.size, 3, none⟩], q.block = wo.heap.size := fun q hq => by simp at hq; rcases hq with rfl | rfl | rfl | rfl <;> rfl
          have hq2 : ∀ q ∈ [(⟨wo.heap.size, 0, none⟩ : Addr), ⟨wo.heap.size, 1, none⟩, ⟨wo.heap.size, 2, none⟩, ⟨wo.heap.size, 3, none⟩], q.spot = none ∧ (∃ u, W1.cell? q = some u) ∧ W1.frozen? q = false := fun q hq => by
            simp at hq
            rcases hq with rfl | rfl | rfl | rfl
            · exact ⟨rfl, ⟨_, q0⟩, qf 0⟩
            · exact ⟨rfl, ⟨_, q1⟩, qf 1⟩
            · exact ⟨rfl, ⟨_, q2⟩, qf 2⟩
            · exact ⟨rfl, ⟨_, q3⟩, qf 3⟩
          refine (hA1.call hol hge hsz hq1 hq2 _ hPt (fun x n k e => by cases e; simp only; omega) (by simp only; omega) (by simp)).mono ?_
          rintro e W2 ⟨rfl, hw2⟩
          have hA2 := hA1.rds hol hge hsz hlv hq1 hq2
          have hP2 := rds_piece (l := ol) (s := ⟨ps', 0⟩) (E := w1.heap.size) (AT := w1.heap.size + 1) hP1 (by omega) (by omega)
          have hb2 := rdsW_below (l := ol) (E := w1.heap.size) (AT := w1.heap.size + 1) (B := w.heap.size) (by omega) (by omega) [⟨wo.heap.size, 0, none⟩, ⟨wo.heap.size, 1, none⟩, ⟨wo.heap.size, 2, none⟩, ⟨wo.heap.size, 3, none⟩] (s := ⟨ps', 0⟩) hb1 (fun q hq => by rw [hq1 q hq]; omega)
          have hz2 := rdsW_size (l := ol) (E := w1.heap.size) (AT := w1.heap.size + 1) [⟨wo.heap.size, 0, none⟩, ⟨wo.heap.size, 1, none⟩, ⟨wo.heap.size, 2, none⟩, ⟨wo.heap.size, 3, none⟩] (w := W1) (s := ⟨ps', 0⟩)
          rw [← hw2] at hA2 hP2 hb2 hz2
          have hsnd : (rdsW ol w1.heap.size (w1.heap.size + 1) W1 ⟨ps', 0⟩ [⟨wo.heap.size, 0, none⟩, ⟨wo.heap.size, 1, none⟩, ⟨wo.heap.size, 2, none⟩, ⟨wo.heap.size, 3, none⟩]).2 = (rd ol (rd ol (rd ol (rd ol ⟨ps', 0⟩).2).2).2).2 := rfl
          rw [hsnd] at hA2
          have hr1 := rd_at ol ⟨ps', 0⟩
          have hr2 := rd_at ol (rd ol ⟨ps', 0⟩).2
          have hr3 := rd_at ol (rd ol (rd ol ⟨ps', 0⟩).2).2
          have hr4 := rd_at ol (rd ol (rd ol (rd ol ⟨ps', 0⟩).2).2).2
          have hr : (rd ol (rd ol (rd ol (rd ol ⟨ps', 0⟩).2).2).2).2.at' ≤ ps' + 80000 := by simp only at hr1; omega
          have Hpc := hid (show rdPiece ol ⟨ps', 0⟩ = (⟨(rd ol ⟨ps', 0⟩).1, (rd ol (rd ol ⟨ps', 0⟩).2).1, (rd ol (rd ol (rd ol ⟨ps', 0⟩).2).2).1, (rd ol (rd ol (rd ol (rd ol ⟨ps', 0⟩).2).2).2).1, (if (rd ol (rd ol (rd ol (rd ol ⟨ps', 0⟩).2).2).2).2.e = 0 then ((((get4 ol (rd ol (rd ol (rd ol (rd ol ⟨ps', 0⟩).2).2).2).2.at').1 : Nat) : Int), (⟨(rd ol (rd ol (rd ol (rd ol ⟨ps', 0⟩).2).2).2).2.at' + 4, (get4 ol (rd ol (rd ol (rd ol (rd ol ⟨ps', 0⟩).2).2).2).2.at').2⟩ : Rd)) else (0, (rd ol (rd ol (rd ol (rd ol ⟨ps', 0⟩).2).2).2).2)).1, (rd ol (if (rd ol (rd ol (rd ol (rd ol ⟨ps', 0⟩).2).2).2).2.e = 0 then ((((get4 ol (rd ol (rd ol (rd ol (rd ol ⟨ps', 0⟩).2).2).2).2.at').1 : Nat) : Int), (⟨(rd ol (rd ol (rd ol (rd ol ⟨ps', 0⟩).2).2).2).2.at' + 4, (get4 ol (rd ol (rd ol (rd ol (rd ol ⟨ps', 0⟩).2).2).2).2.at').2⟩ : Rd)) else (0, (rd ol (rd ol (rd ol (rd ol ⟨ps', 0⟩).2).2).2).2)).2).1⟩, (rd ol (if (rd ol (rd ol (rd ol (rd ol ⟨ps', 0⟩).2).2).2).2.e = 0 then ((((get4 ol (rd ol (rd ol (rd ol (rd ol ⟨ps', 0⟩).2).2).2).2.at').1 : Nat) : Int), (⟨(rd ol (rd ol (rd ol (rd ol ⟨ps', 0⟩).2).2).2).2.at' + 4, (get4 ol (rd ol (rd ol (rd ol (rd ol ⟨ps', 0⟩).2).2).2).2.at').2⟩ : Rd)) else (0, (rd ol (rd ol (rd ol (rd ol ⟨ps', 0⟩).2).2).2).2)).2).2) from rfl)
          obtain ⟨x1, hx1⟩ : ∃ x, x = (rd ol ⟨ps', 0⟩).1 := ⟨_, rfl⟩
          obtain ⟨x2, hx2⟩ : ∃ x, x = (rd ol (rd ol ⟨ps', 0⟩).2).1 := ⟨_, rfl⟩
          obtain ⟨x3, hx3⟩ : ∃ x, x = (rd ol (rd ol (rd ol ⟨ps', 0⟩).2).2).1 := ⟨_, rfl⟩
          obtain ⟨x4, hx4⟩ : ∃ x, x = (rd ol (rd ol (rd ol (rd ol ⟨ps', 0⟩).2).2).2).1 := ⟨_, rfl⟩
          obtain ⟨s4, hs4⟩ : ∃ x, x = (rd ol (rd ol (rd ol (rd ol ⟨ps', 0⟩).2).2).2).2 := ⟨_, rfl⟩
          rw [← hs4] at hA2 hr Hpc
          rw [← hx1, ← hx2, ← hx3, ← hx4] at hP2 Hpc
          clear hx1 hx2 hx3 hx4 hs4 hr1 hr2 hr3 hr4 hsnd hw2 hA1 hP1 hb1 hPt hq1 hq2 q0 q1 q2 q3 q4 q5 qf hA hwr cE cN
          obtain ⟨pa4, pe4⟩ := s4
          simp only at hr Hpc
          have cE2 := hA2.ld.err.cell
          have cI2 := hA2.ld.inp.cell
          have cA2 := hA2.ld.pos.cell
          simp only at cE2 cA2
          by_cases hd : pe4 = 0
          · subst hd
            rw [if_pos rfl] at Hpc
            have G := hid (get4_any ol pa4 _ W2 (hA2.ld.own.at (by omega)) (by omega) (OwnBytes.capOk hA2.ld.own))
            have hgl := get4_lt ol pa4
            obtain ⟨g, hg⟩ : ∃ g, g = get4 ol pa4 := ⟨_, rfl⟩
            rw [← hg] at G hgl Hpc
            obtain ⟨sm, er⟩ := g
            simp only at G hgl Hpc
            clear hg
            have cA2s := fun (W : World) (h : W2.grownBy W (some w1.heap.size)) => (hA2.ld.pos.kept h (by omega)).cell
            have hPs := fun (W : World) (h : W2.grownBy W (some w1.heap.size)) => row6 (heap_kept hP2 h (by omega))
            go_wp2_with (first
              | (go_at_call 63; refine G.out.mono ?_; rintro e w' ⟨rfl, rfl⟩)
              | (refine wpList_store_var rfl 44 (.tmp 4) (.tmp 59) rfl (by kernel_rfl) w1.heap.size 44 _ (.int .i64 er) hA2.ld.err rfl rfl rfl ?_; intro W3 hE3 hg3 hz3; have hA3 := hA2.setErr hge er hE3 hg3; have hP3 := heap_kept hP2 hg3 (by omega); have hb3 := hb2.trans (below_grown hg3 hb2.size fun k hk => by cases hk; omega); obtain ⟨p0, p1, p2, p3, p4, p5, pf⟩ := row6 hP3; have cA3 : ∀ v, (W3.setCell ⟨wo.heap.size, 4, none⟩ v).cell? ⟨w1.heap.size + 1, 0, none⟩ = some (.int .i64 pa4) := fun v => (by rw [cell_set_other W3 ⟨wo.heap.size, 4, none⟩ ⟨w1.heap.size + 1, 0, none⟩ v (by simp only; omega)]; exact hA3.ld.pos.cell); have fA3 := hA3.ld.pos.frozen 0))
            obtain ⟨W5, hW5⟩ : ∃ W, W = (W3.setCell ⟨wo.heap.size, 4, none⟩ (.int .u32 sm)).setCell ⟨w1.heap.size + 1, 0, none⟩ (.int .i64 ((pa4 : Int) + 4)) := ⟨_, rfl⟩
            have hA4 := hA3.other hge hsz hlv (show W3.grownBy (W3.setCell ⟨wo.heap.size, 4, none⟩ (.int .u32 sm)) (some wo.heap.size) from ⟨rfl, rfl, rfl, by simp, fun q _ hq => heap_setCell_other W3 ⟨wo.heap.size, 4, none⟩ q _ (fun e => hq (by rw [e]))⟩)
            obtain ⟨s5, hs5⟩ : ∃ s : Rd, s = ⟨pa4 + 4, er⟩ := ⟨_, rfl⟩
            have hA5 : LdAll W5 w.heap.size w1.heap.size (.slice a1 ol.length c1) ol s5 ver next nn lv pcs := by
              rw [hW5, hs5]
              exact hA4.setPos hge (pa4 + 4) (by have := hA4.ld.pos.set (.int .i64 ((pa4 : Int) + 4)); simpa using this) ⟨rfl, rfl, rfl, by simp, fun q _ hq => heap_setCell_other _ ⟨w1.heap.size + 1, 0, none⟩ q _ (fun e => hq (by rw [e]))⟩
            obtain ⟨sv, hsv⟩ : ∃ x : Int, x = (sm : Int) := ⟨_, rfl⟩
            have hP5 : W5.heap[wo.heap.size]? = some (.cells #[.int .i64 x1, .int .i64 x2, .int .i64 x3, .int .i64 x4, .int .u32 sv, .int .i64 0] 29 (0, 0)) := by
              rw [hW5, heap_setCell_other _ ⟨w1.heap.size + 1, 0, none⟩ wo.heap.size _ (by simp only; omega), heap_setCell_same W3 wo.heap.size 4 _ 29 _ hP3, hsv]; rfl
            have hb5 : Below w.heap.size w W5 := by rw [hW5]; exact (hb3.setCell (p := ⟨wo.heap.size, 4, none⟩) (by simp only; omega) _).setCell (p := ⟨w1.heap.size + 1, 0, none⟩) (by simp only; omega) _
            have hz5 : W5.heap.size = wo.heap.size + 2 := by rw [hW5]; simp; omega
            have hr5 : s5.at' ≤ ps' + 80004 := by rw [hs5]; simp only; omega
            rw [← hs5, ← hsv] at Hpc
            rw [← hW5]
            clear hW5 hs5 hsv hA3 hA4 hP3 hb3 hE3 hg3 hz3 cA3 p0 p1 p2 p3 p4 p5 pf hA2 hP2 hb2 hz2 cE2 cI2 cA2 G
            obtain ⟨p0, p1, p2, p3, p4, p5, pf⟩ := row6 hP5
            have hlv5 : lv.ownBlock ≠ some wo.heap.size := hlv
            have cE5 := hA5.ld.err.cell
            obtain ⟨W6, hW6⟩ : ∃ W, W = W5.alloc (.cells #[.pointer (some ⟨wo.heap.size, 5, none⟩)] 87) := ⟨_, rfl⟩
            have hA6 : LdAll W6 w.heap.size w1.heap.size (.slice a1 ol.length c1) ol s5 ver next nn lv pcs := by rw [hW6]; exact hA5.below (below_alloc _ _)
            have hP6 : W6.heap[wo.heap.size]? = some (.cells #[.int .i64 x1, .int .i64 x2, .int .i64 x3, .int .i64 x4, .int .u32 sv, .int .i64 0] 29 (0, 0)) := by rw [hW6]; exact blk_below hP5 (below_alloc _ _)
            have hPt6 : PtrsAt W6 (.slice (some ⟨wo.heap.size + 2, 0, none⟩) 1 1) [⟨wo.heap.size, 5, none⟩] := by rw [hW6, ← hz5]; exact ptrsAt_new W5 87 [⟨wo.heap.size, 5, none⟩] (by simp)
            have hb6 : Below w.heap.size w W6 := by rw [hW6]; exact hb5.step (below_alloc _ _)
            have hz6 : W6.heap.size = wo.heap.size + 3 := by rw [hW6]; simp; omega
            rw [← hW6]
            clear hW6 hA5 hP5 p0 p1 p2 p3 p4 p5 pf cE5 hb5
            obtain ⟨q0, q1, q2, q3, q4, q5, qf⟩ := row6 hP6
            have hq1 : ∀ q ∈ [(⟨wo.heap.size, 5, none⟩ : Addr)], q.block = wo.heap.size := fun q hq => by simp at hq; rw [hq]
            have hq2 : ∀ q ∈ [(⟨wo.heap.size, 5, none⟩ : Addr)], q.spot = none ∧ (∃ u, W6.cell? q = some u) ∧ W6.frozen? q = false := fun q hq => by simp at hq; rw [hq]; exact ⟨rfl, ⟨_, q5⟩, qf 5⟩
            refine (hA6.call hol hge hsz hq1 hq2 _ hPt6 (fun x n k e => by cases e; simp only; omega) (by omega) (by simp)).mono ?_
            rintro e W7 ⟨rfl, hw7⟩
            have hA7 := hA6.rds hol hge hsz hlv5 hq1 hq2
            have hP7 := rds_state (l := ol) (s := s5) (E := w1.heap.size) (AT := w1.heap.size + 1) hP6 (by omega) (by omega)
            have hb7 := rdsW_below (l := ol) (E := w1.heap.size) (AT := w1.heap.size + 1) (B := w.heap.size) (by omega) (by omega) [⟨wo.heap.size, 5, none⟩] (s := s5) hb6 (fun q hq => by rw [hq1 q hq]; omega)
            have hz7 := rdsW_size (l := ol) (E := w1.heap.size) (AT := w1.heap.size + 1) [⟨wo.heap.size, 5, none⟩] (w := W6) (s := s5)
            rw [← hw7] at hA7 hP7 hb7 hz7
            have hsnd : (rdsW ol w1.heap.size (w1.heap.size + 1) W6 s5 [⟨wo.heap.size, 5, none⟩]).2 = (rd ol s5).2 := rfl
            rw [hsnd] at hA7
            have hat7 := rd_at ol s5
            have hz7e : W7.heap.size = wo.heap.size + 3 := by omega
            clear hz7 hz6 hz5
            clear hsnd hw7 hA6 hP6 hb6 hPt6 hq1 hq2 q0 q1 q2 q3 q4 q5 qf
            obtain ⟨x5, hx5⟩ : ∃ x, x = (rd ol s5).1 := ⟨_, rfl⟩
            obtain ⟨s7, hs7⟩ : ∃ x, x = (rd ol s5).2 := ⟨_, rfl⟩
            rw [← hx5] at hP7
            rw [← hs7] at hA7 hat7
            have Hpiece := hid (show rdPiece ol ⟨ps', 0⟩ = (⟨x1, x2, x3, x4, sv, x5⟩, s7) by rw [Hpc.out, hx5, hs7])
            clear hx5 hs7 Hpc
            obtain ⟨t0, t1, t2, t3, t4, t5, tf⟩ := row6 hP7
            obtain ⟨al, cl, rfl⟩ := OwnPcs.form hA7.pcs
            obtain ⟨m0, m1, m2, mf⟩ := row3 hA7.man
            have hHO := hid hA7.pcs
            have hzz : w1.heap.size + 5 ≤ W7.heap.size := hA7.size
            have hlen : pcs.length ≤ 256 := by have := Hpl.out; omega
            have hpz : PcsAt (W7.alloc (.cells #[.int .i64 x1, .int .i64 x2, .int .i64 x3, .int .i64 x4, .int .u32 sv, .int .i64 x5] 29)) (.slice (some ⟨wo.heap.size + 3, 0, none⟩) 1 1) [⟨x1, x2, x3, x4, sv, x5⟩] := ⟨_, 1, rfl, by simp, fun k hk => ⟨wo.heap.size + 3, 0, rfl, fun p hp => by
              have h0 : k = 0 := by simpa using hk
              subst h0
              simp at hp
              subst hp
              constructor <;> exact cell_new hz7e rfl⟩⟩
            go_wp2_with (at_builtin; refine wpList_append_pcs rfl (.tmp 70) (.tmp 72) rfl Tryz.underlying22 Tryz.inf29 (w1.heap.size + 5) _ _ pcs [⟨x1, x2, x3, x4, sv, x5⟩] rfl (hHO.out.below (below_alloc _ _)) rfl hpz (by omega) (by simp; omega) ?_)
            intro v8 W8 hO8 hb8 hg8
            obtain ⟨pcs', hpcs'⟩ : ∃ l, l = pcs ++ [⟨x1, x2, x3, x4, sv, x5⟩] := ⟨_, rfl⟩
            rw [← hpcs'] at hO8
            have Hpcs := hid hpcs'
            clear hpcs'
            obtain ⟨a8, c8, rfl⟩ := OwnPcs.form hO8
            have hg8' := grownBy_trans (grownBy_below (row := (Value.slice al pcs.length cl).ownBlock) (below_alloc W7 _)) hg8
            have hM8 : W8.heap[w1.heap.size + 1 + 1]? = some (.cells #[.int .i64 ver, .int .i64 next, .slice al pcs.length cl] 24 (0, 0)) := by
              rw [hg8'.block _ (by omega) (fun e => by have := (hHO.out.lt _ e.symm).1; omega)]; exact hA7.man
            obtain ⟨n0, n1, n2, nf⟩ := row3 hM8
            have hA9 := hA7.push hge hO8 hg8' rfl
            have hb9 := ((hb7.step (below_alloc W7 _)).trans (hb8.mono (by omega))).setCell (p := ⟨w1.heap.size + 1 + 1, 2, none⟩) (by simp only; omega) (.slice a8 pcs'.length c8)
            clear hA7 hO8 hg8 hb8 hg8' hM8 hb7 hP7 t0 t1 t2 t3 t4 t5 m0 m1 m2 hpz hHO
            go_wp2_with fail
            go_roundw
            case rel =>
              refine ⟨k + 1, s7, pcs', _, by omega, by go_num, hA9, by have := Hpl.out; rw [Hpcs.out]; simp; omega, ?_, by omega, hb9⟩
              rw [Hpcs.out, HE.out, show nn - k = (nn - (k + 1)) + 1 by omega, rdPieces, if_pos rfl, Hpiece.out]
              simp
            case measure => simp [intOf]; omega
          · rw [if_neg hd] at Hpc
            simp only at Hpc
            have hdb : (pe4 == 0) = false := by simpa using hd
            obtain ⟨s5, hs5⟩ : ∃ s : Rd, s = ⟨pa4, pe4⟩ := ⟨_, rfl⟩
            have hA5 : LdAll W2 w.heap.size w1.heap.size (.slice a1 ol.length c1) ol s5 ver next nn lv pcs := by rw [hs5]; exact hA2
            have hP5 : W2.heap[wo.heap.size]? = some (.cells #[.int .i64 x1, .int .i64 x2, .int .i64 x3, .int .i64 x4, .int .u32 0, .int .i64 0] 29 (0, 0)) := hP2
            have hb5 := hb2
            have hz5 : W2.heap.size = wo.heap.size + 2 := by omega
            have hr5 : s5.at' ≤ ps' + 80004 := by rw [hs5]; simp only; omega
            rw [← hs5] at Hpc
            clear hs5 hA2 hP2 hb2 hz2 cI2 cA2
            obtain ⟨p0, p1, p2, p3, p4, p5, pf⟩ := row6 hP5
            have hlv5 : lv.ownBlock ≠ some wo.heap.size := hlv
            have cE5 := hA5.ld.err.cell
            go_wp2_with fail
            obtain ⟨W6, hW6⟩ : ∃ W, W = W2.alloc (.cells #[.pointer (some ⟨wo.heap.size, 5, none⟩)] 87) := ⟨_, rfl⟩
            have hA6 : LdAll W6 w.heap.size w1.heap.size (.slice a1 ol.length c1) ol s5 ver next nn lv pcs := by rw [hW6]; exact hA5.below (below_alloc _ _)
            have hP6 : W6.heap[wo.heap.size]? = some (.cells #[.int .i64 x1, .int .i64 x2, .int .i64 x3, .int .i64 x4, .int .u32 0, .int .i64 0] 29 (0, 0)) := by rw [hW6]; exact blk_below hP5 (below_alloc _ _)
            have hPt6 : PtrsAt W6 (.slice (some ⟨wo.heap.size + 2, 0, none⟩) 1 1) [⟨wo.heap.size, 5, none⟩] := by rw [hW6, ← hz5]; exact ptrsAt_new W2 87 [⟨wo.heap.size, 5, none⟩] (by simp)
            have hb6 : Below w.heap.size w W6 := by rw [hW6]; exact hb5.step (below_alloc _ _)
            have hz6 : W6.heap.size = wo.heap.size + 3 := by rw [hW6]; simp; omega
            rw [← hW6]
            clear hW6 hA5 hP5 p0 p1 p2 p3 p4 p5 pf cE5 hb5
            obtain ⟨q0, q1, q2, q3, q4, q5, qf⟩ := row6 hP6
            have hq1 : ∀ q ∈ [(⟨wo.heap.size, 5, none⟩ : Addr)], q.block = wo.heap.size := fun q hq => by simp at hq; rw [hq]
            have hq2 : ∀ q ∈ [(⟨wo.heap.size, 5, none⟩ : Addr)], q.spot = none ∧ (∃ u, W6.cell? q = some u) ∧ W6.frozen? q = false := fun q hq => by simp at hq; rw [hq]; exact ⟨rfl, ⟨_, q5⟩, qf 5⟩
            refine (hA6.call hol hge hsz hq1 hq2 _ hPt6 (fun x n k e => by cases e; simp only; omega) (by omega) (by simp)).mono ?_
            rintro e W7 ⟨rfl, hw7⟩
            have hA7 := hA6.rds hol hge hsz hlv5 hq1 hq2
            have hP7 := rds_state (l := ol) (s := s5) (E := w1.heap.size) (AT := w1.heap.size + 1) hP6 (by omega) (by omega)
            have hb7 := rdsW_below (l := ol) (E := w1.heap.size) (AT := w1.heap.size + 1) (B := w.heap.size) (by omega) (by omega) [⟨wo.heap.size, 5, none⟩] (s := s5) hb6 (fun q hq => by rw [hq1 q hq]; omega)
            have hz7 := rdsW_size (l := ol) (E := w1.heap.size) (AT := w1.heap.size + 1) [⟨wo.heap.size, 5, none⟩] (w := W6) (s := s5)
            rw [← hw7] at hA7 hP7 hb7 hz7
            have hsnd : (rdsW ol w1.heap.size (w1.heap.size + 1) W6 s5 [⟨wo.heap.size, 5, none⟩]).2 = (rd ol s5).2 := rfl
            rw [hsnd] at hA7
            have hat7 := rd_at ol s5
            have hz7e : W7.heap.size = wo.heap.size + 3 := by omega
            clear hz7 hz6 hz5
            clear hsnd hw7 hA6 hP6 hb6 hPt6 hq1 hq2 q0 q1 q2 q3 q4 q5 qf
            obtain ⟨x5, hx5⟩ : ∃ x, x = (rd ol s5).1 := ⟨_, rfl⟩
            obtain ⟨s7, hs7⟩ : ∃ x, x = (rd ol s5).2 := ⟨_, rfl⟩
            rw [← hx5] at hP7
            rw [← hs7] at hA7 hat7
            have Hpiece := hid (show rdPiece ol ⟨ps', 0⟩ = (⟨x1, x2, x3, x4, 0, x5⟩, s7) by rw [Hpc.out, hx5, hs7])
            clear hx5 hs7 Hpc
            obtain ⟨t0, t1, t2, t3, t4, t5, tf⟩ := row6 hP7
            obtain ⟨al, cl, rfl⟩ := OwnPcs.form hA7.pcs
            obtain ⟨m0, m1, m2, mf⟩ := row3 hA7.man
            have hHO := hid hA7.pcs
            have hzz : w1.heap.size + 5 ≤ W7.heap.size := hA7.size
            have hlen : pcs.length ≤ 256 := by have := Hpl.out; omega
            have hpz : PcsAt (W7.alloc (.cells #[.int .i64 x1, .int .i64 x2, .int .i64 x3, .int .i64 x4, .int .u32 0, .int .i64 x5] 29)) (.slice (some ⟨wo.heap.size + 3, 0, none⟩) 1 1) [⟨x1, x2, x3, x4, 0, x5⟩] := ⟨_, 1, rfl, by simp, fun k hk => ⟨wo.heap.size + 3, 0, rfl, fun p hp => by
              have h0 : k = 0 := by simpa using hk
              subst h0
              simp at hp
              subst hp
              constructor <;> exact cell_new hz7e rfl⟩⟩
            go_wp2_with (at_builtin; refine wpList_append_pcs rfl (.tmp 70) (.tmp 72) rfl Tryz.underlying22 Tryz.inf29 (w1.heap.size + 5) _ _ pcs [⟨x1, x2, x3, x4, 0, x5⟩] rfl (hHO.out.below (below_alloc _ _)) rfl hpz (by omega) (by simp; omega) ?_)
            intro v8 W8 hO8 hb8 hg8
            obtain ⟨pcs', hpcs'⟩ : ∃ l, l = pcs ++ [⟨x1, x2, x3, x4, 0, x5⟩] := ⟨_, rfl⟩
            rw [← hpcs'] at hO8
            have Hpcs := hid hpcs'
            clear hpcs'
            obtain ⟨a8, c8, rfl⟩ := OwnPcs.form hO8
            have hg8' := grownBy_trans (grownBy_below (row := (Value.slice al pcs.length cl).ownBlock) (below_alloc W7 _)) hg8
            have hM8 : W8.heap[w1.heap.size + 1 + 1]? = some (.cells #[.int .i64 ver, .int .i64 next, .slice al pcs.length cl] 24 (0, 0)) := by
              rw [hg8'.block _ (by omega) (fun e => by have := (hHO.out.lt _ e.symm).1; omega)]; exact hA7.man
            obtain ⟨n0, n1, n2, nf⟩ := row3 hM8
            have hA9 := hA7.push hge hO8 hg8' rfl
            have hb9 := ((hb7.step (below_alloc W7 _)).trans (hb8.mono (by omega))).setCell (p := ⟨w1.heap.size + 1 + 1, 2, none⟩) (by simp only; omega) (.slice a8 pcs'.length c8)
            clear hA7 hO8 hg8 hb8 hg8' hM8 hb7 hP7 t0 t1 t2 t3 t4 t5 m0 m1 m2 hpz hHO
            go_wp2_with fail
            go_roundw
            case rel =>
              refine ⟨k + 1, s7, pcs', _, by omega, by go_num, hA9, by have := Hpl.out; rw [Hpcs.out]; simp; omega, ?_, by omega, hb9⟩
              rw [Hpcs.out, HE.out, show nn - k = (nn - (k + 1)) + 1 by omega, rdPieces, if_pos rfl, Hpiece.out]
              simp
            case measure => simp [intOf]; omega
        · have hEx : (rdPieces ol (nn - k) ⟨ps', e'⟩) = ([], ⟨ps', e'⟩) := by
            by_cases h9 : e' = 0
            · have h8 : nn - k = 0 := by have := fun h => hin ⟨h, h9⟩; omega
              rw [h8]; rfl
            · exact rdPieces_bad ol _ _ _ h9
          have Hfin := hid (show loadM b = endM ol ver next (pcs, ⟨ps', e'⟩) by rw [Hm.out, HE.out, hEx]; simp only [List.append_nil])
          have hzz := hA.size
          have cA := hA.ld.pos.cell
          have cI := hA.ld.inp.cell
          have fE := hA.ld.err.frozen 0
          simp only at cA
          obtain ⟨r0, r1, r2, rf⟩ := row3 hA.ld.res
          clear hEx Hm HE
          by_cases h9 : e' = 0
          · subst h9
            have hkn : k = nn := by have := fun h => hin ⟨h, rfl⟩; omega
            have hkb : decide ((k : Int) < (nn : Int)) = false := decide_eq_false (by omega)
            have hkb2 : ¬ k < nn := by omega
            by_cases hat9 : ps' = ol.length
            · have hab : ((ps' : Int) != (ol.length : Int)) = false := by simp [hat9]
              have K := hid (check_any ver next pcs lv wo (hA.pcs.at (by have := Hpl.out; omega)))
              obtain ⟨m0, m1, m2, mf⟩ := row3 hA.man
              by_cases hck : checkM ver next pcs = 0
              · have Hfin := hid (show loadM b = ((ver, next, pcs), 0) from Hfin.out.trans (endM_ok hat9 hck))
                rw [hck] at K
                clear hin hck hat9
                have hAA := hA
                obtain ⟨al, cl, rfl⟩ := OwnPcs.form hA.pcs
                go_wp2_with fail
                refine K.out.mono ?_
                rintro e W' ⟨rfl, hbK⟩
                have hA' := hA.below hbK
                have cE' := hA'.ld.err.cell
                simp only at cE'
                obtain ⟨s0, s1, s2, sf⟩ := row3 hA'.ld.res
                obtain ⟨n0, n1, n2, nf⟩ := row3 hA'.man
                have hOf := ownsRow_setCell_below (ownsRow_setCell_below (ownsRow_setCell_below hA'.pcs (a := ⟨w.heap.size + 1, 0, none⟩) (by simp only; omega) (.int .i64 ver)) (a := ⟨w.heap.size + 1, 1, none⟩) (by simp only; omega) (.int .i64 next)) (a := ⟨w.heap.size + 1, 2, none⟩) (by simp only; omega) (.slice al pcs.length cl)
                have HOf := hid (OwnPcs.base hOf (show w.heap.size ≤ _ by omega))
                have hbf := hwr.step hbK
                clear hA hAA hA' hbK hwr m0 m1 m2 mf r0 r1 r2 rf cE cA cI hOf
                go_wp2_with fail
                exact bodyPost_ret (v := .tuple #[.agg #[.int .i64 ver, .int .i64 next, .slice al pcs.length cl], .int .i64 0]) (by simp [results, Tryz.results25, go_sem, s0, s1, s2]) rfl ⟨_, by rw [Hfin.out], by rw [Hfin.out]; exact HOf.out, ((hbf.setCell (p := ⟨w.heap.size + 1, 0, none⟩) (by simp) _).setCell (p := ⟨w.heap.size + 1, 1, none⟩) (by simp) _).setCell (p := ⟨w.heap.size + 1, 2, none⟩) (by simp) _⟩
              · have Hfin := hid (show loadM b = ((0, 0, []), 11) from Hfin.out.trans (endM_bad (.inr hck)))
                have hcb : (checkM ver next pcs != 0) = true := by simpa using hck
                generalize checkM ver next pcs = cm at *
                clear hin hck hat9
                have hAA := hA
                obtain ⟨al, cl, rfl⟩ := OwnPcs.form hA.pcs
                go_wp2_with (first
                  | (go_at_call 27; refine K.out.mono ?_; rintro e w6' ⟨rfl, hb6'⟩; have hA' := hAA.below hb6')
                  | (refine wpList_store_var rfl 44 (.tmp 4) (.const (.int .i64 11)) rfl (by kernel_rfl) w1.heap.size 44 _ (.int .i64 11) hA'.ld.err rfl rfl rfl ?_; intro w7 hE7 hg7 hz7; have hR7 := heap_kept hA'.ld.res hg7 (by omega); have hb7 := (hwr.step hb6').trans (below_grown hg7 (hwr.step hb6').size fun k hk => by cases hk; omega); have cE7 := hE7.cell; have R7 := row3 hR7; obtain ⟨r0, r1, r2, rf⟩ := R7))
                go_region
                go_wp2
                exact bodyPost_ret (v := .tuple #[.agg #[.int .i64 0, .int .i64 0, .slice none 0 0], .int .i64 11]) (by simp [results, Tryz.results25, go_sem, r0, r1, r2]) rfl ⟨_, by rw [Hfin.out], by rw [Hfin.out]; exact OwnPcs.nil _ _, (((hb7.setCell (p := ⟨w.heap.size + 1, 0, none⟩) (by simp) _).setCell (p := ⟨w.heap.size + 1, 1, none⟩) (by simp) _).setCell (p := ⟨w.heap.size + 1, 2, none⟩) (by simp) _).drew⟩
            · have Hfin := hid (show loadM b = ((0, 0, []), 11) from Hfin.out.trans (endM_bad (.inl hat9)))
              have hab : ((ps' : Int) != (ol.length : Int)) = true := by simp; omega
              clear hin hat9
              go_wp2_with (refine wpList_store_var rfl 44 (.tmp 4) (.const (.int .i64 11)) rfl (by kernel_rfl) w1.heap.size 44 _ (.int .i64 11) hA.ld.err rfl rfl rfl ?_; intro w7 hE7 hg7 hz7; have hR7 := heap_kept hA.ld.res hg7 (by omega); have hb7 := hwr.trans (below_grown hg7 hwr.size fun k hk => by cases hk; omega); have cE7 := hE7.cell; have R7 := row3 hR7; obtain ⟨r0, r1, r2, rf⟩ := R7)
              go_region
              go_wp2
              exact bodyPost_ret (v := .tuple #[.agg #[.int .i64 0, .int .i64 0, .slice none 0 0], .int .i64 11]) (by simp [results, Tryz.results25, go_sem, r0, r1, r2]) rfl ⟨_, by rw [Hfin.out], by rw [Hfin.out]; exact OwnPcs.nil _ _, (((hb7.setCell (p := ⟨w.heap.size + 1, 0, none⟩) (by simp) _).setCell (p := ⟨w.heap.size + 1, 1, none⟩) (by simp) _).setCell (p := ⟨w.heap.size + 1, 2, none⟩) (by simp) _).drew⟩
          · have Hfin := hid (show loadM b = ((0, 0, []), e') from Hfin.out.trans (endM_err h9))
            have h9a : (e' == 0) = false := by simpa using h9
            have h9b : (e' != 0) = true := by simpa using h9
            clear hin
            by_cases hz : k < nn
            · go_wp2_with fail
              go_region
              go_wp2
              exact bodyPost_ret (v := .tuple #[.agg #[.int .i64 0, .int .i64 0, .slice none 0 0], .int .i64 e']) (by simp [results, Tryz.results25, go_sem, r0, r1, r2]) rfl ⟨.slice none 0 0, by rw [Hfin.out], by rw [Hfin.out]; exact OwnPcs.nil _ _, (((hwr.setCell (p := ⟨w.heap.size + 1, 0, none⟩) (by simp) _).setCell (p := ⟨w.heap.size + 1, 1, none⟩) (by simp) _).setCell (p := ⟨w.heap.size + 1, 2, none⟩) (by simp) _).drew⟩
            · go_wp2_with fail
              go_region
              go_wp2
              exact bodyPost_ret (v := .tuple #[.agg #[.int .i64 0, .int .i64 0, .slice none 0 0], .int .i64 e']) (by simp [results, Tryz.results25, go_sem, r0, r1, r2]) rfl ⟨.slice none 0 0, by rw [Hfin.out], by rw [Hfin.out]; exact OwnPcs.nil _ _, (((hwr.setCell (p := ⟨w.heap.size + 1, 0, none⟩) (by simp) _).setCell (p := ⟨w.heap.size + 1, 1, none⟩) (by simp) _).setCell (p := ⟨w.heap.size + 1, 2, none⟩) (by simp) _).drew⟩
    · obtain ⟨e3, he3⟩ : ∃ e3, e3 = (if s.e = 0 then (if n < 0 then 11 else if 256 < n then 2 else 0) else s.e) := ⟨_, rfl⟩
      have h30 : e3 ≠ 0 := by
        rw [he3]
        split
        · split
          · omega
          · split
            · omega
            · omega
        · assumption
      have Hm := hid (Hm.out.trans (finishM_bad he3.symm h30))
      by_cases hs0 : s.e = 0
      · rw [if_pos hs0] at he3
        have hs0b : (s.e != 0) = false := by simpa using hs0
        rw [hs0] at cE
        by_cases hn0 : n < 0
        · rw [if_pos hn0] at he3
          go_wp2_with (refine wpList_store_var rfl 44 (.tmp 4) (.const (.int .i64 11)) rfl (by kernel_rfl) w1.heap.size 44 _ (.int .i64 11) hLd6.err rfl rfl rfl ?_; intro w7 hE7 hg7 hz7; have hN7 := heap_kept hN6 hg7 (by omega); have hR7 := heap_kept hLd6.res hg7 (by omega); have hb7 := hb6.trans (below_grown hg7 hb6.size fun k hk => by cases hk; omega))
          clear cE fE cN hN6 hLd6 hM6 hb6
          have cE7 := VarAt.cell hE7
          have cN7 := VarAt.cell hN7
          obtain ⟨r0, r1, r2, rf⟩ := row3 hR7
          go_loopw [9] (fun i wr => i = .int .i64 0 ∧ wr = w7) (fun _ _ => 0)
          case atStart => exact ⟨rfl, rfl⟩
          case round =>
            obtain ⟨rfl, rfl⟩ := hrel
            rcases Bool.eq_false_or_eq_true (decide ((0 : Int) < n)) with hz | hz
            · go_wp2_with fail
              go_region
              go_wp2
              exact bodyPost_ret (v := .tuple #[.agg #[.int .i64 0, .int .i64 0, .slice none 0 0], .int .i64 (11)]) (by simp [results, Tryz.results25, go_sem, r0, r1, r2]) rfl ⟨_, by rw [Hm.out, he3], by rw [Hm.out]; exact OwnPcs.nil _ _, (((hb7.setCell (p := ⟨w.heap.size + 1, 0, none⟩) (by simp) _).setCell (p := ⟨w.heap.size + 1, 1, none⟩) (by simp) _).setCell (p := ⟨w.heap.size + 1, 2, none⟩) (by simp) _).drew⟩
            · go_wp2_with fail
              go_region
              go_wp2
              exact bodyPost_ret (v := .tuple #[.agg #[.int .i64 0, .int .i64 0, .slice none 0 0], .int .i64 (11)]) (by simp [results, Tryz.results25, go_sem, r0, r1, r2]) rfl ⟨_, by rw [Hm.out, he3], by rw [Hm.out]; exact OwnPcs.nil _ _, (((hb7.setCell (p := ⟨w.heap.size + 1, 0, none⟩) (by simp) _).setCell (p := ⟨w.heap.size + 1, 1, none⟩) (by simp) _).setCell (p := ⟨w.heap.size + 1, 2, none⟩) (by simp) _).drew⟩
        · rw [if_neg hn0, if_pos (show 256 < n by omega)] at he3
          have hn1 : 256 < n := by omega
          go_wp2_with (refine wpList_store_var rfl 44 (.tmp 4) (.const (.int .i64 2)) rfl (by kernel_rfl) w1.heap.size 44 _ (.int .i64 2) hLd6.err rfl rfl rfl ?_; intro w7 hE7 hg7 hz7; have hN7 := heap_kept hN6 hg7 (by omega); have hR7 := heap_kept hLd6.res hg7 (by omega); have hb7 := hb6.trans (below_grown hg7 hb6.size fun k hk => by cases hk; omega))
          clear cE fE cN hN6 hLd6 hM6 hb6
          have cE7 := VarAt.cell hE7
          have cN7 := VarAt.cell hN7
          obtain ⟨r0, r1, r2, rf⟩ := row3 hR7
          go_loopw [9] (fun i wr => i = .int .i64 0 ∧ wr = w7) (fun _ _ => 0)
          case atStart => exact ⟨rfl, rfl⟩
          case round =>
            obtain ⟨rfl, rfl⟩ := hrel
            rcases Bool.eq_false_or_eq_true (decide ((0 : Int) < n)) with hz | hz
            · go_wp2_with fail
              go_region
              go_wp2
              exact bodyPost_ret (v := .tuple #[.agg #[.int .i64 0, .int .i64 0, .slice none 0 0], .int .i64 (2)]) (by simp [results, Tryz.results25, go_sem, r0, r1, r2]) rfl ⟨_, by rw [Hm.out, he3], by rw [Hm.out]; exact OwnPcs.nil _ _, (((hb7.setCell (p := ⟨w.heap.size + 1, 0, none⟩) (by simp) _).setCell (p := ⟨w.heap.size + 1, 1, none⟩) (by simp) _).setCell (p := ⟨w.heap.size + 1, 2, none⟩) (by simp) _).drew⟩
            · go_wp2_with fail
              go_region
              go_wp2
              exact bodyPost_ret (v := .tuple #[.agg #[.int .i64 0, .int .i64 0, .slice none 0 0], .int .i64 (2)]) (by simp [results, Tryz.results25, go_sem, r0, r1, r2]) rfl ⟨_, by rw [Hm.out, he3], by rw [Hm.out]; exact OwnPcs.nil _ _, (((hb7.setCell (p := ⟨w.heap.size + 1, 0, none⟩) (by simp) _).setCell (p := ⟨w.heap.size + 1, 1, none⟩) (by simp) _).setCell (p := ⟨w.heap.size + 1, 2, none⟩) (by simp) _).drew⟩
      · rw [if_neg hs0] at he3
        have hs0b : (s.e != 0) = true := by simpa using hs0
        have hs0c : (s.e == 0) = false := by simpa using hs0
        have hE7 := hLd6.err
        have hR7 := hLd6.res
        have hN7 := hN6
        have hb7 := hb6
        go_wp2_with fail
        clear cE fE cN hN6 hLd6 hM6 hb6
        have cE7 := VarAt.cell hE7
        have cN7 := VarAt.cell hN7
        obtain ⟨r0, r1, r2, rf⟩ := row3 hR7
        go_loopw [9] (fun i wr => i = .int .i64 0 ∧ wr = w6) (fun _ _ => 0)
        case atStart => exact ⟨rfl, rfl⟩
        case round =>
          obtain ⟨rfl, rfl⟩ := hrel
          rcases Bool.eq_false_or_eq_true (decide ((0 : Int) < n)) with hz | hz
          · go_wp2_with fail
            go_region
            go_wp2
            exact bodyPost_ret (v := .tuple #[.agg #[.int .i64 0, .int .i64 0, .slice none 0 0], .int .i64 (s.e)]) (by simp [results, Tryz.results25, go_sem, r0, r1, r2]) rfl ⟨_, by rw [Hm.out, he3], by rw [Hm.out]; exact OwnPcs.nil _ _, (((hb7.setCell (p := ⟨w.heap.size + 1, 0, none⟩) (by simp) _).setCell (p := ⟨w.heap.size + 1, 1, none⟩) (by simp) _).setCell (p := ⟨w.heap.size + 1, 2, none⟩) (by simp) _).drew⟩
          · go_wp2_with fail
            go_region
            go_wp2
            exact bodyPost_ret (v := .tuple #[.agg #[.int .i64 0, .int .i64 0, .slice none 0 0], .int .i64 (s.e)]) (by simp [results, Tryz.results25, go_sem, r0, r1, r2]) rfl ⟨_, by rw [Hm.out, he3], by rw [Hm.out]; exact OwnPcs.nil _ _, (((hb7.setCell (p := ⟨w.heap.size + 1, 0, none⟩) (by simp) _).setCell (p := ⟨w.heap.size + 1, 1, none⟩) (by simp) _).setCell (p := ⟨w.heap.size + 1, 2, none⟩) (by simp) _).drew⟩
  · have Hm := hid (show loadM b = ((0, 0, []), (openM b).2) by rw [loadM, if_neg he])
    have hb : ((openM b).2 != 0) = true := by simpa using he
    clear he
    generalize (openM b).2 = oe at *
    generalize (openM b).1 = ol at *
    go_enter Tryz.func25, Tryz.ntmps25
    go_wp2_with fail
    refine (O.out _ ((below_alloc w _).step (below_alloc _ _))).mono ?_
    rintro e w1 ⟨u, rfl, hu, hb1⟩
    obtain ⟨a1, c1, rfl⟩ := OwnBytes.form hu
    have hI : VarAt w1 w.heap.size 43 (.slice a b.length cap) := blk_below (blk_below (heap_alloc_new w _) (below_alloc _ _)) hb1
    have hR : w1.heap[w.heap.size + 1]? = some (.cells #[.int .i64 0, .int .i64 0, .slice none 0 0] 24 (0, 0)) := blk_new hb1 (by simp)
    have hs1 : w.heap.size + 2 ≤ w1.heap.size := by have := hb1.size; simpa using this
    have hbw := ((below_alloc w _).step (below_alloc _ _)).step hb1
    have hR1 := fun X => blk_below hR (below_alloc w1 X)
    have hI1 := fun X => hI.below (below_alloc w1 X)
    clear hb1
    go_wp2_with (first
      | (refine wpList_store_var rfl 43 (.tmp 1) (.tmp 15) rfl (by kernel_rfl) w.heap.size 43 _ (.slice a1 ol.length c1) (hI1 _) rfl rfl rfl ?_; intro w2 hI2 hg2 hz2; have hR2 := heap_kept (hR1 _) hg2 (by omega); have hE2 : VarAt w2 w1.heap.size 44 (.int .i64 0) := heap_kept (heap_alloc_new w1 _) hg2 (by omega); have hb2 := (hbw.step (below_alloc w1 _)).trans (below_grown hg2 (by simp; omega) fun k hk => by cases hk; exact Nat.le_refl _))
      | (refine wpList_store_var rfl 44 (.tmp 4) (.tmp 16) rfl (by kernel_rfl) w1.heap.size 44 _ (.int .i64 oe) hE2 rfl rfl rfl ?_; intro w3 hE3 hg3 hz3; have hR3 := heap_kept hR2 hg3 (by omega); have hb3 := hb2.trans (below_grown hg3 hb2.size fun k hk => by cases hk; omega); have cE := hE3.cell))
    obtain ⟨r0, r1, r2, rf⟩ := row3 hR3
    go_region
    go_wp2
    exact bodyPost_ret (v := .tuple #[.agg #[.int .i64 0, .int .i64 0, .slice none 0 0], .int .i64 oe]) (by simp [results, Tryz.results25, go_sem, r0, r1, r2]) rfl ⟨_, by rw [Hm.out], by rw [Hm.out]; exact OwnPcs.nil _ _, (((hb3.setCell (p := ⟨w.heap.size + 1, 0, none⟩) (by simp) _).setCell (p := ⟨w.heap.size + 1, 1, none⟩) (by simp) _).setCell (p := ⟨w.heap.size + 1, 2, none⟩) (by simp) _).drew⟩
end Go.Proofs.YtcpecponmaakoaaGreatDoor
