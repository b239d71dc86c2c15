/- Walks of the program: what is left of each batch, behind pointers. -/
import Derived.Test.YtceamgkifjmbcaaMath5
import Derived.Deep.OwnRows

namespace Go.Proofs.Ytceamgkifjmbcaa
open Go.RowKit Go.Wm
theorem Try.inf60 : (Try.prog.info? 60).map (fun i => (i.zero, i.size, i.bytes)) = some (some (.pointer none), 1, 8) := by kernel_rfl
/-- A cell that holds what is left of a batch: a pointer to it, or nil. -/
def KeptAt (w : World) (base : Nat) (v : Value) : Option Batch → Prop
  | none => v = .pointer none
  | some y => ∃ B sv, base ≤ B ∧ v = .pointer (some ⟨B, 0, none⟩) ∧ BatchAt w B 0 y sv ∧ OwnRecs w base sv y.recs ∧ smallRecs y.recs
theorem KeptAt.below {w w' : World} {base : Nat} {v : Value} {y : Option Batch} (h : KeptAt w base v y) (hb : Below w.heap.size w w') : KeptAt w' base v y := by
  cases y with
  | none => exact h
  | some y =>
    obtain ⟨B, sv, h1, h2, h3, h4, h5⟩ := h
    exact ⟨B, sv, h1, h2, h3.mono hb, h4.below hb, h5⟩
theorem _root_.Go.Wm.BatchAt.grown {w w' : World} {b o : Nat} {x : Batch} {sv : Value} {A : Nat} (h : BatchAt w b o x sv) (hg : w.grownBy w' (some A)) (hne : b ≠ A) : BatchAt w' b o x sv := by
  have T : ∀ {j : Nat} {v : Value}, w.cell? ⟨b, j, none⟩ = some v → w'.cell? ⟨b, j, none⟩ = some v := by
    intro j v hc
    have := hg.block b (lt_of_cell hc) (by simpa using hne)
    exact (World.cell?_of_block (w := w) (w' := w') (a := ⟨b, j, none⟩) this).trans hc
  exact ⟨T h.c0, T h.c1, T h.c2, T h.c3, T h.c4, T h.c5, T h.c6, T h.c7, T h.c8, T h.c9⟩
theorem KeptAt.grown {w w' : World} {base A : Nat} {v : Value} {y : Option Batch} (h : KeptAt w base v y) (hg : w.grownBy w' (some A)) (hA : A < base) : KeptAt w' base v y := by
  cases y with
  | none => exact h
  | some y =>
    obtain ⟨B, sv, h1, h2, h3, h4, h5⟩ := h
    exact ⟨B, sv, h1, h2, h3.grown hg (by omega), World.ownsRow.kept h4 hg (own_not h4 hA), h5⟩
/-- The first k cells of a row of n pointers hold what is left of the first k batches. -/
def AllAt (w : World) (base A n : Nat) (g : Nat → Option Batch) (k : Nat) : Prop :=
  ∃ f : Nat → Value, w.rowIs A 60 n f ∧ (∀ j, j < k → KeptAt w base (f j) (g j)) ∧ ∀ j, k ≤ j → j < n → f j = .pointer none
theorem rowIs_below {w w' : World} {b : Nat} {t : TypeId} {n : Nat} {f : Nat → Value} (h : w.rowIs b t n f) (hb : Below w.heap.size w w') : w'.rowIs b t n f := h.of_block (hb.block b h.lt)
theorem AllAt.below {w w' : World} {base A n : Nat} {g : Nat → Option Batch} {k : Nat} (h : AllAt w base A n g k) (hb : Below w.heap.size w w') : AllAt w' base A n g k :=
  let ⟨f, h1, h2, h3⟩ := h; ⟨f, rowIs_below h1 hb, fun j hj => (h2 j hj).below hb, h3⟩
/-- A batch that does not stay: the cell stays nil. -/
theorem AllAt.skip {w : World} {base A n : Nat} {g : Nat → Option Batch} {k : Nat} (h : AllAt w base A n g k) (hk : k < n) (hg : g k = none) : AllAt w base A n g (k + 1) := by
  obtain ⟨f, h1, h2, h3⟩ := h
  refine ⟨f, h1, fun j hj => ?_, fun j h4 h5 => h3 j (by omega) h5⟩
  by_cases hjk : j = k
  · subst hjk; rw [hg]; exact h3 j (Nat.le_refl _) hk
  · exact h2 j (by omega)
/-- A batch that stays: a pointer to it is stored. -/
theorem AllAt.store {w : World} {base A n : Nat} {g : Nat → Option Batch} {k : Nat} (h : AllAt w base A n g k) (hA : A < base) (y : Batch) (hg : g k = some y) (N : Nat) (sv : Value) (hN : base ≤ N)
    (hy : BatchAt w N 0 y sv) (hr : OwnRecs w base sv y.recs) (hs : smallRecs y.recs) : AllAt (w.setCell ⟨A, k, none⟩ (.pointer (some ⟨N, 0, none⟩))) base A n g (k + 1) := by
  obtain ⟨f, h1, h2, h3⟩ := h
  have hgr := grown_setCell w A k (.pointer (some ⟨N, 0, none⟩))
  refine ⟨_, h1.set k _, fun j hj => ?_, fun j h4 h5 => ?_⟩
  · by_cases hjk : j = k
    · subst hjk
      simp only [if_true]
      rw [hg]
      exact ⟨N, sv, hN, rfl, hy.grown hgr (by omega), World.ownsRow.kept hr hgr (own_not hr hA), hs⟩
    · simp only [if_neg hjk]; exact (h2 j (by omega)).grown hgr hA
  · have hjk : ¬ j = k := by omega
    simp only [if_neg hjk]; exact h3 j (by omega) h5
theorem rowIs_cells {w : World} {b : Nat} {t : TypeId} {n : Nat} {f : Nat → Value} (h : w.rowIs b t n f) : ∃ c, w.heap[b]? = some (.cells c t (0, 0)) := let ⟨c, hb, _⟩ := h; ⟨c, hb⟩
theorem RowMap.ne_row {w : World} {m n : Nat} {F : Int → Value} (h : RowMap w m n F) {A : Nat} {c : Array Value} {t : TypeId} (hA : w.heap[A]? = some (.cells c t (0, 0))) : some m ≠ some A := by
  obtain ⟨D, ⟨es, clock, hb, _⟩, _⟩ := h
  intro e
  cases e
  rw [hb] at hA
  cases hA
theorem wf_of (x : Int) (h : -9223372036854775808 ≤ x ∧ x ≤ 9223372036854775807) : (Lit.int .i64 x).wf = true := WalkArith.wf_i64 h
def AllRes (n : Nat) (g : Nat → Option Batch) (w : World) (e : Ending) (w' : World) : Prop :=
  ∃ A, e = .returned (.slice (some ⟨A, 0, none⟩) n n) ∧ w.heap.size ≤ A ∧ AllAt w' (w.heap.size + 2) A n g n ∧ Below w.heap.size w w'
theorem smallAt {w : World} {v : Value} {bs : List Batch} (h : BatchesAt w v bs) (i : Nat) (x : Batch) (hx : bs[i]? = some x) : smallRecs x.recs := by
  obtain ⟨a, cap, rfl, hn, hs⟩ := h
  obtain ⟨b', o, _, h⟩ := hs i (List.getElem?_eq_some_iff.1 hx).1
  obtain ⟨sv, _, hr⟩ := h x hx
  exact smallOf hr
theorem pleftTo_mem (f : ByteArray → Int × Int) (now keep : Int) (i : Nat) (x : Batch) : ∀ k, ∀ r ∈ pleftTo f now keep i x k, r ∈ x.recs
  | 0 => by simp [pleftTo]
  | k + 1 => by
    have ih := pleftTo_mem f now keep i x k
    intro r hr
    simp only [pleftTo] at hr
    split at hr
    · rename_i r' hr'
      split at hr
      · rcases List.mem_append.1 hr with h | h
        · exact ih r h
        · simp at h; subst h; exact List.mem_of_getElem? hr'
      · exact ih r hr
    · exact ih r hr
theorem pleftG_small {l : List Gone} {to : Int} {f : ByteArray → Int × Int} {now keep : Int} {i : Nat} {x : Batch} (h : smallRecs x.recs) : smallRecs (pleftG l to f now keep i x) := by
  unfold pleftG
  split
  · exact ⟨Nat.le_trans (pleftTo_length _ _ _ _ _ _) h.1, fun r hr => h.2 r (pleftTo_mem _ _ _ _ _ _ r hr)⟩
  · exact ⟨by simp, by simp⟩
theorem batch_of_row {w : World} {b : Nat} {x : Batch} {sv : Value} (h : w.heap[b]? = some (.cells #[.int .i64 x.base, .int .i64 x.last, .int .i64 x.frm, .int .i64 x.epoch, .int .i64 x.pid, .int .i64 x.gen, .int .i64 x.seq, .bool x.txn, .int .i64 x.ctl, sv] 28 (0, 0))) : BatchAt w b 0 x sv := by
  obtain ⟨k0, k1, k2, k3, k4, k5, k6, k7, k8, k9⟩ := cells10 h
  exact ⟨k0, k1, k2, k3, k4, k5, k6, k7, k8, k9⟩
set_option maxRecDepth 100000 in
set_option maxHeartbeats 4000000 in
theorem all_any (bs : List Batch) (l : List Gone) (vb vl : Value) (R : Nat) (to now keep : Int) (m n : Nat) (e : Int) (f : ByteArray → Int × Int) (w : World)
    (hr : RulesAt w R vb vl to now keep m e) (hb : BatchesAt w vb bs) (hl : GonesAt w vl l) (hm : PlaceMap w m n f) (hp : ∀ x ∈ bs, (Lit.int .i64 x.pid).wf = true) :
    Calls Try.prog 30 #[.pointer (some ⟨R, 0, none⟩)] w (AllRes bs.length (pallAt bs l to f now keep e) w) := by
  have hbw := hb
  have Hsm := hid (smallAt hb)
  obtain ⟨a, cap, rfl, hn, hs⟩ := hb
  have hmk := fun W => run_make_row' (P := Try.prog) 56 60 (.pointer none) 8 Try.underlying56 Try.inf60 rfl .i64 .i64 bs.length (by omega) (by omega) W
  have O := hid (fun W (h : Below w.heap.size w W) => owns_any bs _ W (hbw.mono h) hp)
  have Hr := hid hr
  have hRlt := lt_of_cell hr.c0
  have c0 := fun X => cell_alloc_old X hr.c0
  have c0' := fun X Y => cell_alloc_old Y (cell_alloc_old X hr.c0)
  rcases hs.shape with ⟨b', o, rfl, hc⟩ | h0
  · have Hc := hid hc
    clear hs hc hr
    go_enter Try.func30, Try.ntmps30
    go_wp2_with fail
    refine (O.out _ ((below_alloc _ _).step (below_alloc _ _))).mono ?_
    rintro e1 w1 ⟨mm, nn, mo, F, G, rfl, hO, hb1⟩
    have hB1 : Below w.heap.size w w1 := ((below_alloc _ _).step (below_alloc _ _)).step hb1
    have hBR := cell_below hb1 (show ((w.alloc (.cells #[.pointer (some ⟨R, 0, none⟩)] 57)).alloc (.cells (madeCells #[.pointer none] bs.length) 60)).cell? ⟨w.heap.size, 0, none⟩ = some (.pointer (some ⟨R, 0, none⟩)) by simp)
    have hA0 := rowIs_below (World.rowIs_made (w.alloc (.cells #[.pointer (some ⟨R, 0, none⟩)] 57)) (.pointer none) bs.length 60) hb1
    rw [size_alloc] at hA0
    rw [size_alloc, size_alloc] at hO
    have hRM := hid hO.mt
    have hGI := hid hO.rg
    clear hO hmk c0 c0'
    have d0 := (Hr.out.mono hB1).c0
    have hsz1 : w.heap.size + 2 ≤ w1.heap.size := by have := hb1.size; simpa using this
    clear hb1
    go_wp2
    clear d0
    go_loopw [24] (fun q wr => ∃ i : Nat, i ≤ bs.length ∧ q = .int .i64 i ∧ Below w.heap.size w wr ∧ w.heap.size + 2 ≤ wr.heap.size ∧ wr.cell? ⟨w.heap.size, 0, none⟩ = some (.pointer (some ⟨R, 0, none⟩)) ∧ RowMap wr mm nn G ∧ (∀ k, OwnInts wr (w.heap.size + 2) (G k) (outTo bs bs.length k)) ∧ AllAt wr (w.heap.size + 2) (w.heap.size + 1) bs.length (pallAt bs l to f now keep e) i) (fun q _ => bs.length - (intOf q).toNat)
    case atStart => exact ⟨0, by omega, rfl, hB1, hsz1, hBR, hRM.out, hGI.out, _, hA0, fun j hj => by omega, fun _ _ _ => rfl⟩
    case round =>
      obtain ⟨i, hi, rfl, hwr, hszr, hBR, hRM, hGI, hAll⟩ := hrel
      by_cases hlt : i < bs.length
      · obtain ⟨x, hx⟩ : ∃ x, bs[i]? = some x := ⟨_, List.getElem?_eq_getElem hlt⟩
        obtain ⟨sv, hxa, hxr⟩ := Hc.out i hlt x hx
        have hsm := Hsm.out i x hx
        have Hx := hid hx
        have PA := hid (show pallAt bs l to f now keep e i = pkeep bs l to f now keep e i x by unfold pallAt; rw [hx])
        have hxr' := (hxr.mono hwr)
        obtain ⟨e0, e1, e2, e3, e4, e5, e6, e7, e8, e9⟩ := hxa.mono hwr
        obtain ⟨a2, cap2, rfl, hn2⟩ := hxr.form
        have C := hid (fun X => clone_any x.recs _ _ (hxr'.mono (below_alloc wr X)))
        have L := hid (fun W (h : Below w.heap.size w W) => pleft_any bs l _ vl R to now keep m n e f i x hx W (Hr.out.mono h) (hbw.mono h) (hl.mono h) (hm.below h))
        clear hxr hxr' hxa hx hB1 hsz1 hA0
        go_wp2_with fail
        refine (C.out _).mono ?_
        rintro e2' w2 ⟨u, rfl, hu, hb2⟩
        obtain ⟨a4, cap4, rfl⟩ := OwnRecs.form hu
        have HN := hid (blk_below (heap_alloc_new _ _) hb2)
        have hlt2 : wr.heap.size < w2.heap.size := by have := hb2.size; simp at this; omega
        obtain ⟨p0, p1, p2, p3, p4, p5, p6, p7, p8, p9⟩ := cells10 HN.out
        have fz := frozen_of_row HN.out
        clear e0 e1 e2 e3 e4 e5 e6 e7 e8 e9
        go_wp2
        refine wp_name fun W hW => ?_
        have hBW : Below wr.heap.size wr W := by rw [hW]; exact ((below_alloc _ _).step hb2).setCell (p := ⟨wr.heap.size, 9, none⟩) (Nat.le_refl _) _
        have HNW := hid (show W.heap[wr.heap.size]? = some (.cells #[.int .i64 x.base, .int .i64 x.last, .int .i64 x.frm, .int .i64 x.epoch, .int .i64 x.pid, .int .i64 x.gen, .int .i64 x.seq, .bool x.txn, .int .i64 x.ctl, .slice a4 x.recs.length cap4] 28 (0, 0)) by rw [hW]; have := setCell_row HN.out 9 (.slice a4 x.recs.length cap4); simpa using this)
        have hOW : OwnRecs W (wr.heap.size + 1) (.slice a4 x.recs.length cap4) x.recs := by
          have hu' : OwnRecs w2 (wr.heap.size + 1) (.slice a4 x.recs.length cap4) x.recs := by simpa using hu
          rw [hW]; exact ownsRow_setCell_below hu' (a := ⟨wr.heap.size, 9, none⟩) (by simp) _
        have hWsz : wr.heap.size < W.heap.size := (Array.getElem?_eq_some_iff.1 HNW.out).1
        clear hW p0 p1 p2 p3 p4 p5 p6 p7 p8 p9 fz hu
        have hrW := Hr.out.mono (hwr.step hBW)
        obtain ⟨k0, k1, k2, k3, k4, k5, k6, k7, k8, k9⟩ := cells10 HNW.out
        have q1 := Later.cell k1
        have q8 := Later.cell k8
        have q9 := Later.cell k9
        have qB := Later.cell (cell_below hBW hBR)
        have qr2 := Later.cell hrW.c2
        have qr6 := Later.cell hrW.c6
        clear k0 k1 k2 k3 k4 k5 k6 k7 k8 k9 hrW
        have PS0 := hid (show pstayB bs l to f now keep e i x = (decide (to ≤ x.last) || (((i : Int) == e) || (if (x.ctl == 0) = true then decide (0 < (pleftG l to f now keep i x).length) else (outTo bs bs.length (i : Int)).any (pHas bs l to f now keep)))) from rfl)
        rcases Bool.eq_false_or_eq_true (decide (to ≤ x.last)) with h1 | h1
        · have PS := hid (show pstayB bs l to f now keep e i x = true by rw [PS0.out, h1]; rfl)
          refine wp_region_later (by kernel_rfl) (by kernel_rfl) ?_
          repeat (go_big_quiet_step (fail))
          refine wpQuiet_nil ?_
          intro w3 hb3
          clear q1 q8 q9 qB qr2 qr6
          have hbx := hBW.step hb3
          have k3 := cells10 (blk_below HNW.out hb3)
          obtain ⟨k0, k1, k2, k3, k4, k5, k6, k7, k8, k9⟩ := k3
          have qB := cell_below hbx hBR
          have hr3 := Hr.out.mono (hwr.step hbx)
          have q1 := Later.cell k1
          have q2 := Later.cell qB
          have q3 := Later.cell hr3.c2
          clear k0 k1 k2 k3 k4 k5 k6 k7 k8 k9 hr3 qB
          go_wp2

          refine wp_region_later (by kernel_rfl) (by kernel_rfl) ?_
          repeat (go_big_quiet_step (fail))
          refine wpQuiet_nil ?_
          intro w4 hb4
          clear q1 q2 q3
          have hby := hbx.step hb4
          have HN4 := hid (blk_below (blk_below HNW.out hb3) hb4)

          have hAX := hAll.below hby
          have hRMX := hRM.below hby
          have hGIX := fun k => (hGI k).below hby
          have hBRX := cell_below hby hBR
          have hszX := hby.size
          obtain ⟨fA, hfA, _, _⟩ := id hAX
          have cA := hfA.cell hlt
          have zA := hfA.frozen i
          have hAc := (rowIs_cells hfA)
          go_wp2
          go_roundw
          case rel =>
            refine ⟨i + 1, by omega, by go_num, (hwr.step hby).setCell (p := ⟨w.heap.size + 1, i, none⟩) (by simp) _, by simp [World.setCell]; omega, ?_, ?_, ?_, ?_⟩
            · exact ((grown_setCell _ (w.heap.size + 1) i _).cell (a := ⟨w.heap.size, 0, none⟩) hBRX (by simp))
            · obtain ⟨cc, hcc⟩ := hAc
              exact hRMX.kept (grown_setCell _ (w.heap.size + 1) i _) (hRMX.ne_row hcc)
            · exact fun k => World.ownsRow.kept (hGIX k) (grown_setCell _ (w.heap.size + 1) i _) (own_not (hGIX k) (by omega))
            · exact hAX.store (by omega) { x with recs := x.recs } (by rw [PA.out]; unfold pkeep; rw [if_pos PS.out]; unfold pcleanedRecs; rw [if_pos h1]) wr.heap.size (.slice a4 x.recs.length cap4) (by omega) (batch_of_row HN4.out) (OwnRecs.base ((hOW.below hb3).below hb4) (by omega)) (hsm)
          case measure => simp [intOf]; omega
        · have h1f := hid h1
          rcases Bool.eq_false_or_eq_true (x.ctl == 0) with h2 | h2
          · have h2f := hid h2
            rcases Bool.eq_false_or_eq_true ((i : Int) == e) with h3 | h3
            · have PS := hid (show pstayB bs l to f now keep e i x = true by rw [PS0.out, h3]; simp)
              refine wp_region_later (by kernel_rfl) (by kernel_rfl) ?_
              repeat (go_big_quiet_step (fail))
              refine wpQuiet_nil ?_
              intro w3 hb3
              clear q1 q8 q9 qB qr2 qr6
              have hbx := hBW.step hb3
              have k3 := cells10 (blk_below HNW.out hb3)
              obtain ⟨k0, k1, k2, k3, k4, k5, k6, k7, k8, k9⟩ := k3
              have qB := cell_below hbx hBR
              have hr3 := Hr.out.mono (hwr.step hbx)
              have q1 := Later.cell k1
              have q2 := Later.cell qB
              have q3 := Later.cell hr3.c2
              clear k0 k1 k2 k3 k4 k5 k6 k7 k8 k9 hr3 qB
              go_wp2

              refine wp_region_later (by kernel_rfl) (by kernel_rfl) ?_
              repeat (go_big_quiet_step (fail))
              refine wpQuiet_nil ?_
              intro w4 hb4
              clear q1 q2 q3
              have hby := hbx.step hb4
              have HN4 := hid (blk_below (blk_below HNW.out hb3) hb4)

              obtain ⟨k0, k1, k2, k3, k4, k5, k6, k7, k8, k9⟩ := cells10 HN4.out
              have qB := cell_below hby hBR

              go_wp2_with fail
              refine (L.out _ (hwr.step hby)).mono ?_
              rintro e5 w5 ⟨u5, rfl, hu5, hb5⟩
              obtain ⟨a5, cap5, rfl⟩ := OwnRecs.form hu5
              have HN5 := hid (blk_below HN4.out hb5)
              clear k0 k1 k2 k3 k4 k5 k6 k7 k8 k9 qB
              obtain ⟨k0, k1, k2, k3, k4, k5, k6, k7, k8, k9⟩ := cells10 HN5.out
              have fz := frozen_of_row HN5.out
              have hbz := hby.step hb5
              have hsz5 : wr.heap.size < w5.heap.size := (Array.getElem?_eq_some_iff.1 HN5.out).1
              have hbs : Below wr.heap.size wr (w5.setCell ⟨wr.heap.size, 9, none⟩ (.slice a5 (pleftG l to f now keep i x).length cap5)) := hbz.setCell (p := ⟨wr.heap.size, 9, none⟩) (Nat.le_refl _) _
              have HNs := hid (show (w5.setCell ⟨wr.heap.size, 9, none⟩ (.slice a5 (pleftG l to f now keep i x).length cap5)).heap[wr.heap.size]? = some (.cells #[.int .i64 x.base, .int .i64 x.last, .int .i64 x.frm, .int .i64 x.epoch, .int .i64 x.pid, .int .i64 x.gen, .int .i64 x.seq, .bool x.txn, .int .i64 x.ctl, .slice a5 (pleftG l to f now keep i x).length cap5] 28 (0, 0)) by have := setCell_row HN5.out 9 (.slice a5 (pleftG l to f now keep i x).length cap5); simpa using this)
              have hOs : OwnRecs (w5.setCell ⟨wr.heap.size, 9, none⟩ (.slice a5 (pleftG l to f now keep i x).length cap5)) (wr.heap.size + 1) (.slice a5 (pleftG l to f now keep i x).length cap5) (pleftG l to f now keep i x) :=
                ownsRow_setCell_below (OwnRecs.base hu5 (by have := hb4.size; have := hb3.size; omega)) (a := ⟨wr.heap.size, 9, none⟩) (by simp) _

              have hAX := hAll.below hbs
              have hRMX := hRM.below hbs
              have hGIX := fun k => (hGI k).below hbs
              have hBRX := cell_below hbs hBR
              have hszX := hbs.size
              obtain ⟨fA, hfA, _, _⟩ := id hAX
              have cA := hfA.cell hlt
              have zA := hfA.frozen i
              have hAc := (rowIs_cells hfA)
              go_wp2
              go_roundw
              case rel =>
                refine ⟨i + 1, by omega, by go_num, (hwr.step hbs).setCell (p := ⟨w.heap.size + 1, i, none⟩) (by simp) _, by simp [World.setCell]; omega, ?_, ?_, ?_, ?_⟩
                · exact ((grown_setCell _ (w.heap.size + 1) i _).cell (a := ⟨w.heap.size, 0, none⟩) hBRX (by simp))
                · obtain ⟨cc, hcc⟩ := hAc
                  exact hRMX.kept (grown_setCell _ (w.heap.size + 1) i _) (hRMX.ne_row hcc)
                · exact fun k => World.ownsRow.kept (hGIX k) (grown_setCell _ (w.heap.size + 1) i _) (own_not (hGIX k) (by omega))
                · exact hAX.store (by omega) { x with recs := pleftG l to f now keep i x } (by rw [PA.out]; unfold pkeep; rw [if_pos PS.out]; unfold pcleanedRecs; rw [if_neg (by rw [h1f.out]; simp), if_pos (by rw [h2f.out])]) wr.heap.size (.slice a5 (pleftG l to f now keep i x).length cap5) (by omega) (batch_of_row HNs.out) (OwnRecs.base hOs (by omega)) (pleftG_small hsm)
              case measure => simp [intOf]; omega
            · rcases Bool.eq_false_or_eq_true (decide (0 < (pleftG l to f now keep i x).length)) with h4 | h4
              · have PS := hid (show pstayB bs l to f now keep e i x = true by rw [PS0.out, h2, h4]; simp)
                refine wp_region_later (by kernel_rfl) (by kernel_rfl) ?_
                repeat (go_big_quiet_step (fail))
                refine wpQuiet_nil ?_
                intro w3 hb3
                clear q1 q8 q9 qB qr2 qr6
                have hbx := hBW.step hb3
                have k3 := cells10 (blk_below HNW.out hb3)
                obtain ⟨k0, k1, k2, k3, k4, k5, k6, k7, k8, k9⟩ := k3
                have qB := cell_below hbx hBR
                have hr3 := Hr.out.mono (hwr.step hbx)
                have q1 := Later.cell k1
                have q2 := Later.cell qB
                have q3 := Later.cell hr3.c2
                clear k0 k1 k2 k3 k4 k5 k6 k7 k8 k9 hr3 qB
                go_wp2

                refine wp_region_later (by kernel_rfl) (by kernel_rfl) ?_
                repeat (go_big_quiet_step (fail))
                refine wpQuiet_nil ?_
                intro w4 hb4
                clear q1 q2 q3
                have hby := hbx.step hb4
                have HN4 := hid (blk_below (blk_below HNW.out hb3) hb4)

                obtain ⟨k0, k1, k2, k3, k4, k5, k6, k7, k8, k9⟩ := cells10 HN4.out
                have qB := cell_below hby hBR
                have h4' : (0 : Int) < ((pleftG l to f now keep i x).length : Int) := by have := of_decide_eq_true h4; omega
                clear h4

                go_wp2_with fail
                refine (L.out _ (hwr.step hby)).mono ?_
                rintro e5 w5 ⟨u5, rfl, hu5, hb5⟩
                obtain ⟨a5, cap5, rfl⟩ := OwnRecs.form hu5
                have HN5 := hid (blk_below HN4.out hb5)
                clear k0 k1 k2 k3 k4 k5 k6 k7 k8 k9 qB
                obtain ⟨k0, k1, k2, k3, k4, k5, k6, k7, k8, k9⟩ := cells10 HN5.out
                have fz := frozen_of_row HN5.out
                have hbz := hby.step hb5
                have hsz5 : wr.heap.size < w5.heap.size := (Array.getElem?_eq_some_iff.1 HN5.out).1
                have hbs : Below wr.heap.size wr (w5.setCell ⟨wr.heap.size, 9, none⟩ (.slice a5 (pleftG l to f now keep i x).length cap5)) := hbz.setCell (p := ⟨wr.heap.size, 9, none⟩) (Nat.le_refl _) _
                have HNs := hid (show (w5.setCell ⟨wr.heap.size, 9, none⟩ (.slice a5 (pleftG l to f now keep i x).length cap5)).heap[wr.heap.size]? = some (.cells #[.int .i64 x.base, .int .i64 x.last, .int .i64 x.frm, .int .i64 x.epoch, .int .i64 x.pid, .int .i64 x.gen, .int .i64 x.seq, .bool x.txn, .int .i64 x.ctl, .slice a5 (pleftG l to f now keep i x).length cap5] 28 (0, 0)) by have := setCell_row HN5.out 9 (.slice a5 (pleftG l to f now keep i x).length cap5); simpa using this)
                have hOs : OwnRecs (w5.setCell ⟨wr.heap.size, 9, none⟩ (.slice a5 (pleftG l to f now keep i x).length cap5)) (wr.heap.size + 1) (.slice a5 (pleftG l to f now keep i x).length cap5) (pleftG l to f now keep i x) :=
                  ownsRow_setCell_below (OwnRecs.base hu5 (by have := hb4.size; have := hb3.size; omega)) (a := ⟨wr.heap.size, 9, none⟩) (by simp) _

                have hAX := hAll.below hbs
                have hRMX := hRM.below hbs
                have hGIX := fun k => (hGI k).below hbs
                have hBRX := cell_below hbs hBR
                have hszX := hbs.size
                obtain ⟨fA, hfA, _, _⟩ := id hAX
                have cA := hfA.cell hlt
                have zA := hfA.frozen i
                have hAc := (rowIs_cells hfA)
                go_wp2
                go_roundw
                case rel =>
                  refine ⟨i + 1, by omega, by go_num, (hwr.step hbs).setCell (p := ⟨w.heap.size + 1, i, none⟩) (by simp) _, by simp [World.setCell]; omega, ?_, ?_, ?_, ?_⟩
                  · exact ((grown_setCell _ (w.heap.size + 1) i _).cell (a := ⟨w.heap.size, 0, none⟩) hBRX (by simp))
                  · obtain ⟨cc, hcc⟩ := hAc
                    exact hRMX.kept (grown_setCell _ (w.heap.size + 1) i _) (hRMX.ne_row hcc)
                  · exact fun k => World.ownsRow.kept (hGIX k) (grown_setCell _ (w.heap.size + 1) i _) (own_not (hGIX k) (by omega))
                  · exact hAX.store (by omega) { x with recs := pleftG l to f now keep i x } (by rw [PA.out]; unfold pkeep; rw [if_pos PS.out]; unfold pcleanedRecs; rw [if_neg (by rw [h1f.out]; simp), if_pos (by rw [h2f.out])]) wr.heap.size (.slice a5 (pleftG l to f now keep i x).length cap5) (by omega) (batch_of_row HNs.out) (OwnRecs.base hOs (by omega)) (pleftG_small hsm)
                case measure => simp [intOf]; omega
              · have PS := hid (show pstayB bs l to f now keep e i x = false by rw [PS0.out, h1, h2, h3, h4]; simp)
                refine wp_region_later (by kernel_rfl) (by kernel_rfl) ?_
                repeat (go_big_quiet_step (fail))
                refine wpQuiet_nil ?_
                intro w3 hb3
                clear q1 q8 q9 qB qr2 qr6
                have hbx := hBW.step hb3
                have k3 := cells10 (blk_below HNW.out hb3)
                obtain ⟨k0, k1, k2, k3, k4, k5, k6, k7, k8, k9⟩ := k3
                have qB := cell_below hbx hBR
                have hr3 := Hr.out.mono (hwr.step hbx)
                have q1 := Later.cell k1
                have q2 := Later.cell qB
                have q3 := Later.cell hr3.c2
                clear k0 k1 k2 k3 k4 k5 k6 k7 k8 k9 hr3 qB
                go_wp2

                refine wp_region_later (by kernel_rfl) (by kernel_rfl) ?_
                repeat (go_big_quiet_step (fail))
                refine wpQuiet_nil ?_
                intro w4 hb4
                clear q1 q2 q3
                have hby := hbx.step hb4
                have HN4 := hid (blk_below (blk_below HNW.out hb3) hb4)

                obtain ⟨k0, k1, k2, k3, k4, k5, k6, k7, k8, k9⟩ := cells10 HN4.out
                have qB := cell_below hby hBR
                have h4' : ¬ (0 : Int) < ((pleftG l to f now keep i x).length : Int) := by have := of_decide_eq_false h4; omega
                clear h4

                go_wp2_with fail
                refine (L.out _ (hwr.step hby)).mono ?_
                rintro e5 w5 ⟨u5, rfl, hu5, hb5⟩
                obtain ⟨a5, cap5, rfl⟩ := OwnRecs.form hu5
                have HN5 := hid (blk_below HN4.out hb5)
                clear k0 k1 k2 k3 k4 k5 k6 k7 k8 k9 qB
                obtain ⟨k0, k1, k2, k3, k4, k5, k6, k7, k8, k9⟩ := cells10 HN5.out
                have fz := frozen_of_row HN5.out
                have hbz := hby.step hb5
                have hsz5 : wr.heap.size < w5.heap.size := (Array.getElem?_eq_some_iff.1 HN5.out).1
                have hbs : Below wr.heap.size wr (w5.setCell ⟨wr.heap.size, 9, none⟩ (.slice a5 (pleftG l to f now keep i x).length cap5)) := hbz.setCell (p := ⟨wr.heap.size, 9, none⟩) (Nat.le_refl _) _
                have HNs := hid (show (w5.setCell ⟨wr.heap.size, 9, none⟩ (.slice a5 (pleftG l to f now keep i x).length cap5)).heap[wr.heap.size]? = some (.cells #[.int .i64 x.base, .int .i64 x.last, .int .i64 x.frm, .int .i64 x.epoch, .int .i64 x.pid, .int .i64 x.gen, .int .i64 x.seq, .bool x.txn, .int .i64 x.ctl, .slice a5 (pleftG l to f now keep i x).length cap5] 28 (0, 0)) by have := setCell_row HN5.out 9 (.slice a5 (pleftG l to f now keep i x).length cap5); simpa using this)
                have hOs : OwnRecs (w5.setCell ⟨wr.heap.size, 9, none⟩ (.slice a5 (pleftG l to f now keep i x).length cap5)) (wr.heap.size + 1) (.slice a5 (pleftG l to f now keep i x).length cap5) (pleftG l to f now keep i x) :=
                  ownsRow_setCell_below (OwnRecs.base hu5 (by have := hb4.size; have := hb3.size; omega)) (a := ⟨wr.heap.size, 9, none⟩) (by simp) _

                go_wp2
                go_roundw
                case rel => exact ⟨i + 1, by omega, by go_num, hwr.step hbs, Nat.le_trans hszr hbs.size, cell_below hbs hBR, hRM.below hbs, fun k => (hGI k).below hbs, (hAll.below hbs).skip hlt (by rw [PA.out]; unfold pkeep; rw [if_neg (by rw [PS.out]; simp)])⟩
                case measure => simp [intOf]; omega
          · have h2f := hid h2
            rcases Bool.eq_false_or_eq_true ((i : Int) == e) with h3 | h3
            · have PS := hid (show pstayB bs l to f now keep e i x = true by rw [PS0.out, h3]; simp)
              refine wp_region_later (by kernel_rfl) (by kernel_rfl) ?_
              repeat (go_big_quiet_step (fail))
              refine wpQuiet_nil ?_
              intro w3 hb3
              clear q1 q8 q9 qB qr2 qr6
              have hbx := hBW.step hb3
              have k3 := cells10 (blk_below HNW.out hb3)
              obtain ⟨k0, k1, k2, k3, k4, k5, k6, k7, k8, k9⟩ := k3
              have qB := cell_below hbx hBR
              have hr3 := Hr.out.mono (hwr.step hbx)
              have q1 := Later.cell k1
              have q2 := Later.cell qB
              have q3 := Later.cell hr3.c2
              clear k0 k1 k2 k3 k4 k5 k6 k7 k8 k9 hr3 qB
              go_wp2

              refine wp_region_later (by kernel_rfl) (by kernel_rfl) ?_
              repeat (go_big_quiet_step (fail))
              refine wpQuiet_nil ?_
              intro w4 hb4
              clear q1 q2 q3
              have hby := hbx.step hb4
              have HN4 := hid (blk_below (blk_below HNW.out hb3) hb4)
              obtain ⟨k0, k1, k2, k3, k4, k5, k6, k7, k8, k9⟩ := cells10 HN4.out

              have hAX := hAll.below hby
              have hRMX := hRM.below hby
              have hGIX := fun k => (hGI k).below hby
              have hBRX := cell_below hby hBR
              have hszX := hby.size
              obtain ⟨fA, hfA, _, _⟩ := id hAX
              have cA := hfA.cell hlt
              have zA := hfA.frozen i
              have hAc := (rowIs_cells hfA)
              go_wp2
              go_roundw
              case rel =>
                refine ⟨i + 1, by omega, by go_num, (hwr.step hby).setCell (p := ⟨w.heap.size + 1, i, none⟩) (by simp) _, by simp [World.setCell]; omega, ?_, ?_, ?_, ?_⟩
                · exact ((grown_setCell _ (w.heap.size + 1) i _).cell (a := ⟨w.heap.size, 0, none⟩) hBRX (by simp))
                · obtain ⟨cc, hcc⟩ := hAc
                  exact hRMX.kept (grown_setCell _ (w.heap.size + 1) i _) (hRMX.ne_row hcc)
                · exact fun k => World.ownsRow.kept (hGIX k) (grown_setCell _ (w.heap.size + 1) i _) (own_not (hGIX k) (by omega))
                · exact hAX.store (by omega) { x with recs := x.recs } (by rw [PA.out]; unfold pkeep; rw [if_pos PS.out]; unfold pcleanedRecs; rw [if_neg (by rw [h1f.out]; simp), if_neg (by rw [h2f.out]; simp)]) wr.heap.size (.slice a4 x.recs.length cap4) (by omega) (batch_of_row HN4.out) (OwnRecs.base ((hOW.below hb3).below hb4) (by omega)) (hsm)
              case measure => simp [intOf]; omega
            · rcases Bool.eq_false_or_eq_true ((outTo bs bs.length (i : Int)).any (pHas bs l to f now keep)) with h4 | h4
              · have PS := hid (show pstayB bs l to f now keep e i x = true by rw [PS0.out, h2, h4]; simp)
                refine wp_region_later (by kernel_rfl) (by kernel_rfl) ?_
                repeat (go_big_quiet_step (fail))
                refine wpQuiet_nil ?_
                intro w3 hb3
                clear q1 q8 q9 qB qr2 qr6
                have hbx := hBW.step hb3
                have k3 := cells10 (blk_below HNW.out hb3)
                obtain ⟨k0, k1, k2, k3, k4, k5, k6, k7, k8, k9⟩ := k3
                have qB := cell_below hbx hBR
                have hr3 := Hr.out.mono (hwr.step hbx)
                have q1 := Later.cell k1
                have q2 := Later.cell qB
                have q3 := Later.cell hr3.c2
                clear k0 k1 k2 k3 k4 k5 k6 k7 k8 k9 hr3 qB
                go_wp2

                refine wp_region_later (by kernel_rfl) (by kernel_rfl) ?_
                repeat (go_big_quiet_step (fail))
                refine wpQuiet_nil ?_
                intro w4 hb4
                clear q1 q2 q3
                have hby := hbx.step hb4
                have HN4 := hid (blk_below (blk_below HNW.out hb3) hb4)

                obtain ⟨k0, k1, k2, k3, k4, k5, k6, k7, k8, k9⟩ := cells10 HN4.out
                have LK := (hRM.below hby).look (i : Int) (wf_nat (by omega))
                have qB := cell_below hby hBR
                have hr4 := Hr.out.mono (hwr.step hby)
                have hGi := ((hGI (i : Int)).below hby).at (by have := openTo_length bs i x.pid; rw [outTo_of bs i x Hx.out (by simpa using h2f.out) bs.length hlt]; have := txnTo_length bs x.pid i; omega)
                have D := hid (intContains_any bs l _ vl w.heap.size R to now keep m n e f (outTo bs bs.length (i : Int)) (by rw [outTo_of bs i x Hx.out (by simpa using h2f.out) bs.length hlt]; intro k hk; have := txnTo_mem bs x.pid i k hk; omega) _ w4 qB hr4 (hbw.mono (hwr.step hby)) (hl.mono (hwr.step hby)) (hm.below (hwr.step hby)) hGi)
                rw [h4] at D
                clear hGi hr4
                go_wp2_with fail
                refine D.out.mono ?_
                rintro e5 w5 ⟨rfl, hb5⟩
                have hbz := hby.step hb5
                have HN5 := hid (blk_below HN4.out hb5)
                clear k0 k1 k2 k3 k4 k5 k6 k7 k8 k9 LK qB

                have hAX := hAll.below hbz
                have hRMX := hRM.below hbz
                have hGIX := fun k => (hGI k).below hbz
                have hBRX := cell_below hbz hBR
                have hszX := hbz.size
                obtain ⟨fA, hfA, _, _⟩ := id hAX
                have cA := hfA.cell hlt
                have zA := hfA.frozen i
                have hAc := (rowIs_cells hfA)
                go_wp2
                go_roundw
                case rel =>
                  refine ⟨i + 1, by omega, by go_num, (hwr.step hbz).setCell (p := ⟨w.heap.size + 1, i, none⟩) (by simp) _, by simp [World.setCell]; omega, ?_, ?_, ?_, ?_⟩
                  · exact ((grown_setCell _ (w.heap.size + 1) i _).cell (a := ⟨w.heap.size, 0, none⟩) hBRX (by simp))
                  · obtain ⟨cc, hcc⟩ := hAc
                    exact hRMX.kept (grown_setCell _ (w.heap.size + 1) i _) (hRMX.ne_row hcc)
                  · exact fun k => World.ownsRow.kept (hGIX k) (grown_setCell _ (w.heap.size + 1) i _) (own_not (hGIX k) (by omega))
                  · exact hAX.store (by omega) { x with recs := x.recs } (by rw [PA.out]; unfold pkeep; rw [if_pos PS.out]; unfold pcleanedRecs; rw [if_neg (by rw [h1f.out]; simp), if_neg (by rw [h2f.out]; simp)]) wr.heap.size (.slice a4 x.recs.length cap4) (by omega) (batch_of_row HN5.out) (OwnRecs.base (((hOW.below hb3).below hb4).below hb5) (by omega)) (hsm)
                case measure => simp [intOf]; omega
              · have PS := hid (show pstayB bs l to f now keep e i x = false by rw [PS0.out, h1, h2, h3, h4]; simp)
                refine wp_region_later (by kernel_rfl) (by kernel_rfl) ?_
                repeat (go_big_quiet_step (fail))
                refine wpQuiet_nil ?_
                intro w3 hb3
                clear q1 q8 q9 qB qr2 qr6
                have hbx := hBW.step hb3
                have k3 := cells10 (blk_below HNW.out hb3)
                obtain ⟨k0, k1, k2, k3, k4, k5, k6, k7, k8, k9⟩ := k3
                have qB := cell_below hbx hBR
                have hr3 := Hr.out.mono (hwr.step hbx)
                have q1 := Later.cell k1
                have q2 := Later.cell qB
                have q3 := Later.cell hr3.c2
                clear k0 k1 k2 k3 k4 k5 k6 k7 k8 k9 hr3 qB
                go_wp2

                refine wp_region_later (by kernel_rfl) (by kernel_rfl) ?_
                repeat (go_big_quiet_step (fail))
                refine wpQuiet_nil ?_
                intro w4 hb4
                clear q1 q2 q3
                have hby := hbx.step hb4
                have HN4 := hid (blk_below (blk_below HNW.out hb3) hb4)

                obtain ⟨k0, k1, k2, k3, k4, k5, k6, k7, k8, k9⟩ := cells10 HN4.out
                have LK := (hRM.below hby).look (i : Int) (wf_nat (by omega))
                have qB := cell_below hby hBR
                have hr4 := Hr.out.mono (hwr.step hby)
                have hGi := ((hGI (i : Int)).below hby).at (by have := openTo_length bs i x.pid; rw [outTo_of bs i x Hx.out (by simpa using h2f.out) bs.length hlt]; have := txnTo_length bs x.pid i; omega)
                have D := hid (intContains_any bs l _ vl w.heap.size R to now keep m n e f (outTo bs bs.length (i : Int)) (by rw [outTo_of bs i x Hx.out (by simpa using h2f.out) bs.length hlt]; intro k hk; have := txnTo_mem bs x.pid i k hk; omega) _ w4 qB hr4 (hbw.mono (hwr.step hby)) (hl.mono (hwr.step hby)) (hm.below (hwr.step hby)) hGi)
                rw [h4] at D
                clear hGi hr4
                go_wp2_with fail
                refine D.out.mono ?_
                rintro e5 w5 ⟨rfl, hb5⟩
                have hbz := hby.step hb5
                have HN5 := hid (blk_below HN4.out hb5)
                clear k0 k1 k2 k3 k4 k5 k6 k7 k8 k9 LK qB

                go_wp2
                go_roundw
                case rel => exact ⟨i + 1, by omega, by go_num, hwr.step hbz, Nat.le_trans hszr hbz.size, cell_below hbz hBR, hRM.below hbz, fun k => (hGI k).below hbz, (hAll.below hbz).skip hlt (by rw [PA.out]; unfold pkeep; rw [if_neg (by rw [PS.out]; simp)])⟩
                case measure => simp [intOf]; omega
      · have hie : i = bs.length := by omega
        have Hi := hid hie; clear hie
        go_wp2
        go_ret
        rw [Hi.out] at hAll
        exact ⟨w.heap.size + 1, rfl, by omega, hAll, hwr⟩
  · obtain rfl : bs = [] := List.eq_nil_of_length_eq_zero h0
    clear hs h0 hn hr
    simp only [List.length_nil] at hmk O hbw ⊢
    generalize 0 + cap = c1 at *
    have hmk0 : ∀ W, (Instr.makeSlice 56 (.int .i64 0) (.int .i64 0)).run Try.prog W = .ok (.slice (some ⟨W.heap.size, 0, none⟩) 0 0) (W.alloc (.cells (madeCells #[.pointer none] 0) 60)) := fun W => hmk W
    clear hmk
    go_enter Try.func30, Try.ntmps30
    go_wp2_with fail
    refine (O.out _ ((below_alloc _ _).step (below_alloc _ _))).mono ?_
    rintro e1 w1 ⟨mm, nn, mo, F, G, rfl, hO, hb1⟩
    have hB1 : Below w.heap.size w w1 := ((below_alloc _ _).step (below_alloc _ _)).step hb1
    have hBR := cell_below hb1 (show ((w.alloc (.cells #[.pointer (some ⟨R, 0, none⟩)] 57)).alloc (.cells (madeCells #[.pointer none] 0) 60)).cell? ⟨w.heap.size, 0, none⟩ = some (.pointer (some ⟨R, 0, none⟩)) by simp)
    have hA0 := rowIs_below (World.rowIs_made (w.alloc (.cells #[.pointer (some ⟨R, 0, none⟩)] 57)) (.pointer none) 0 60) hb1
    rw [size_alloc] at hA0
    clear hO hmk0
    have d0 := (Hr.out.mono hB1).c0
    clear hb1
    go_wp2
    refine wp_loop_once ?_
    go_wp2
    go_ret
    exact ⟨w.heap.size + 1, rfl, by omega, ⟨_, hA0, fun j hj => by omega, fun _ _ _ => rfl⟩, hB1⟩
end Go.Proofs.Ytceamgkifjmbcaa
