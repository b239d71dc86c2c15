/- Walks of the reference: Values. -/
import Derived.Test.YtceamgkifjmbcaaMath8
import Derived.Test.YtceamgkifjmbcaaW7
namespace Go.Proofs.Ytceamgkifjmbcaa
open Go.RowKit Go.Wm
/-- The values that a batch tells, of the first k of its records; of the first n batches. -/
def tellR (bs : List Batch) (l : List Gone) (to : Int) (i : Nat) (x : Batch) : Nat → List Rec
  | 0 => []
  | k + 1 => tellR bs l to i x k ++ (match x.recs[k]? with | some r => if (!r.key.toList.isEmpty && ((lastG bs l to r.key).1 == (i : Int) && ((lastG bs l to r.key).2 == (k : Int) && !r.dead))) = true then [r] else [] | none => [])
theorem tellR_succ (bs : List Batch) (l : List Gone) (to : Int) (i : Nat) (x : Batch) (k : Nat) (r : Rec) (h : x.recs[k]? = some r) :
    tellR bs l to i x (k + 1) = tellR bs l to i x k ++ (if (!r.key.toList.isEmpty && ((lastG bs l to r.key).1 == (i : Int) && ((lastG bs l to r.key).2 == (k : Int) && !r.dead))) = true then [r] else []) := by rw [tellR, h]
def tellTo (bs : List Batch) (l : List Gone) (to : Int) : Nat → List Rec
  | 0 => []
  | i + 1 => tellTo bs l to i ++ (match bs[i]? with | some x => tellR bs l to i x x.recs.length | none => [])
theorem tellTo_succ (bs : List Batch) (l : List Gone) (to : Int) (i : Nat) (x : Batch) (h : bs[i]? = some x) : tellTo bs l to (i + 1) = tellTo bs l to i ++ tellR bs l to i x x.recs.length := by rw [tellTo, h]
theorem tellR_le (bs : List Batch) (l : List Gone) (to : Int) (i : Nat) (x : Batch) : ∀ k, (tellR bs l to i x k).length ≤ k
  | 0 => by simp [tellR]
  | k + 1 => by
    have := tellR_le bs l to i x k
    rw [tellR, List.length_append]
    split
    · split <;> simp <;> omega
    · simp; omega
theorem tellTo_le (bs : List Batch) (l : List Gone) (to : Int) : ∀ n, n ≤ bs.length → (tellTo bs l to n).length ≤ recCount (bs.take n)
  | 0, _ => by simp [tellTo, recCount]
  | n + 1, h => by
    have ih := tellTo_le bs l to n (by omega)
    have hx : bs[n]? = some bs[n] := List.getElem?_eq_getElem (by omega)
    rw [tellTo_succ bs l to n _ hx, List.length_append, recCount_take bs n (by omega)]
    have := tellR_le bs l to n bs[n] bs[n].recs.length
    omega
theorem tell_rec (bs : List Batch) (l : List Gone) (to : Int) (i : Nat) (x : Batch) (hx : bs[i]? = some x) : ∀ k, k ≤ x.recs.length →
    (((((List.range k).map fun j => ((i : Int), ((j : Nat) : Int))).filter (isLast bs l to)).filterMap (recAt bs)).filter (fun r => !r.dead)) = tellR bs l to i x k
  | 0, _ => rfl
  | k + 1, hk => by
    have hr : x.recs[k]? = some x.recs[k] := List.getElem?_eq_getElem (by omega)
    have hrec : recAt bs ((i : Int), (k : Int)) = some x.recs[k] := by simp [recAt, hx, hr]
    rw [List.range_succ, List.map_append, List.filter_append, List.filterMap_append, List.filter_append, tell_rec bs l to i x hx k (by omega), tellR, hr]
    congr 1
    simp only [List.map_cons, List.map_nil]
    have hL : isLast bs l to ((i : Int), (k : Int)) = (!x.recs[k].key.toList.isEmpty && ((lastG bs l to x.recs[k].key).1 == (i : Int) && (lastG bs l to x.recs[k].key).2 == (k : Int))) := by simp only [isLast, hrec]; rfl
    rw [List.filter_cons, hL]
    cases h1 : x.recs[k].key.toList.isEmpty <;> cases h2 : ((lastG bs l to x.recs[k].key).1 == (i : Int)) <;> cases h3 : ((lastG bs l to x.recs[k].key).2 == (k : Int)) <;> cases h4 : x.recs[k].dead <;> simp [hrec, h4]
/-- The document's values are the program's. -/
theorem tell_eq (bs : List Batch) (l : List Gone) (to : Int) : tellTo bs l to bs.length = valuesG bs l to := by
  have key : ∀ n, n ≤ bs.length → tellTo bs l to n = (((placesTo bs n).filter (isLast bs l to)).filterMap (recAt bs)).filter (fun r => !r.dead) := by
    intro n
    induction n with
    | zero => intro _; rfl
    | succ n ih =>
      intro h
      have hx : bs[n]? = some bs[n] := List.getElem?_eq_getElem (by omega)
      rw [tellTo_succ bs l to n _ hx, ih (by omega), placesTo, hx, List.filter_append, List.filterMap_append, List.filter_append]
      congr 1
      exact (tell_rec bs l to n _ hx _ (Nat.le_refl _)).symm
  exact key _ (Nat.le_refl _)
theorem recCount_le (bs : List Batch) : ∀ n, recCount (bs.take n) ≤ recCount bs := by
  induction bs with
  | nil => intro n; simp
  | cons x bs ih =>
    intro n
    cases n with
    | zero => simp [recCount]
    | succ n => simp only [List.take_succ_cons, recCount]; have := ih n; omega
set_option maxRecDepth 100000 in
set_option maxHeartbeats 4000000 in
theorem tells_any (bs : List Batch) (l : List Gone) (vb vl : Value) (to : Int) (w : World) (hb : BatchesAt w vb bs) (hl : GonesAt w vl l) (hcnt : recCount bs ≤ 1000000) :
    Calls Try.prog 26 #[vb, vl, .int .i64 to] w
      fun e w' => ∃ u, e = .returned u ∧ OwnRecs w' w.heap.size u (tellTo bs l to bs.length) ∧ Below w.heap.size w w' := by
  have L := hid (fun key W (h : Below w.heap.size w W) => last_any bs l to key vb vl W (hb.mono h) (hl.mono h))
  have TL := hid (fun n (h : n < bs.length) => show (tellTo bs l to n).length + bs[n].recs.length ≤ 1000000 by
    have h1 := tellTo_le bs l to n (by omega)
    have h2 := recCount_take bs n h
    have h3 := recCount_le bs (n + 1)
    omega)
  have hlf := hl.form
  obtain ⟨a, cap, rfl, hn, hs⟩ := hb
  obtain ⟨a3, cap3, rfl, hn3⟩ := hlf
  have HS := hid hs
  clear hs hl
  go_enter Try.func26, Try.ntmps26
  go_wp2
  go_loopw [7, 16] (fun u q wr => ∃ i : Nat, i ≤ bs.length ∧ q = .int .i64 i ∧ OwnRecs wr w.heap.size u (tellTo bs l to i) ∧ Below w.heap.size w wr) (fun _ q _ => bs.length - (intOf q).toNat)
  case atStart => exact ⟨0, by omega, rfl, OwnRecs.nil _ _, Below.refl _ _⟩
  case round =>
    obtain ⟨i, hi, rfl, hown, hwr⟩ := hrel
    by_cases hlt : i < bs.length
    · obtain ⟨b', o, rfl, hx⟩ := HS.out i hlt
      have hxi : bs[i]? = some bs[i] := List.getElem?_eq_getElem hlt
      obtain ⟨sv, hxa, hxr⟩ := hx _ hxi
      have hTL := TL.out i (by omega)
      have TS := hid (tellTo_succ bs l to i _ hxi)
      obtain ⟨a2, cap2, rfl, hn2, _, hs2⟩ := hxr
      have HS2 := hid hs2
      obtain ⟨e0, e1, e2, e3, e4, e5, e6, e7, e8, e9⟩ := hxa.mono hwr
      clear hx hxa hs2 hxi
      generalize bs[i] = x at *
      obtain ⟨wo, rfl⟩ : ∃ wo : World, wo = wr := ⟨_, rfl⟩
      have HO := hid (fun X => hown.below (below_alloc wo X))
      generalize tellTo bs l to i = A at *
      go_wp2
      clear hown e0 e1 e2 e3 e4 e5 e6 e7 e8 e9
      go_loopw [7, 24] (fun u q wr => ∃ k : Nat, k ≤ x.recs.length ∧ q = .int .i64 k ∧ OwnRecs wr w.heap.size u (A ++ tellR bs l to i x k) ∧ Below w.heap.size w wr) (fun _ q _ => x.recs.length - (intOf q).toNat)
      case atStart => exact ⟨0, by omega, rfl, by rw [tellR, List.append_nil]; exact HO.out _, hwr.step (below_alloc _ _)⟩
      case round =>
        obtain ⟨k, hk, rfl, hown, hwk⟩ := hrel
        by_cases hkt : k < x.recs.length
        · obtain ⟨b2, o2, rfl, hr⟩ := HS2.out k hkt
          have hrk : x.recs[k]? = some x.recs[k] := List.getElem?_eq_getElem hkt
          obtain ⟨g0, g1, g2, g3, g4⟩ := (hr _ hrk).mono hwk
          have Hs := hid (show A ++ tellR bs l to i x (k + 1) = (A ++ tellR bs l to i x k) ++ (if (!x.recs[k].key.toList.isEmpty && ((lastG bs l to x.recs[k].key).1 == (i : Int) && ((lastG bs l to x.recs[k].key).2 == (k : Int) && !x.recs[k].dead))) = true then [x.recs[k]] else []) by rw [tellR_succ bs l to i x k _ hrk, List.append_assoc])
          have hBl : (A ++ tellR bs l to i x k).length ≤ 1000000 := by have := tellR_le bs l to i x k; rw [List.length_append]; omega
          clear hr hrk
          generalize x.recs[k] = r at *
          generalize A ++ tellR bs l to i x k = B at *
          have C := hid (fun X => L.out r.key (wr.alloc X) (hwk.step (below_alloc _ _)))
          rcases Bool.eq_false_or_eq_true r.key.toList.isEmpty with h0 | h0
          · have N0 := hid h0
            have HN := hid (Hs.out.trans (by rw [h0]; simp) : A ++ tellR bs l to i x (k + 1) = B)
            go_wp2_with (go_at_call 47; refine (C.out _).mono ?_; rintro e w2 ⟨rfl, hb2⟩; have q0 := cell_below hb2 (show (World.alloc wr _).cell? ⟨wr.heap.size, 0, none⟩ = some (.int .i64 r.off) by simp); have q1 := cell_below hb2 (show (World.alloc wr _).cell? ⟨wr.heap.size, 1, none⟩ = some (.string r.key) by simp); have q2 := cell_below hb2 (show (World.alloc wr _).cell? ⟨wr.heap.size, 2, none⟩ = some (.string r.val) by simp); have q3 := cell_below hb2 (show (World.alloc wr _).cell? ⟨wr.heap.size, 3, none⟩ = some (.bool r.dead) by first | (simp; done) | simp [N3.out]); have q4 := cell_below hb2 (show (World.alloc wr _).cell? ⟨wr.heap.size, 4, none⟩ = some (.int .i64 r.stamp) by simp))
            go_roundw
            case rel => exact ⟨k + 1, by omega, by go_num, by rw [HN.out]; exact (hown.below (below_alloc _ _)).below hb2, hwk.step ((below_alloc _ _).step hb2)⟩
            case measure => simp [intOf]; omega
          · rcases Bool.eq_false_or_eq_true ((lastG bs l to r.key).1 == (i : Int)) with h1 | h1
            · rcases Bool.eq_false_or_eq_true ((lastG bs l to r.key).2 == (k : Int)) with h2 | h2
              · rcases Bool.eq_false_or_eq_true r.dead with h3 | h3
                · have N0 := hid h0
                  have N1 := hid h1
                  have N2 := hid h2
                  have N3 := hid h3
                  have HN := hid (Hs.out.trans (by rw [h0, h1, h2, h3]; simp) : A ++ tellR bs l to i x (k + 1) = B)
                  go_wp2_with (go_at_call 47; refine (C.out _).mono ?_; rintro e w2 ⟨rfl, hb2⟩; have q0 := cell_below hb2 (show (World.alloc wr _).cell? ⟨wr.heap.size, 0, none⟩ = some (.int .i64 r.off) by simp); have q1 := cell_below hb2 (show (World.alloc wr _).cell? ⟨wr.heap.size, 1, none⟩ = some (.string r.key) by simp); have q2 := cell_below hb2 (show (World.alloc wr _).cell? ⟨wr.heap.size, 2, none⟩ = some (.string r.val) by simp); have q3 := cell_below hb2 (show (World.alloc wr _).cell? ⟨wr.heap.size, 3, none⟩ = some (.bool r.dead) by first | (simp; done) | simp [N3.out]); have q4 := cell_below hb2 (show (World.alloc wr _).cell? ⟨wr.heap.size, 4, none⟩ = some (.int .i64 r.stamp) by simp))
                  go_roundw
                  case rel => exact ⟨k + 1, by omega, by go_num, by rw [HN.out]; exact (hown.below (below_alloc _ _)).below hb2, hwk.step ((below_alloc _ _).step hb2)⟩
                  case measure => simp [intOf]; omega
                · have N0 := hid h0
                  have N1 := hid h1
                  have N2 := hid h2
                  have N3 := hid h3
                  have HN := hid (Hs.out.trans (by rw [h0, h1, h2, h3]; simp) : A ++ tellR bs l to i x (k + 1) = B ++ [r])
                  go_wp2_with (first | (go_at_call 47; refine (C.out _).mono ?_; rintro e w2 ⟨rfl, hb2⟩; have q0 := cell_below hb2 (show (World.alloc wr _).cell? ⟨wr.heap.size, 0, none⟩ = some (.int .i64 r.off) by simp); have q1 := cell_below hb2 (show (World.alloc wr _).cell? ⟨wr.heap.size, 1, none⟩ = some (.string r.key) by simp); have q2 := cell_below hb2 (show (World.alloc wr _).cell? ⟨wr.heap.size, 2, none⟩ = some (.string r.val) by simp); have q3 := cell_below hb2 (show (World.alloc wr _).cell? ⟨wr.heap.size, 3, none⟩ = some (.bool r.dead) by first | (simp; done) | simp [N3.out]); have q4 := cell_below hb2 (show (World.alloc wr _).cell? ⟨wr.heap.size, 4, none⟩ = some (.int .i64 r.stamp) by simp)) | (at_builtin; refine wpList_append_rec rfl (.tmp 56) (.tmp 58) rfl Try.underlying26 Try.inf33 w.heap.size _ B r rfl (((hown.below (below_alloc _ _)).below hb2).below (below_alloc _ _)) w2.heap.size rfl ⟨by simp, by simp, by simp, by first | (simp; done) | simp [N3.out], by simp⟩ hBl ?_ ?_))
                  · have := hwk.size; have := hb2.size; simp at *; omega
                  intro v' w' hown' hbel _
                  go_wp2
                  go_roundw
                  case rel => exact ⟨k + 1, by omega, by go_num, by rw [HN.out]; exact hown', ((hwk.step ((below_alloc _ _).step hb2)).step (below_alloc _ _)).trans hbel⟩
                  case measure => simp [intOf]; omega
              · have N0 := hid h0
                have N1 := hid h1
                have N2 := hid h2
                have HN := hid (Hs.out.trans (by rw [h0, h1, h2]; simp) : A ++ tellR bs l to i x (k + 1) = B)
                go_wp2_with (go_at_call 47; refine (C.out _).mono ?_; rintro e w2 ⟨rfl, hb2⟩; have q0 := cell_below hb2 (show (World.alloc wr _).cell? ⟨wr.heap.size, 0, none⟩ = some (.int .i64 r.off) by simp); have q1 := cell_below hb2 (show (World.alloc wr _).cell? ⟨wr.heap.size, 1, none⟩ = some (.string r.key) by simp); have q2 := cell_below hb2 (show (World.alloc wr _).cell? ⟨wr.heap.size, 2, none⟩ = some (.string r.val) by simp); have q3 := cell_below hb2 (show (World.alloc wr _).cell? ⟨wr.heap.size, 3, none⟩ = some (.bool r.dead) by first | (simp; done) | simp [N3.out]); have q4 := cell_below hb2 (show (World.alloc wr _).cell? ⟨wr.heap.size, 4, none⟩ = some (.int .i64 r.stamp) by simp))
                go_roundw
                case rel => exact ⟨k + 1, by omega, by go_num, by rw [HN.out]; exact (hown.below (below_alloc _ _)).below hb2, hwk.step ((below_alloc _ _).step hb2)⟩
                case measure => simp [intOf]; omega
            · have N0 := hid h0
              have N1 := hid h1
              have HN := hid (Hs.out.trans (by rw [h0, h1]; simp) : A ++ tellR bs l to i x (k + 1) = B)
              go_wp2_with (go_at_call 47; refine (C.out _).mono ?_; rintro e w2 ⟨rfl, hb2⟩; have q0 := cell_below hb2 (show (World.alloc wr _).cell? ⟨wr.heap.size, 0, none⟩ = some (.int .i64 r.off) by simp); have q1 := cell_below hb2 (show (World.alloc wr _).cell? ⟨wr.heap.size, 1, none⟩ = some (.string r.key) by simp); have q2 := cell_below hb2 (show (World.alloc wr _).cell? ⟨wr.heap.size, 2, none⟩ = some (.string r.val) by simp); have q3 := cell_below hb2 (show (World.alloc wr _).cell? ⟨wr.heap.size, 3, none⟩ = some (.bool r.dead) by first | (simp; done) | simp [N3.out]); have q4 := cell_below hb2 (show (World.alloc wr _).cell? ⟨wr.heap.size, 4, none⟩ = some (.int .i64 r.stamp) by simp))
              go_roundw
              case rel => exact ⟨k + 1, by omega, by go_num, by rw [HN.out]; exact (hown.below (below_alloc _ _)).below hb2, hwk.step ((below_alloc _ _).step hb2)⟩
              case measure => simp [intOf]; omega
        · have hke : k = x.recs.length := by omega
          have HK := hid hke
          clear hke
          go_wp2
          go_roundw
          case rel => exact ⟨i + 1, by omega, by go_num, by rw [TS.out, ← HK.out]; exact hown, hwk⟩
          case measure => simp [intOf]; omega
    · obtain rfl : i = bs.length := by omega
      go_wp2
      go_ret
      exact ⟨_, rfl, hown, hwr⟩
end Go.Proofs.Ytceamgkifjmbcaa
