/- Own rows have room for what they hold; the walks of rising and of CleanRight. -/
import Derived.Test.YtceamgkifjmbcaaRL
import Derived.Test.YtceamgkifjmbcaaOpen
namespace Go.Wm
open Go.RowKit Go.Proofs.Ytceamgkifjmbcaa
theorem ownsRow_cap {w : World} {b : Nat} {e : TypeId} {s : Nat} {v : Value} {n : Nat} {xs : List Value} (h : w.ownsRow b e s v n xs) : capOk v := by
  intro a m c hv
  rcases h.2 with ⟨rfl, h0⟩ | ⟨g, cap, cur, rfl, _, _, hn, _⟩
  · cases hv; exact Nat.le_refl _
  · cases hv; exact hn
/-- Batches whose rows of records have room for what they hold. -/
def CapsAt (w : World) (v : Value) : Prop := ∀ b o n c, v = .slice (some ⟨b, o, none⟩) n c → ∀ k, k < n → ∀ sv, w.cell? ⟨b, o + k * 10 + 9, none⟩ = some sv → capOk sv
theorem BatchesAt.caps {w : World} {v : Value} {bs : List Batch} (h : BatchesAt w v bs) (hc : CapsAt w v) : BatchesC w v bs := by
  obtain ⟨a, cap, rfl, h1, h3⟩ := h
  refine ⟨a, cap, rfl, h1, fun k hk => ?_⟩
  obtain ⟨b, o, rfl, h⟩ := h3 k hk
  refine ⟨b, o, rfl, fun x hx => ?_⟩
  obtain ⟨sv, h1, h2⟩ := h x hx
  exact ⟨sv, h1, h2, hc b o _ _ rfl k hk sv h1.c9⟩
theorem OwnBats.caps {w : World} {base : Nat} {v : Value} {xs : List Batch} (h : OwnBats w base v xs) : CapsAt w v := by
  obtain ⟨ps, hps, h, hr⟩ := h
  intro b o n c hv k hk sv hsv
  subst hv
  obtain ⟨h1, h2⟩ := id h
  rcases h2 with ⟨hv, _⟩ | ⟨g, cap, cur, hv, hg, hb, hn, hm, hc, ht⟩
  · cases hv
  · cases hv
    have hf := flat_get (fun p : Batch × Value => p.1.cells p.2) 10 (fun _ => rfl) ps k 9 hk (by omega)
    have := World.ownsRow.cells (v := .slice (some ⟨b, 0, none⟩) ps.length c) h rfl (k * 10 + 9) _ hf
    have e : (⟨b, 0, none⟩ : Addr).add (k * 10 + 9) = ⟨b, 0 + k * 10 + 9, none⟩ := by simp [Addr.add]
    rw [e] at this
    rw [this] at hsv
    cases hsv
    exact ownsRow_cap (hr ps[k] (List.getElem_mem _)).1
theorem OwnBats.atC {w : World} {base : Nat} {v : Value} {xs : List Batch} (h : OwnBats w base v xs) (hs : xs.length ≤ 1000000) : BatchesC w v xs := (h.at hs).caps h.caps
end Go.Wm
namespace Go.Proofs.Ytceamgkifjmbcaa
open Go.RowKit Go.Wm Go.ChangeShapes Go.WideShapes Go.ChangeAt Go.Deep
theorem recCount_append (xs ys : List Batch) : recCount (xs ++ ys) = recCount xs + recCount ys := by
  induction xs with
  | nil => simp [recCount]
  | cons x xs ih => simp [recCount, ih]; omega
theorem recCount_clean (bs : List Batch) (l : List Gone) (to now keep : Int) : ∀ n, n ≤ bs.length → recCount (cleanTo bs l to now keep n) ≤ recCount (bs.take n)
  | 0, _ => by simp [cleanTo, recCount]
  | n + 1, h => by
    have ih := recCount_clean bs l to now keep n (by omega)
    obtain ⟨x, hx⟩ : ∃ x, bs[n]? = some x := ⟨_, List.getElem?_eq_getElem (by omega)⟩
    have hl := (cleaned_sub bs l to now keep n x).length_le
    rw [cleanTo_succ bs l to now keep n x hx, List.take_add_one, hx, recCount_append]
    split
    · rw [recCount_append]; simp [recCount] at *; omega
    · omega
theorem recCount_cut (xs : List Batch) (p : Nat) : recCount (xs.take p ++ xs.drop (p + 1)) ≤ recCount xs := by
  have h1 : recCount (xs.take p) + recCount (xs.drop p) = recCount xs := by rw [← recCount_append, List.take_append_drop]
  have h2 : recCount (xs.drop (p + 1)) ≤ recCount (xs.drop p) := by
    rw [← List.drop_drop]
    cases xs.drop p with
    | nil => simp
    | cons a t => simp [recCount]
  rw [recCount_append]; omega
theorem clean_pids (bs : List Batch) (l : List Gone) (to now keep : Int) (hp : ∀ x ∈ bs, (Lit.int .i64 x.pid).wf = true) : ∀ x ∈ cleanG bs l to now keep, (Lit.int .i64 x.pid).wf = true := fun y hy => by
  obtain ⟨i, x, _, hx, rfl⟩ := clean_is bs l to now keep bs.length (Nat.le_refl _) y hy
  exact hp x (List.mem_of_getElem? hx)
theorem few_cnt {bs : List Batch} {l : List Gone} (h : fewB bs l = true) : bs.length ≤ 16 ∧ recCount bs ≤ 60 := by
  simp only [fewB, fewAllB, Bool.and_eq_true, decide_eq_true_eq] at h
  omega
theorem risK_zero {bs : List Batch} {x : Batch} (h : bs[0]? = some x) : risK bs 0 = decide (x.base ≤ x.last) := by unfold risK; rw [h]; simp
theorem risK_succ {bs : List Batch} {j : Nat} {x y : Batch} (h : bs[j + 1]? = some x) (hy : bs[j]? = some y) : risK bs (j + 1) = (decide (x.base ≤ x.last) && decide (y.last < x.base)) := by unfold risK; rw [h]; simp [hy]
set_option maxHeartbeats 2000000 in
theorem rising_any (bs : List Batch) (v : Value) (w : World) (hb : BatchesAt w v bs) :
    Calls Try.prog 21 #[v] w fun e w' => e = .returned (.bool (risingB bs)) ∧ Below w.heap.size w w' := by
  obtain ⟨a, cap, rfl, hn, hs⟩ := hb
  have HS := hid hs
  clear hs
  go_enter Try.func21, Try.ntmps21
  go_wp2
  go_loopw [7] (fun i wr => ∃ k : Nat, k ≤ bs.length ∧ i = .int .i64 k ∧ (∀ j, j < k → risK bs j = true) ∧ Below w.heap.size w wr) (fun i _ => bs.length - (intOf i).toNat)
  case atStart => exact ⟨0, by omega, rfl, fun _ h => by omega, Below.refl _ _⟩
  case round =>
    obtain ⟨k, hk, rfl, hall, hwr⟩ := hrel
    have Hall := hid hall; clear hall
    by_cases hlt : k < bs.length
    · obtain ⟨b', o, rfl, hx⟩ := HS.out k hlt
      have hxk : bs[k]? = some bs[k] := List.getElem?_eq_getElem hlt
      obtain ⟨sv, hxa, hxr⟩ := hx _ hxk
      have hFalse : ∀ {c : Bool}, risK bs k = c → c = false → risingB bs = false := fun h1 h2 => by
        unfold risingB
        rw [← Bool.not_eq_true, List.all_eq_true]
        intro h
        have := h k (List.mem_range.2 hlt)
        rw [h1, h2] at this; cases this
      have HF := hid (fun (c : Bool) => @hFalse c)
      obtain ⟨a2, cap2, rfl, hn2, _, _⟩ := hxr
      obtain ⟨e0, e1, e2, e3, e4, e5, e6, e7, e8, e9⟩ := hxa.mono hwr
      clear hFalse hx hxa
      cases k with
      | zero =>
        have HR := hid (risK_zero hxk)
        clear hxk
        simp only [Nat.zero_mul, Nat.add_zero] at e0 e1 e2 e3 e4 e5 e6 e7 e8 e9
        generalize bs[0] = x at *
        go_wp2
        refine wp_name fun W hW => ?_
        have hB : Below wr.heap.size wr W := by rw [hW]; exact below_alloc _ _
        have q0 : W.cell? ⟨wr.heap.size, 0, none⟩ = some (.int .i64 x.base) := by rw [hW]; simp
        have q1 : W.cell? ⟨wr.heap.size, 1, none⟩ = some (.int .i64 x.last) := by rw [hW]; simp
        have q0 := Later.cell q0
        have q1 := Later.cell q1
        clear hW e0 e1 e2 e3 e4 e5 e6 e7 e8 e9
        rcases Bool.eq_false_or_eq_true (decide (x.last < x.base)) with ht | ht
        · refine wp_region_later (by kernel_rfl) (by kernel_rfl) ?_
          repeat (go_big_quiet_step (fail))
          refine wpQuiet_nil ?_
          intro w2 hb2
          clear q0 q1
          go_wp2
          go_ret
          exact ⟨ret_bool (HF.out _ HR.out (by simp only [decide_eq_true_eq] at ht; simp; omega)).symm, hwr.step (hB.step hb2)⟩
        · refine wp_region_later (by kernel_rfl) (by kernel_rfl) ?_
          repeat (go_big_quiet_step (fail))
          refine wpQuiet_nil ?_
          intro w2 hb2
          clear q0 q1
          go_wp2
          go_roundw
          case rel =>
            refine ⟨1, by omega, by go_num, ?_, hwr.step (hB.step hb2)⟩
            intro j hj
            have : j = 0 := by omega
            subst this
            rw [HR.out]
            simp only [decide_eq_false_iff_not] at ht
            simp; omega
          case measure => simp [intOf]; omega
      | succ j =>
        obtain ⟨b3, o3, hab, hy⟩ := HS.out j (by omega)
        simp only [Option.some.injEq, Addr.mk.injEq, and_true] at hab
        obtain ⟨rfl, rfl⟩ := hab
        have hyj : bs[j]? = some bs[j] := List.getElem?_eq_getElem (by omega)
        obtain ⟨sy, hya, _⟩ := hy _ hyj
        have f1 := cell_below hwr hya.c1
        have HR := hid (risK_succ hxk hyj)
        clear hxk hy hya hyj
        generalize bs[j + 1] = x at *
        generalize bs[j] = y at *
        have hw1 : IntKind.i64.wrap (((j + 1 : Nat) : Int) - 1) = (j : Int) := by rw [show ((j + 1 : Nat) : Int) - 1 = (j : Int) from by omega]; exact IntWalk.i64_in _ (by omega)
        have hpos : decide ((0 : Int) < ((j + 1 : Nat) : Int)) = true := by simp
        go_wp2
        refine wp_name fun W hW => ?_
        have hB : Below wr.heap.size wr W := by rw [hW]; exact below_alloc _ _
        have q0 : W.cell? ⟨wr.heap.size, 0, none⟩ = some (.int .i64 x.base) := by rw [hW]; simp
        have q1 : W.cell? ⟨wr.heap.size, 1, none⟩ = some (.int .i64 x.last) := by rw [hW]; simp
        have q2 := Later.cell (cell_below hB f1)
        have q0 := Later.cell q0
        have q1 := Later.cell q1
        clear hW e0 e1 e2 e3 e4 e5 e6 e7 e8 e9 f1
        rcases Bool.eq_false_or_eq_true (decide (x.last < x.base)) with ht | ht
        · refine wp_region_later (by kernel_rfl) (by kernel_rfl) ?_
          repeat (go_big_quiet_step (fail))
          refine wpQuiet_nil ?_
          intro w2 hb2
          clear q0 q1 q2 hw1 hpos
          go_wp2
          go_ret
          exact ⟨ret_bool (HF.out _ HR.out (by simp only [decide_eq_true_eq] at ht; simp; omega)).symm, hwr.step (hB.step hb2)⟩
        · rcases Bool.eq_false_or_eq_true (decide (x.base ≤ y.last)) with ht2 | ht2
          · refine wp_region_later (by kernel_rfl) (by kernel_rfl) ?_
            repeat (go_big_quiet_step (fail))
            refine wpQuiet_nil ?_
            intro w2 hb2
            clear q0 q1 q2 hw1 hpos
            go_wp2
            go_ret
            exact ⟨ret_bool (HF.out _ HR.out (by simp only [decide_eq_true_eq] at ht2; simp; omega)).symm, hwr.step (hB.step hb2)⟩
          · refine wp_region_later (by kernel_rfl) (by kernel_rfl) ?_
            repeat (go_big_quiet_step (fail))
            refine wpQuiet_nil ?_
            intro w2 hb2
            clear q0 q1 q2 hw1 hpos
            go_wp2
            go_roundw
            case rel =>
              refine ⟨j + 1 + 1, by omega, by go_num, ?_, hwr.step (hB.step hb2)⟩
              intro m hm
              by_cases hmj : m = j + 1
              · subst hmj
                rw [HR.out]
                simp only [decide_eq_false_iff_not] at ht ht2
                simp; omega
              · exact Hall.out m (by omega)
            case measure => simp [intOf]; omega
    · have hke : k = bs.length := by omega
      have HK := hid hke
      clear hke
      go_wp2
      go_ret
      refine ⟨ret_bool ?_, hwr⟩
      symm
      unfold risingB
      rw [List.all_eq_true]
      intro j hj
      exact Hall.out j (by have := List.mem_range.1 hj; have := HK.out; omega)
end Go.Proofs.Ytceamgkifjmbcaa

namespace Go.Proofs.Ytceamgkifjmbcaa
open Go.RowKit Go.Wm
theorem CapsAt.old {w w' : World} {v : Value} {bs : List Batch} (hb : Below w.heap.size w w') (h : BatchesC w v bs) : BatchesC w' v bs := h.mono hb
set_option maxRecDepth 100000 in
set_option maxHeartbeats 4000000 in
theorem right_any (bs : List Batch) (l : List Gone) (vb vl : Value) (to now keep : Int) (w : World) (hb : BatchesBig w vb bs) (hcap : CapsAt w vb) (hl : GonesBig w vl l) (hp : ∀ x ∈ bs, (Lit.int .i64 x.pid).wf = true) :
    Calls Try.prog 7 #[vb, vl, .int .i64 to, .int .i64 now, .int .i64 keep] w fun e w' => e = .returned (.bool true) ∧ Below w.heap.size w w' := by
  cases hf : fewB bs l
  · have F := hid (fun W (h : Below w.heap.size w W) => few_big bs l vb vl W (hb.mono h) (hl.mono h))
    rw [hf] at F
    clear hb hl hcap
    go_enter Try.func7, Try.ntmps7
    go_wp2_with fail
    refine (live_any _).mono ?_
    rintro e1 w1 ⟨rfl, hb1⟩
    go_wp2_with fail
    refine (F.out w1 hb1).mono ?_
    rintro e2 w2 ⟨rfl, hb2⟩
    go_wp2
    go_ret
    exact ⟨rfl, hb1.step hb2⟩
  · have hb' := hb.small (few_cut hf).1
    have hl' := hl.small (few_cut hf).2
    obtain ⟨hn16, hn60⟩ := few_cnt hf
    have HC := hid (hb'.caps hcap)
    have F := hid (fun W (h : Below w.heap.size w W) => few_big bs l vb vl W (hb.mono h) (hl.mono h))
    rw [hf] at F
    have C := hid (fun W (h : Below w.heap.size w W) => clean_any bs l vb vl to now keep W (hb'.mono h) (hl'.mono h) hp)
    have hclen := cleanTo_length bs l to now keep bs.length
    have hcnt := recCount_clean bs l to now keep bs.length (Nat.le_refl _)
    rw [List.take_length] at hcnt
    change (cleanG bs l to now keep).length ≤ _ at hclen
    change recCount (cleanG bs l to now keep) ≤ _ at hcnt
    have HPX := hid (clean_pids bs l to now keep hp)
    have ID := hid (clean_clean bs l to now keep)
    have VC := hid (values_clean bs l to now keep)
    have RL := hid (right_law bs l to now keep)
    have Lw := hid (fun W (h : Below w.heap.size w W) => hl'.mono h)
    have RI := hid (fun W (h : Below w.heap.size w W) => rising_any bs vb W (hb'.mono h))
    have CK := hid (fun vx W (h : Below w.heap.size w W) (hx : BatchesC W vx (cleanG bs l to now keep)) => check_any bs (cleanG bs l to now keep) l vb vx vl to now keep W (HC.out.mono h) hx (hl'.mono h) hp (by omega) (by omega) (by omega) (by omega))
    have CX := hid (fun vx W (h : Below w.heap.size w W) (hx : BatchesC W vx (cleanG bs l to now keep)) => clean_any (cleanG bs l to now keep) l vx vl to now keep W hx.at (hl'.mono h) HPX.out)
    rw [ID.out] at CX
    have V1 := hid (fun vx W (h : Below w.heap.size w W) (hx : BatchesC W vx (cleanG bs l to now keep)) => values_any (cleanG bs l to now keep) l vx vl to W hx.at (hl'.mono h) (by omega) (by omega))
    rw [VC.out] at V1
    have V2 := hid (fun W (h : Below w.heap.size w W) => values_any bs l vb vl to W (hb'.mono h) (hl'.mono h) (by omega) (by omega))
    generalize valuesG bs l to = vs at *
    clear hb hl hf hl' hb' hp hcap HC Lw HPX ID VC
    go_enter Try.func7, Try.ntmps7
    go_wp2_with fail
    refine (live_any _).mono ?_
    rintro e1 w1 ⟨rfl, hb1⟩
    go_wp2_with fail
    refine (F.out w1 hb1).mono ?_
    rintro e2 w2 ⟨rfl, hb2⟩
    have hB2 := hb1.step hb2
    clear F
    go_wp2_with fail
    refine (C.out w2 hB2).mono ?_
    rintro e3 w3 ⟨ux, rfl, hux, hb3⟩
    have hB3 := hB2.step hb3
    have HX := hid (hux.atC (by omega))
    clear hux C
    go_wp2_with fail
    refine (CX.out ux w3 hB3 HX.out).mono ?_
    rintro e4 w4 ⟨uy, rfl, huy, hb4⟩
    have hB4 := hB3.step hb4
    have HY := hid (huy.atC (by omega))
    clear huy CX
    go_wp2_with fail
    refine (RI.out w4 hB4).mono ?_
    rintro e5 w5 ⟨rfl, hb5⟩
    have hB5 := hB4.step hb5
    clear RI
    cases hr : risingB bs with
    | false =>
      have SA := hid (sameAll_any (cleanG bs l to now keep) (cleanG bs l to now keep) ux uy w5 ((HX.out.mono hb4).mono hb5).at (HY.out.mono hb5).at)
      rw [decide_eq_true rfl] at SA
      clear HX HY RL hr CK V1 V2
      go_wp2_with fail
      refine SA.out.mono ?_
      rintro e6 w6 ⟨rfl, hb6⟩
      go_wp2
      go_ret
      exact ⟨rfl, hB5.step hb6⟩
    | true =>
      rw [RL.out hr] at CK
      clear hr
      go_wp2_with fail
      refine (CK.out ux w5 hB5 ((HX.out.mono hb4).mono hb5)).mono ?_
      rintro e6 w6 ⟨rfl, hb6⟩
      have hB6 := hB5.step hb6
      clear CK
      go_wp2_with fail
      refine (V1.out ux w6 hB6 (((HX.out.mono hb4).mono hb5).mono hb6)).mono ?_
      rintro e7 w7 ⟨v1, rfl, hv1, hs1, hb7⟩
      have hB7 := hB6.step hb7
      clear V1
      go_wp2_with fail
      refine (V2.out w7 hB7).mono ?_
      rintro e8 w8 ⟨v2, rfl, hv2, hs2, hb8⟩
      have hB8 := hB7.step hb8
      clear V2
      have SR := hid (sameRecs_any vs vs v1 v2 w8 ((hv1.below hb8).at hs1) (hv2.at hs2))
      rw [decide_eq_true rfl] at SR
      clear hv1 hv2 hs1 hs2
      go_wp2_with fail
      refine SR.out.mono ?_
      rintro e9 w9 ⟨rfl, hb9⟩
      have hB9 := hB8.step hb9
      have SA := hid (sameAll_any (cleanG bs l to now keep) (cleanG bs l to now keep) ux uy w9 ((((((HX.out.mono hb4).mono hb5).mono hb6).mono hb7).mono hb8).mono hb9).at (((((HY.out.mono hb5).mono hb6).mono hb7).mono hb8).mono hb9).at)
      rw [decide_eq_true rfl] at SA
      clear HX HY SR
      go_wp2_with fail
      refine SA.out.mono ?_
      rintro e10 w10 ⟨rfl, hb10⟩
      go_wp2
      go_ret
      exact ⟨rfl, hB9.step hb10⟩
end Go.Proofs.Ytceamgkifjmbcaa
