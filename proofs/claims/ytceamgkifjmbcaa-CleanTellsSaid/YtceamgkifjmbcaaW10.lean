/- Walks of the document's text: whether a batch stays; what is left of all batches. -/
import Derived.Test.YtceamgkifjmbcaaW9
namespace Go.Proofs.Ytceamgkifjmbcaa
open Go.RowKit Go.Wm
theorem slice_from (b o n c k : Nat) (hk : k ≤ n) : ∃ Ao : Option Addr,
    (∀ w, (Instr.slice 22 (.slice (some ⟨b, o, none⟩) n (n + c)) (some (.int .i64 (k : Int))) none none).run Try.prog w = .ok (.slice Ao (n - k) (n + c - k)) w) ∧
    (∀ w (j : Nat), j < n - k → (Instr.indexAt 22 (.slice Ao (n - k) (n + c - k)) (.int .i64 (j : Int))).run Try.prog w = .ok (.pointer (some ⟨b, o + (k + j) * 10, none⟩)) w) := by
  refine ⟨if n + c = k then some ⟨b, o, none⟩ else some ((⟨b, o, none⟩ : Addr).add (k * 10)), fun w => ?_, fun w j hj => ?_⟩
  · by_cases h : n + c = k
    · have hb := run_sliceBound (P := Try.prog) w .i64 (k : Int) n .sliceB (by omega) (by omega)
      simp [Instr.slice, run_underlying Try.underlying22, Instr.sliceBounds, hb, h, go_sem]
    · have hb := run_sliceBound (P := Try.prog) w .i64 (k : Int) n .sliceB (by omega) (by omega)
      simp [Instr.slice, run_underlying Try.underlying22, Instr.sliceBounds, hb, h, go_sem]
  · have h : ¬ n + c = k := by omega
    rw [if_neg h]
    have h0 : ((j : Int) < ((n - k : Nat) : Int)) := by omega
    rw [run_indexAt_slice _ _ _ _ _ _ _ (by kernel_rfl)]
    simp [h0, go_sem]
theorem hasLeft_nat (bs : List Batch) (l : List Gone) (to now keep : Int) (k : Nat) (y : Batch) (h : bs[k]? = some y) : hasLeft bs l to now keep (k : Int) = decide (0 < (leftG bs l to now keep k y).length) := by
  simp [hasLeft, leftAt, h]
def endTo (bs : List Batch) (to : Int) (i : Nat) : Nat → Bool
  | 0 => true
  | j + 1 => endTo bs to i j && (match bs[i + 1 + j]? with | some y => decide (to ≤ y.last) | none => true)
theorem endTo_succ (bs : List Batch) (to : Int) (i j : Nat) (y : Batch) (h : bs[i + 1 + j]? = some y) : endTo bs to i (j + 1) = (endTo bs to i j && decide (to ≤ y.last)) := by
  simp [endTo, h]
theorem endTo_end (bs : List Batch) (to : Int) (i : Nat) : ∀ j, endTo bs to i j = ((bs.drop (i + 1)).take j).all fun y => decide (to ≤ y.last)
  | 0 => by simp [endTo]
  | j + 1 => by
    rw [endTo, endTo_end bs to i j, List.take_add_one, List.all_append, List.getElem?_drop]
    cases h : bs[i + 1 + j]? <;> simp
theorem endTo_all (bs : List Batch) (to : Int) (i : Nat) : endTo bs to i (bs.length - (i + 1)) = endB bs to i := by
  rw [endTo_end, List.take_of_length_le (by simp)]; rfl
set_option maxHeartbeats 4000000 in
theorem batchStays_any (bs : List Batch) (l : List Gone) (to now keep : Int) (i : Nat) (x : Batch) (hi : bs[i]? = some x) (v g : Value) (w : World) (hb : BatchesAt w v bs) (hg : GonesAt w g l) :
    Calls Try.prog 32 #[v, g, .int .i64 to, .int .i64 now, .int .i64 keep, .int .i64 i] w
      fun e w' => e = .returned (.bool (batchStaysB bs l to now keep i x)) ∧ Below w.heap.size w w' := by
  have hbw := hb
  obtain ⟨a, cap, rfl, hn, hs⟩ := hb
  have hil := (List.getElem?_eq_some_iff.1 hi).1
  obtain ⟨b', o, rfl, _⟩ := hs i hil
  have hc : ∀ k, k < bs.length → ∀ y, bs[k]? = some y → ∃ sv, BatchAt w b' (o + k * 10) y sv ∧ RecsAt w sv y.recs := by
    intro k hk y hy
    obtain ⟨b2, o2, ha, h⟩ := hs k hk
    simp only [Option.some.injEq, Addr.mk.injEq, and_true] at ha
    obtain ⟨rfl, rfl⟩ := ha
    exact h y hy
  clear hs
  obtain ⟨a3, cap3, rfl, hn3⟩ := hg.form
  obtain ⟨svx, hx, _⟩ := hc i hil x hi
  have L := hid (fun W (h : Below w.heap.size w W) k y (hy : bs[k]? = some y) => left_any bs l to now keep k y hy _ _ W (hbw.mono h) (hg.mono h))
  have T := hid (fun W (h : Below w.heap.size w W) => txn_any bs i x hi _ W (hbw.mono h))
  have Fin := hid (show batchStaysB bs l to now keep i x = (decide (to ≤ x.last) || (endB bs to i || (if x.ctl = 0 then hasLeft bs l to now keep i else (txnTo bs x.pid i).any (hasLeft bs l to now keep)))) from rfl)
  clear hbw hg
  have x1 := hx.c1
  have x8 := hid hx.c8
  clear hx
  obtain ⟨Ao, hsl, hix⟩ := slice_from b' o bs.length cap (i + 1) (by omega)
  rw [show (((i + 1 : Nat) : Int)) = (i : Int) + 1 from by omega] at hsl
  rcases Bool.eq_false_or_eq_true (decide (to ≤ x.last)) with h1 | h1
  · rw [h1] at Fin
    clear hsl hix
    go_enter Try.func32, Try.ntmps32
    go_wp2
    go_ret
    exact ⟨ret_bool (by rw [Fin.out]; simp), Below.refl _ _⟩
  · rw [h1] at Fin
    have Hix := hid hix; clear hix
    have hm : bs.length - (i + 1) ≤ 1000000 := by omega
    have Hc := hid hc; clear hc
    go_enter Try.func32, Try.ntmps32
    go_wp2
    clear hsl x1
    go_loopw [13, 30] (fun e q wr => ∃ j : Nat, j ≤ bs.length - (i + 1) ∧ q = .int .i64 j ∧ e = .bool (endTo bs to i j) ∧ Below w.heap.size w wr) (fun _ q _ => bs.length - (i + 1) - (intOf q).toNat)
    case atStart => exact ⟨0, by omega, rfl, rfl, Below.refl _ _⟩
    case round =>
      obtain ⟨j, hj, rfl, rfl, hwr⟩ := hrel
      by_cases hlt : j < bs.length - (i + 1)
      · have hjl : i + 1 + j < bs.length := by omega
        obtain ⟨sv, hy, hys⟩ := Hc.out _ hjl _ (List.getElem?_eq_getElem hjl)
        obtain ⟨a2, cap2, rfl, hn2⟩ := hys.form
        have Hs := hid (endTo_succ bs to i j _ (List.getElem?_eq_getElem hjl))
        obtain ⟨e0, e1, e2, e3, e4, e5, e6, e7, e8, e9⟩ := hy.mono hwr
        clear hy hys
        obtain ⟨y, hye⟩ : ∃ y, y = bs[i + 1 + j] := ⟨_, rfl⟩
        rw [← hye] at e0 e1 e2 e3 e4 e5 e6 e7 e8 e9 Hs hn2
        clear hye
        have hix := fun w => Hix.out w j hlt
        generalize endTo bs to i j = E at *
        cases E
        all_goals
          go_wp2
          go_roundw
          case rel => exact ⟨j + 1, by omega, by go_num, by rw [Hs.out]; simp, hwr.step (below_alloc _ _)⟩
          case measure => simp [intOf]; omega
      · have hje : j = bs.length - (i + 1) := by omega
        have EE := hid (show endTo bs to i j = endB bs to i by rw [hje]; exact endTo_all _ _ _)
        clear hje
        generalize endTo bs to i j = E at *
        cases E
        · rw [← EE.out] at Fin
          have f8 := cell_below hwr x8.out
          rcases Bool.eq_false_or_eq_true (x.ctl == 0) with h2 | h2
          · rw [if_pos (by simpa using h2), hasLeft_nat bs l to now keep i x hi] at Fin
            go_wp2_with (go_at_call 53; refine (L.out _ hwr i x hi).mono ?_; rintro e w2 ⟨u2, rfl, hu2, hb2⟩; obtain ⟨a5, cap5, rfl⟩ := OwnRecs.form hu2)
            go_ret
            exact ⟨ret_bool (by rw [Fin.out]; simp), hwr.step hb2⟩
          · rw [if_neg (by simpa using h2)] at Fin
            go_wp2_with (go_at_call 54; refine (T.out _ hwr).mono ?_; rintro e w2 ⟨u2, rfl, hu2, hb2⟩; obtain ⟨a5, cap5, rfl, hn5, hs5⟩ := OwnInts.at hu2 (by have := txnTo_length bs x.pid i; omega))
            have hmem := txnTo_mem bs x.pid i
            generalize txnTo bs x.pid i = K at *
            go_loopw [62] (fun q wr2 => ∃ j : Nat, j ≤ K.length ∧ q = .int .i64 j ∧ (∀ t (h : t < K.length), t < j → hasLeft bs l to now keep K[t] = false) ∧ Below w2.heap.size w2 wr2) (fun q _ => K.length - (intOf q).toNat)
            case atStart => exact ⟨0, by omega, rfl, fun _ _ h => by omega, Below.refl _ _⟩
            case round =>
              obtain ⟨t, ht, rfl, hall, hwr2⟩ := hrel
              have Hall := hid hall; clear hall
              by_cases hlt2 : t < K.length
              · obtain ⟨b5, o5, ha5, hc5⟩ := hs5 t hlt2
                have g0 := cell_below hwr2 (hc5 _ (List.getElem?_eq_getElem hlt2))
                rw [Nat.mul_one] at g0
                have hkm := hmem _ (List.getElem_mem hlt2)
                clear hc5
                obtain ⟨q, hq⟩ : ∃ q, q = K[t] := ⟨_, rfl⟩
                rw [← hq] at g0 hkm
                obtain ⟨kk, rfl⟩ := Int.eq_ofNat_of_zero_le hkm.1
                have hkl : kk < bs.length := by omega
                have Hn := hid (hasLeft_nat bs l to now keep kk _ (List.getElem?_eq_getElem hkl))
                have C := hid (L.out _ ((hwr.step hb2).step hwr2) kk _ (List.getElem?_eq_getElem hkl))
                have Hq := hid hq; clear hq
                rcases Bool.eq_false_or_eq_true (decide (0 < (leftG bs l to now keep kk bs[kk]).length)) with h4 | h4
                · rw [h4] at Hn
                  have h4' : (0 : Int) < (leftG bs l to now keep kk bs[kk]).length := by have := of_decide_eq_true h4; omega
                  clear h4
                  go_wp2_with (go_at_call 53; clear ha5; refine C.out.mono ?_; rintro e w3 ⟨u3, rfl, hu3, hb3⟩; obtain ⟨a6, cap6, rfl⟩ := OwnRecs.form hu3)
                  go_ret
                  refine ⟨ret_bool ?_, ((hwr.step hb2).step hwr2).step hb3⟩
                  rw [Fin.out]
                  have : K.any (hasLeft bs l to now keep) = true := by
                    rw [List.any_eq_true]
                    exact ⟨K[t], List.getElem_mem _, by rw [← Hq.out]; exact Hn.out⟩
                  simp [this]
                · rw [h4] at Hn
                  have h4' : ¬ (0 : Int) < (leftG bs l to now keep kk bs[kk]).length := by have := of_decide_eq_false h4; omega
                  clear h4
                  go_wp2_with (go_at_call 53; clear ha5; refine C.out.mono ?_; rintro e w3 ⟨u3, rfl, hu3, hb3⟩; obtain ⟨a6, cap6, rfl⟩ := OwnRecs.form hu3)
                  go_roundw
                  case rel =>
                    refine ⟨t + 1, by omega, by go_num, ?_, hwr2.step hb3⟩
                    intro j' hj' hjt
                    by_cases hjk' : j' = t
                    · subst hjk'; rw [← Hq.out]; exact Hn.out
                    · exact Hall.out j' hj' (by omega)
                  case measure => simp [intOf]; omega
              · have hte : t = K.length := by omega
                have Hte := hid hte; clear hte
                go_wp2
                go_ret
                refine ⟨ret_bool ?_, (hwr.step hb2).step hwr2⟩
                rw [Fin.out]
                have : K.any (hasLeft bs l to now keep) = false := by
                  rw [List.any_eq_false]
                  intro z hz
                  obtain ⟨j', hj', rfl⟩ := List.getElem_of_mem hz
                  simp [Hall.out j' hj' (by have := Hte.out; omega)]
                simp [this]
        · rw [← EE.out] at Fin
          go_wp2
          go_ret
          exact ⟨ret_bool (by rw [Fin.out]; simp), hwr⟩

set_option maxHeartbeats 2000000 in
theorem cleanRef_any (bs : List Batch) (l : List Gone) (to now keep : Int) (v g : Value) (w : World) (hb : BatchesAt w v bs) (hg : GonesAt w g l) :
    Calls Try.prog 16 #[v, g, .int .i64 to, .int .i64 now, .int .i64 keep] w
      fun e w' => ∃ u, e = .returned u ∧ OwnBats w' w.heap.size u (cleanG bs l to now keep) ∧ Below w.heap.size w w' := by
  have hbw := hb
  obtain ⟨a, cap, rfl, hn, hs⟩ := hb
  obtain ⟨a3, cap3, rfl, hn3⟩ := hg.form
  have hsmall : ∀ (i : Nat) x, bs[i]? = some x → smallRecs x.recs := by
    intro i x hx
    obtain ⟨b', o, _, h⟩ := hs i (List.getElem?_eq_some_iff.1 hx).1
    obtain ⟨sv, _, hr⟩ := h x hx
    exact smallOf hr
  clear hs
  have Hs := hid hsmall; clear hsmall
  go_enter Try.func16, Try.ntmps16
  go_wp2
  go_loopw [11, 15] (fun u q wr => ∃ i : Nat, i ≤ bs.length ∧ q = .int .i64 i ∧ OwnBats wr w.heap.size u (cleanTo bs l to now keep i) ∧ Below w.heap.size w wr) (fun _ q _ => bs.length - (intOf q).toNat)
  case atStart => exact ⟨0, by omega, rfl, OwnBats.nil _ _, Below.refl _ _⟩
  case round =>
    obtain ⟨i, hi, rfl, hown, hwr⟩ := hrel
    by_cases hlt : i < bs.length
    · obtain ⟨x, hx⟩ : ∃ x, bs[i]? = some x := ⟨_, List.getElem?_eq_getElem hlt⟩
      have Hx := hid hx
      have C := hid (batchStays_any bs l to now keep i x hx _ _ wr (hbw.mono hwr) (hg.mono hwr))
      have D := hid (fun W (h : Below wr.heap.size wr W) => cleaned_any bs l to now keep i x hx _ _ W ((hbw.mono hwr).mono h) ((hg.mono hwr).mono h))
      have Hsucc := hid (cleanTo_succ bs l to now keep i x hx)
      have hsm := Hs.out i x hx
      clear hx
      have hlen := cleanTo_length bs l to now keep i
      generalize cleanTo bs l to now keep i = R at *
      cases hf : batchStaysB bs l to now keep i x
      · rw [hf] at C Hsucc
        clear hf
        go_wp2_with (go_at_call 32; refine C.out.mono ?_; rintro e w1 ⟨rfl, hb1⟩)
        go_roundw
        case rel => exact ⟨i + 1, by omega, by go_num, by rw [Hsucc.out]; exact hown.below hb1, hwr.step hb1⟩
        case measure => simp [intOf]; omega
      · rw [hf] at C Hsucc
        clear hf
        have hsz1 := hwr.size
        go_wp2_with (first
          | (go_at_call 32; refine C.out.mono ?_; rintro e w1 ⟨rfl, hb1⟩)
          | (go_at_call 33; refine (D.out _ hb1).mono ?_; rintro e w2 ⟨u2, rfl, hu2, hb2⟩; obtain ⟨a6, cap6, rfl⟩ := OwnRecs.form hu2)
          | (at_builtin; refine wpList_append_bat rfl (.tmp 25) (.tmp 33) rfl Try.underlying22 Try.inf28 w.heap.size _ R { x with recs := cleanedRecs bs l to now keep i x } (.slice a6 (cleanedRecs bs l to now keep i x).length cap6) rfl (((hown.below hb1).below hb2).below (below_alloc _ _)) w2.heap.size rfl ⟨by simp, by simp, by simp, by simp, by simp, by simp, by simp, by simp, by simp, by simp⟩ ((OwnRecs.base hu2 (Nat.le_trans hsz1 hb1.size)).below (below_alloc _ _)) ?_ (by omega) ?_ ?_))
        · unfold cleanedRecs; split
          · exact leftG_small hsm
          · exact hsm
        · have := hb1.size; have := hb2.size; simp; omega
        intro v' w' hown' hbel _
        go_wp2
        go_roundw
        case rel => exact ⟨i + 1, by omega, by go_num, by rw [Hsucc.out]; exact hown', ((hwr.step (hb1.step hb2)).step (below_alloc _ _)).trans hbel⟩
        case measure => simp [intOf]; omega
    · have hie : i = bs.length := by omega
      have Hi := hid hie; clear hie
      go_wp2
      go_ret
      exact ⟨_, rfl, by rw [Hi.out] at hown; exact hown, hwr⟩
end Go.Proofs.Ytceamgkifjmbcaa
