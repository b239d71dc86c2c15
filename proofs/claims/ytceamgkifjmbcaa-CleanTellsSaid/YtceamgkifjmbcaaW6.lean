/- Walks of the document's text: the last record of a key. -/
import Derived.Test.YtceamgkifjmbcaaW5
namespace Go.Proofs.Ytceamgkifjmbcaa
open Go.RowKit Go.Wm
set_option maxHeartbeats 2000000 in
theorem last_any (bs : List Batch) (l : List Gone) (to : Int) (key : ByteArray) (v g : Value) (w : World) (hb : BatchesAt w v bs) (hg : GonesAt w g l) :
    Calls Try.prog 47 #[v, g, .int .i64 to, .string key] w
      fun e w' => e = .returned (.tuple #[.int .i64 (lastG bs l to key).1, .int .i64 (lastG bs l to key).2]) ∧ Below w.heap.size w w' := by
  obtain ⟨a, cap, rfl, hn, hs⟩ := hb
  obtain ⟨a3, cap3, rfl, hn3⟩ := hg.form
  rcases hs.shape with ⟨b', o, rfl, hc⟩ | h0
  · clear hs
    go_enter Try.func47, Try.ntmps47
    go_wp2
    go_loopw [10, 11, 18] (fun p q i wr => ∃ k : Nat, k ≤ bs.length ∧ i = .int .i64 k ∧ p = .int .i64 (lastTo bs l to key k).1 ∧ q = .int .i64 (lastTo bs l to key k).2 ∧ Below w.heap.size w wr) (fun _ _ i _ => bs.length - (intOf i).toNat)
    case atStart => exact ⟨0, by omega, rfl, rfl, rfl, Below.refl _ _⟩
    case round =>
      obtain ⟨k, hk, rfl, rfl, rfl, hwr⟩ := hrel
      by_cases hlt : k < bs.length
      · obtain ⟨sv, hx, hrs⟩ := hc k hlt _ (List.getElem?_eq_getElem hlt)
        obtain ⟨a2, cap2, rfl, hn2⟩ := hrs.form
        have hrw := hrs.mono hwr
        obtain ⟨e0, e1, e2, e3, e4, e5, e6, e7, e8, e9⟩ := hx.mono hwr
        have hgw := hg.mono hwr
        have Hsucc := hid (lastTo_succ bs l to key k hlt)
        clear hc hx hrs hg
        obtain ⟨x, hx⟩ : ∃ x, x = bs[k] := ⟨_, rfl⟩
        rw [← hx] at e0 e1 e2 e3 e4 e5 e6 e7 e8 e9 hrw hn2 Hsucc
        clear hx
        obtain ⟨wo, rfl⟩ : ∃ wo : World, wo = wr := ⟨_, rfl⟩
        have C := hid (fun X => countsRef_any x l to _ _ (wo.alloc X) (hrw.mono (below_alloc _ _)) (hgw.mono (below_alloc _ _)))
        cases hf : countsB l to x
        · rw [hf] at C Hsucc
          clear hf
          go_wp2_with (go_at_call 67; refine (C.out _).mono ?_; rintro e w1 ⟨rfl, hb1⟩)
          go_roundw
          case rel => exact ⟨k + 1, by omega, by go_num, by rw [Hsucc.out]; simp, by rw [Hsucc.out]; simp, hwr.step ((below_alloc _ _).step hb1)⟩
          case measure => simp [intOf]; omega
        · rw [hf] at C Hsucc
          clear hf
          go_wp2_with (go_at_call 67; refine (C.out _).mono ?_; rintro e w1 ⟨rfl, hb1⟩; have n9 := cell_below hb1 (show (World.alloc wo _).cell? ⟨wo.heap.size, 9, none⟩ = some (.slice a2 x.recs.length cap2) by simp))
          have hw1 := hwr.step ((below_alloc _ _).step hb1)
          have hrw1 := hrw.mono ((below_alloc _ _).step hb1)
          clear hb1
          generalize lastTo bs l to key k = s at *
          obtain ⟨a2', cap2', hv, _, _, hs2⟩ := hrw1
          cases hv
          rcases hs2.shape with ⟨b2, o2, rfl, hc2⟩ | h02
          · clear hs2
            go_loopw [10, 11, 31] (fun p q i wr => ∃ j : Nat, j ≤ x.recs.length ∧ i = .int .i64 j ∧ p = .int .i64 (lastInTo key k x.recs s j).1 ∧ q = .int .i64 (lastInTo key k x.recs s j).2 ∧ Below w1.heap.size w1 wr) (fun _ _ i _ => x.recs.length - (intOf i).toNat)
            case atStart => exact ⟨0, by omega, rfl, rfl, rfl, Below.refl _ _⟩
            case round =>
              obtain ⟨j, hj, rfl, rfl, rfl, hwr2⟩ := hrel
              by_cases hjt : j < x.recs.length
              · obtain ⟨g0, g1, g2, g3, g4⟩ := (hc2 j hjt _ (List.getElem?_eq_getElem hjt)).mono hwr2
                have Hs2 := hid (lastInTo_succ key k x.recs s j hjt)
                clear hc2
                obtain ⟨r, hr⟩ : ∃ r, r = x.recs[j] := ⟨_, rfl⟩
                rw [← hr] at g0 g1 g2 g3 g4 Hs2
                clear hr
                by_cases hkey : r.key = key
                · have hkb : (r.key.toList == key.toList) = true := by rw [hkey]; simp
                  rw [if_pos hkey] at Hs2
                  clear hkey
                  go_wp2
                  go_roundw
                  case rel => exact ⟨j + 1, by omega, by go_num, by rw [Hs2.out], by rw [Hs2.out], hwr2.step (below_alloc _ _)⟩
                  case measure => simp [intOf]; omega
                · have hkb : (r.key.toList == key.toList) = false := by rw [run_eq_bytes]; simpa using hkey
                  rw [if_neg hkey] at Hs2
                  clear hkey
                  go_wp2
                  go_roundw
                  case rel => exact ⟨j + 1, by omega, by go_num, by rw [Hs2.out], by rw [Hs2.out], hwr2.step (below_alloc _ _)⟩
                  case measure => simp [intOf]; omega
              · have hje : j = x.recs.length := by omega
                have Hj := hid hje; clear hje
                go_wp2
                go_roundw
                case rel => exact ⟨k + 1, by omega, by go_num, by rw [Hsucc.out, Hj.out]; simp, by rw [Hsucc.out, Hj.out]; simp, hw1.step hwr2⟩
                case measure => simp [intOf]; omega
          · have H02 := hid h02
            clear hs2 h02
            refine wp_loop_once ?_
            have hlt0 : ¬ (0 : Int) < (x.recs.length : Int) := by have := H02.out; omega
            go_wp2
            go_roundw
            case rel => exact ⟨k + 1, by omega, by go_num, by rw [Hsucc.out, H02.out]; simp [lastInTo], by rw [Hsucc.out, H02.out]; simp [lastInTo], hw1⟩
            case measure => simp [intOf]; omega
      · have hke : k = bs.length := by omega
        have Hk := hid hke; clear hke
        go_wp2
        go_ret2
        exact ⟨by rw [Hk.out]; rfl, hwr⟩
  · obtain rfl : bs = [] := List.eq_nil_of_length_eq_zero h0
    clear hs h0 hn
    go_enter Try.func47, Try.ntmps47
    go_wp2
    refine wp_loop_once ?_
    go_wp2
    go_ret2
    exact ⟨rfl, Below.refl _ _⟩
end Go.Proofs.Ytceamgkifjmbcaa
