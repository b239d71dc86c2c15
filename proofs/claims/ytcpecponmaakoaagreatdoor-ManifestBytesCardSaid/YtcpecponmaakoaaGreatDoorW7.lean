/- Walks: Span, and the document's Span and At. -/
import Derived.Test.YtcpecponmaakoaaGreatDoorW5
namespace Go.Proofs.YtcpecponmaakoaaGreatDoor
open Go.RowKit Go.Wm
def spanL : List Piece → Int × Int
  | [] => (0, 0)
  | p :: t => (p.base, ((p :: t)[t.length]'(by simp)).fin)
def spanP (ps : List Piece) : Int × Int := spanL (ps.filter (stIs 2))
theorem spanL_snoc (l : List Piece) (p : Piece) : spanL (l ++ [p]) = (if l = [] then p.base else (spanL l).1, p.fin) := by
  cases l with
  | nil => rfl
  | cons q t => simp [spanL]
set_option maxHeartbeats 1000000 in
theorem span_any (ver next : Int) (ps : List Piece) (v : Value) (w : World) (hv : PcsAt w v ps) :
    Calls Tryz.prog 14 #[.agg #[.int .i64 ver, .int .i64 next, v]] w fun e w' => e = .returned (.tuple #[.int .i64 (spanP ps).1, .int .i64 (spanP ps).2]) ∧ Below w.heap.size w w' := by
  have C := hid (only_any ver next ps v _ (hv.mono (below_alloc w (.cells #[.int .i64 ver, .int .i64 next, v] 24))))
  have hfl : (ps.filter (stIs 2)).length ≤ 1000000 := Nat.le_trans (List.length_filter_le _ _) (by obtain ⟨_, _, _, h, _⟩ := hv; exact h)
  have Hm := hid (show spanP ps = spanL (ps.filter (stIs 2)) from rfl)
  obtain ⟨a, cap, rfl, hn⟩ := hv.form
  clear hv
  generalize ps.filter (stIs 2) = l at *
  cases l with
  | nil =>
    go_enter Tryz.func14, Tryz.ntmps14
    go_wp2_with (go_at_call 40; refine C.out.mono ?_; rintro e w1 ⟨u, rfl, hu, hb1⟩; obtain ⟨a2, cap2, rfl⟩ := OwnPcs.form hu)
    exact bodyPost_ret (v := .tuple #[.int .i64 0, .int .i64 0]) (by simp [results, Tryz.results14, go_sem]) rfl ⟨by rw [Hm.out]; rfl, (below_alloc _ _).step hb1⟩
  | cons p t =>
    go_enter Tryz.func14, Tryz.ntmps14
    go_wp2_with fail
    refine C.out.mono ?_
    rintro e w1 ⟨u, rfl, hu, hb1⟩
    have hat := hu.at hfl
    obtain ⟨a2, cap2, rfl, _, hs⟩ := hat
    obtain ⟨b, o, rfl, hx⟩ := hs 0 (by simp)
    obtain ⟨b', o', hbo, hx'⟩ := hs t.length (by simp)
    cases hbo
    obtain ⟨e0, e1, e2, e3, e4, e5⟩ := hx p rfl
    obtain ⟨g0, g1, g2, g3, g4, g5⟩ := hx' _ (List.getElem?_eq_getElem (by simp))
    have H2 := hid (show (spanL (p :: t)).2 = ((p :: t)[t.length]'(by simp)).fin from rfl)
    simp only [Nat.zero_mul, Nat.add_zero] at e0 e1 e2 e3 e4 e5
    obtain ⟨q, hq⟩ : ∃ q, q = (p :: t)[t.length]'(by simp) := ⟨_, rfl⟩
    rw [← hq] at g0 g1 g2 g3 g4 g5 H2
    have hbw := (below_alloc w (.cells #[.int .i64 ver, .int .i64 next, .slice a ps.length cap] 24)).step hb1
    clear hx hx' hs hu hq hb1 C
    have r1 := Later.cell e1
    have r2 := Later.cell g2
    have ht : t.length ≤ 1000000 := by simp at hfl; omega
    have ht2 : ((t.length : Int) + 1) - 1 = t.length := by omega
    go_wp2_with fail
    refine wp_region_later (by kernel_rfl) (by kernel_rfl) ?_
    repeat (go_big_quiet_step (fail))
    refine wpQuiet_nil ?_
    intro w2 hb2
    clear r1 r2
    go_wp2
    exact bodyPost_ret (v := .tuple #[.int .i64 p.base, .int .i64 q.fin]) (by simp [results, Tryz.results14, go_sem]) rfl ⟨by rw [Hm.out, H2.out]; rfl, hbw.step hb2⟩
set_option maxHeartbeats 1000000 in
theorem refSpan_any (ver next : Int) (ps : List Piece) (v : Value) (w : World) (hv : PcsAt w v ps) :
    Calls Tryz.prog 15 #[.agg #[.int .i64 ver, .int .i64 next, v]] w fun e w' => e = .returned (.tuple #[.int .i64 (spanP ps).1, .int .i64 (spanP ps).2]) ∧ Below w.heap.size w w' := by
  obtain ⟨a, cap, rfl, hn, hs⟩ := hv
  have HS := hid hs
  clear hs
  go_enter Tryz.func15, Tryz.ntmps15
  go_wp2
  refine wp_name fun W hW => ?_
  have hB : Below w.heap.size w W := by rw [hW]; exact below_alloc _ _
  have hN2 : W.cell? ⟨w.heap.size, 2, none⟩ = some (.slice a ps.length cap) := by rw [hW]; simp
  clear hW
  go_loopw [4, 5, 6, 7] (fun bb ee y i wr => ∃ k : Nat, k ≤ ps.length ∧ i = .int .i64 k ∧ bb = .int .i64 (spanP (ps.take k)).1 ∧ ee = .int .i64 (spanP (ps.take k)).2 ∧ y = .bool (!((ps.take k).filter (stIs 2)).isEmpty) ∧ Below W.heap.size W wr) (fun _ _ _ i _ => ps.length - (intOf i).toNat)
  case atStart => exact ⟨0, by omega, rfl, rfl, rfl, rfl, Below.refl _ _⟩
  case round =>
    obtain ⟨k, hk, rfl, rfl, rfl, rfl, hwr⟩ := hrel
    have hm2 := cell_below hwr hN2
    by_cases hlt : k < ps.length
    · obtain ⟨b, o, rfl, hx⟩ := HS.out k hlt
      obtain ⟨e0, e1, e2, e3, e4, e5⟩ := ((hx _ (List.getElem?_eq_getElem hlt)).mono hB).mono hwr
      have Ht := hid (show (ps.take (k + 1)).filter (stIs 2) = (ps.take k).filter (stIs 2) ++ if stIs 2 ps[k] then [ps[k]] else [] by
        rw [List.take_add_one, List.filter_append, List.getElem?_eq_getElem hlt]
        cases h : stIs 2 ps[k] <;> simp [h])
      obtain ⟨p, hp⟩ : ∃ p, p = ps[k] := ⟨_, rfl⟩
      rw [← hp] at e0 e1 e2 e3 e4 e5 Ht
      clear hx hp hN2
      by_cases hst : p.state = 2
      · have Hs1 := hid (show spanP (ps.take (k + 1)) = (if (ps.take k).filter (stIs 2) = [] then p.base else (spanP (ps.take k)).1, p.fin) by
          unfold spanP; rw [Ht.out, if_pos (by simp [stIs, hst]), spanL_snoc])
        have Hs2 := hid (show (!((ps.take (k + 1)).filter (stIs 2)).isEmpty) = true by rw [Ht.out, if_pos (by simp [stIs, hst])]; simp)
        have t1 : (p.state != 2) = false := by simp [hst]
        clear hst
        cases hfl : (ps.take k).filter (stIs 2) with
        | nil =>
          have Hfl := hid hfl
          clear hfl
          simp only [List.isEmpty_nil, Bool.not_true]
          go_wp2
          go_roundw
          case rel => exact ⟨k + 1, by omega, by go_num, by rw [Hs1.out, if_pos Hfl.out], by rw [Hs1.out], by rw [Hs2.out], hwr⟩
          case measure => simp [intOf]; omega
        | cons q l =>
          have Hfl := hid (show (ps.take k).filter (stIs 2) ≠ [] by rw [hfl]; simp)
          clear hfl
          simp only [List.isEmpty_cons, Bool.not_false]
          go_wp2
          go_roundw
          case rel => exact ⟨k + 1, by omega, by go_num, by rw [Hs1.out, if_neg Hfl.out], by rw [Hs1.out], by rw [Hs2.out], hwr⟩
          case measure => simp [intOf]; omega
      · have Hs1 := hid (show (ps.take (k + 1)).filter (stIs 2) = (ps.take k).filter (stIs 2) by rw [Ht.out, if_neg (by simp [stIs, hst]), List.append_nil])
        have t1 : (p.state != 2) = true := by simp [hst]
        clear hst
        go_wp2
        go_roundw
        case rel => exact ⟨k + 1, by omega, by go_num, by unfold spanP; rw [Hs1.out], by unfold spanP; rw [Hs1.out], by rw [Hs1.out], hwr⟩
        case measure => simp [intOf]; omega
    · have hke : k = ps.length := by omega
      have Hk := hid (show ps.take k = ps by rw [hke, List.take_length])
      clear hke
      go_wp2
      exact bodyPost_ret (v := .tuple #[.int .i64 (spanP (ps.take k)).1, .int .i64 (spanP (ps.take k)).2]) (by simp [results, Tryz.results15, go_sem]) rfl ⟨by rw [Hk.out], hB.step hwr⟩
end Go.Proofs.YtcpecponmaakoaaGreatDoor
