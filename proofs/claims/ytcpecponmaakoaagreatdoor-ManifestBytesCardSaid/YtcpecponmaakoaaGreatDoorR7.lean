/- Walks: the document's Reader: a number, a sum. -/
import Derived.Test.YtcpecponmaakoaaGreatDoorR5
import Derived.Test.YtcpecponmaakoaaGreatDoorR6
import Derived.Test.YtcpecponmaakoaaGreatDoorL3
namespace Go.Proofs.YtcpecponmaakoaaGreatDoor
open Go.RowKit Go.Wm Go.Lib
/-- A reader: its bytes, its place, its error. -/
structure RdrAt (w : World) (R : Nat) (v : Value) (l : List UInt8) (s : Rd) : Prop where
  row : w.heap[R]? = some (.cells #[v, .int .i64 s.at', .int .i64 s.e] 95 (0, 0))
  bytes : BytesAt w v l
  apart : ∀ a n c, v = .slice (some a) n c → a.block ≠ R
theorem RdrAt.below {w w' : World} {R : Nat} {v : Value} {l : List UInt8} {s : Rd} (h : RdrAt w R v l s) (hb : Below w.heap.size w w') : RdrAt w' R v l s :=
  ⟨blk_below h.row hb, h.bytes.mono hb, h.apart⟩
theorem row3_setj {w : World} {R : Nat} {x y z x' : Value} {t : TypeId} (j : Nat) (h : w.heap[R]? = some (.cells #[x, y, z] t (0, 0))) : (w.setCell ⟨R, j, none⟩ x').heap[R]? = some (.cells ((#[x, y, z] : Array Value).setIfInBounds j x') t (0, 0)) :=
  heap_setCell_same w R j _ t x' h
theorem RdrAt.set1 {w : World} {R : Nat} {v : Value} {l : List UInt8} {s : Rd} (h : RdrAt w R v l s) (p : Nat) : RdrAt (w.setCell ⟨R, 1, none⟩ (.int .i64 p)) R v l ⟨p, s.e⟩ :=
  ⟨row3_setj 1 h.row, BytesAt.other h.bytes ⟨R, 1, none⟩ _ h.apart, h.apart⟩
theorem RdrAt.set2 {w : World} {R : Nat} {v : Value} {l : List UInt8} {s : Rd} (h : RdrAt w R v l s) (e : Int) : RdrAt (w.setCell ⟨R, 2, none⟩ (.int .i64 e)) R v l ⟨s.at', e⟩ :=
  ⟨row3_setj 2 h.row, BytesAt.other h.bytes ⟨R, 2, none⟩ _ h.apart, h.apart⟩
theorem grown_setj (w : World) (R j : Nat) (u : Value) : w.grownBy (w.setCell ⟨R, j, none⟩ u) (some R) :=
  ⟨rfl, rfl, rfl, by simp, fun q _ hq => heap_setCell_other w ⟨R, j, none⟩ q _ (fun e => hq (by rw [e]))⟩
set_option maxHeartbeats 2000000 in
set_option maxRecDepth 100000 in
theorem num_any (l : List UInt8) (R : Nat) (v : Value) (s : Rd) (w : World) (h : RdrAt w R v l s) (hs : s.at' ≤ 1000000000) :
    Calls Tryz.prog 65 #[.pointer (some ⟨R, 0, none⟩)] w fun e w' => e = .returned (.int .i64 (rd l s).1) ∧ RdrAt w' R v l (rd l s).2 ∧ w.grownBy w' (some R) := by
  obtain ⟨p, e0⟩ := s
  simp only at hs
  obtain ⟨m0, m1, m2, mf⟩ := row3 h.row
  simp only at m0 m1 m2
  by_cases he : e0 = 0
  · subst he
    have Hr := hid (show rd l ⟨p, 0⟩ = ((getVarM l p).1, ⟨(getVarM l p).2.1.toNat, (getVarM l p).2.2⟩) by rw [rd, if_pos rfl])
    have hat := (getVarM_at l p).1
    have G := hid (fun n : Later w => Later.call (n := n) ((refGetVar_any l p v n.w (h.bytes.mono n.below) hs).mono fun e w' ⟨h1, h2⟩ => ⟨h1, by rw [h2]; exact Below.refl _ _⟩))
    generalize getVarM l p = r at *
    obtain ⟨r1, r2, r3⟩ := r
    simp only at Hr hat G
    have H := hid h
    have n0 := Later.cell m0
    have n1 := Later.cell m1
    obtain ⟨a, cap, rfl, hn⟩ := h.bytes.form
    clear h
    go_enter Tryz.func65, Tryz.ntmps65
    go_wp2_with fail
    refine wp_region_later (by kernel_rfl) (by kernel_rfl) ?_
    repeat (go_big_quiet_step ((go_at_call 89; exact G.out _)))
    refine wpQuiet_nil ?_
    intro w2 hb2
    have H2 := hid (H.out.below hb2)
    obtain ⟨m0, m1, m2, mf⟩ := row3 H2.out.row
    simp only at m0 m1 m2
    clear G n0 n1
    go_wp2_with fail
    go_ret
    refine ⟨by rw [Hr.out]; first | rfl | simp, ?_, ?_⟩
    · rw [Hr.out]
      have := (H2.out.set1 r2.toNat).set2 r3
      rw [hat] at this
      exact this
    · exact grownBy_trans (grownBy_below hb2) (grownBy_trans (grown_setj _ _ _ _) (grown_setj _ _ _ _))
  · have hr : rd l ⟨p, e0⟩ = (0, ⟨p, e0⟩) := by rw [rd, if_neg he]
    have Hr := hid hr
    clear hr
    have heb : (e0 != 0) = true := by simpa using he
    clear he
    go_enter Tryz.func65, Tryz.ntmps65
    go_wp2_with fail
    go_ret
    exact ⟨by rw [Hr.out]; first | rfl | simp, by rw [Hr.out]; exact h, grownBy_below (Below.refl _ _)⟩
/-- A sum read. -/
def rdSum (l : List UInt8) (s : Rd) : Int × Rd := if s.e = 0 then ((((get4 l s.at').1 : Nat) : Int), ⟨s.at' + 4, (get4 l s.at').2⟩) else (0, s)
set_option maxHeartbeats 2000000 in
set_option maxRecDepth 100000 in
theorem sumR_any (l : List UInt8) (R : Nat) (v : Value) (s : Rd) (w : World) (h : RdrAt w R v l s) (hs : s.at' ≤ 1000000000) :
    Calls Tryz.prog 66 #[.pointer (some ⟨R, 0, none⟩)] w fun e w' => e = .returned (.int .u32 (rdSum l s).1) ∧ RdrAt w' R v l (rdSum l s).2 ∧ w.grownBy w' (some R) := by
  obtain ⟨p, e0⟩ := s
  simp only at hs
  obtain ⟨m0, m1, m2, mf⟩ := row3 h.row
  simp only at m0 m1 m2
  by_cases he : e0 = 0
  · subst he
    have Hr := hid (show rdSum l ⟨p, 0⟩ = ((((get4 l p).1 : Nat) : Int), ⟨p + 4, (get4 l p).2⟩) by rw [rdSum, if_pos rfl])
    have hlt := get4_lt l p
    have G := hid (fun n : Later w => Later.call (n := n) ((refGet4_any l p v n.w (h.bytes.mono n.below) hs).mono fun e w' ⟨h1, h2⟩ => ⟨h1, by rw [h2]; exact Below.refl _ _⟩))
    generalize get4 l p = r at *
    obtain ⟨r1, r2⟩ := r
    simp only at Hr hlt G
    have H := hid h
    have n0 := Later.cell m0
    have n1 := Later.cell m1
    obtain ⟨a, cap, rfl, hn⟩ := h.bytes.form
    clear h
    go_enter Tryz.func66, Tryz.ntmps66
    go_wp2_with fail
    refine wp_region_later (by kernel_rfl) (by kernel_rfl) ?_
    repeat (go_big_quiet_step ((go_at_call 90; exact G.out _)))
    refine wpQuiet_nil ?_
    intro w2 hb2
    have H2 := hid (H.out.below hb2)
    obtain ⟨m0, m1, m2, mf⟩ := row3 H2.out.row
    simp only at m0 m1 m2
    clear G n0 n1
    go_wp2_with fail
    go_ret
    refine ⟨by rw [Hr.out]; first | rfl | simp, ?_, ?_⟩
    · rw [Hr.out]
      have := (H2.out.set1 (p + 4)).set2 r2
      simpa using this
    · exact grownBy_trans (grownBy_below hb2) (grownBy_trans (grown_setj _ _ _ _) (grown_setj _ _ _ _))
  · have hr : rdSum l ⟨p, e0⟩ = (0, ⟨p, e0⟩) := by rw [rdSum, if_neg he]
    have Hr := hid hr
    clear hr
    have heb : (e0 != 0) = true := by simpa using he
    clear he
    go_enter Tryz.func66, Tryz.ntmps66
    go_wp2_with fail
    go_ret
    exact ⟨by rw [Hr.out]; first | rfl | simp, by rw [Hr.out]; exact h, grownBy_below (Below.refl _ _)⟩
end Go.Proofs.YtcpecponmaakoaaGreatDoor
