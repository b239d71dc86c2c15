/- Walks: whether batches are few, whatever their number. -/
import Derived.Test.YtceamgkifjmbcaaW1
namespace Go.Wm
open Go.RowKit
/-- The same readings, up to the greatest length that a slice may have. -/
def RecsBig (w : World) (v : Value) (rs : List Rec) : Prop :=
  ∃ a cap, v = .slice a rs.length cap ∧ rs.length ≤ 140737488355328 ∧ (∀ r ∈ rs, r.key.size ≤ 140737488351232 ∧ r.val.size ≤ 140737488351232) ∧
    SliceAt a rs.length 5 (fun k b o => ∀ r, rs[k]? = some r → RecAt w b o r)
def GonesBig (w : World) (v : Value) (gs : List Gone) : Prop :=
  ∃ a cap, v = .slice a gs.length cap ∧ gs.length ≤ 140737488355328 ∧
    SliceAt a gs.length 4 (fun k b o => ∀ g, gs[k]? = some g → GoneAt w b o g)
def BatchesBig (w : World) (v : Value) (bs : List Batch) : Prop :=
  ∃ a cap, v = .slice a bs.length (bs.length + cap) ∧ bs.length ≤ 140737488355328 ∧
    SliceAt a bs.length 10 (fun k b o => ∀ x, bs[k]? = some x → ∃ sv, BatchAt w b o x sv ∧ RecsBig w sv x.recs)
theorem RecsBig.mono {w w' : World} (hb : Below w.heap.size w w') {v : Value} {rs : List Rec} (h : RecsBig w v rs) : RecsBig w' v rs := by
  obtain ⟨a, cap, rfl, h1, h2, h3⟩ := h
  refine ⟨a, cap, rfl, h1, h2, fun k hk => ?_⟩
  obtain ⟨b, o, ha, h⟩ := h3 k hk
  exact ⟨b, o, ha, fun r hr => (h r hr).mono hb⟩
theorem RecsBig.form {w : World} {v : Value} {rs : List Rec} (h : RecsBig w v rs) : ∃ a cap, v = .slice a rs.length cap ∧ rs.length ≤ 140737488355328 := let ⟨a, cap, h1, h2, _⟩ := h; ⟨a, cap, h1, h2⟩
theorem GonesBig.mono {w w' : World} (hb : Below w.heap.size w w') {v : Value} {rs : List Gone} (h : GonesBig w v rs) : GonesBig w' v rs := by
  obtain ⟨a, cap, rfl, h1, h3⟩ := h
  refine ⟨a, cap, rfl, h1, fun k hk => ?_⟩
  obtain ⟨b, o, ha, h⟩ := h3 k hk
  exact ⟨b, o, ha, fun r hr => (h r hr).mono hb⟩
theorem BatchesBig.mono {w w' : World} (hb : Below w.heap.size w w') {v : Value} {bs : List Batch} (h : BatchesBig w v bs) : BatchesBig w' v bs := by
  obtain ⟨a, cap, rfl, h1, h3⟩ := h
  refine ⟨a, cap, rfl, h1, fun k hk => ?_⟩
  obtain ⟨b, o, ha, h⟩ := h3 k hk
  exact ⟨b, o, ha, fun x hx => let ⟨sv, h1, h2⟩ := h x hx; ⟨sv, h1.mono hb, h2.mono hb⟩⟩
theorem RecsBig.small {w : World} {v : Value} {rs : List Rec} (h : RecsBig w v rs) (hn : rs.length ≤ 1000000) : RecsAt w v rs := let ⟨a, cap, h1, _, h3, h4⟩ := h; ⟨a, cap, h1, hn, h3, h4⟩
theorem GonesBig.small {w : World} {v : Value} {rs : List Gone} (h : GonesBig w v rs) (hn : rs.length ≤ 1000000) : GonesAt w v rs := let ⟨a, cap, h1, _, h3⟩ := h; ⟨a, cap, h1, hn, h3⟩
theorem BatchesBig.small {w : World} {v : Value} {bs : List Batch} (h : BatchesBig w v bs) (hn : bs.length ≤ 1000000 ∧ ∀ x ∈ bs, x.recs.length ≤ 1000000) : BatchesAt w v bs := by
  obtain ⟨a, cap, rfl, h1, h3⟩ := h
  refine ⟨a, cap, rfl, hn.1, fun k hk => ?_⟩
  obtain ⟨b, o, ha, h⟩ := h3 k hk
  exact ⟨b, o, ha, fun x hx => let ⟨sv, h1, h2⟩ := h x hx; ⟨sv, h1, h2.small (hn.2 x (List.mem_of_getElem? hx))⟩⟩
end Go.Wm
namespace Go.Proofs.Ytceamgkifjmbcaa
open Go.RowKit Go.Wm
set_option maxHeartbeats 400000 in
theorem few04g (x : Batch) (sv : Value) (w : World) (hr : RecsBig w sv x.recs) :
    Calls Try.prog 48 #[.agg #[.int .i64 x.base, .int .i64 x.last, .int .i64 x.frm, .int .i64 x.epoch, .int .i64 x.pid, .int .i64 x.gen, .int .i64 x.seq, .bool x.txn, .int .i64 x.ctl, sv]] w
      fun e w' => e = .returned (.bool (few1 x.recs)) ∧ Below w.heap.size w w' := by
  obtain ⟨a, cap, rfl, hn, hsz, hs⟩ := hr
  generalize x.recs = rs at *
  go_enter Try.func48, Try.ntmps48
  go_wp2
  refine wp_name fun W hW => ?_
  have hB : Below w.heap.size w W := by rw [hW]; exact below_alloc _ _
  have hN : W.cell? ⟨w.heap.size, 9, none⟩ = some (.slice a rs.length cap) := by rw [hW]; simp
  clear hW
  go_loopw [3, 9] (fun s i wr => ∃ k : Nat, k ≤ rs.length ∧ i = .int .i64 k ∧ s = .int .i64 (bytesOf (rs.take k)) ∧ bytesOf (rs.take k) ≤ 20000 ∧ Below W.heap.size W wr) (fun _ i _ => rs.length - (intOf i).toNat)
  case atStart => exact ⟨0, by omega, rfl, rfl, by simp [bytesOf], Below.refl _ _⟩
  case round =>
    obtain ⟨k, hk, rfl, rfl, ht, hwr⟩ := hrel
    by_cases hlt : k < rs.length
    · obtain ⟨b, o, ha, hc⟩ := hs k hlt
      have hr := ((hc _ (List.getElem?_eq_getElem hlt)).mono hB).mono hwr
      obtain ⟨e0, e1, e2, e3, e4⟩ := hr
      have hbt := bytesOf_take rs k hlt
      have hsk := hsz _ (List.getElem_mem hlt)
      obtain ⟨z1, z2⟩ := hsk
      have Hbt := hid hbt; clear hbt hc hs hsz
      generalize rs[k] = r at *
      generalize hm : bytesOf (rs.take k) = m at *
      have Hm := hid hm; clear hm
      go_wp2
      · have h20 : 20000 < (m : Int) + (↑r.key.size + ↑r.val.size) := by assumption
        go_ret
        refine ⟨ret_bool ?_, ?_⟩
        · have := bytesOf_le rs (k + 1)
          have h := Hbt.out
          simp [few1]; omega
        · exact hB.step (hwr.alloc hwr.size _)
      · go_roundw
        case rel => exact ⟨k + 1, by omega, by go_num, by rw [Hbt.out]; go_num, by rw [Hbt.out]; omega, hwr.alloc hwr.size _⟩
        case measure => simp [intOf]; omega
    · have hN' := cell_below hwr hN
      have hke : k = rs.length := by omega
      have Hk := hid hke; clear hke
      go_wp2
      go_ret
      refine ⟨ret_bool ?_, hB.step hwr⟩
      have hk2 := Hk.out; subst hk2
      rw [List.take_length] at ht
      simp [few1, ht]; omega

set_option maxHeartbeats 400000 in
theorem fewAllg (bs : List Batch) (v : Value) (most : Int) (w : World) (hb : BatchesBig w v bs) :
    Calls Try.prog 27 #[v, .int .i64 most] w fun e w' => e = .returned (.bool (fewAllB bs most)) ∧ Below w.heap.size w w' := by
  obtain ⟨a, cap, rfl, hn, hs⟩ := hb
  go_enter Try.func27, Try.ntmps27
  go_wp2
  go_loopw [9] (fun i wr => ∃ k : Nat, k ≤ bs.length ∧ i = .int .i64 k ∧ (∀ j (h : j < bs.length), j < k → few1 bs[j].recs = true) ∧ Below w.heap.size w wr) (fun i _ => bs.length - (intOf i).toNat)
  case atStart => exact ⟨0, by omega, rfl, fun _ _ h => by omega, Below.refl _ _⟩
  case round =>
    obtain ⟨k, hk, rfl, hall, hwr⟩ := hrel
    have Hall := hid hall; clear hall
    by_cases hlt : k < bs.length
    · obtain ⟨b, o, ha, hc⟩ := hs k hlt
      obtain ⟨sv, hx, hrs⟩ := hc _ (List.getElem?_eq_getElem hlt)
      obtain ⟨e0, e1, e2, e3, e4, e5, e6, e7, e8, e9⟩ := hx.mono hwr
      obtain ⟨a2, cap2, rfl, hn2⟩ := hrs.form
      have hrw := hrs.mono hwr
      clear hc hs hx hrs
      obtain ⟨x, hx⟩ : ∃ x, x = bs[k] := ⟨_, rfl⟩
      rw [← hx] at e0 e1 e2 e3 e4 e5 e6 e7 e8 e9 hn2 hrw
      have Hx := hid hx; clear hx
      have C := hid (fun W' (h : RecsBig W' (.slice a2 x.recs.length cap2) x.recs) => few04g x _ W' h)
      cases hf : few1 x.recs
      · have Hf := hid hf
        rw [hf] at C; clear hf
        go_wp2_with (go_at_call 48; clear ha; refine (C.out _ (hrw.mono (below_alloc _ _))).mono ?_; rintro e w1 ⟨rfl, hb1⟩)
        go_ret
        refine ⟨ret_bool ?_, hwr.step ((below_alloc _ _).step hb1)⟩
        have : bs.all (fun x => few1 x.recs) = false := by
          rw [List.all_eq_false]
          exact ⟨bs[k], List.getElem_mem _, by rw [← Hx.out, Hf.out]; simp⟩
        simp [fewAllB, this]
      · have Hf := hid hf
        rw [hf] at C; clear hf
        go_wp2_with (go_at_call 48; clear ha; refine (C.out _ (hrw.mono (below_alloc _ _))).mono ?_; rintro e w1 ⟨rfl, hb1⟩)
        go_roundw
        case rel =>
          refine ⟨k + 1, by omega, by go_num, ?_, hwr.step ((below_alloc _ _).step hb1)⟩
          intro j hj hjk
          by_cases hjk' : j = k
          · subst hjk'; rw [← Hx.out]; exact Hf.out
          · exact Hall.out j hj (by omega)
        case measure => simp [intOf]; omega
    · have hke : k = bs.length := by omega
      have Hk := hid hke; clear hke
      go_wp2
      go_ret
      refine ⟨ret_bool ?_, hwr⟩
      have : bs.all (fun x => few1 x.recs) = true := by
        rw [List.all_eq_true]
        intro x hx
        obtain ⟨j, hj, rfl⟩ := List.getElem_of_mem hx
        exact Hall.out j hj (by omega)
      simp [fewAllB, this]
theorem few1_le {rs : List Rec} (h : few1 rs = true) : rs.length ≤ 100 := by
  simp [few1] at h; exact h.2
theorem few_small (bs : List Batch) (h : fewAllB bs 16 = true) : bs.length ≤ 1000000 ∧ ∀ x ∈ bs, x.recs.length ≤ 1000000 := by
  simp only [fewAllB, Bool.and_eq_true, List.all_eq_true, decide_eq_true_eq] at h
  exact ⟨by omega, fun x hx => Nat.le_trans (few1_le (h.1 x hx)) (by decide)⟩
set_option maxHeartbeats 400000 in
theorem few_big (bs : List Batch) (l : List Gone) (v g : Value) (w : World) (hb : BatchesBig w v bs) (hg : GonesBig w g l) :
    Calls Try.prog 12 #[v, g] w fun e w' => e = .returned (.bool (fewB bs l)) ∧ Below w.heap.size w w' := by
  obtain ⟨a, cap, rfl, hn, hs⟩ := hg
  cases h1 : fewAllB bs 16
  · go_enter Try.func12, Try.ntmps12
    go_wp2_with (go_at_call 27; refine (fewAllg bs v 16 _ hb).mono ?_; rintro e w1 ⟨rfl, hb1⟩)
    go_ret
    exact ⟨ret_bool (by simp [fewB, h1]), hb1⟩
  · cases h2 : decide (recCount bs ≤ 60)
    · go_enter Try.func12, Try.ntmps12
      go_wp2_with (first | (go_at_call 27; refine (fewAllg bs v 16 _ hb).mono ?_; rintro e w1 ⟨rfl, hb1⟩) | (go_at_call 28; refine (few13 bs v _ ((hb.small (few_small bs h1)).mono hb1)).mono ?_; rintro e w2 ⟨rfl, hb2⟩))
      go_ret
      exact ⟨ret_bool (by simp [fewB, h1, h2]), hb1.step hb2⟩
    · go_enter Try.func12, Try.ntmps12
      go_wp2_with (first | (go_at_call 27; refine (fewAllg bs v 16 _ hb).mono ?_; rintro e w1 ⟨rfl, hb1⟩) | (go_at_call 28; refine (few13 bs v _ ((hb.small (few_small bs h1)).mono hb1)).mono ?_; rintro e w2 ⟨rfl, hb2⟩))
      go_ret
      exact ⟨ret_bool (by simp [fewB, h1, h2]; omega), hb1.step hb2⟩
theorem few_cut {bs : List Batch} {l : List Gone} (h : fewB bs l = true) : (bs.length ≤ 1000000 ∧ ∀ x ∈ bs, x.recs.length ≤ 1000000) ∧ l.length ≤ 1000000 := by
  simp only [fewB, Bool.and_eq_true, decide_eq_true_eq] at h
  exact ⟨few_small bs h.1.1, by omega⟩
end Go.Proofs.Ytceamgkifjmbcaa
