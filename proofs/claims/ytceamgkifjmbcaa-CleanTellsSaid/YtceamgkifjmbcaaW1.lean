/- Walks: the functions that tell whether batches are few. -/
import Derived.Test.YtceamgkifjmbcaaProg
import Derived.Test.YtceamgkifjmbcaaDefs
namespace Go.Proofs.Ytceamgkifjmbcaa
open Go.RowKit Go.Wm
def bytesOf : List Rec → Nat
  | [] => 0
  | r :: rs => r.key.size + r.val.size + bytesOf rs
theorem bytesOf_take (rs : List Rec) : ∀ k (h : k < rs.length), bytesOf (rs.take (k + 1)) = bytesOf (rs.take k) + (rs[k].key.size + rs[k].val.size) := by
  induction rs with
  | nil => intro k h; simp at h
  | cons r rs ih =>
    intro k h
    cases k with
    | zero => simp [bytesOf]
    | succ k => simp [bytesOf, ih k (by simpa using h)]; omega
theorem bytesOf_le (rs : List Rec) : ∀ k, bytesOf (rs.take k) ≤ bytesOf rs := by
  induction rs with
  | nil => intro k; simp
  | cons r rs ih =>
    intro k
    cases k with
    | zero => simp [bytesOf]
    | succ k => simp [bytesOf]; have := ih k; omega
def few1 (rs : List Rec) : Bool := decide (bytesOf rs ≤ 20000) && decide (rs.length ≤ 100)
set_option maxHeartbeats 400000 in
theorem few04 (x : Batch) (sv : Value) (w : World) (hr : RecsAt w sv x.recs) :
    Calls Try.prog 48 #[.agg #[.int .i64 x.base, .int .i64 x.last, .int .i64 x.frm, .int .i64 x.epoch, .int .i64 x.pid, .int .i64 x.gen, .int .i64 x.seq, .bool x.txn, .int .i64 x.ctl, sv]] w
      fun e w' => e = .returned (.bool (few1 x.recs)) ∧ Below w.heap.size w w' := by
  obtain ⟨a, cap, rfl, hn, hsz, hs⟩ := hr
  generalize x.recs = rs at *
  go_enter Try.func48, Try.ntmps48
  go_wp2
  refine wp_name fun W hW => ?_
  have hB : Below w.heap.size w W := by rw [hW]; exact below_alloc _ _
  have hN : W.cell? ⟨w.heap.size, 9, none⟩ = some (.slice a rs.length cap) := by rw [hW]; simp
  clear hW
  go_loopw [3, 9] (fun s i wr => ∃ k : Nat, k ≤ rs.length ∧ i = .int .i64 k ∧ s = .int .i64 (bytesOf (rs.take k)) ∧ bytesOf (rs.take k) ≤ 20000 ∧ Below W.heap.size W wr) (fun _ i _ => rs.length - (intOf i).toNat)
  case atStart => exact ⟨0, by omega, rfl, rfl, by simp [bytesOf], Below.refl _ _⟩
  case round =>
    obtain ⟨k, hk, rfl, rfl, ht, hwr⟩ := hrel
    by_cases hlt : k < rs.length
    · obtain ⟨b, o, ha, hc⟩ := hs k hlt
      have hr := ((hc _ (List.getElem?_eq_getElem hlt)).mono hB).mono hwr
      obtain ⟨e0, e1, e2, e3, e4⟩ := hr
      have hbt := bytesOf_take rs k hlt
      have hsk := hsz _ (List.getElem_mem hlt)
      obtain ⟨z1, z2⟩ := hsk
      have Hbt := hid hbt; clear hbt hc hs hsz
      generalize rs[k] = r at *
      generalize hm : bytesOf (rs.take k) = m at *
      have Hm := hid hm; clear hm
      go_wp2
      · have h20 : 20000 < (m : Int) + (↑r.key.size + ↑r.val.size) := by assumption
        go_ret
        refine ⟨ret_bool ?_, ?_⟩
        · have := bytesOf_le rs (k + 1)
          have h := Hbt.out
          simp [few1]; omega
        · exact hB.step (hwr.alloc hwr.size _)
      · go_roundw
        case rel => exact ⟨k + 1, by omega, by go_num, by rw [Hbt.out]; go_num, by rw [Hbt.out]; omega, hwr.alloc hwr.size _⟩
        case measure => simp [intOf]; omega
    · have hN' := cell_below hwr hN
      have hke : k = rs.length := by omega
      have Hk := hid hke; clear hke
      go_wp2
      go_ret
      refine ⟨ret_bool ?_, hB.step hwr⟩
      have hk2 := Hk.out; subst hk2
      rw [List.take_length] at ht
      simp [few1, ht]; omega

def fewAllB (bs : List Batch) (most : Int) : Bool := bs.all (fun x => few1 x.recs) && decide ((bs.length : Int) ≤ most)
set_option maxHeartbeats 400000 in
theorem fewAll (bs : List Batch) (v : Value) (most : Int) (w : World) (hb : BatchesAt w v bs) :
    Calls Try.prog 27 #[v, .int .i64 most] w fun e w' => e = .returned (.bool (fewAllB bs most)) ∧ Below w.heap.size w w' := by
  obtain ⟨a, cap, rfl, hn, hs⟩ := hb
  go_enter Try.func27, Try.ntmps27
  go_wp2
  go_loopw [9] (fun i wr => ∃ k : Nat, k ≤ bs.length ∧ i = .int .i64 k ∧ (∀ j (h : j < bs.length), j < k → few1 bs[j].recs = true) ∧ Below w.heap.size w wr) (fun i _ => bs.length - (intOf i).toNat)
  case atStart => exact ⟨0, by omega, rfl, fun _ _ h => by omega, Below.refl _ _⟩
  case round =>
    obtain ⟨k, hk, rfl, hall, hwr⟩ := hrel
    have Hall := hid hall; clear hall
    by_cases hlt : k < bs.length
    · obtain ⟨b, o, ha, hc⟩ := hs k hlt
      obtain ⟨sv, hx, hrs⟩ := hc _ (List.getElem?_eq_getElem hlt)
      obtain ⟨e0, e1, e2, e3, e4, e5, e6, e7, e8, e9⟩ := hx.mono hwr
      obtain ⟨a2, cap2, rfl, hn2⟩ := hrs.form
      have hrw := hrs.mono hwr
      clear hc hs hx hrs
      obtain ⟨x, hx⟩ : ∃ x, x = bs[k] := ⟨_, rfl⟩
      rw [← hx] at e0 e1 e2 e3 e4 e5 e6 e7 e8 e9 hn2 hrw
      have Hx := hid hx; clear hx
      have C := hid (fun W' (h : RecsAt W' (.slice a2 x.recs.length cap2) x.recs) => few04 x _ W' h)
      cases hf : few1 x.recs
      · have Hf := hid hf
        rw [hf] at C; clear hf
        go_wp2_with (go_at_call 48; clear ha; refine (C.out _ (hrw.mono (below_alloc _ _))).mono ?_; rintro e w1 ⟨rfl, hb1⟩)
        go_ret
        refine ⟨ret_bool ?_, hwr.step ((below_alloc _ _).step hb1)⟩
        have : bs.all (fun x => few1 x.recs) = false := by
          rw [List.all_eq_false]
          exact ⟨bs[k], List.getElem_mem _, by rw [← Hx.out, Hf.out]; simp⟩
        simp [fewAllB, this]
      · have Hf := hid hf
        rw [hf] at C; clear hf
        go_wp2_with (go_at_call 48; clear ha; refine (C.out _ (hrw.mono (below_alloc _ _))).mono ?_; rintro e w1 ⟨rfl, hb1⟩)
        go_roundw
        case rel =>
          refine ⟨k + 1, by omega, by go_num, ?_, hwr.step ((below_alloc _ _).step hb1)⟩
          intro j hj hjk
          by_cases hjk' : j = k
          · subst hjk'; rw [← Hx.out]; exact Hf.out
          · exact Hall.out j hj (by omega)
        case measure => simp [intOf]; omega
    · have hke : k = bs.length := by omega
      have Hk := hid hke; clear hke
      go_wp2
      go_ret
      refine ⟨ret_bool ?_, hwr⟩
      have : bs.all (fun x => few1 x.recs) = true := by
        rw [List.all_eq_true]
        intro x hx
        obtain ⟨j, hj, rfl⟩ := List.getElem_of_mem hx
        exact Hall.out j hj (by omega)
      simp [fewAllB, this]
/-- How many records there are. -/
def recCount : List Batch → Nat
  | [] => 0
  | x :: bs => x.recs.length + recCount bs
theorem recCount_take (rs : List Batch) : ∀ k (h : k < rs.length), recCount (rs.take (k + 1)) = recCount (rs.take k) + rs[k].recs.length := by
  induction rs with
  | nil => intro k h; simp at h
  | cons r rs ih =>
    intro k h
    cases k with
    | zero => simp [recCount]
    | succ k => simp [recCount, ih k (by simpa using h)]; omega
set_option maxHeartbeats 400000 in
theorem few13 (bs : List Batch) (v : Value) (w : World) (hb : BatchesAt w v bs) :
    Calls Try.prog 28 #[v] w fun e w' => e = .returned (.bool (decide (recCount bs ≤ 60))) ∧ Below w.heap.size w w' := by
  obtain ⟨a, cap, rfl, hn, hs⟩ := hb
  go_enter Try.func28, Try.ntmps28
  go_wp2
  go_loopw [3, 8] (fun s i wr => ∃ k : Nat, k ≤ bs.length ∧ i = .int .i64 k ∧ s = .int .i64 (recCount (bs.take k)) ∧ recCount (bs.take k) ≤ k * 1000000 ∧ Below w.heap.size w wr) (fun _ i _ => bs.length - (intOf i).toNat)
  case atStart => exact ⟨0, by omega, rfl, rfl, by simp [recCount], Below.refl _ _⟩
  case round =>
    obtain ⟨k, hk, rfl, rfl, hbd, hwr⟩ := hrel
    by_cases hlt : k < bs.length
    · obtain ⟨b, o, ha, hc⟩ := hs k hlt
      obtain ⟨sv, hx, hrs⟩ := hc _ (List.getElem?_eq_getElem hlt)
      obtain ⟨e0, e1, e2, e3, e4, e5, e6, e7, e8, e9⟩ := hx.mono hwr
      obtain ⟨a2, cap2, rfl, hn2, _⟩ := hrs
      clear hc hs hx
      have hrt := recCount_take bs k hlt
      obtain ⟨x, hx⟩ : ∃ x, x = bs[k] := ⟨_, rfl⟩
      rw [← hx] at e0 e1 e2 e3 e4 e5 e6 e7 e8 e9 hrt hn2
      clear hx
      generalize recCount (bs.take k) = m at *
      have Hrt := hid hrt; clear hrt
      generalize x.recs.length = q at *
      go_wp2
      go_roundw
      case rel => exact ⟨k + 1, by omega, by go_num, by rw [Hrt.out]; go_num, by rw [Hrt.out]; omega, hwr.step (below_alloc _ _)⟩
      case measure => simp [intOf]; omega
    · have hke : k = bs.length := by omega
      have Hk := hid hke; clear hke
      go_wp2
      go_ret
      refine ⟨ret_bool ?_, hwr⟩
      rw [Hk.out, List.take_length]
      simp; omega
def fewB (bs : List Batch) (l : List Gone) : Bool := fewAllB bs 16 && decide (recCount bs ≤ 60) && decide (l.length ≤ 20)
set_option maxHeartbeats 400000 in
theorem few_any (bs : List Batch) (l : List Gone) (v g : Value) (w : World) (hb : BatchesAt w v bs) (hg : GonesAt w g l) :
    Calls Try.prog 12 #[v, g] w fun e w' => e = .returned (.bool (fewB bs l)) ∧ Below w.heap.size w w' := by
  obtain ⟨a, cap, rfl, hn, hs⟩ := hg
  cases h1 : fewAllB bs 16
  · go_enter Try.func12, Try.ntmps12
    go_wp2_with (go_at_call 27; refine (fewAll bs v 16 _ hb).mono ?_; rintro e w1 ⟨rfl, hb1⟩)
    go_ret
    exact ⟨ret_bool (by simp [fewB, h1]), hb1⟩
  · cases h2 : decide (recCount bs ≤ 60)
    · go_enter Try.func12, Try.ntmps12
      go_wp2_with (first | (go_at_call 27; refine (fewAll bs v 16 _ hb).mono ?_; rintro e w1 ⟨rfl, hb1⟩) | (go_at_call 28; refine (few13 bs v _ (hb.mono hb1)).mono ?_; rintro e w2 ⟨rfl, hb2⟩))
      go_ret
      exact ⟨ret_bool (by simp [fewB, h1, h2]), hb1.step hb2⟩
    · go_enter Try.func12, Try.ntmps12
      go_wp2_with (first | (go_at_call 27; refine (fewAll bs v 16 _ hb).mono ?_; rintro e w1 ⟨rfl, hb1⟩) | (go_at_call 28; refine (few13 bs v _ (hb.mono hb1)).mono ?_; rintro e w2 ⟨rfl, hb2⟩))
      go_ret
      exact ⟨ret_bool (by simp [fewB, h1, h2]; omega), hb1.step hb2⟩
end Go.Proofs.Ytceamgkifjmbcaa
