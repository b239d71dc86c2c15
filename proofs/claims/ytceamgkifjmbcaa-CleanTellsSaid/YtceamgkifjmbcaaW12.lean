/- Walks of the program: a clone of records; whether a list of places has one that leaves something. -/
import Derived.Test.YtceamgkifjmbcaaW11
namespace Go.Proofs.Ytceamgkifjmbcaa
open Go.RowKit Go.Wm
theorem empty_row (w : World) (base : Nat) (h : base ≤ w.heap.size) : OwnRecs (w.alloc (.cells #[] 33)) base (.slice (some ⟨w.heap.size, 0, none⟩) 0 0) [] :=
  ⟨rfl, .inr ⟨w.heap.size, 0, #[], rfl, h, heap_alloc_new w _, by simp, by simp [maxLen], rfl, rfl⟩⟩
set_option maxHeartbeats 1000000 in
theorem clone_any (rs : List Rec) (v : Value) (w : World) (hv : RecsAt w v rs) :
    Calls Try.prog 50 #[v] w fun e w' => ∃ u, e = .returned u ∧ OwnRecs w' w.heap.size u rs ∧ Below w.heap.size w w' := by
  have hvw := hv
  obtain ⟨a, cap, rfl, hn, _, hs⟩ := hv
  have E := fun w : World => Lib.run_eql_slice_nil w 26 33 a rs.length cap 0 0 Try.underlying26
  cases a with
  | none =>
    have h0 : rs = [] := by
      rcases hs.shape with ⟨b, o, h, _⟩ | h
      · cases h
      · exact List.eq_nil_of_length_eq_zero h
    subst h0
    simp only [List.length_nil, Option.isNone_none] at E ⊢
    clear hvw hs hn
    go_enter Try.func50, Try.ntmps50
    go_wp2
    go_ret
    exact ⟨_, rfl, OwnRecs.nil _ _, Below.refl _ _⟩
  | some A =>
    simp only [Option.isNone_some] at E
    go_enter Try.func50, Try.ntmps50
    go_wp2_with (at_builtin; refine wpList_append_recs rfl (.tmp 5) (.tmp 6) rfl Try.underlying26 Try.inf33 w.heap.size _ _ rs rfl rfl (empty_row w w.heap.size (Nat.le_refl _)) (hvw.mono (below_alloc _ _)) (by simp) ?_)
    intro v' w' hown hb _
    go_wp2
    go_ret
    exact ⟨_, rfl, hown, (below_alloc _ _).trans hb⟩
/-- Whether a place leaves something, the program's way. -/
def pHas (bs : List Batch) (l : List Gone) (to : Int) (f : ByteArray → Int × Int) (now keep : Int) (k : Int) : Bool := match bs[k.toNat]? with
  | some y => decide (0 < (pleftG l to f now keep k.toNat y).length)
  | none => false
theorem pHas_nat (bs : List Batch) (l : List Gone) (to : Int) (f : ByteArray → Int × Int) (now keep : Int) (k : Nat) (y : Batch) (h : bs[k]? = some y) : pHas bs l to f now keep (k : Int) = decide (0 < (pleftG l to f now keep k y).length) := by
  simp [pHas, h]
set_option maxHeartbeats 1000000 in
theorem allclosure_any (bs : List Batch) (l : List Gone) (vb vl : Value) (BR R : Nat) (to now keep : Int) (m n : Nat) (e : Int) (f : ByteArray → Int × Int) (i : Nat) (hi : i < bs.length) (w : World)
    (hp : w.cell? ⟨BR, 0, none⟩ = some (.pointer (some ⟨R, 0, none⟩)))
    (hr : RulesAt w R vb vl to now keep m e) (hb : BatchesAt w vb bs) (hl : GonesAt w vl l) (hm : PlaceMap w m n f) :
    Calls Try.prog 52 #[.int .i64 i, .pointer (some ⟨BR, 0, none⟩)] w fun e w' => e = .returned (.bool (pHas bs l to f now keep i)) ∧ Below w.heap.size w w' := by
  have C := hid (pleft_any bs l vb vl R to now keep m n e f i _ (List.getElem?_eq_getElem hi) w hr hb hl hm)
  rw [pHas_nat bs l to f now keep i _ (List.getElem?_eq_getElem hi)]
  clear hr hb hl hm
  go_enter Try.func52, Try.ntmps52
  go_wp2_with (go_at_call 51; refine C.out.mono ?_; rintro e w1 ⟨u, rfl, hu, hb1⟩; obtain ⟨a6, cap6, rfl⟩ := OwnRecs.form hu)
  go_ret
  exact ⟨ret_bool (by simp), hb1⟩
set_option maxHeartbeats 1000000 in
theorem intIndex_any (bs : List Batch) (l : List Gone) (vb vl : Value) (BR R : Nat) (to now keep : Int) (m n : Nat) (e : Int) (f : ByteArray → Int × Int) (K : List Int) (hK : ∀ k ∈ K, 0 ≤ k ∧ k < bs.length) (v : Value) (w : World)
    (hp : w.cell? ⟨BR, 0, none⟩ = some (.pointer (some ⟨R, 0, none⟩)))
    (hr : RulesAt w R vb vl to now keep m e) (hb : BatchesAt w vb bs) (hl : GonesAt w vl l) (hm : PlaceMap w m n f) (hv : IntsAt w v K) :
    Calls Try.prog 66 #[v, .func (.func 52) #[] #[.pointer (some ⟨BR, 0, none⟩)]] w
      fun e w' => e = .returned (.int .i64 (idxOf (pHas bs l to f now keep) K)) ∧ Below w.heap.size w w' := by
  obtain ⟨a, cap, rfl, hn, hs⟩ := hv
  have C := hid (fun W (h : Below w.heap.size w W) i hi => allclosure_any bs l vb vl BR R to now keep m n e f i hi W (cell_below h hp) (hr.mono h) (hb.mono h) (hl.mono h) (hm.below h))
  clear hp hr hb hl hm
  go_enter Try.func66, Try.ntmps66
  go_wp2
  go_loopw [8] (fun i wr => ∃ k : Nat, k ≤ K.length ∧ i = .int .i64 k ∧ (∀ j (h : j < K.length), j < k → pHas bs l to f now keep K[j] = false) ∧ Below w.heap.size w wr) (fun i _ => K.length - (intOf i).toNat)
  case atStart => exact ⟨0, by omega, rfl, fun _ _ h => by omega, Below.refl _ _⟩
  case round =>
    obtain ⟨k, hk, rfl, hall, hwr⟩ := hrel
    have Hall := hid hall; clear hall
    by_cases hlt : k < K.length
    · obtain ⟨b', o, ha, hc⟩ := hs k hlt
      have e0 := cell_below hwr (hc _ (List.getElem?_eq_getElem hlt))
      rw [Nat.mul_one] at e0
      have hkm := hK _ (List.getElem_mem hlt)
      clear hc hs
      obtain ⟨q, hq⟩ : ∃ q, q = K[k] := ⟨_, rfl⟩
      rw [← hq] at e0 hkm
      obtain ⟨kk, rfl⟩ := Int.eq_ofNat_of_zero_le hkm.1
      have D := hid (C.out wr hwr kk (by omega))
      have Hq := hid hq; clear hq
      cases hf : pHas bs l to f now keep (kk : Int)
      · have Hf := hid hf
        rw [hf] at D; clear hf
        go_wp2_with (go_at_call 52; clear ha; refine D.out.mono ?_; rintro e w1 ⟨rfl, hb1⟩)
        go_roundw
        case rel =>
          refine ⟨k + 1, by omega, by go_num, ?_, hwr.step hb1⟩
          intro j hj hjk
          by_cases hjk' : j = k
          · subst hjk'; rw [← Hq.out]; exact Hf.out
          · exact Hall.out j hj (by omega)
        case measure => simp [intOf]; omega
      · have Hf := hid hf
        rw [hf] at D; clear hf
        go_wp2_with (go_at_call 52; clear ha; refine D.out.mono ?_; rintro e w1 ⟨rfl, hb1⟩)
        go_ret
        exact ⟨ret_int (idxOf_found hlt (by rw [← Hq.out]; exact Hf.out) Hall.out).symm, hwr.step hb1⟩
    · have hke : k = K.length := by omega
      have Hk := hid hke; clear hke
      go_wp2
      go_ret
      exact ⟨ret_int (idxOf_none (fun j hj => Hall.out j hj (by have := Hk.out; omega))).symm, hwr⟩
set_option maxHeartbeats 1000000 in
theorem intContains_any (bs : List Batch) (l : List Gone) (vb vl : Value) (BR R : Nat) (to now keep : Int) (m n : Nat) (e : Int) (f : ByteArray → Int × Int) (K : List Int) (hK : ∀ k ∈ K, 0 ≤ k ∧ k < bs.length) (v : Value) (w : World)
    (hp : w.cell? ⟨BR, 0, none⟩ = some (.pointer (some ⟨R, 0, none⟩)))
    (hr : RulesAt w R vb vl to now keep m e) (hb : BatchesAt w vb bs) (hl : GonesAt w vl l) (hm : PlaceMap w m n f) (hv : IntsAt w v K) :
    Calls Try.prog 46 #[v, .func (.func 52) #[] #[.pointer (some ⟨BR, 0, none⟩)]] w
      fun e w' => e = .returned (.bool (K.any (pHas bs l to f now keep))) ∧ Below w.heap.size w w' := by
  have C := hid (intIndex_any bs l vb vl BR R to now keep m n e f K hK v w hp hr hb hl hm hv)
  rw [← idxOf_nonneg]
  clear hp hr hb hl hm hv
  go_enter Try.func46, Try.ntmps46
  go_wp2_with (go_at_call 66; refine C.out.mono ?_; rintro e w1 ⟨rfl, hb1⟩)
  go_ret
  exact ⟨ret_bool (by simp), hb1⟩
end Go.Proofs.Ytceamgkifjmbcaa
