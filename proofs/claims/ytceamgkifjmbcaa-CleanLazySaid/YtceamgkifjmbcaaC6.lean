/- Walks of the program: whether a transaction has a record that is still there. -/
import Derived.Test.YtceamgkifjmbcaaC4
import Derived.Test.YtceamgkifjmbcaaC5
namespace Go.Proofs.Ytceamgkifjmbcaa
open Go.RowKit Go.Wm
/-- What 'there' holds, behind its box. -/
structure ThereBox (w : World) (B A n : Nat) (f : Nat → Value) (T : Nat → Option Batch) : Prop where
  box : w.cell? ⟨B, 0, none⟩ = some (.slice (some ⟨A, 0, none⟩) n n)
  row : w.rowIs A 60 n f
  each : ∀ j, j < n → ThereAt w (f j) (T j)
  small : n ≤ 1000000
theorem ThereBox.mono {w w' : World} (hb : Below w.heap.size w w') {B A n : Nat} {f : Nat → Value} {T : Nat → Option Batch} (h : ThereBox w B A n f T) : ThereBox w' B A n f T :=
  ⟨cell_below hb h.box, rowIs_below h.row hb, fun j hj => (h.each j hj).mono hb, h.small⟩
def hasT (T : Nat → Option Batch) (k : Int) : Bool := match T k.toNat with | some y => decide (0 < y.recs.length) | none => false
set_option maxHeartbeats 1000000 in
theorem thereClosure_any (B A n : Nat) (f : Nat → Value) (T : Nat → Option Batch) (i : Nat) (hi : i < n) (w : World) (ht : ThereBox w B A n f T) :
    Calls Try.prog 45 #[.int .i64 i, .pointer (some ⟨B, 0, none⟩)] w fun e w' => e = .returned (.bool (hasT T i)) ∧ Below w.heap.size w w' := by
  have hsm := ht.small
  have b0 := ht.box
  have cA := ht.row.cell hi
  have E := ht.each i hi
  have F := hid (show hasT T (i : Int) = match T i with | some y => decide (0 < y.recs.length) | none => false by unfold hasT; simp)
  generalize hasT T (i : Int) = Bv at *
  clear ht
  cases hT : T i with
  | none =>
    rw [hT] at E F
    have E' : f i = .pointer none := E
    rw [E'] at cA
    clear E E' hT
    go_enter Try.func45, Try.ntmps45
    go_wp2
    go_ret
    exact ⟨ret_bool F.out.symm, Below.refl _ _⟩
  | some y =>
    rw [hT] at E F
    obtain ⟨b, o, sv, hf, hy, hr⟩ := E
    rw [hf] at cA
    obtain ⟨a2, cap2, rfl, hn2⟩ := hr.1.form
    have e9 := hy.c9
    clear hf hy hr hT
    go_enter Try.func45, Try.ntmps45
    go_wp2
    go_ret
    exact ⟨ret_bool (by rw [F.out]), Below.refl _ _⟩
set_option maxHeartbeats 1000000 in
theorem thereIndex_any (B A n : Nat) (f : Nat → Value) (T : Nat → Option Batch) (K : List Int) (hK : ∀ k ∈ K, 0 ≤ k ∧ k < n) (v : Value) (w : World) (ht : ThereBox w B A n f T) (hv : IntsAt w v K) :
    Calls Try.prog 66 #[v, .func (.func 45) #[] #[.pointer (some ⟨B, 0, none⟩)]] w
      fun e w' => e = .returned (.int .i64 (idxOf (hasT T) K)) ∧ Below w.heap.size w w' := by
  obtain ⟨a, cap, rfl, hn, hs⟩ := hv
  have C := hid (fun W (h : Below w.heap.size w W) i hi => thereClosure_any B A n f T i hi W (ht.mono h))
  clear ht
  go_enter Try.func66, Try.ntmps66
  go_wp2
  go_loopw [8] (fun i wr => ∃ k : Nat, k ≤ K.length ∧ i = .int .i64 k ∧ (∀ j (h : j < K.length), j < k → hasT T K[j] = false) ∧ Below w.heap.size w wr) (fun i _ => K.length - (intOf i).toNat)
  case atStart => exact ⟨0, by omega, rfl, fun _ _ h => by omega, Below.refl _ _⟩
  case round =>
    obtain ⟨k, hk, rfl, hall, hwr⟩ := hrel
    have Hall := hid hall; clear hall
    by_cases hlt : k < K.length
    · obtain ⟨b', o, ha, hc⟩ := hs k hlt
      have e0 := cell_below hwr (hc _ (List.getElem?_eq_getElem hlt))
      rw [Nat.mul_one] at e0
      have hkm := hK _ (List.getElem_mem hlt)
      clear hc hs
      obtain ⟨q, hq⟩ : ∃ q, q = K[k] := ⟨_, rfl⟩
      rw [← hq] at e0 hkm
      obtain ⟨kk, rfl⟩ := Int.eq_ofNat_of_zero_le hkm.1
      have D := hid (C.out wr hwr kk (by omega))
      have Hq := hid hq; clear hq
      cases hf : hasT T (kk : Int)
      · have Hf := hid hf
        rw [hf] at D; clear hf
        go_wp2_with (go_at_call 45; clear ha; refine D.out.mono ?_; rintro e w1 ⟨rfl, hb1⟩)
        go_roundw
        case rel =>
          refine ⟨k + 1, by omega, by go_num, ?_, hwr.step hb1⟩
          intro j hj hjk
          by_cases hjk' : j = k
          · subst hjk'; rw [← Hq.out]; exact Hf.out
          · exact Hall.out j hj (by omega)
        case measure => simp [intOf]; omega
      · have Hf := hid hf
        rw [hf] at D; clear hf
        go_wp2_with (go_at_call 45; clear ha; refine D.out.mono ?_; rintro e w1 ⟨rfl, hb1⟩)
        go_ret
        exact ⟨ret_int (idxOf_found hlt (by rw [← Hq.out]; exact Hf.out) Hall.out).symm, hwr.step hb1⟩
    · have hke : k = K.length := by omega
      have Hk := hid hke; clear hke
      go_wp2
      go_ret
      exact ⟨ret_int (idxOf_none (fun j hj => Hall.out j hj (by have := Hk.out; omega))).symm, hwr⟩
set_option maxHeartbeats 1000000 in
theorem thereContains_any (B A n : Nat) (f : Nat → Value) (T : Nat → Option Batch) (K : List Int) (hK : ∀ k ∈ K, 0 ≤ k ∧ k < n) (v : Value) (w : World) (ht : ThereBox w B A n f T) (hv : IntsAt w v K) :
    Calls Try.prog 46 #[v, .func (.func 45) #[] #[.pointer (some ⟨B, 0, none⟩)]] w
      fun e w' => e = .returned (.bool (K.any (hasT T))) ∧ Below w.heap.size w w' := by
  have C := hid (thereIndex_any B A n f T K hK v w ht hv)
  rw [← idxOf_nonneg]
  clear ht hv
  go_enter Try.func46, Try.ntmps46
  go_wp2_with (go_at_call 66; refine C.out.mono ?_; rintro e w1 ⟨rfl, hb1⟩)
  go_ret
  exact ⟨ret_bool (by simp), hb1⟩
end Go.Proofs.Ytceamgkifjmbcaa
