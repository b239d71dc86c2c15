/- Walks: whether records, batches and lists of batches are the same (the document's text). -/
import Derived.Test.YtceamgkifjmbcaaProg
import Derived.Test.YtceamgkifjmbcaaDefs
namespace Go.Proofs.Ytceamgkifjmbcaa
open Go.RowKit Go.Wm
theorem rec_eq_iff (r s : Rec) : r = s ↔ r.off = s.off ∧ r.key.toList = s.key.toList ∧ r.val.toList = s.val.toList ∧ r.dead = s.dead ∧ r.stamp = s.stamp := by
  rw [toList_inj, toList_inj]
  cases r; cases s; simp
theorem rec_equalIn (r s : Rec) (w : World) : (Op.equalIn 10000 33 (.agg #[.int .i64 r.off, .string r.key, .string r.val, .bool r.dead, .int .i64 r.stamp]) (.agg #[.int .i64 s.off, .string s.key, .string s.val, .bool s.dead, .int .i64 s.stamp])).run Try.prog w = .ok (decide (r = s)) w := by
  have e : decide (r = s) = (r.off == s.off && (r.key.toList == s.key.toList) && (r.val.toList == s.val.toList) && (r.dead == s.dead) && (r.stamp == s.stamp)) := by
    rw [Bool.eq_iff_iff]; simp [rec_eq_iff, and_assoc]
  rw [e]
  clear e
  by_cases h1 : r.off = s.off <;> by_cases h2 : r.key.toList = s.key.toList <;> by_cases h3 : r.val.toList = s.val.toList <;> by_cases h4 : r.dead = s.dead <;> by_cases h5 : r.stamp = s.stamp <;> simp [go_sem, h1, h2, h3, h4, h5]
theorem rec_neq_run (r s : Rec) (w : World) : (binOp .neq 33 (.agg #[.int .i64 r.off, .string r.key, .string r.val, .bool r.dead, .int .i64 r.stamp]) (.agg #[.int .i64 s.off, .string s.key, .string s.val, .bool s.dead, .int .i64 s.stamp])).run Try.prog w = .ok (.bool (!decide (r = s))) w := by
  rw [run_neq_struct, rec_equalIn]; rfl
theorem rec_eql_run (r s : Rec) (w : World) : (binOp .eql 33 (.agg #[.int .i64 r.off, .string r.key, .string r.val, .bool r.dead, .int .i64 r.stamp]) (.agg #[.int .i64 s.off, .string s.key, .string s.val, .bool s.dead, .int .i64 s.stamp])).run Try.prog w = .ok (.bool (decide (r = s))) w := by
  rw [run_eql_struct, rec_equalIn]; rfl

set_option maxHeartbeats 1000000 in
theorem sameRecs_any (xs ys : List Rec) (v u : Value) (w : World) (hx : RecsAt w v xs) (hy : RecsAt w u ys) :
    Calls Try.prog 23 #[v, u] w fun e w' => e = .returned (.bool (decide (xs = ys))) ∧ Below w.heap.size w w' := by
  obtain ⟨a, cap, rfl, hn, _, hs⟩ := hx
  obtain ⟨a2, cap2, rfl, hn2, _, hs2⟩ := hy
  by_cases hlen : xs.length = ys.length
  · have L1 : ((xs.length : Int) != (ys.length : Int)) = false := by simp [hlen]
    have Hlen := hid hlen; clear hlen
    go_enter Try.func23, Try.ntmps23
    go_wp2
    clear L1
    go_loopw [13] (fun i wr => ∃ k : Nat, k ≤ xs.length ∧ i = .int .i64 k ∧ (∀ j (h : j < xs.length) (h' : j < ys.length), j < k → xs[j] = ys[j]) ∧ Below w.heap.size w wr) (fun i _ => xs.length - (intOf i).toNat)
    case atStart => exact ⟨0, by omega, rfl, fun _ _ _ h => by omega, Below.refl _ _⟩
    case round =>
      obtain ⟨k, hk, rfl, hall, hwr⟩ := hrel
      have Hall := hid hall; clear hall
      by_cases hlt : k < xs.length
      · have hlt2 : k < ys.length := by have := Hlen.out; omega
        obtain ⟨b, o, ha, hc⟩ := hs k hlt
        obtain ⟨b2, o2, ha2, hc2⟩ := hs2 k hlt2
        obtain ⟨e0, e1, e2, e3, e4⟩ := (hc _ (List.getElem?_eq_getElem hlt)).mono hwr
        obtain ⟨g0, g1, g2, g3, g4⟩ := (hc2 _ (List.getElem?_eq_getElem hlt2)).mono hwr
        have R := fun w => rec_neq_run xs[k] ys[k] w
        have e0 := Later.cell e0
        have e1 := Later.cell e1
        have e2 := Later.cell e2
        have e3 := Later.cell e3
        have e4 := Later.cell e4
        have g0 := Later.cell g0
        have g1 := Later.cell g1
        have g2 := Later.cell g2
        have g3 := Later.cell g3
        have g4 := Later.cell g4
        clear hc hs hc2 hs2
        by_cases hf : xs[k] = ys[k]
        · have Hf := hid hf
          simp only [hf, decide_true, Bool.not_true] at R
          simp only [hf] at e0 e1 e2 e3 e4
          clear hf
          go_wp2
          refine wp_region_later (by kernel_rfl) (by kernel_rfl) ?_
          repeat (go_big_quiet_step (fail))
          refine wpQuiet_nil ?_
          intro w2 hb2
          clear R ha ha2
          go_wp2
          go_roundw
          case rel =>
            refine ⟨k + 1, by omega, by go_num, ?_, hwr.step hb2⟩
            intro j hj hj' hjk
            by_cases hjk' : j = k
            · subst hjk'; exact Hf.out
            · exact Hall.out j hj hj' (by omega)
          case measure => simp [intOf]; omega
        · have Hf := hid hf
          rw [decide_eq_false hf] at R
          clear hf
          go_wp2
          refine wp_region_later (by kernel_rfl) (by kernel_rfl) ?_
          repeat (go_big_quiet_step (fail))
          refine wpQuiet_nil ?_
          intro w2 hb2
          clear R ha ha2
          go_wp2
          go_ret
          refine ⟨ret_bool ?_, hwr.step hb2⟩
          rw [eq_comm, decide_eq_false_iff_not]
          intro h
          exact Hf.out (by simp [h])
      · have hke : k = xs.length := by omega
        have Hk := hid hke; clear hke
        go_wp2
        go_ret
        refine ⟨ret_bool ?_, hwr⟩
        rw [eq_comm, decide_eq_true_iff]
        exact List.ext_getElem Hlen.out fun j h1 h2 => Hall.out j h1 h2 (by omega)
  · have L1 : ((xs.length : Int) != (ys.length : Int)) = true := by simp; omega
    have Hlen := hid hlen; clear hlen
    go_enter Try.func23, Try.ntmps23
    go_wp2
    go_ret
    refine ⟨ret_bool ?_, Below.refl _ _⟩
    rw [eq_comm, decide_eq_false_iff_not]
    intro h
    exact Hlen.out (by rw [h])
end Go.Proofs.Ytceamgkifjmbcaa
