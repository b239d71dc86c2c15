/- Walks: whether two manifests are the same; whether a manifest has few pieces; whether names are few; whether two lists of texts are the same. -/
import Derived.Test.YtcpecponmaakoaaGreatDoorW3
namespace Go.Proofs.YtcpecponmaakoaaGreatDoor
open Go.RowKit Go.Wm
set_option maxHeartbeats 4000000 in
theorem piece_equalIn (r s : Piece) (w : World) : (Op.equalIn 10000 29 (pieceV r) (pieceV s)).run Tryz.prog w = .ok (decide (r = s)) w := by
  have e : decide (r = s) = (decide (r.id = s.id) && (decide (r.base = s.base) && (decide (r.fin = s.fin) && (decide (r.size = s.size) && (decide (r.sum = s.sum) && decide (r.state = s.state)))))) := by
    obtain ⟨a, b, c, d, f, g⟩ := r
    obtain ⟨a', b', c', d', f', g'⟩ := s
    rw [Bool.eq_iff_iff]; simp
  rw [e]
  clear e
  by_cases h1 : r.id = s.id <;> by_cases h2 : r.base = s.base <;> by_cases h3 : r.fin = s.fin <;> by_cases h4 : r.size = s.size <;> by_cases h5 : r.sum = s.sum <;> by_cases h6 : r.state = s.state <;> simp [go_sem, pieceV, h1, h2, h3, h4, h5, h6]
theorem piece_neq_run (r s : Piece) (w : World) : (binOp .neq 29 (pieceV r) (pieceV s)).run Tryz.prog w = .ok (.bool (!decide (r = s))) w := by
  rw [run_neq_struct, piece_equalIn]; rfl
theorem piece_eql_run (r s : Piece) (w : World) : (binOp .eql 29 (pieceV r) (pieceV s)).run Tryz.prog w = .ok (.bool (decide (r = s))) w := by
  rw [run_eql_struct, piece_equalIn]; rfl
theorem few_any (ver next : Int) (ps : List Piece) (v : Value) (w : World) (hv : PcsAt w v ps) :
    Calls Tryz.prog 11 #[.agg #[.int .i64 ver, .int .i64 next, v]] w fun e w' => e = .returned (.bool (decide (ps.length ≤ 300))) ∧ Below w.heap.size w w' := by
  obtain ⟨a, cap, rfl, hn⟩ := hv.form
  clear hv
  go_enter Tryz.func11, Tryz.ntmps11
  go_wp2
  go_ret
  refine ⟨ret_bool ?_, below_alloc _ _⟩
  rw [Bool.eq_iff_iff]; simp; try omega
set_option maxHeartbeats 2000000 in
theorem same_any (ver next ver2 next2 : Int) (xs ys : List Piece) (v u : Value) (w : World) (hx : PcsAt w v xs) (hy : PcsAt w u ys) :
    Calls Tryz.prog 19 #[.agg #[.int .i64 ver, .int .i64 next, v], .agg #[.int .i64 ver2, .int .i64 next2, u]] w fun e w' => e = .returned (.bool (decide (ver = ver2) && decide (next = next2) && decide (xs = ys))) ∧ Below w.heap.size w w' := by
  obtain ⟨a, cap, rfl, hn, hs⟩ := hx
  obtain ⟨a2, cap2, rfl, hn2, hs2⟩ := hy
  have hBB := (below_alloc w (.cells #[.int .i64 ver, .int .i64 next, .slice a xs.length cap] 24)).step (below_alloc _ (.cells #[.int .i64 ver2, .int .i64 next2, .slice a2 ys.length cap2] 24))
  rcases Bool.eq_false_or_eq_true (ver != ver2) with t1 | t1
  · go_enter Tryz.func19, Tryz.ntmps19
    go_wp2
    go_ret
    exact ⟨ret_bool (by simp only [bne_iff_ne, ne_eq] at t1; simp [t1]), hBB⟩
  · rcases Bool.eq_false_or_eq_true (next != next2) with t2 | t2
    · go_enter Tryz.func19, Tryz.ntmps19
      go_wp2
      go_ret
      exact ⟨ret_bool (by simp only [bne_iff_ne, ne_eq] at t2; simp [t2]), hBB⟩
    · rcases Bool.eq_false_or_eq_true ((xs.length : Int) != (ys.length : Int)) with t3 | t3
      · go_enter Tryz.func19, Tryz.ntmps19
        go_wp2
        go_ret
        refine ⟨ret_bool ?_, hBB⟩
        have : xs ≠ ys := fun h => by rw [h] at t3; simp at t3
        simp [this]
      · have Hlen := hid (show xs.length = ys.length by simp at t3; omega)
        have Hm := hid (show (decide (ver = ver2) && decide (next = next2) && decide (xs = ys)) = decide (xs = ys) by simp at t1 t2; simp [t1, t2])
        go_enter Tryz.func19, Tryz.ntmps19
        go_wp2
        refine wp_name fun W hW => ?_
        have hB : Below w.heap.size w W := by rw [hW]; exact hBB
        have hN1 : W.cell? ⟨w.heap.size, 2, none⟩ = some (.slice a xs.length cap) := by rw [hW]; exact cell_alloc_old _ (by simp)
        have hN2 : W.cell? ⟨w.heap.size + 1, 2, none⟩ = some (.slice a2 ys.length cap2) := by rw [hW]; exact cell_new (by simp) rfl
        clear hW t1 t2 t3 hBB
        go_loopw [5] (fun i wr => ∃ k : Nat, k ≤ xs.length ∧ i = .int .i64 k ∧ (∀ j (h : j < xs.length) (h' : j < ys.length), j < k → xs[j] = ys[j]) ∧ Below W.heap.size W wr) (fun i _ => xs.length - (intOf i).toNat)
        case atStart => exact ⟨0, by omega, rfl, fun _ _ _ h => by omega, Below.refl _ _⟩
        case round =>
          obtain ⟨k, hk, rfl, hall, hwr⟩ := hrel
          have Hall := hid hall; clear hall
          have hm1 := cell_below hwr hN1
          have hm2 := cell_below hwr hN2
          by_cases hlt : k < xs.length
          · have hlt2 : k < ys.length := by have := Hlen.out; omega
            obtain ⟨b, o, ha, hc⟩ := hs k hlt
            obtain ⟨b2, o2, ha2, hc2⟩ := hs2 k hlt2
            obtain ⟨e0, e1, e2, e3, e4, e5⟩ := ((hc _ (List.getElem?_eq_getElem hlt)).mono hB).mono hwr
            obtain ⟨g0, g1, g2, g3, g4, g5⟩ := ((hc2 _ (List.getElem?_eq_getElem hlt2)).mono hB).mono hwr
            have R := fun w => piece_neq_run xs[k] ys[k] w
            have r1 := Later.cell hm1
            have r2 := Later.cell hm2
            have e0 := Later.cell e0
            have e1 := Later.cell e1
            have e2 := Later.cell e2
            have e3 := Later.cell e3
            have e4 := Later.cell e4
            have e5 := Later.cell e5
            have g0 := Later.cell g0
            have g1 := Later.cell g1
            have g2 := Later.cell g2
            have g3 := Later.cell g3
            have g4 := Later.cell g4
            have g5 := Later.cell g5
            clear hc hs hc2 hs2 hN1 hN2
            by_cases hf : xs[k] = ys[k]
            · have Hf := hid hf
              simp only [hf, decide_true, Bool.not_true] at R
              simp only [hf] at e0 e1 e2 e3 e4 e5
              clear hf
              go_wp2
              refine wp_region_later (by kernel_rfl) (by kernel_rfl) ?_
              repeat (go_big_quiet_step (fail))
              refine wpQuiet_nil ?_
              intro w2 hb2
              clear R ha ha2 r1 r2
              go_wp2
              go_roundw
              case rel =>
                refine ⟨k + 1, by omega, by go_num, ?_, hwr.step hb2⟩
                intro j hj hj' hjk
                by_cases hjk' : j = k
                · subst hjk'; exact Hf.out
                · exact Hall.out j hj hj' (by omega)
              case measure => simp [intOf]; omega
            · have Hf := hid hf
              rw [decide_eq_false hf] at R
              clear hf
              go_wp2
              refine wp_region_later (by kernel_rfl) (by kernel_rfl) ?_
              repeat (go_big_quiet_step (fail))
              refine wpQuiet_nil ?_
              intro w2 hb2
              clear R ha ha2 r1 r2
              go_wp2
              go_ret
              refine ⟨ret_bool ?_, hB.step (hwr.step hb2)⟩
              rw [Hm.out, eq_comm, decide_eq_false_iff_not]
              intro h
              exact Hf.out (by simp [h])
          · have hke : k = xs.length := by omega
            have Hk := hid hke; clear hke
            go_wp2
            go_ret
            refine ⟨ret_bool ?_, hB.step hwr⟩
            rw [Hm.out, eq_comm, decide_eq_true_iff]
            exact List.ext_getElem Hlen.out fun j h h' => Hall.out j h h' (by have := Hk.out; omega)
end Go.Proofs.YtcpecponmaakoaaGreatDoor
