/- Walks: whether a step stands in the table (slices.Index and Contains of pairs). -/
import Derived.Test.YtcpecponmaakoaaGreatDoorH1
import Derived.ChangeKeysEq
namespace Go.Proofs.YtcpecponmaakoaaGreatDoor
open Go.RowKit Go.Wm
theorem inf3 : (Tryz.prog.info? 3).map (fun i => (i.zero, i.size, i.bytes)) = some (some (.int .i64 0), 1, 8) := by kernel_rfl
theorem cells3 : Tryz.prog.cellsOf 3 = 1 := by kernel_rfl
theorem pair_eql_run (a b c d : Int) (w : World) : (binOp .eql 111 (.agg #[.int .i64 a, .int .i64 b]) (.agg #[.int .i64 c, .int .i64 d])).run Tryz.prog w = .ok (.bool (decide (a = c ∧ b = d))) w := by
  obtain ⟨i, hi, _⟩ := info_parts inf3
  rw [run_eql_struct, run_equalIn_array w 9999 _ _ Tryz.underlying111 hi]
  rw [show List.range 2 = [0, 1] from rfl, cells3]
  by_cases h1 : a = c <;> by_cases h2 : b = d <;> simp [go_sem, Op.eqItems, h1, h2]
def tbl : List (Int × Int) := [(1, 2), (1, 3), (2, 3), (3, 4)]
/-- The table of steps lies in a block. -/
def StepsAt (w : World) (G : Nat) : Prop := ∀ k x, tbl[k]? = some x → w.cell? ⟨G, k * 2, none⟩ = some (.int .i64 x.1) ∧ w.cell? ⟨G, k * 2 + 1, none⟩ = some (.int .i64 x.2)
theorem StepsAt.below {w w' : World} {G : Nat} (h : StepsAt w G) (hb : Below w.heap.size w w') : StepsAt w' G := fun k x hx => ⟨cell_below hb (h k x hx).1, cell_below hb (h k x hx).2⟩
def isPair (x y : Int) (t : Int × Int) : Bool := decide (x = t.1 ∧ y = t.2)
set_option maxHeartbeats 1000000 in
theorem indexPair_any (G : Nat) (x y : Int) (w : World) (hS : StepsAt w G) :
    Calls Tryz.prog 116 #[.slice (some ⟨G, 0, none⟩) 4 4, .agg #[.int .i64 x, .int .i64 y]] w fun e w' => e = .returned (.int .i64 (idxOf (isPair x y) tbl)) ∧ Below w.heap.size w w' := by
  have hS0 := hS.below (below_alloc w (.cells #[.int .i64 x, .int .i64 y] 111))
  have hb0 : Below w.heap.size w (w.alloc (.cells #[.int .i64 x, .int .i64 y] 111)) := below_alloc _ _
  have x0 : (w.alloc (.cells #[.int .i64 x, .int .i64 y] 111)).cell? ⟨w.heap.size, 0, none⟩ = some (.int .i64 x) := by simp
  have x1 : (w.alloc (.cells #[.int .i64 x, .int .i64 y] 111)).cell? ⟨w.heap.size, 1, none⟩ = some (.int .i64 y) := by simp
  obtain ⟨W, hW⟩ : ∃ W, W = w.alloc (.cells #[.int .i64 x, .int .i64 y] 111) := ⟨_, rfl⟩
  rw [← hW] at hS0 hb0 x0 x1
  go_enter Tryz.func116, Tryz.ntmps116
  go_wp2
  rw [← hW]
  clear hW hS
  go_loopw [8] (fun i wr => ∃ k : Nat, k ≤ 4 ∧ i = .int .i64 k ∧ (∀ j (h : j < tbl.length), j < k → isPair x y tbl[j] = false) ∧ Below W.heap.size W wr) (fun i _ => 4 - (intOf i).toNat)
  case atStart => exact ⟨0, by omega, rfl, fun _ _ h => by omega, Below.refl _ _⟩
  case round =>
    obtain ⟨k, hk, rfl, hall, hwr⟩ := hrel
    have Hall := hid hall
    clear hall
    by_cases hlt : k < 4
    · have hlt' : k < tbl.length := hlt
      obtain ⟨e0, e1⟩ := hS0 k _ (List.getElem?_eq_getElem hlt')
      obtain ⟨p, hp⟩ : ∃ p, p = tbl[k] := ⟨_, rfl⟩
      rw [← hp] at e0 e1
      have Hp := hid hp
      clear hp
      obtain ⟨c, d⟩ := p
      have e0 := Later.cell (cell_below hwr e0)
      have e1 := Later.cell (cell_below hwr e1)
      have y0 := Later.cell (cell_below hwr x0)
      have y1 := Later.cell (cell_below hwr x1)
      have R := fun w => pair_eql_run x y c d w
      clear hS0 x0 x1
      cases hpr : isPair x y (c, d)
      · have hpd : decide (x = c ∧ y = d) = false := hpr
        have Hf := hid hpr
        rw [hpd] at R
        clear hpr hpd
        go_wp2_with fail
        refine wp_region_later (by kernel_rfl) (by kernel_rfl) ?_
        repeat (go_big_quiet_step (fail))
        refine wpQuiet_nil ?_
        intro w2 hb2
        clear R e0 e1 y0 y1
        go_wp2
        go_roundw
        case rel =>
          refine ⟨k + 1, by omega, by go_num, ?_, hwr.step hb2⟩
          intro j hj hjk
          by_cases hjk' : j = k
          · subst hjk'; rw [← Hp.out]; exact Hf.out
          · exact Hall.out j hj (by omega)
        case measure => simp [intOf]; omega
      · have hpd : decide (x = c ∧ y = d) = true := hpr
        have Hf := hid hpr
        rw [hpd] at R
        clear hpr hpd
        go_wp2_with fail
        refine wp_region_later (by kernel_rfl) (by kernel_rfl) ?_
        repeat (go_big_quiet_step (fail))
        refine wpQuiet_nil ?_
        intro w2 hb2
        clear R e0 e1 y0 y1
        go_wp2
        go_ret
        exact ⟨ret_int (idxOf_found hlt' (by rw [← Hp.out]; exact Hf.out) Hall.out).symm, hb0.step (hwr.step hb2)⟩
    · have hke : k = 4 := by omega
      subst hke
      go_wp2
      go_ret
      exact ⟨ret_int (idxOf_none (fun j hj => Hall.out j hj hj)).symm, hb0.step hwr⟩
set_option maxHeartbeats 1000000 in
theorem containsPair_any (G : Nat) (x y : Int) (w : World) (hS : StepsAt w G) :
    Calls Tryz.prog 93 #[.slice (some ⟨G, 0, none⟩) 4 4, .agg #[.int .i64 x, .int .i64 y]] w fun e w' => e = .returned (.bool (tbl.any (isPair x y))) ∧ Below w.heap.size w w' := by
  have C := hid (fun X => indexPair_any G x y (w.alloc X) (hS.below (below_alloc _ _)))
  rw [← idxOf_nonneg]
  clear hS
  go_enter Tryz.func93, Tryz.ntmps93
  go_wp2_with (go_at_call 116; refine (C.out _).mono ?_; rintro e w1 ⟨rfl, hb1⟩)
  go_ret
  exact ⟨ret_bool (by simp), (below_alloc _ _).step hb1⟩
theorem always_any (i : Int) (w : World) : Calls Tryz.prog 71 #[.int .i64 i] w fun e w' => e = .returned (.bool true) ∧ Below w.heap.size w w' := by
  go_enter Tryz.func71, Tryz.ntmps71
  go_wp2
  go_ret
  exact ⟨rfl, Below.refl _ _⟩
end Go.Proofs.YtcpecponmaakoaaGreatDoor
