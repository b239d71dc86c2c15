/- Walks of the library at numbers: cmp.Compare, cmp.Or; how two places are compared. -/
import Derived.Test.YtceamgkifjmbcaaIterR
import Derived.Test.YtceamgkifjmbcaaLayF
import Derived.Deep.RegionHeld3
namespace Go.Proofs.Ytceamgkifjmbcaa
open Go.RowKit Go.Maps Go.Sort Go.Shelf Go.Wm
def cmpI (a b : Int) : Int := if a < b then -1 else if b < a then 1 else 0
set_option maxHeartbeats 400000 in
theorem isNaN_any (a : Int) (w : World) : Calls Try.prog 61 #[.int .i64 a] w fun e w' => e = .returned (.bool false) ∧ w' = w := by
  go_enter Try.func61, Try.ntmps61
  go_wp2
  go_ret
  exact ⟨ret_bool (by simp), rfl⟩
set_option maxHeartbeats 400000 in
theorem compare_any (a b : Int) (w : World) : Calls Try.prog 40 #[.int .i64 a, .int .i64 b] w fun e w' => e = .returned (.int .i64 (cmpI a b)) ∧ w' = w := by
  rcases Int.lt_trichotomy a b with h | h | h
  · have h1 : decide (a < b) = true := by simpa using h
    have F := hid (show cmpI a b = -1 by simp [cmpI, h])
    go_enter Try.func40, Try.ntmps40
    go_wp2_with (go_at_call 61; refine (isNaN_any _ _).mono ?_; rintro e w' ⟨rfl, rfl⟩)
    go_ret
    exact ⟨ret_int F.out.symm, rfl⟩
  · subst h
    have h1 : decide (a < a) = false := by simp
    have F := hid (show cmpI a a = 0 by simp [cmpI])
    go_enter Try.func40, Try.ntmps40
    go_wp2_with (go_at_call 61; refine (isNaN_any _ _).mono ?_; rintro e w' ⟨rfl, rfl⟩)
    go_ret
    exact ⟨ret_int F.out.symm, rfl⟩
  · have h1 : decide (a < b) = false := by simp; omega
    have h2 : decide (b < a) = true := by simpa using h
    have F := hid (show cmpI a b = 1 by simp [cmpI, h]; omega)
    go_enter Try.func40, Try.ntmps40
    go_wp2_with (go_at_call 61; refine (isNaN_any _ _).mono ?_; rintro e w' ⟨rfl, rfl⟩)
    go_ret
    exact ⟨ret_int F.out.symm, rfl⟩
def orI (a b : Int) : Int := if a = 0 then b else a
set_option maxHeartbeats 1000000 in
theorem or_any (a b : Int) (g : Nat) (w : World) (h0 : w.cell? ⟨g, 0, none⟩ = some (.int .i64 a)) (h1 : w.cell? ⟨g, 1, none⟩ = some (.int .i64 b)) :
    Calls Try.prog 39 #[.slice (some ⟨g, 0, none⟩) 2 2] w fun e w' => e = .returned (.int .i64 (orI a b)) ∧ w' = w := by
  by_cases ha : a = 0
  · by_cases hb : b = 0
    · subst ha hb
      go_enter Try.func39, Try.ntmps39
      go_wp2
      refine wp_loop_rounds 3 ?_
      rw [rounds_succ]
      go_wp2
      rw [rounds_succ]
      go_wp2
      rw [rounds_succ]
      go_wp2
      go_ret
      exact ⟨rfl, rfl⟩
    · subst ha
      have hb1 : (b != 0) = true := by simpa using hb
      have F := hid (show orI 0 b = b by simp [orI])
      clear hb
      go_enter Try.func39, Try.ntmps39
      go_wp2
      refine wp_loop_rounds 3 ?_
      rw [rounds_succ]
      go_wp2
      rw [rounds_succ]
      go_wp2
      go_ret
      exact ⟨ret_int F.out.symm, rfl⟩
  · have ha1 : (a != 0) = true := by simpa using ha
    have F := hid (show orI a b = a by simp [orI, ha])
    clear ha
    go_enter Try.func39, Try.ntmps39
    go_wp2
    refine wp_loop_rounds 3 ?_
    rw [rounds_succ]
    go_wp2
    go_ret
    exact ⟨ret_int F.out.symm, rfl⟩
/-- Which of two places comes first. -/
def cmpP (x y : Int × Int) : Int := orI (cmpI x.1 y.1) (cmpI x.2 y.2)
theorem three_grow (w : World) (A B C : Obj) : (((w.alloc A).alloc B).alloc C).drew = grow (w.drewN 1) #[A, B, C] := by
  rw [alloc_eq_grow w A, alloc_eq_grow _ B, alloc_eq_grow _ C, grow_grow, grow_grow]
  rfl
def CmpRes (c : Int) (w : World) (e : Ending) (w' : World) : Prop := e = .returned (.int .i64 c) ∧ ∃ q os', w' = grow (w.drewN q) os'
set_option maxRecDepth 100000 in
set_option maxHeartbeats 2000000 in
theorem cmpPlaces_any (x y : Int × Int) (w : World) : Calls Try.prog 38 #[plV x, plV y] w (CmpRes (cmpP x y) w) := by
  obtain ⟨x1, x2⟩ := x
  obtain ⟨y1, y2⟩ := y
  unfold cmpP
  unfold plV
  simp only
  generalize hc1 : cmpI x1 y1 = c1
  generalize hc2 : cmpI x2 y2 = c2
  have C1 := hid (fun W => compare_any x1 y1 W)
  have C2 := hid (fun W => compare_any x2 y2 W)
  rw [hc1] at C1
  rw [hc2] at C2
  have O := hid (fun g W h0 h1 => or_any c1 c2 g W h0 h1)
  generalize orI c1 c2 = r at *
  clear hc1 hc2
  go_enter Try.func38, Try.ntmps38
  go_wp2
  refine wp_name fun W hW => ?_
  have a0 : W.cell? ⟨w.heap.size, 0, none⟩ = some (.int .i64 x1) := by rw [hW]; simp
  have a1 : W.cell? ⟨w.heap.size, 1, none⟩ = some (.int .i64 x2) := by rw [hW]; simp
  have b0 : W.cell? ⟨w.heap.size + 1, 0, none⟩ = some (.int .i64 y1) := by rw [hW]; simp
  have b1 : W.cell? ⟨w.heap.size + 1, 1, none⟩ = some (.int .i64 y2) := by rw [hW]; simp
  have HW := hid hW
  clear hW
  go_region_held3 (fun w' => w'.cell? ⟨w.heap.size, 0, none⟩ = some (.int .i64 x1) ∧ w'.cell? ⟨w.heap.size, 1, none⟩ = some (.int .i64 x2) ∧ w'.cell? ⟨w.heap.size + 1, 0, none⟩ = some (.int .i64 y1) ∧ w'.cell? ⟨w.heap.size + 1, 1, none⟩ = some (.int .i64 y2)) (first | assumption | go_keep)
    (first
      | (go_at_call 40; first | ((with_reducible refine (C1.out _).mono ?_); rintro e w' ⟨rfl, rfl⟩) | ((with_reducible refine (C2.out _).mono ?_); rintro e w' ⟨rfl, rfl⟩))
      | (go_at_call 39; refine (O.out _ _ (by simp) (by simp)).mono ?_; rintro e w' ⟨rfl, rfl⟩))
  all_goals
    go_wp2
    go_ret
    refine ⟨rfl, 1, #[.cells #[.int .i64 x1, .int .i64 x2] 70, .cells #[.int .i64 y1, .int .i64 y2] 70, .cells #[.int .i64 c1, .int .i64 c2] 3], ?_⟩
    rw [HW.out]
    exact three_grow _ _ _ _
end Go.Proofs.Ytceamgkifjmbcaa
