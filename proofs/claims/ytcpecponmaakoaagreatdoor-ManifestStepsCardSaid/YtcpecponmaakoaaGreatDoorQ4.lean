/- Walks: the reference's Done, Drop, Left; what may be done is what the table says. -/
import Derived.Test.YtcpecponmaakoaaGreatDoorQ3
namespace Go.Proofs.YtcpecponmaakoaaGreatDoor
open Go.RowKit Go.Wm
theorem pcs_form' {w : World} {b : Nat} {v : Value} {l : List Piece} (h : OwnPcs w b v l) (n : Nat) (hn : l.length = n) : ∃ a cap, v = .slice a n cap := by
  subst hn
  exact OwnPcs.form h
theorem tbl2 (s : Int) : tbl.any (isPair s 2) = decide (s = 1) := by
  simp only [tbl, List.any_cons, List.any_nil, isPair]
  by_cases h : s = 1 <;> simp [h]
theorem tbl3 (s : Int) : tbl.any (isPair s 3) = (decide (s = 1) || decide (s = 2)) := by
  simp only [tbl, List.any_cons, List.any_nil, isPair]
  by_cases h : s = 1
  · simp [h]
  · by_cases h2 : s = 2 <;> simp [h, h2]
theorem tbl4 (s : Int) : tbl.any (isPair s 4) = decide (s = 3) := by
  simp only [tbl, List.any_cons, List.any_nil, isPair]
  by_cases h : s = 3 <;> simp [h]
theorem may1 (ps : List Piece) (i : Nat) : mayR ps i 1 = (tbl.any (isPair (ps.getD i zeroP).state (1 + 1)) && (fun _ => true) i) := by
  rw [show (1 : Int) + 1 = 2 from rfl, tbl2]
  unfold mayR
  rw [if_pos rfl]
  simp [stIs]
theorem may3 (ps : List Piece) (i : Nat) : mayR ps i 3 = (tbl.any (isPair (ps.getD i zeroP).state (3 + 1)) && (fun _ => true) i) := by
  rw [show (3 : Int) + 1 = 4 from rfl, tbl4]
  unfold mayR
  rw [if_neg (by decide), if_pos rfl]
  simp [stIs]
theorem first_iff (ps : List Piece) (i : Nat) (hi : i < ps.length) (h2 : stIs 2 ps[i] = true) : decide (idxOf (stIs 2) ps = (i : Int)) = !((ps.take i).any (stIs 2)) := by
  cases ha : (ps.take i).any (stIs 2) with
  | false =>
    rw [List.any_eq_false] at ha
    have : idxOf (stIs 2) ps = (i : Int) := idxOf_found hi h2 (fun j hj hji => by
      have := ha ps[j] (List.mem_take_iff_getElem.2 ⟨j, by omega, rfl⟩)
      simpa using this)
    rw [this]
    simp
  | true =>
    rw [List.any_eq_true] at ha
    obtain ⟨q, hq, hq2⟩ := ha
    obtain ⟨j, hj, rfl⟩ := List.mem_take_iff_getElem.1 hq
    have hne : idxOf (stIs 2) ps ≠ (i : Int) := by
      unfold idxOf
      cases hf : ps.findIdx? (stIs 2) with
      | none => simp only; omega
      | some m =>
        rw [List.findIdx?_eq_some_iff_getElem] at hf
        obtain ⟨hm, _, hlt⟩ := hf
        simp only
        intro h
        have hmi : m = i := by omega
        subst hmi
        have := hlt j (by omega)
        rw [hq2] at this
        simp at this
    simp [hne]
theorem may2 (ps : List Piece) (i : Nat) (hi : i < ps.length) : mayR ps i 2 = (tbl.any (isPair (ps.getD i zeroP).state (2 + 1)) && mayDrop ps i) := by
  have hg : ps.getD i zeroP = ps[i] := by simp [List.getD, hi]
  rw [show (2 : Int) + 1 = 3 from rfl, tbl3]
  unfold mayR mayDrop
  rw [if_neg (by decide), if_neg (by decide), hg]
  by_cases h1 : ps[i].state = 1
  · have a1 : stIs 1 ps[i] = true := by simp [stIs, h1]
    have a2 : stIs 2 ps[i] = false := by simp [stIs, h1]
    rw [a1, a2, h1]
    simp
  · by_cases h2 : ps[i].state = 2
    · have a1 : stIs 1 ps[i] = false := by simp [stIs, h2]
      have a2 : stIs 2 ps[i] = true := by simp [stIs, h2]
      rw [a1, a2, h2, first_iff ps i hi a2]
      simp
    · have a1 : stIs 1 ps[i] = false := by simp [stIs, h1]
      have a2 : stIs 2 ps[i] = false := by simp [stIs, h2]
      rw [a1, a2]
      simp [h1, h2]
set_option maxHeartbeats 1000000 in
set_option maxRecDepth 100000 in
theorem refDone_any (ver next id : Int) (ps : List Piece) (v : Value) (w : World) (hv : PcsAt w v ps) :
    Calls Tryz.prog 31 #[.agg #[.int .i64 ver, .int .i64 next, v], .int .i64 id] w fun e w' => ∃ u, e = .returned (.tuple #[.agg #[.int .i64 (stepM ver next ps id 2 (fun _ => true)).1.1, .int .i64 (stepM ver next ps id 2 (fun _ => true)).1.2.1, u], .int .i64 (stepM ver next ps id 2 (fun _ => true)).2]) ∧ OwnPcs w' w.heap.size u (stepM ver next ps id 2 (fun _ => true)).1.2.2 ∧ Below w.heap.size w w' := by
  have C := fun W (h : Below w.heap.size w W) => refStep_any ver next id 1 (fun _ => true) ps v W (hv.mono h) (by decide) (by decide) (fun i _ => may1 ps i)
  rw [show (1 : Int) + 1 = 2 from rfl] at C
  have hb0 := (below_alloc w (.cells #[.int .i64 ver, .int .i64 next, v] 24)).step (below_alloc _ (.cells #[.int .i64 0, .int .i64 0, .slice none 0 0] 24))
  obtain ⟨a, cap, rfl, hn, _⟩ := hv
  generalize stepM ver next ps id 2 (fun _ => true) = X at C ⊢
  obtain ⟨⟨xv, xn, xl⟩, xe⟩ := X
  have C := hid C
  go_enter Tryz.func31, Tryz.ntmps31
  go_wp2_with fail
  refine (C.out _ hb0).mono ?_
  rintro e w1 ⟨u1, rfl, hu1, hb1⟩
  obtain ⟨a1, k1, rfl⟩ := pcs_form' hu1 xl.length rfl
  have hR : w1.heap[w.heap.size + 1]? = some (.cells #[.int .i64 0, .int .i64 0, .slice none 0 0] 24 (0, 0)) := blk_new hb1 (by simp)
  have hbw := hb0.step hb1
  have hu1 := OwnPcs.base hu1 (show w.heap.size + 2 ≤ _ by simp)
  have hR7 := row3_set (x' := .int .i64 xv) (y' := .int .i64 xn) (z' := .slice a1 xl.length k1) hR
  obtain ⟨r0, r1, r2, rf⟩ := row3 hR
  obtain ⟨z0, z1, z2, zf⟩ := row3 hR7
  clear hb1 hb0 C
  go_wp2_with fail
  exact bodyPost_ret (v := .tuple #[.agg #[.int .i64 xv, .int .i64 xn, .slice a1 xl.length k1], .int .i64 xe]) (by simp [results, Tryz.results31, go_sem, z0, z1, z2]) rfl ⟨_, rfl, OwnPcs.base (OwnPcs.setCell3 hu1 (by omega)) (by omega), below_setCell3 hbw (by omega) _ _ _⟩
set_option maxHeartbeats 1000000 in
set_option maxRecDepth 100000 in
theorem refDrop_any (ver next id : Int) (ps : List Piece) (v : Value) (w : World) (hv : PcsAt w v ps) :
    Calls Tryz.prog 33 #[.agg #[.int .i64 ver, .int .i64 next, v], .int .i64 id] w fun e w' => ∃ u, e = .returned (.tuple #[.agg #[.int .i64 (stepM ver next ps id 3 (mayDrop ps)).1.1, .int .i64 (stepM ver next ps id 3 (mayDrop ps)).1.2.1, u], .int .i64 (stepM ver next ps id 3 (mayDrop ps)).2]) ∧ OwnPcs w' w.heap.size u (stepM ver next ps id 3 (mayDrop ps)).1.2.2 ∧ Below w.heap.size w w' := by
  have C := fun W (h : Below w.heap.size w W) => refStep_any ver next id 2 (mayDrop ps) ps v W (hv.mono h) (by decide) (by decide) (fun i hi => may2 ps i hi)
  rw [show (2 : Int) + 1 = 3 from rfl] at C
  have hb0 := (below_alloc w (.cells #[.int .i64 ver, .int .i64 next, v] 24)).step (below_alloc _ (.cells #[.int .i64 0, .int .i64 0, .slice none 0 0] 24))
  obtain ⟨a, cap, rfl, hn, _⟩ := hv
  generalize stepM ver next ps id 3 (mayDrop ps) = X at C ⊢
  obtain ⟨⟨xv, xn, xl⟩, xe⟩ := X
  have C := hid C
  go_enter Tryz.func33, Tryz.ntmps33
  go_wp2_with fail
  refine (C.out _ hb0).mono ?_
  rintro e w1 ⟨u1, rfl, hu1, hb1⟩
  obtain ⟨a1, k1, rfl⟩ := pcs_form' hu1 xl.length rfl
  have hR : w1.heap[w.heap.size + 1]? = some (.cells #[.int .i64 0, .int .i64 0, .slice none 0 0] 24 (0, 0)) := blk_new hb1 (by simp)
  have hbw := hb0.step hb1
  have hu1 := OwnPcs.base hu1 (show w.heap.size + 2 ≤ _ by simp)
  have hR7 := row3_set (x' := .int .i64 xv) (y' := .int .i64 xn) (z' := .slice a1 xl.length k1) hR
  obtain ⟨r0, r1, r2, rf⟩ := row3 hR
  obtain ⟨z0, z1, z2, zf⟩ := row3 hR7
  clear hb1 hb0 C
  go_wp2_with fail
  exact bodyPost_ret (v := .tuple #[.agg #[.int .i64 xv, .int .i64 xn, .slice a1 xl.length k1], .int .i64 xe]) (by simp [results, Tryz.results33, go_sem, z0, z1, z2]) rfl ⟨_, rfl, OwnPcs.base (OwnPcs.setCell3 hu1 (by omega)) (by omega), below_setCell3 hbw (by omega) _ _ _⟩
set_option maxHeartbeats 1000000 in
set_option maxRecDepth 100000 in
theorem refLeft_any (ver next id : Int) (ps : List Piece) (v : Value) (w : World) (hv : PcsAt w v ps) :
    Calls Tryz.prog 35 #[.agg #[.int .i64 ver, .int .i64 next, v], .int .i64 id] w fun e w' => ∃ u, e = .returned (.tuple #[.agg #[.int .i64 (stepM ver next ps id 4 (fun _ => true)).1.1, .int .i64 (stepM ver next ps id 4 (fun _ => true)).1.2.1, u], .int .i64 (stepM ver next ps id 4 (fun _ => true)).2]) ∧ OwnPcs w' w.heap.size u (stepM ver next ps id 4 (fun _ => true)).1.2.2 ∧ Below w.heap.size w w' := by
  have C := fun W (h : Below w.heap.size w W) => refStep_any ver next id 3 (fun _ => true) ps v W (hv.mono h) (by decide) (by decide) (fun i _ => may3 ps i)
  rw [show (3 : Int) + 1 = 4 from rfl] at C
  have hb0 := (below_alloc w (.cells #[.int .i64 ver, .int .i64 next, v] 24)).step (below_alloc _ (.cells #[.int .i64 0, .int .i64 0, .slice none 0 0] 24))
  obtain ⟨a, cap, rfl, hn, _⟩ := hv
  generalize stepM ver next ps id 4 (fun _ => true) = X at C ⊢
  obtain ⟨⟨xv, xn, xl⟩, xe⟩ := X
  have C := hid C
  go_enter Tryz.func35, Tryz.ntmps35
  go_wp2_with fail
  refine (C.out _ hb0).mono ?_
  rintro e w1 ⟨u1, rfl, hu1, hb1⟩
  obtain ⟨a1, k1, rfl⟩ := pcs_form' hu1 xl.length rfl
  have hR : w1.heap[w.heap.size + 1]? = some (.cells #[.int .i64 0, .int .i64 0, .slice none 0 0] 24 (0, 0)) := blk_new hb1 (by simp)
  have hbw := hb0.step hb1
  have hu1 := OwnPcs.base hu1 (show w.heap.size + 2 ≤ _ by simp)
  have hR7 := row3_set (x' := .int .i64 xv) (y' := .int .i64 xn) (z' := .slice a1 xl.length k1) hR
  obtain ⟨r0, r1, r2, rf⟩ := row3 hR
  obtain ⟨z0, z1, z2, zf⟩ := row3 hR7
  clear hb1 hb0 C
  go_wp2_with fail
  exact bodyPost_ret (v := .tuple #[.agg #[.int .i64 xv, .int .i64 xn, .slice a1 xl.length k1], .int .i64 xe]) (by simp [results, Tryz.results35, go_sem, z0, z1, z2]) rfl ⟨_, rfl, OwnPcs.base (OwnPcs.setCell3 hu1 (by omega)) (by omega), below_setCell3 hbw (by omega) _ _ _⟩
end Go.Proofs.YtcpecponmaakoaaGreatDoor
