/- Walks: searching the pieces (slices.IndexFunc at each closure, ContainsFunc), At and the document's At. -/
import Derived.Test.YtcpecponmaakoaaGreatDoorW1
namespace Go.Proofs.YtcpecponmaakoaaGreatDoor
open Go.RowKit Go.Wm
abbrev pieceV (p : Piece) : Value := .agg #[.int .i64 p.id, .int .i64 p.base, .int .i64 p.fin, .int .i64 p.size, .int .u32 p.sum, .int .i64 p.state]
def stIs (n : Int) (p : Piece) : Bool := decide (p.state = n)
def atP (off : Int) (p : Piece) : Bool := decide (p.state = 2) && decide (p.base ≤ off) && decide (off < p.fin)
def zeroP : Piece := ⟨0, 0, 0, 0, 0, 0⟩
def atM (ps : List Piece) (off : Int) : Piece × Bool := match ps.findIdx? (atP off) with | some i => (ps.getD i zeroP, true) | none => (zeroP, false)
theorem blk_below {w w' : World} {b : Nat} {X : Obj} (h : w.heap[b]? = some X) (hb : Below w.heap.size w w') : w'.heap[b]? = some X := by
  rw [hb.block b (Array.getElem?_eq_some_iff.1 h).1]; exact h
theorem blk_new {w w1 : World} {X : Obj} {n : Nat} (hb : Below (w.alloc X).heap.size (w.alloc X) w1) (hn : w.heap.size = n) : w1.heap[n]? = some X := by
  subst hn
  exact blk_below (heap_alloc_new w X) hb
theorem cell_new {w : World} {cs : Array Value} {t : TypeId} {z : Nat × Nat} {n o : Nat} {v : Value} (hn : w.heap.size = n) (h : cs[o]? = some v) : (w.alloc (.cells cs t z)).cell? ⟨n, o, none⟩ = some v := by
  subst hn
  unfold World.cell?
  rw [show (⟨w.heap.size, o, none⟩ : Addr).block = w.heap.size from rfl, heap_alloc_new]
  exact h
theorem pieceAt_of_row {w : World} {b : Nat} {e : TypeId} {p : Piece} (h : w.heap[b]? = some (.cells p.cells.toArray e (0, 0))) :
    w.cell? ⟨b, 0, none⟩ = some (.int .i64 p.id) ∧ w.cell? ⟨b, 1, none⟩ = some (.int .i64 p.base) ∧ w.cell? ⟨b, 2, none⟩ = some (.int .i64 p.fin) ∧ w.cell? ⟨b, 3, none⟩ = some (.int .i64 p.size) ∧
      w.cell? ⟨b, 4, none⟩ = some (.int .u32 p.sum) ∧ w.cell? ⟨b, 5, none⟩ = some (.int .i64 p.state) := by
  simp [World.cell?, h, Piece.cells]
/-- A whole row of the call's own written; the world behind it by its blocks. -/
theorem wpList_store_all {P : Program} {ops : Array Oper} {rest : List Oper} {o : Oper} {a : Act} {w : World} {Q : Exit → Act → World → Prop} (hgd : o.guard = none) (ty : TypeId) (x y : Operand) (ho : o.op = .store ty x y)
    (g : Nat) (cells : List Value) (hx : a.eval x = .pointer (some ⟨g, 0, none⟩)) (hy : a.eval y = .agg cells.toArray)
    (t : TypeId) (old : List Value) (hg : w.heap[g]? = some (.cells old.toArray t (0, 0))) (hi : (P.info? ty).map (·.size) = some cells.length)
    (hold : old.length = cells.length) (h1 : cells.all (·.oneCell') = true)
    (h : ∀ w', w'.heap[g]? = some (.cells cells.toArray t (0, 0)) → w.grownBy w' (some g) → wpList P ops Q rest (a.put o.dst undef) w') : wpList P ops Q (o :: rest) a w :=
  wpList_store_row hgd ty x y ho g cells.toArray hx hy t old.toArray hg (by simpa using hi) (by simpa using hold) (by simpa using h1) (h _ (setRow_heap w g old.toArray cells.toArray t (0, 0) hg) ⟨rfl, rfl, rfl, by simp, fun k _ hk => setRow_other w g k _ (fun e => hk (by rw [e]))⟩)
theorem below_row {w w' : World} {B N : Nat} (hg : w.grownBy w' (some N)) (hB : B ≤ w.heap.size) (hN : B ≤ N) : Below B w w' :=
  below_grown hg hB fun k hk => by cases hk; exact hN
theorem in_fn_any (n : Int) (w : World) : Calls Tryz.prog 67 #[.int .i64 n] w fun e w' => e = .returned (.func (.func 91) #[] #[.pointer (some ⟨w.heap.size, 0, none⟩)]) ∧ Below w.heap.size w w' ∧ w'.cell? ⟨w.heap.size, 0, none⟩ = some (.int .i64 n) ∧ w.heap.size < w'.heap.size := by
  go_enter Tryz.func67, Tryz.ntmps67
  go_wp2
  go_ret
  exact ⟨rfl, below_alloc _ _, by simp, by simp⟩
theorem in1_any (n : Int) (B : Nat) (p : Piece) (w : World) (h : w.cell? ⟨B, 0, none⟩ = some (.int .i64 n)) :
    Calls Tryz.prog 91 #[pieceV p, .pointer (some ⟨B, 0, none⟩)] w fun e w' => e = .returned (.bool (stIs n p)) ∧ Below w.heap.size w w' := by
  have h := fun X => cell_alloc_old X h
  go_enter Tryz.func91, Tryz.ntmps91
  go_wp2
  go_ret
  exact ⟨ret_bool (by simp [stIs, Bool.beq_eq_decide_eq]), below_alloc _ _⟩
theorem at1_any (off : Int) (B : Nat) (p : Piece) (w : World) (h : w.cell? ⟨B, 0, none⟩ = some (.int .i64 off)) :
    Calls Tryz.prog 39 #[pieceV p, .pointer (some ⟨B, 0, none⟩)] w fun e w' => e = .returned (.bool (atP off p)) ∧ Below w.heap.size w w' := by
  have h := fun X => cell_alloc_old X h
  by_cases h1 : p.state = 2
  · by_cases h2 : p.base ≤ off
    · go_enter Tryz.func39, Tryz.ntmps39
      go_wp2
      go_ret
      exact ⟨ret_bool (by simp [atP, h1, h2]), below_alloc _ _⟩
    · go_enter Tryz.func39, Tryz.ntmps39
      go_wp2
      go_ret
      have h3 : decide (p.base ≤ off) = false := decide_eq_false (by omega)
      exact ⟨ret_bool (by simp [atP, h3]), below_alloc _ _⟩
  · go_enter Tryz.func39, Tryz.ntmps39
    go_wp2
    go_ret
    exact ⟨ret_bool (by simp [atP, h1]), below_alloc _ _⟩
set_option maxHeartbeats 1000000 in
theorem index39_any (pred : Piece → Bool) (ps : List Piece) (B : Nat) (v : Value) (w : World) (hv : PcsAt w v ps)
    (C : ∀ W, Below w.heap.size w W → ∀ p ∈ ps, Calls Tryz.prog 39 #[pieceV p, .pointer (some ⟨B, 0, none⟩)] W fun e w' => e = .returned (.bool (pred p)) ∧ Below W.heap.size W w') :
    Calls Tryz.prog 38 #[v, .func (.func 39) #[] #[.pointer (some ⟨B, 0, none⟩)]] w fun e w' => e = .returned (.int .i64 (idxOf pred ps)) ∧ Below w.heap.size w w' := by
  obtain ⟨a, cap, rfl, hn, hs⟩ := hv
  have HS := hid hs
  have C := hid C
  clear hs
  go_enter Tryz.func38, Tryz.ntmps38
  go_wp2
  go_loopw [8] (fun i wr => ∃ k : Nat, k ≤ ps.length ∧ i = .int .i64 k ∧ (∀ j (h : j < ps.length), j < k → pred ps[j] = false) ∧ Below w.heap.size w wr) (fun i _ => ps.length - (intOf i).toNat)
  case atStart => exact ⟨0, by omega, rfl, fun _ _ h => by omega, Below.refl _ _⟩
  case round =>
    obtain ⟨k, hk, rfl, hall, hwr⟩ := hrel
    have Hall := hid hall; clear hall
    by_cases hlt : k < ps.length
    · obtain ⟨b, o, rfl, hx⟩ := HS.out k hlt
      obtain ⟨e0, e1, e2, e3, e4, e5⟩ := (hx _ (List.getElem?_eq_getElem hlt)).mono hwr
      have D := hid (C.out wr hwr ps[k] (List.getElem_mem hlt))
      clear hx
      obtain ⟨p, hp⟩ : ∃ p, p = ps[k] := ⟨_, rfl⟩
      rw [← hp] at e0 e1 e2 e3 e4 e5 D
      have Hp := hid hp; clear hp
      cases hf : pred p
      · have Hf := hid hf
        rw [hf] at D; clear hf
        go_wp2_with (go_at_call 39; refine D.out.mono ?_; rintro e w1 ⟨rfl, hb1⟩)
        go_roundw
        case rel =>
          refine ⟨k + 1, by omega, by go_num, ?_, hwr.step hb1⟩
          intro j hj hjk
          by_cases hjk' : j = k
          · subst hjk'; rw [← Hp.out]; exact Hf.out
          · exact Hall.out j hj (by omega)
        case measure => simp [intOf]; omega
      · have Hf := hid hf
        rw [hf] at D; clear hf
        go_wp2_with (go_at_call 39; refine D.out.mono ?_; rintro e w1 ⟨rfl, hb1⟩)
        go_ret
        exact ⟨ret_int (idxOf_found hlt (by rw [← Hp.out]; exact Hf.out) Hall.out).symm, hwr.step hb1⟩
    · have hke : k = ps.length := by omega
      have Hk := hid hke; clear hke
      go_wp2
      go_ret
      exact ⟨ret_int (idxOf_none (fun j hj => Hall.out j hj (by have := Hk.out; omega))).symm, hwr⟩
set_option maxHeartbeats 1000000 in
theorem index91_any (pred : Piece → Bool) (ps : List Piece) (B : Nat) (v : Value) (w : World) (hv : PcsAt w v ps)
    (C : ∀ W, Below w.heap.size w W → ∀ p ∈ ps, Calls Tryz.prog 91 #[pieceV p, .pointer (some ⟨B, 0, none⟩)] W fun e w' => e = .returned (.bool (pred p)) ∧ Below W.heap.size W w') :
    Calls Tryz.prog 38 #[v, .func (.func 91) #[] #[.pointer (some ⟨B, 0, none⟩)]] w fun e w' => e = .returned (.int .i64 (idxOf pred ps)) ∧ Below w.heap.size w w' := by
  obtain ⟨a, cap, rfl, hn, hs⟩ := hv
  have HS := hid hs
  have C := hid C
  clear hs
  go_enter Tryz.func38, Tryz.ntmps38
  go_wp2
  go_loopw [8] (fun i wr => ∃ k : Nat, k ≤ ps.length ∧ i = .int .i64 k ∧ (∀ j (h : j < ps.length), j < k → pred ps[j] = false) ∧ Below w.heap.size w wr) (fun i _ => ps.length - (intOf i).toNat)
  case atStart => exact ⟨0, by omega, rfl, fun _ _ h => by omega, Below.refl _ _⟩
  case round =>
    obtain ⟨k, hk, rfl, hall, hwr⟩ := hrel
    have Hall := hid hall; clear hall
    by_cases hlt : k < ps.length
    · obtain ⟨b, o, rfl, hx⟩ := HS.out k hlt
      obtain ⟨e0, e1, e2, e3, e4, e5⟩ := (hx _ (List.getElem?_eq_getElem hlt)).mono hwr
      have D := hid (C.out wr hwr ps[k] (List.getElem_mem hlt))
      clear hx
      obtain ⟨p, hp⟩ : ∃ p, p = ps[k] := ⟨_, rfl⟩
      rw [← hp] at e0 e1 e2 e3 e4 e5 D
      have Hp := hid hp; clear hp
      cases hf : pred p
      · have Hf := hid hf
        rw [hf] at D; clear hf
        go_wp2_with (go_at_call 91; refine D.out.mono ?_; rintro e w1 ⟨rfl, hb1⟩)
        go_roundw
        case rel =>
          refine ⟨k + 1, by omega, by go_num, ?_, hwr.step hb1⟩
          intro j hj hjk
          by_cases hjk' : j = k
          · subst hjk'; rw [← Hp.out]; exact Hf.out
          · exact Hall.out j hj (by omega)
        case measure => simp [intOf]; omega
      · have Hf := hid hf
        rw [hf] at D; clear hf
        go_wp2_with (go_at_call 91; refine D.out.mono ?_; rintro e w1 ⟨rfl, hb1⟩)
        go_ret
        exact ⟨ret_int (idxOf_found hlt (by rw [← Hp.out]; exact Hf.out) Hall.out).symm, hwr.step hb1⟩
    · have hke : k = ps.length := by omega
      have Hk := hid hke; clear hke
      go_wp2
      go_ret
      exact ⟨ret_int (idxOf_none (fun j hj => Hall.out j hj (by have := Hk.out; omega))).symm, hwr⟩
set_option maxHeartbeats 1000000 in
theorem contains91_any (pred : Piece → Bool) (ps : List Piece) (B : Nat) (v : Value) (w : World) (hv : PcsAt w v ps)
    (C : ∀ W, Below w.heap.size w W → ∀ p ∈ ps, Calls Tryz.prog 91 #[pieceV p, .pointer (some ⟨B, 0, none⟩)] W fun e w' => e = .returned (.bool (pred p)) ∧ Below W.heap.size W w') :
    Calls Tryz.prog 44 #[v, .func (.func 91) #[] #[.pointer (some ⟨B, 0, none⟩)]] w fun e w' => e = .returned (.bool (ps.any pred)) ∧ Below w.heap.size w w' := by
  have D := hid (index91_any pred ps B v w hv C)
  rw [← idxOf_nonneg]
  clear hv C
  go_enter Tryz.func44, Tryz.ntmps44
  go_wp2_with (go_at_call 38; refine D.out.mono ?_; rintro e w1 ⟨rfl, hb1⟩)
  go_ret
  exact ⟨ret_bool (by simp), hb1⟩
set_option maxHeartbeats 1000000 in
theorem at_any (ver next off : Int) (ps : List Piece) (v : Value) (w : World) (hv : PcsAt w v ps) :
    Calls Tryz.prog 12 #[.agg #[.int .i64 ver, .int .i64 next, v], .int .i64 off] w fun e w' => e = .returned (.tuple #[pieceV (atM ps off).1, .bool (atM ps off).2]) ∧ Below w.heap.size w w' := by
  have hvw := hv
  obtain ⟨a, cap, rfl, hn, hs⟩ := hv
  have HS := hid hs
  have C := hid (fun W (h : Below w.heap.size w W) B (hB : W.cell? ⟨B, 0, none⟩ = some (.int .i64 off)) => index39_any (atP off) ps B _ W (hvw.mono h) (fun W' h' p _ => at1_any off B p W' (cell_below h' hB)))
  clear hs hvw
  cases hf : ps.findIdx? (atP off) with
  | none =>
    have hi : idxOf (atP off) ps = -1 := by simp [idxOf, hf]
    have Hm := hid (show atM ps off = (zeroP, false) by simp [atM, hf])
    rw [hi] at C
    clear hi hf
    go_enter Tryz.func12, Tryz.ntmps12
    go_wp2_with fail
    refine (C.out _ ?_ _ ?_).mono ?_
    · exact ((below_alloc w _).step (below_alloc _ _)).step (below_alloc _ _)
    · exact cell_alloc_old _ (cell_new (by simp) rfl)
    rintro e w1 ⟨rfl, hb1⟩
    have HM := hid (show w1.heap[w.heap.size + 1 + 1]? = some (.cells zeroP.cells.toArray 29 (0, 0)) from blk_new hb1 (by simp))
    have HB := hid ((((below_alloc w _).step (below_alloc _ _)).step (below_alloc _ _)).step hb1)
    have hlt1 : w.heap.size + 1 + 1 < w1.heap.size := (by have := hb1.size; simp at this; omega)
    clear hb1
    go_wp2_with (refine wpList_store_all rfl 29 (.tmp 4) (.tmp 13) rfl (w.heap.size + 1 + 1) zeroP.cells rfl rfl 29 _ HM.out (by kernel_rfl) rfl rfl ?_)
    intro w3 h3 hg3
    obtain ⟨q0, q1, q2, q3, q4, q5⟩ := pieceAt_of_row h3
    have hB3 := HB.out.trans (below_row hg3 (show w.heap.size ≤ _ by omega) (by omega))
    go_wp2
    exact bodyPost_ret (v := .tuple #[pieceV zeroP, .bool false]) (by simp [results, Tryz.results12, go_sem, q0, q1, q2, q3, q4, q5]) rfl ⟨by rw [Hm.out], hB3⟩
  | some i =>
    have hi : idxOf (atP off) ps = i := by simp [idxOf, hf]
    rw [hi] at C
    obtain ⟨hlt, _⟩ := List.findIdx?_eq_some_iff_getElem.1 hf
    have Hm := hid (show atM ps off = (ps[i], true) by simp [atM, hf, List.getD, hlt])
    clear hi hf
    obtain ⟨b, o, rfl, hx⟩ := HS.out i hlt
    have hx := hx _ (List.getElem?_eq_getElem hlt)
    obtain ⟨p, hp⟩ : ∃ p, p = ps[i] := ⟨_, rfl⟩
    rw [← hp] at hx Hm
    clear hp
    go_enter Tryz.func12, Tryz.ntmps12
    go_wp2_with fail
    refine (C.out _ ?_ _ ?_).mono ?_
    · exact ((below_alloc w _).step (below_alloc _ _)).step (below_alloc _ _)
    · exact cell_alloc_old _ (cell_new (by simp) rfl)
    rintro e w1 ⟨rfl, hb1⟩
    have HM := hid (show w1.heap[w.heap.size + 1 + 1]? = some (.cells zeroP.cells.toArray 29 (0, 0)) from blk_new hb1 (by simp))
    have HB := hid ((((below_alloc w _).step (below_alloc _ _)).step (below_alloc _ _)).step hb1)
    have hlt1 : w.heap.size + 1 + 1 < w1.heap.size := (by have := hb1.size; simp at this; omega)
    have n2 := cell_below hb1 (cell_alloc_old _ (cell_alloc_old _ (show (w.alloc (.cells #[.int .i64 ver, .int .i64 next, .slice (some ⟨b, o, none⟩) ps.length cap] 24)).cell? ⟨w.heap.size, 2, none⟩ = some (.slice (some ⟨b, o, none⟩) ps.length cap) by simp)))
    obtain ⟨e0, e1, e2, e3, e4, e5⟩ := hx.mono HB.out
    clear hb1 hx
    go_wp2_with (refine wpList_store_all rfl 29 (.tmp 4) (.tmp 18) rfl (w.heap.size + 1 + 1) p.cells rfl rfl 29 _ HM.out (by kernel_rfl) rfl rfl ?_)
    intro w3 h3 hg3
    obtain ⟨q0, q1, q2, q3, q4, q5⟩ := pieceAt_of_row h3
    have hB3 := HB.out.trans (below_row hg3 (show w.heap.size ≤ _ by omega) (by omega))
    go_wp2
    exact bodyPost_ret (v := .tuple #[pieceV p, .bool true]) (by simp [results, Tryz.results12, go_sem, q0, q1, q2, q3, q4, q5]) rfl ⟨by rw [Hm.out], hB3⟩
end Go.Proofs.YtcpecponmaakoaaGreatDoor
