/- A map's places, collected: maps.Values and slices.Collect at places. Turned from the kit's worked contracts on iterators (SlIter). -/
import Derived.Test.YtceamgkifjmbcaaW21
import Derived.Shelf.SlIter.Collect
import Derived.Shelf.SlIter.AllValues
namespace Go.Proofs.Ytceamgkifjmbcaa
open Go.RowKit Go.Maps Go.Sort Go.Shelf Go.Wm
def plV (p : Int × Int) : Value := .agg #[.int .i64 p.1, .int .i64 p.2]
def plCells (p : Int × Int) : List Value := [.int .i64 p.1, .int .i64 p.2]
theorem placeR_invV {v : Value} {y : DataW Unit × List MemPlace} (h : placeR v = some y) : ∃ c : Int × Int, v = plV c := by
  obtain ⟨d, ps⟩ := y
  obtain ⟨a, b, rfl, _⟩ := placeR_inv h
  exact ⟨(a, b), rfl⟩
/-- These pairs are the map's entries, each key once. -/
def PairsOf (D0 : DataW Unit) (ps : List (List UInt8 × (Int × Int))) : Prop := (ps.map (·.1)).Perm (strKeys D0) ∧ ∀ p ∈ ps, ∀ zd, D0.atKey (.string p.1) zd = pd p.2
set_option maxRecDepth 100000 in
set_option maxHeartbeats 1000000 in
theorem valuesIter_in (n : Nat) (hn : 1 ≤ n) (l Bm b nn : Nat) (D0 : DataW Unit) (J : List (Int × Int) → World → Prop)
    (hY : ∀ pre x W, J pre W → pre.length < Maps.size D0 → YieldAt Fence.wide (n - 1) Try.prog l #[plV x] W fun e W' => e = .returned (.bool true) ∧ J (pre ++ [x]) W' ∧ KeepsWalks W W')
    (W : World) (hJ : AbidesFrom W.heap.size J) (hJa : ∀ s W (X : Obj), J s W → J s (W.alloc X)) (hm : W.cell? ⟨Bm, 0, none⟩ = some (.map (some b))) (hown : W.ownsMap Try.prog 9 placeR b nn D0) (h0 : J [] W) :
    CallsIn Fence.wide n Try.prog 60 #[.func (.yield l) #[] #[], .pointer (some ⟨Bm, 0, none⟩)] W fun e W' => (∃ v, e = .returned v) ∧ ∃ xs, (∃ ps, PairsOf D0 ps ∧ xs = ps.map (·.2)) ∧ J xs W' := by
  have hf : Fence.wide.fn 60 := trivial
  refine callsIn_of_wp Try.func60 rfl hf ?_ rfl
  simp only [Try.ntmps60, List.size_toArray, List.length_cons, List.length_nil, Nat.reduceAdd, Nat.reduceSub, Array.replicate_succ, Array.replicate_zero, List.push_toArray, List.append_toArray, List.nil_append, List.cons_append]
  gi_wp2_with (first
    | (gi_at_range; refine wpListIn_range_own _ rfl _ 68 rfl 9 70 klaw Try.underlying68 _ b nn _ rfl hown ?_; intro w0 hrg0 hg0 hs0)
    | gi_in)
  go_frame
  gi_loopw [4] (fun _ wr => ∃ (left : Lit → Bool) (cnt : Nat) (ps : List (List UInt8 × (Int × Int))), wr.ranges Try.prog 9 placeR b W.heap.size nn D0 left cnt ∧ ps.length + cnt ≤ Maps.size D0 ∧ Collected D0 left (ps.map (·.1)) ∧ (∀ p ∈ ps, ∀ zd, D0.atKey (.string p.1) zd = pd p.2) ∧ J (ps.map (·.2)) wr)
    (fun _ wr => wr.rangeLeft b W.heap.size)
  case atStart =>
    exact ⟨_, _, [], hrg0, by simp, Collected.start D0, by simp, hJ [] W w0 none h0 hg0 (fun r e => by cases e)⟩
  case round =>
    obtain ⟨left, cnt, ps, hrg, hcs, hC, hV, hJs⟩ := hrel
    gi_wp2_with (first
      | (gi_at_next; refine wpListIn_next_ranges _ rfl _ rfl 9 klaw placeR encStr plV (fun key kl hk => by obtain ⟨x, hx, _⟩ := Maps.keyOf_str Try.underlying9 hk; exact ⟨x, hx⟩) (fun v y hv => placeR_invV hv) b W.heap.size nn _ _ _ rfl hrg ?_ ?_)
      | gi_in)
    · intro hc0 hl0
      gi_wp2
      go_end0
      exact ⟨⟨_, rfl⟩, _, ⟨ps, ⟨hC.perm hown klaw Try.underlying9 hl0, hV⟩, rfl⟩, hJs⟩
    · intro x c1 c2 kl yd yp w2 cnt2 hkey hlk hv hat hrg2 hlt hg2 hs2 hen
      obtain ⟨x', ex, rfl, _⟩ := Maps.keyOf_str Try.underlying9 hkey
      obtain rfl : x = x' := encStr_inj ex
      obtain ⟨d1, d2, ec, ez⟩ := placeR_inv hv
      simp only [plV, Value.agg.injEq, Array.mk.injEq, List.cons.injEq, Value.int.injEq, true_and, and_true] at ec
      obtain ⟨rfl, rfl⟩ := ec
      have hJ2 : J (ps.map (·.2)) w2 := hJ _ wr w2 (some W.heap.size) hJs hg2 (fun r e => by cases e; exact ⟨Nat.le_refl _, hrg.iter_walk⟩)
      have hat' : ∀ zd, D0.atKey (.string x) zd = pd (c1, c2) := fun zd => by rw [hat zd]; exact ez
      obtain ⟨fn, tmps, assign, body, hy, hR⟩ := hY (ps.map (·.2)) (c1, c2) (w2.alloc (.cells #[.int .i64 c1, .int .i64 c2] 70)) (hJa _ _ _ hJ2) (by simp; omega)
      unfold plV at *
      clear hs2 hat
      gi_wp2
      refine hR.mono ?_
      have hC2 : Collected D0 (fun z => left z && !z.sameKey (.string x)) ((ps ++ [(x, (c1, c2))]).map (·.1)) := by simpa using hC.step hlk hat'
      have hV2 : ∀ p ∈ ps ++ [(x, (c1, c2))], ∀ zd, D0.atKey (.string p.1) zd = pd p.2 := fun p hp => (List.mem_append.1 hp).elim (hV p) (fun e => by simp at e; subst e; exact hat')
      rintro e W3 ⟨rfl, hJ3, hk3⟩
      gi_wp2
      have hrg3 := hrg2.of_walks ((KeepsWalks.alloc _ _).trans hk3)
      go_roundw
      case rel => exact ⟨_, cnt2, ps ++ [(x, (c1, c2))], hrg3, by simp; omega, hC2, hV2, by simpa using hJ3⟩
      case measure => rw [hrg3.left_eq, hrg.left_eq]; exact hlt
end Go.Proofs.Ytceamgkifjmbcaa
