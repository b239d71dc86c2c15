/- Walks of the program: Clean. -/
import Derived.Test.YtceamgkifjmbcaaW15
namespace Go.Proofs.Ytceamgkifjmbcaa
open Go.RowKit Go.Wm
/-- A list of batches in a row of the call's own, the rows of their records with a base of their own. -/
def OwnBats2 (w : World) (base rb : Nat) (v : Value) (xs : List Batch) : Prop :=
  ∃ ps : List (Batch × Value), ps.map (·.1) = xs ∧ w.ownsRow base 28 10 v ps.length (batCells ps) ∧ ∀ p ∈ ps, OwnRecs w rb p.2 p.1.recs ∧ smallRecs p.1.recs
theorem OwnBats2.nil (w : World) (base rb : Nat) : OwnBats2 w base rb (.slice none 0 0) [] := ⟨[], rfl, World.ownsRow_nil w base 28 10, by simp⟩
theorem OwnBats2.below {w w' : World} {base rb : Nat} {v : Value} {xs : List Batch} (h : OwnBats2 w base rb v xs) (hb : Below w.heap.size w w') : OwnBats2 w' base rb v xs :=
  let ⟨ps, h1, h2, h3⟩ := h; ⟨ps, h1, ownsRow_below h2 hb, fun p hp => ⟨(h3 p hp).1.below hb, (h3 p hp).2⟩⟩
theorem OwnBats2.one {w : World} {base rb b : Nat} {v : Value} {xs : List Batch} (h : OwnBats2 w base rb v xs) (h1 : b ≤ base) (h2 : b ≤ rb) : OwnBats w b v xs :=
  let ⟨ps, h3, h4, h5⟩ := h; ⟨ps, h3, ownsRow_mono h4 h1, fun p hp => ⟨(h5 p hp).1.base h2, (h5 p hp).2⟩⟩
/-- 'append(out, x)' of one batch. -/
theorem wpList_append_bat2 {P : Program} {w : World} {ops : Array Oper} {rest : List Oper} {o : Oper} {a : Act} {Q : Exit → Act → World → Prop} (hgd : o.guard = none) (s x : Operand)
    (ho : o.op = .call { callee := .builtin .append, args := #[s, x], argTypes := #[22, 22] })
    (ht : P.underlying 22 = some (.slice 28)) (hi : (P.info? 28).map (fun i => (i.zero, i.size, i.bytes)) = some (some (.agg #[.int .i64 0, .int .i64 0, .int .i64 0, .int .i64 0, .int .i64 0, .int .i64 0, .int .i64 0, .bool false, .int .i64 0, .slice none 0 0]), 10, 96))
    (base rb : Nat) (v : Value) (xs : List Batch) (y : Batch) (sv : Value) (hs : a.eval s = v) (hown : OwnBats2 w base rb v xs)
    (g : Nat) (hx : a.eval x = .slice (some ⟨g, 0, none⟩) 1 1) (hy : BatchAt w g 0 y sv) (hyr : OwnRecs w rb sv y.recs) (hys : smallRecs y.recs)
    (hn : xs.length ≤ 1000000) (hbase : base ≤ w.heap.size)
    (h : ∀ v' w', OwnBats2 w' base rb v' (xs ++ [y]) → Below base w w' → w.grownBy w' v.ownBlock → wpList P ops Q rest (a.put o.dst v') w') : wpList P ops Q (o :: rest) a w := by
  obtain ⟨ps, hps, hown, hrec⟩ := hown
  have hlen : ps.length = xs.length := by rw [← hps, List.length_map]
  obtain ⟨r0, r1, r2, r3, r4, r5, r6, r7, r8, r9⟩ := hy
  have hone : sv.oneCell' = true := by
    rcases hyr.2 with ⟨rfl, _⟩ | ⟨g, cap, cur, rfl, _⟩ <;> rfl
  refine wpList_append1 hgd s x 22 ho base 28 _ 10 96 ht hi rfl (by decide) v ps.length (batCells ps) hs hown g (y.cells sv) hx rfl ?_ ?_ (by omega) (by decide) hbase ?_
  · intro j u hj
    match j, hj with
    | 0, hj => simp [Batch.cells] at hj; subst hj; exact r0
    | 1, hj => simp [Batch.cells] at hj; subst hj; exact r1
    | 2, hj => simp [Batch.cells] at hj; subst hj; exact r2
    | 3, hj => simp [Batch.cells] at hj; subst hj; exact r3
    | 4, hj => simp [Batch.cells] at hj; subst hj; exact r4
    | 5, hj => simp [Batch.cells] at hj; subst hj; exact r5
    | 6, hj => simp [Batch.cells] at hj; subst hj; exact r6
    | 7, hj => simp [Batch.cells] at hj; subst hj; exact r7
    | 8, hj => simp [Batch.cells] at hj; subst hj; exact r8
    | 9, hj => simp [Batch.cells] at hj; subst hj; exact r9
    | j + 10, hj => simp [Batch.cells] at hj
  · intro u hu
    simp [Batch.cells] at hu
    rcases hu with rfl | rfl | rfl | rfl | rfl | rfl | rfl | rfl | rfl | rfl <;> first | rfl | exact hone
  · intro v' w' ho' hb hg
    refine h v' w' ⟨ps ++ [(y, sv)], by simp [hps], by simpa [batCells] using ho', ?_⟩ hb hg
    intro p hp
    rcases List.mem_append.1 hp with hp | hp
    · exact ⟨(hrec p hp).1.kept hg (own_ne (hrec p hp).1 hown (by decide)), (hrec p hp).2⟩
    · simp at hp
      subst hp
      exact ⟨hyr.kept hg (own_ne hyr hown (by decide)), hys⟩
theorem pcleanTo_length (bs : List Batch) (l : List Gone) (to : Int) (f : ByteArray → Int × Int) (now keep e : Int) : ∀ i, (pcleanTo bs l to f now keep e i).length ≤ i
  | 0 => by simp [pcleanTo]
  | i + 1 => by
    have := pcleanTo_length bs l to f now keep e i
    rw [pcleanTo]
    split <;> simp <;> omega
set_option maxHeartbeats 2000000 in
theorem clean_any (bs : List Batch) (l : List Gone) (vb vl : Value) (to now keep : Int) (w : World) (hb : BatchesAt w vb bs) (hl : GonesAt w vl l) (hp : ∀ x ∈ bs, (Lit.int .i64 x.pid).wf = true) :
    Calls Try.prog 14 #[vb, vl, .int .i64 to, .int .i64 now, .int .i64 keep] w
      fun e w' => ∃ u, e = .returned u ∧ OwnBats w' w.heap.size u (cleanG bs l to now keep) ∧ Below w.heap.size w w' := by
  have C := hid (look_any bs l vb vl to now keep w hb hl)
  have hn : bs.length ≤ 1000000 := let ⟨_, _, _, h, _⟩ := hb; h
  have Fin := hid (pcleanTo_eq bs l to now keep bs.length)
  have D := hid (fun W (h : Below w.heap.size w W) R m n e f hr hm => all_any bs l vb vl R to now keep m n e f W hr (hb.mono h) (hl.mono h) hm hp)
  clear hb hl hp
  go_enter Try.func14, Try.ntmps14
  go_wp2_with fail
  refine C.out.mono ?_
  rintro e1 w1 ⟨R, m, n, rfl, hr, hm, hb1⟩
  go_wp2_with fail
  refine (D.out w1 hb1 R m n _ _ hr hm).mono ?_
  rintro e2 w2 ⟨A, rfl, hA, hall, hb2⟩
  obtain ⟨g, hg1, hg2, _⟩ := hall
  have hB := hb1.step hb2
  generalize hF : lookF bs l to = F at *
  generalize hE : endLast bs to bs.length = E at *
  have Hg := hid hg2
  clear hr hm hg2
  go_wp2
  go_loopw [11, 22] (fun u q wr => ∃ i : Nat, i ≤ bs.length ∧ q = .int .i64 i ∧ OwnBats2 wr w2.heap.size w.heap.size u (pcleanTo bs l to F now keep E i) ∧ Below w2.heap.size w2 wr) (fun _ q _ => bs.length - (intOf q).toNat)
  case atStart => exact ⟨0, by omega, rfl, OwnBats2.nil _ _ _, Below.refl _ _⟩
  case round =>
    obtain ⟨i, hi, rfl, hown, hwr⟩ := hrel
    by_cases hlt : i < bs.length
    · have cA := cell_below hwr (hg1.cell hlt)
      have K := (Hg.out i hlt).below hwr
      have Hs := hid (show pcleanTo bs l to F now keep E (i + 1) = (match pallAt bs l to F now keep E i with | some y => pcleanTo bs l to F now keep E i ++ [y] | none => pcleanTo bs l to F now keep E i) from rfl)
      have hlen := pcleanTo_length bs l to F now keep E i
      generalize pcleanTo bs l to F now keep E i = L at *
      cases hk : pallAt bs l to F now keep E i with
      | none =>
        rw [hk] at K Hs
        have K' : g i = .pointer none := K
        rw [K'] at cA
        clear K K' hk
        go_wp2
        go_roundw
        case rel => exact ⟨i + 1, by omega, by go_num, by rw [Hs.out]; exact hown, hwr⟩
        case measure => simp [intOf]; omega
      | some y =>
        rw [hk] at K Hs
        obtain ⟨B, sv, hBB, hgi, hy, hyr, hys⟩ := K
        rw [hgi] at cA
        clear hgi hk
        obtain ⟨e0, e1, e2, e3, e4, e5, e6, e7, e8, e9⟩ := hy
        have hBlt := lt_of_cell e0
        obtain ⟨a6, cap6, rfl⟩ := OwnRecs.form hyr
        go_wp2_with (at_builtin; refine wpList_append_bat2 rfl (.tmp 28) (.tmp 32) rfl Try.underlying22 Try.inf28 w2.heap.size w.heap.size _ L y (.slice a6 y.recs.length cap6) rfl (hown.below (below_alloc _ _)) wr.heap.size rfl ⟨by simp, by simp, by simp, by simp, by simp, by simp, by simp, by simp, by simp, by simp⟩ ((OwnRecs.base hyr (by have := hb1.size; omega)).below (below_alloc _ _)) hys (by omega) ?_ ?_)
        · have := hwr.size; simp; omega
        intro v' w' hown' hbel _
        go_wp2
        go_roundw
        case rel => exact ⟨i + 1, by omega, by go_num, by rw [Hs.out]; exact hown', (hwr.step (below_alloc _ _)).trans hbel⟩
        case measure => simp [intOf]; omega
    · have hie : i = bs.length := by omega
      have Hi := hid hie; clear hie
      go_wp2
      go_ret
      rw [Hi.out, Fin.out] at hown
      exact ⟨_, rfl, hown.one hB.size (Nat.le_refl _), hB.step hwr⟩
end Go.Proofs.Ytceamgkifjmbcaa
