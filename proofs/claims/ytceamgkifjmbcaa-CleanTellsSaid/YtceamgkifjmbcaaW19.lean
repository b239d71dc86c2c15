/- Walks of the statements: CleanDoes. -/
import Derived.Test.YtceamgkifjmbcaaW17
import Derived.Test.YtceamgkifjmbcaaW18
import Derived.Test.YtceamgkifjmbcaaW4
import Derived.Outline
namespace Go.Proofs.Ytceamgkifjmbcaa
open Go.RowKit Go.Wm
/-- A slice of n records in a row of the call's own, of whose cells only this much is known: the first of each record is a number. -/
def OffRow (w : World) (base : Nat) (sv : Value) (n : Nat) : Prop :=
  (sv = .slice none 0 0 ∧ n = 0) ∨ ∃ g cap cs, sv = .slice (some ⟨g, 0, none⟩) n cap ∧ base ≤ g ∧ w.heap[g]? = some (.cells cs 33 (0, 0)) ∧ ∀ k, k < n → ∃ z : Int, cs[k * 5]? = some (.int .i64 z)
theorem OffRow.of {w : World} {base : Nat} {v : Value} {rs : List Rec} (h : OwnRecs w base v rs) : OffRow w base v rs.length := by
  obtain ⟨h1, h2⟩ := id h
  rcases h2 with ⟨rfl, h0⟩ | ⟨g, cap, cur, rfl, hg, hb, hn, hm, hc, ht⟩
  · exact .inl ⟨rfl, h0⟩
  · refine .inr ⟨g, cap, cur, rfl, hg, hb, fun k hk => ⟨rs[k].off, ?_⟩⟩
    have hf := flat_get Rec.cells 5 Rec.cells_length rs k 0 hk (by omega)
    have hlt : k * 5 < rs.length * 5 := by omega
    have : (cur.toList.take (rs.length * 5))[k * 5]? = some (.int .i64 rs[k].off) := by rw [ht]; exact hf
    rw [List.getElem?_take_of_lt hlt, Array.getElem?_toList] at this
    exact this
theorem OffRow.below {w w' : World} {base : Nat} {v : Value} {n : Nat} (h : OffRow w base v n) (hb : Below w.heap.size w w') : OffRow w' base v n := by
  rcases h with h | ⟨g, cap, cs, h1, h2, h3, h4⟩
  · exact .inl h
  · exact .inr ⟨g, cap, cs, h1, h2, blk_below h3 hb, h4⟩
/-- A number is written into a row of records. -/
theorem OffRow.bump {w : World} {base : Nat} {v : Value} {n : Nat} (h : OffRow w base v n) (g m : Nat) (z : Int) : OffRow (w.setCell ⟨g, m, none⟩ (.int .i64 z)) base v n := by
  rcases h with h | ⟨g', cap, cs, h1, h2, h3, h4⟩
  · exact .inl h
  · by_cases hg : g' = g
    · subst hg
      refine .inr ⟨g', cap, _, h1, h2, setCell_row h3 m _, fun k hk => ?_⟩
      obtain ⟨z', hz⟩ := h4 k hk
      rw [Array.getElem?_setIfInBounds]
      split
      · rename_i hm
        have hlt := (Array.getElem?_eq_some_iff.1 hz).1
        rw [if_pos (by omega)]
        exact ⟨z, rfl⟩
      · exact ⟨z', hz⟩
    · exact .inr ⟨g', cap, cs, h1, h2, (Below.heap_setCell _ _ _ _ (by simpa using hg)).trans h3, h4⟩
/-- A list of batches in a row of the call's own, the records known that much. -/
def OffBats (w : World) (base : Nat) (u : Value) (ps : List (Batch × Value)) : Prop :=
  w.ownsRow base 28 10 u ps.length (batCells ps) ∧ ∀ p ∈ ps, OffRow w base p.2 p.1.recs.length ∧ p.1.recs.length ≤ 1000000
theorem OffBats.of {w : World} {base : Nat} {u : Value} {xs : List Batch} (h : OwnBats w base u xs) : ∃ ps, ps.length = xs.length ∧ OffBats w base u ps := by
  obtain ⟨ps, h1, h2, h3⟩ := h
  exact ⟨ps, by rw [← h1, List.length_map], h2, fun p hp => ⟨.of (h3 p hp).1, (h3 p hp).2.1⟩⟩
theorem OffBats.below {w w' : World} {base : Nat} {u : Value} {ps : List (Batch × Value)} (h : OffBats w base u ps) (hb : Below w.heap.size w w') : OffBats w' base u ps :=
  ⟨ownsRow_below h.1 hb, fun p hp => ⟨(h.2 p hp).1.below hb, (h.2 p hp).2⟩⟩
theorem OffBats.bump {w : World} {base : Nat} {u : Value} {ps : List (Batch × Value)} (h : OffBats w base u ps) (g m : Nat) (z : Int) {cs : Array Value} (hg : w.heap[g]? = some (.cells cs 33 (0, 0))) :
    OffBats (w.setCell ⟨g, m, none⟩ (.int .i64 z)) base u ps := by
  refine ⟨h.1.kept (grown_setCell w g m _) ?_, fun p hp => ⟨(h.2 p hp).1.bump g m z, (h.2 p hp).2⟩⟩
  rcases h.1.2 with ⟨rfl, _⟩ | ⟨g', cap, cur, rfl, _, hb', _⟩
  · exact .inl rfl
  · refine .inr ?_
    intro e
    simp only [Value.ownBlock, Option.some.injEq] at e
    subst e
    rw [hb'] at hg
    simp at hg
/-- The cell of a batch's records. -/
theorem OffBats.recs {w : World} {base g : Nat} {n cap : Nat} {ps : List (Batch × Value)} (h : OffBats w base (.slice (some ⟨g, 0, none⟩) n cap) ps) (i : Nat) (hi : i < ps.length) :
    w.cell? ⟨g, i * 10 + 9, none⟩ = some ps[i].2 ∧ OffRow w base ps[i].2 ps[i].1.recs.length ∧ ps[i].1.recs.length ≤ 1000000 := by
  refine ⟨?_, (h.2 _ (List.getElem_mem hi)).1, (h.2 _ (List.getElem_mem hi)).2⟩
  have := World.ownsRow.cells h.1 (g := g) rfl (i * 10 + 9) ps[i].2 (by
    have hf := flat_get (fun p : Batch × Value => p.1.cells p.2) 10 (fun _ => rfl) ps i 9 hi (by omega)
    exact hf)
  have e : (⟨g, 0, none⟩ : Addr).add (i * 10 + 9) = ⟨g, i * 10 + 9, none⟩ := by simp only [Addr.add]; split <;> simp_all
  rwa [e] at this
theorem OffBats.form {w : World} {base : Nat} {u : Value} {ps : List (Batch × Value)} (h : OffBats w base u ps) : (u = .slice none 0 0 ∧ ps = []) ∨ ∃ g cap, u = .slice (some ⟨g, 0, none⟩) ps.length cap ∧ base ≤ g := by
  rcases h.1.2 with ⟨h1, h2⟩ | ⟨g', cap, cur, h1, h2, _⟩
  · exact .inl ⟨h1, List.eq_nil_of_length_eq_zero h2⟩
  · exact .inr ⟨g', cap, h1, h2⟩
theorem take_snoc {α : Type} (bs : List α) (i : Nat) (x : α) (h : bs[i]? = some x) : bs.take (i + 1) = bs.take i ++ [x] := by
  rw [List.take_add_one, h]; rfl
set_option maxRecDepth 100000 in
set_option maxHeartbeats 4000000 in
theorem does_any (bs : List Batch) (l : List Gone) (vb vl : Value) (to now keep : Int) (w : World) (hb : BatchesBig w vb bs) (hl : GonesBig w vl l) (hp : ∀ x ∈ bs, (Lit.int .i64 x.pid).wf = true) :
    Calls Try.prog 3 #[vb, vl, .int .i64 to, .int .i64 now, .int .i64 keep] w fun e w' => e = .returned (.bool true) ∧ Below w.heap.size w w' := by
  cases hf : fewB bs l
  · have F := hid (fun W (h : Below w.heap.size w W) => few_big bs l vb vl W (hb.mono h) (hl.mono h))
    rw [hf] at F
    clear hb hl
    go_enter Try.func3, Try.ntmps3
    go_wp2_with fail
    refine (live_any _).mono ?_
    rintro e1 w1 ⟨rfl, hb1⟩
    go_wp2_with fail
    refine (F.out w1 hb1).mono ?_
    rintro e2 w2 ⟨rfl, hb2⟩
    go_wp2
    go_ret
    exact ⟨rfl, hb1.step hb2⟩
  · have hb' := hb.small (few_cut hf).1
    have hl' := hl.small (few_cut hf).2
    have F := hid (fun W (h : Below w.heap.size w W) => few_big bs l vb vl W (hb.mono h) (hl.mono h))
    rw [hf] at F
    have Bw := hid (fun W (h : Below w.heap.size w W) => hb'.mono h)
    have C := hid (fun W (h : Below w.heap.size w W) => clean_any bs l vb vl to now keep W (hb'.mono h) (hl'.mono h) hp)
    have D := hid (fun W (h : Below w.heap.size w W) => cleanRef_any bs l to now keep vb vl W (hb'.mono h) (hl'.mono h))
    have Hsm := hid (smallAt hb')
    have hclen := cleanTo_length bs l to now keep bs.length
    obtain ⟨a, cap, rfl, hn, hs⟩ := hb'
    have Hs := hid hs
    clear hb hl hf hl' hs hp
    go_enter Try.func3, Try.ntmps3
    go_wp2_with fail
    refine (live_any _).mono ?_
    rintro e1 w1 ⟨rfl, hb1⟩
    go_wp2_with fail
    refine (F.out w1 hb1).mono ?_
    rintro e2 w2 ⟨rfl, hb2⟩
    have hB2 := hb1.step hb2
    clear F
    go_wp2
    go_loopw [11, 26] (fun u q wr => ∃ i : Nat, i ≤ bs.length ∧ q = .int .i64 i ∧ OwnBats wr w2.heap.size u (bs.take i) ∧ Below w2.heap.size w2 wr) (fun _ q _ => bs.length - (intOf q).toNat)
    case atStart => exact ⟨0, by omega, rfl, OwnBats.nil _ _, Below.refl _ _⟩
    case round =>
      obtain ⟨i, hi, rfl, hown, hwr⟩ := hrel
      have hBr := hB2.step hwr
      by_cases hlt : i < bs.length
      · obtain ⟨x, hx⟩ : ∃ x, bs[i]? = some x := ⟨_, List.getElem?_eq_getElem hlt⟩
        have hsm := Hsm.out i x hx
        obtain ⟨b', o, rfl, hxa⟩ := Hs.out i hlt
        obtain ⟨sv, hxa, hxr⟩ := hxa x hx
        have hxr' := hxr.mono hBr
        obtain ⟨e0, e1, e2, e3, e4, e5, e6, e7, e8, e9⟩ := hxa.mono hBr
        obtain ⟨a2, cap2, rfl, hn2⟩ := hxr.form
        have T := hid (take_snoc bs i x hx)
        have hlen : (bs.take i).length ≤ i := List.length_take_le _ _
        generalize bs.take i = L at *
        have Cp := hid (fun X => copy_any x _ _ (hxr'.mono (below_alloc wr X)))
        clear hx hxa hxr hxr'
        go_wp2_with fail
        refine (Cp.out _).mono ?_
        rintro e3' w3 ⟨u, rfl, hu, hb3⟩
        obtain ⟨a4, cap4, rfl⟩ := OwnRecs.form hu
        have hb3' := (below_alloc wr _).step hb3
        have hsz := hwr.size
        go_wp2_with (at_builtin; refine wpList_append_bat rfl (.tmp 30) (.tmp 33) rfl Try.underlying22 Try.inf28 w2.heap.size _ L x (.slice a4 x.recs.length cap4) rfl ((hown.below hb3').below (below_alloc _ _)) w3.heap.size rfl ⟨by simp, by simp, by simp, by simp, by simp, by simp, by simp, by simp, by simp, by simp⟩ ((OwnRecs.base hu (by simp; omega)).below (below_alloc _ _)) hsm (by omega) ?_ ?_)
        · have := hb3'.size; simp; omega
        intro v' w' hown' hbel _
        go_wp2
        go_roundw
        case rel => exact ⟨i + 1, by omega, by go_num, by rw [T.out]; exact hown', ((hwr.step hb3').step (below_alloc _ _)).trans hbel⟩
        case measure => simp [intOf]; omega
      · have hie : i = bs.length := by omega
        have hwas : OwnBats wr w2.heap.size u11 bs := by rw [hie, List.take_length] at hown; exact hown
        obtain ⟨wo, rfl⟩ : ∃ wo : World, wo = wr := ⟨_, rfl⟩
        clear hown hie
        go_wp2_with fail
        refine (C.out wo hBr).mono ?_
        rintro e3' w3 ⟨ux, rfl, hux, hb3⟩
        go_wp2_with fail
        refine (D.out w3 (hBr.step hb3)).mono ?_
        rintro e4' w4 ⟨uy, rfl, huy, hb4⟩
        have S := hid (sameAll_any (cleanG bs l to now keep) (cleanG bs l to now keep) ux uy w4 ((hux.below hb4).at (by have := hclen; unfold cleanG; omega)) (huy.at (by have := hclen; unfold cleanG; omega)))
        rw [decide_eq_true rfl] at S
        go_wp2_with fail
        refine S.out.mono ?_
        rintro e5' w5 ⟨rfl, hb5⟩
        have hB5 := (hb3.step hb4).step hb5
        obtain ⟨ps, hpl, hps⟩ := OffBats.of ((hux.below hb4).below hb5)
        have hps5 : ps.length ≤ 1000000 := by have := hclen; rw [hpl]; unfold cleanG; omega
        have S2 := hid (fun W (h : Below wo.heap.size wo W) => sameAll_any bs bs _ u11 W (Bw.out W (hBr.step h)) ((hwas.below h).at hn))
        rw [decide_eq_true rfl] at S2
        clear hux huy hb3 hb4 hb5 S hpl hclen hwas
        rcases hps.form with ⟨rfl, rfl⟩ | ⟨g, capx, rfl, hg⟩
        · clear hps
          go_wp2
          refine wp_loop_once ?_
          go_wp2_with fail
          refine (S2.out _ hB5).mono ?_
          rintro e6' w6 ⟨rfl, hb6⟩
          go_wp2
          go_ret
          exact ⟨rfl, (hBr.step hB5).step hb6⟩
        · go_wp2
          go_loopw [52] (fun q wr => ∃ i : Nat, i ≤ ps.length ∧ q = .int .i64 i ∧ OffBats wr wo.heap.size (.slice (some ⟨g, 0, none⟩) ps.length capx) ps ∧ Below wo.heap.size wo wr) (fun q _ => ps.length - (intOf q).toNat)
          case atStart => exact ⟨0, by omega, rfl, hps, hB5⟩
          case round =>
            obtain ⟨i, hi, rfl, hof, hwr1⟩ := hrel
            obtain ⟨wo1, rfl⟩ : ∃ wo1 : World, wo1 = wr := ⟨_, rfl⟩
            clear hps hB5 hwr
            by_cases hlt : i < ps.length
            · obtain ⟨hc, hor, hnn⟩ := hof.recs i hlt
              have Hf := hid (fun W (h : OffBats W wo.heap.size (.slice (some ⟨g, 0, none⟩) ps.length capx) ps) => h.recs i hlt)
              generalize ps[i].1.recs.length = N at *
              generalize ps[i].2 = sv at *
              rcases hor with ⟨rfl, rfl⟩ | ⟨g2, cap2, cs2, rfl, hg2, _, _⟩
              · go_wp2
                refine wp_loop_once ?_
                go_wp2
                go_roundw
                case rel => exact ⟨i + 1, by omega, by go_num, hof, hwr1⟩
                case measure => simp [intOf]; omega
              · go_wp2
                clear hc
                go_loopw [61] (fun q wr => ∃ k : Nat, k ≤ N ∧ q = .int .i64 k ∧ OffBats wr wo.heap.size (.slice (some ⟨g, 0, none⟩) ps.length capx) ps ∧ Below wo.heap.size wo wr) (fun q _ => N - (intOf q).toNat)
                case atStart => exact ⟨0, by omega, rfl, hof, hwr1⟩
                case round =>
                  obtain ⟨k, hk, rfl, hof2, hwr2⟩ := hrel
                  by_cases hkt : k < N
                  · obtain ⟨hc, hor, _⟩ := Hf.out wr hof2
                    rcases hor with ⟨h, _⟩ | ⟨g3, cap3, cs3, h3, hg3, hb3, hz⟩
                    · cases h
                    · simp only [Value.slice.injEq, Option.some.injEq, Addr.mk.injEq, and_true, true_and] at h3
                      obtain ⟨rfl, rfl⟩ := h3
                      obtain ⟨z, hz⟩ := hz k hkt
                      have cz : wr.cell? ⟨g2, k * 5, none⟩ = some (.int .i64 z) := by simp [World.cell?, hb3, hz]
                      have fz := frozen_of_row hb3 (k * 5)
                      have hnew := hid (fun z' => hof2.bump g2 (k * 5) z' hb3)
                      clear hz hb3 hof hof2
                      go_wp2
                      go_roundw
                      case rel => exact ⟨k + 1, by omega, by go_num, hnew.out _, hwr2.setCell (p := ⟨g2, k * 5, none⟩) (by simpa using hg2) _⟩
                      case measure => simp [intOf]; omega
                  · go_wp2
                    go_roundw
                    case rel => exact ⟨i + 1, by omega, by go_num, hof2, hwr2⟩
                    case measure => simp [intOf]; omega
            · go_wp2_with fail
              refine (S2.out _ hwr1).mono ?_
              rintro e6' w6 ⟨rfl, hb6⟩
              go_wp2
              go_ret
              exact ⟨rfl, (hBr.step hwr1).step hb6⟩
end Go.Proofs.Ytceamgkifjmbcaa
