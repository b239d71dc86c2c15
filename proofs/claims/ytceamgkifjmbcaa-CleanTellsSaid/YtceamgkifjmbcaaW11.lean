/- Walks of the program: what is left of a batch. -/
import Derived.Test.YtceamgkifjmbcaaPMap
import Derived.Test.YtceamgkifjmbcaaW9
import Derived.Test.YtceamgkifjmbcaaMath3
namespace Go.Proofs.Ytceamgkifjmbcaa
open Go.RowKit Go.Wm
theorem place_eql_run (a b c d : Int) (w : World) : (binOp .eql 70 (.agg #[.int .i64 a, .int .i64 b]) (.agg #[.int .i64 c, .int .i64 d])).run Try.prog w = .ok (.bool (a == c && b == d)) w := by
  rw [run_eql_struct]
  by_cases h1 : a = c <;> by_cases h2 : b = d <;> simp [go_sem, h1, h2]
set_option maxHeartbeats 4000000 in
theorem pleft_any (bs : List Batch) (l : List Gone) (vb vl : Value) (R : Nat) (to now keep : Int) (m n : Nat) (e : Int) (f : ByteArray → Int × Int) (i : Nat) (x : Batch) (hi : bs[i]? = some x) (w : World)
    (hr : RulesAt w R vb vl to now keep m e) (hb : BatchesAt w vb bs) (hl : GonesAt w vl l) (hm : PlaceMap w m n f) :
    Calls Try.prog 51 #[.pointer (some ⟨R, 0, none⟩), .int .i64 i] w
      fun e w' => ∃ u, e = .returned u ∧ OwnRecs w' w.heap.size u (pleftG l to f now keep i x) ∧ Below w.heap.size w w' := by
  have hil := (List.getElem?_eq_some_iff.1 hi).1
  have hxe : bs[i] = x := by rw [List.getElem?_eq_getElem hil] at hi; exact Option.some.inj hi
  have C0 := counts_any bs l vb vl R to now keep m e i hil w hr hb hl
  rw [hxe] at C0
  have Fin := hid (show pleftG l to f now keep i x = if countsB l to x = true then pleftTo f now keep i x x.recs.length else [] from rfl)
  obtain ⟨a, cap, rfl, hn, hs⟩ := hb
  obtain ⟨b', o, rfl, hc⟩ := hs i hil
  obtain ⟨sv, hx, hrs⟩ := hc _ hi
  clear hs hc hxe
  have hsm := smallOf hrs
  obtain ⟨a2, cap2, rfl, hn2, hz, hs2⟩ := hrs
  cases hf : countsB l to x
  · rw [hf] at C0 Fin
    have C := hid C0
    clear C0 hf
    go_enter Try.func51, Try.ntmps51
    go_wp2_with (go_at_call 49; refine C.out.mono ?_; rintro e w1 ⟨rfl, hb1⟩)
    go_ret
    exact ⟨_, rfl, by rw [Fin.out]; exact OwnRecs.nil _ _, hb1⟩
  · rw [hf] at C0 Fin
    have C := hid C0
    have Hr := hid hr
    have Hx := hid hx.c9
    clear C0 hf hr hx
    rcases hs2.shape with ⟨b2, o2, rfl, hc2⟩ | h02
    · have Hc2 := hid hc2
      clear hs2 hc2
      go_enter Try.func51, Try.ntmps51
      go_wp2_with (go_at_call 49; refine C.out.mono ?_; rintro e w1 ⟨rfl, hb1⟩; have r0 := cell_below hb1 Hr.out.c0; have x9 := cell_below hb1 Hx.out)
      clear r0 x9
      go_loopw [4, 20] (fun u q wr => ∃ k : Nat, k ≤ x.recs.length ∧ q = .int .i64 k ∧ OwnRecs wr w1.heap.size u (pleftTo f now keep i x k) ∧ Below w1.heap.size w1 wr) (fun _ q _ => x.recs.length - (intOf q).toNat)
      case atStart => exact ⟨0, by omega, rfl, OwnRecs.nil _ _, Below.refl _ _⟩
      case round =>
        obtain ⟨k, hk, rfl, hown, hwr⟩ := hrel
        by_cases hlt : k < x.recs.length
        · obtain ⟨g0, g1, g2, g3, g4⟩ := (((Hc2.out k hlt) _ (List.getElem?_eq_getElem hlt)).mono hb1).mono hwr
          have hkey := (hz _ (List.getElem_mem hlt)).1
          have Hs := hid (pleftTo_succ f now keep i x k hlt)
          have hlen := pleftTo_length f now keep i x k
          obtain ⟨r, hre⟩ : ∃ r, r = x.recs[k] := ⟨_, rfl⟩
          rw [← hre] at g0 g1 g2 g3 g4 hkey Hs
          clear hre
          generalize pleftTo f now keep i x k = L at *
          have Fk := hid (show pstaysB f now keep i k r = (r.key.toList.isEmpty || (((f r.key).1 == (i : Int) && (f r.key).2 == (k : Int)) && !(r.dead && decide (keep ≤ wrap64 (now - r.stamp))))) from rfl)
          go_wp2
          refine wp_name fun W2 hW2 => ?_
          have hB2 : Below wr.heap.size wr W2 := by rw [hW2]; exact below_alloc _ _
          have hsz2 : W2.heap.size = wr.heap.size + 1 := by rw [hW2]; simp
          have d0 := hid (show RecAt W2 wr.heap.size 0 r by rw [hW2]; exact ⟨by simp, by simp, by simp, by simp, by simp⟩)
          clear hW2 g0 g1 g2 g3 g4
          have hrl := ((Hr.out.mono hb1).mono hwr).mono hB2
          have k1 := Later.cell (show W2.cell? ⟨wr.heap.size, 1, none⟩ = some (.string r.key) from d0.out.c1)
          have k3 := Later.cell (show W2.cell? ⟨wr.heap.size, 3, none⟩ = some (.bool r.dead) from d0.out.c3)
          have k4 := Later.cell (show W2.cell? ⟨wr.heap.size, 4, none⟩ = some (.int .i64 r.stamp) from d0.out.c4)
          have q3 := Later.cell hrl.c3
          have q4 := Later.cell hrl.c4
          have q5 := Later.cell hrl.c5
          have LK := fun n : Later W2 => ((((hm.below hb1).below hwr).below hB2).below n.below).look r.key (by simp only [maxLen]; omega)
          clear hrl hm
          generalize pstaysB f now keep i k r = S at *
          have hszr := hwr.size
          rcases Bool.eq_false_or_eq_true r.key.toList.isEmpty with h1 | h1
          · have FS : S = true := by rw [Fk.out]; simp [h1]
            replace FS := hid FS
            rw [FS.out] at Hs
            refine wp_region_later (by kernel_rfl) (by kernel_rfl) ?_
            repeat (go_big_quiet_step (fail))
            refine wpQuiet_nil ?_
            intro w3 hb3
            clear k1 k3 k4 q3 q4 q5 LK
            obtain ⟨t0, t1, t2, t3, t4⟩ := d0.out.mono hb3
            go_wp2_with (at_builtin; refine wpList_append_rec rfl (.tmp 60) (.tmp 62) rfl Try.underlying26 Try.inf33 w1.heap.size _ L r rfl (((hown.below hB2).below hb3).below (below_alloc _ _)) w3.heap.size rfl ⟨by simp, by simp, by simp, by first | (simp; done) | simp [h3], by simp⟩ (by omega) ?_ ?_)
            · have := hb3.size; simp; omega
            intro v' w' hown' hbel _
            go_wp2
            go_roundw
            case rel => exact ⟨k + 1, by omega, by go_num, by rw [Hs.out]; exact hown', ((hwr.step (hB2.step hb3)).step (below_alloc _ _)).trans hbel⟩
            case measure => simp [intOf]; omega
          · by_cases h2 : (f r.key).1 = (i : Int)
            · by_cases h5 : (f r.key).2 = (k : Int)
              · rcases Bool.eq_false_or_eq_true r.dead with h3 | h3
                · rcases Bool.eq_false_or_eq_true (decide (keep ≤ wrap64 (now - r.stamp))) with h4 | h4
                  · have FS : S = false := by rw [Fk.out]; simp [h1, h2, h5, h3, of_decide_eq_true h4]
                    replace FS := hid FS
                    rw [FS.out] at Hs
                    refine wp_region_later (by kernel_rfl) (by kernel_rfl) ?_
                    repeat (go_big_quiet_step (fail))
                    refine wpQuiet_nil ?_
                    intro w3 hb3
                    clear k1 k3 k4 q3 q4 q5 LK
                    go_wp2
                    go_roundw
                    case rel => exact ⟨k + 1, by omega, by go_num, by rw [Hs.out]; exact (hown.below hB2).below hb3, hwr.step (hB2.step hb3)⟩
                    case measure => simp [intOf]; omega
                  · have FS : S = true := by rw [Fk.out]; simp [h1, h2, h5, h3, of_decide_eq_false h4]
                    replace FS := hid FS
                    rw [FS.out] at Hs
                    refine wp_region_later (by kernel_rfl) (by kernel_rfl) ?_
                    repeat (go_big_quiet_step (fail))
                    refine wpQuiet_nil ?_
                    intro w3 hb3
                    clear k1 k3 k4 q3 q4 q5 LK
                    obtain ⟨t0, t1, t2, t3, t4⟩ := d0.out.mono hb3
                    go_wp2_with (at_builtin; refine wpList_append_rec rfl (.tmp 60) (.tmp 62) rfl Try.underlying26 Try.inf33 w1.heap.size _ L r rfl (((hown.below hB2).below hb3).below (below_alloc _ _)) w3.heap.size rfl ⟨by simp, by simp, by simp, by first | (simp; done) | simp [h3], by simp⟩ (by omega) ?_ ?_)
                    · have := hb3.size; simp; omega
                    intro v' w' hown' hbel _
                    go_wp2
                    go_roundw
                    case rel => exact ⟨k + 1, by omega, by go_num, by rw [Hs.out]; exact hown', ((hwr.step (hB2.step hb3)).step (below_alloc _ _)).trans hbel⟩
                    case measure => simp [intOf]; omega
                · have FS : S = true := by rw [Fk.out]; simp [h1, h2, h5, h3]
                  replace FS := hid FS
                  rw [FS.out] at Hs
                  refine wp_region_later (by kernel_rfl) (by kernel_rfl) ?_
                  repeat (go_big_quiet_step (fail))
                  refine wpQuiet_nil ?_
                  intro w3 hb3
                  clear k1 k3 k4 q3 q4 q5 LK
                  obtain ⟨t0, t1, t2, t3, t4⟩ := d0.out.mono hb3
                  go_wp2_with (at_builtin; refine wpList_append_rec rfl (.tmp 60) (.tmp 62) rfl Try.underlying26 Try.inf33 w1.heap.size _ L r rfl (((hown.below hB2).below hb3).below (below_alloc _ _)) w3.heap.size rfl ⟨by simp, by simp, by simp, by first | (simp; done) | simp [h3], by simp⟩ (by omega) ?_ ?_)
                  · have := hb3.size; simp; omega
                  intro v' w' hown' hbel _
                  go_wp2
                  go_roundw
                  case rel => exact ⟨k + 1, by omega, by go_num, by rw [Hs.out]; exact hown', ((hwr.step (hB2.step hb3)).step (below_alloc _ _)).trans hbel⟩
                  case measure => simp [intOf]; omega
              · have FS : S = false := by rw [Fk.out]; simp [h1, h2, h5]
                replace FS := hid FS
                rw [FS.out] at Hs
                refine wp_region_later (by kernel_rfl) (by kernel_rfl) ?_
                repeat (go_big_quiet_step (fail))
                refine wpQuiet_nil ?_
                intro w3 hb3
                clear k1 k3 k4 q3 q4 q5 LK
                go_wp2
                go_roundw
                case rel => exact ⟨k + 1, by omega, by go_num, by rw [Hs.out]; exact (hown.below hB2).below hb3, hwr.step (hB2.step hb3)⟩
                case measure => simp [intOf]; omega
            · have FS : S = false := by rw [Fk.out]; simp [h1, h2]
              replace FS := hid FS
              rw [FS.out] at Hs
              refine wp_region_later (by kernel_rfl) (by kernel_rfl) ?_
              repeat (go_big_quiet_step (fail))
              refine wpQuiet_nil ?_
              intro w3 hb3
              clear k1 k3 k4 q3 q4 q5 LK
              go_wp2
              go_roundw
              case rel => exact ⟨k + 1, by omega, by go_num, by rw [Hs.out]; exact (hown.below hB2).below hb3, hwr.step (hB2.step hb3)⟩
              case measure => simp [intOf]; omega
        · have hke : k = x.recs.length := by omega
          have Hk := hid hke; clear hke
          go_wp2
          go_ret
          rw [Hk.out] at hown
          have hF : pleftG l to f now keep i x = pleftTo f now keep i x x.recs.length := by rw [Fin.out]; simp
          exact ⟨_, rfl, by rw [hF]; exact hown.base hb1.size, hb1.step hwr⟩
    · have H02 := hid h02
      have hlt0 : ¬ (0 : Int) < (x.recs.length : Int) := by omega
      clear hs2 h02
      go_enter Try.func51, Try.ntmps51
      go_wp2_with (go_at_call 49; refine C.out.mono ?_; rintro e w1 ⟨rfl, hb1⟩; have r0 := cell_below hb1 Hr.out.c0; have x9 := cell_below hb1 Hx.out)
      refine wp_loop_once ?_
      go_wp2
      go_ret
      refine ⟨_, rfl, ?_, hb1⟩
      have hF : pleftG l to f now keep i x = [] := by rw [Fin.out, H02.out]; simp [pleftTo]
      rw [hF]
      exact OwnRecs.nil _ _
end Go.Proofs.Ytceamgkifjmbcaa
