/- Walks of the statements: CleanTells. -/
import Derived.Test.YtceamgkifjmbcaaT5
import Derived.Test.YtceamgkifjmbcaaW26
import Derived.Test.YtceamgkifjmbcaaW19
namespace Go.Proofs.Ytceamgkifjmbcaa
open Go.RowKit Go.Wm
theorem few_tell {bs : List Batch} {l : List Gone} (h : fewB bs l = true) : bs.length ≤ 16 ∧ recCount bs ≤ 60 := by
  simp only [fewB, fewAllB, Bool.and_eq_true, decide_eq_true_eq] at h
  omega
set_option maxRecDepth 100000 in
set_option maxHeartbeats 4000000 in
theorem celltells_any (bs : List Batch) (l : List Gone) (vb vl : Value) (to : Int) (w : World) (hb : BatchesBig w vb bs) (hl : GonesBig w vl l) :
    Calls Try.prog 10 #[vb, vl, .int .i64 to] w fun e w' => e = .returned (.bool true) ∧ Below w.heap.size w w' := by
  cases hf : fewB bs l
  · have F := hid (fun W (h : Below w.heap.size w W) => few_big bs l vb vl W (hb.mono h) (hl.mono h))
    rw [hf] at F
    clear hb hl
    go_enter Try.func10, Try.ntmps10
    go_wp2_with fail
    refine (live_any _).mono ?_
    rintro e1 w1 ⟨rfl, hb1⟩
    go_wp2_with fail
    refine (F.out w1 hb1).mono ?_
    rintro e2 w2 ⟨rfl, hb2⟩
    go_wp2
    go_ret
    exact ⟨rfl, hb1.step hb2⟩
  · have hb' := hb.small (few_cut hf).1
    have hl' := hl.small (few_cut hf).2
    obtain ⟨hn16, hn60⟩ := few_tell hf
    have F := hid (fun W (h : Below w.heap.size w W) => few_big bs l vb vl W (hb.mono h) (hl.mono h))
    rw [hf] at F
    have LB := hid (fun W (h : Below w.heap.size w W) => last18_any bs l vb vl to W (hb'.mono h) (hl'.mono h) (by omega))
    have LR := hid (fun W (h : Below w.heap.size w W) => lastRef_any bs l vb vl to W (hb'.mono h) (hl'.mono h) (by omega))
    have V1 := hid (fun W (h : Below w.heap.size w W) => values_any bs l vb vl to W (hb'.mono h) (hl'.mono h) (by omega) (by omega))
    have V2 := hid (fun W (h : Below w.heap.size w W) => tells_any bs l vb vl to W (hb'.mono h) (hl'.mono h) (by omega))
    have TE := hid (tell_eq bs l to)
    rw [TE.out] at V2
    have ME := hid (fun ks h => marks_eq bs l to (ks := ks) h)
    clear hb hl hf hl' hb' TE
    go_enter Try.func10, Try.ntmps10
    go_wp2_with fail
    refine (live_any _).mono ?_
    rintro e1 w1 ⟨rfl, hb1⟩
    go_wp2_with fail
    refine (F.out w1 hb1).mono ?_
    rintro e2 w2 ⟨rfl, hb2⟩
    have hB2 := hb1.step hb2
    clear F
    go_wp2_with fail
    refine (LB.out w2 hB2).mono ?_
    rintro e3 w3 ⟨um, ks, rfl, hks, hum, hkl, hb3⟩
    have hB3 := hB2.step hb3
    have hke := ME.out ks hks
    clear LB hks ME
    go_wp2_with fail
    refine (LR.out w3 hB3).mono ?_
    rintro e4 w4 ⟨ur, rfl, hur, hb4⟩
    have hB4 := hB3.step hb4
    rw [hke] at hur
    have hkn : (ks.map (markOf bs l to)).length ≤ 1000000000 := by
      rw [List.length_map]
      exact Nat.le_trans hkl (Nat.le_trans (Nat.mul_le_mul_right 1000000 hn16) (by decide))
    have SM := hid (sameMarks_any _ _ _ um ur w4 (hum.below hb4) hur hkn)
    clear LR hum hur hke hkl hkn
    go_wp2_with fail
    refine SM.out.mono ?_
    rintro e5 w5 ⟨rfl, hb5⟩
    have hB5 := hB4.step hb5
    clear SM
    go_wp2_with fail
    refine (V1.out w5 hB5).mono ?_
    rintro e6 w6 ⟨v1, rfl, hv1, hs1, hb6⟩
    have hB6 := hB5.step hb6
    clear V1
    go_wp2_with fail
    refine (V2.out w6 hB6).mono ?_
    rintro e7 w7 ⟨v2, rfl, hv2, hb7⟩
    have hB7 := hB6.step hb7
    have SR := hid (sameRecs_any (valuesG bs l to) (valuesG bs l to) v1 v2 w7 ((hv1.below hb7).at hs1) (hv2.at hs1))
    rw [decide_eq_true rfl] at SR
    clear V2 hv1 hv2 hs1
    go_wp2_with fail
    refine SR.out.mono ?_
    rintro e8 w8 ⟨rfl, hb8⟩
    go_wp2
    go_ret
    exact ⟨rfl, hB7.step hb8⟩
end Go.Proofs.Ytceamgkifjmbcaa
