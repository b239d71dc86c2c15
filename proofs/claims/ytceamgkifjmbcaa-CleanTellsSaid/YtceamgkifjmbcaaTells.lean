/- CleanTells holds: the last ones of any batches' keys, and their values. No condition. -/
import Derived.Test.YtceamgkifjmbcaaT6
import Derived.Test.YtceamgkifjmbcaaOpen
namespace Go.Proofs.Ytceamgkifjmbcaa
open Go.ChangeShapes Go.WideShapes Go.ChangeAt Go.RowKit Go.Wm
set_option maxRecDepth 100000 in
theorem tells_lifted (os : Os) (started : os.Started) (H : Type) (enc : TypeId × Value → H) :
    ReturnsInHanded {} Try.checked os 10 .any (Rows.cleanTellsSpec.pre6 enc Try.prog Try.f10 Rows.cleanTellsRow.domain false) (Rows.cleanTellsSpec.post enc Try.prog Try.f10 false true false false) := by
  refine returnsInHanded_of_change_sized (C := Try.checked) Try.own started (by kernel_rfl) Try.func10
    (ChangeSpec.witness6 (enc := enc) (C := Try.checked) false ⟨#[], #[.slice none 0 0, .slice none 0 0, .int .i64 0], []⟩ 8 (by kernel_rfl) (by kernel_rfl) (by kernel_rfl) (by kernel_rfl)) ?_
  intro W base args ds gs before hval0 hW _ hsz0 _
  have hsz : (DataW.weightsEach Try.prog (Try.f10.params.toList ++ Rows.cleanTellsSpec.plain.varTypes Try.prog) (ds ++ gs)).all (· ≤ reachBytes) = true := hsz0
  clear hsz0
  have hval : ∀ (j : Nat) t v, Try.f10.params[j]? = some t → args[j]? = some v → Value.okWide Try.prog W .any base t v := hval0
  have hW' := hW
  obtain ⟨p, q, hA0, hV, rfl, _, _⟩ := hW
  have hA : DataW.TrodAll enc Try.prog W 0 (fun _ => true) true Try.f10.params.toList args.toList ds p := hA0
  rw [Try.params10] at hA hval hsz
  obtain ⟨rfl, rfl⟩ := trodVars_none hV
  clear hA0 hval0
  simp only [List.append_nil] at hW'
  have hlt : ∀ x ∈ p, x.block < W.heap.size := fun x hx => by simpa using hW'.lt x hx
  have hAk := hA
  obtain ⟨v0, v1, v2, d0, d1, d2, p0, p1, p2, rfl, rfl, rfl, h0, h1, h2⟩ := trodAll_three hA
  obtain ⟨t, rfl, rfl, rfl, _⟩ := open_int Try.underlying3 (hval 2 3 v2 rfl rfl) h2
  obtain ⟨a0, l0, c0, rfl⟩ := okWide_slice Try.underlying22 (hval 0 22 v0 rfl rfl)
  obtain ⟨a1, l1, c1, rfl⟩ := okWide_slice Try.underlying23 (hval 1 23 v1 rfl rfl)
  obtain ⟨n0, h0⟩ := h0
  obtain ⟨n1, h1⟩ := h1
  have w0 : ∀ k ∈ d0.weights Try.prog 22, k ≤ reachBytes := fun k hk => by
    simpa using List.all_eq_true.1 hsz k (DataW.weights_mem_each (j := 0) rfl rfl k hk)
  have w1 : ∀ k ∈ d1.weights Try.prog 23, k ≤ reachBytes := fun k hk => by
    simpa using List.all_eq_true.1 hsz k (DataW.weights_mem_each (j := 1) rfl rfl k hk)
  obtain ⟨bs, hbs, _⟩ := open_batches (by simpa [Value.cells] using h0) w0
  obtain ⟨gs, hgs⟩ := open_gones (by simpa [Value.cells] using h1) w1
  refine (celltells_any bs gs _ _ t W hbs hgs).mono fun e W' ⟨he, hb⟩ => ?_
  subst he
  refine ⟨_, rfl, _, _, _, [], _, [], hW', ?_, trodAll_below Try.laidOut hb ?_ hAk hlt, rfl, hb.frame _, fun h => by cases h⟩
  · exact trodAll_mk1 (shut_bool Try.underlying4 true)
  · exact params_read (by kernel_rfl)
theorem tells_holds : Rows.CleanTellsSaid :=
  OpenClaim.holds_of_wide 10 Try.f10 rfl rfl rfl rfl rfl rfl rfl ⟨rfl, rfl, rfl, rfl, rfl⟩ rfl rfl rfl rfl rfl (by kernel_rfl) Try.func10 (by kernel_rfl)
    (of_decide_eq_true (by kernel_rfl)) (by unfold Func.isWrapper; first | (rw [if_pos (by decide +kernel)]; kernel_rfl) | (rw [if_neg (by decide +kernel)]; exact ⟨rfl, rfl⟩))
    (fun os started H enc _ => tells_lifted os started H enc)
end Go.Proofs.Ytceamgkifjmbcaa
