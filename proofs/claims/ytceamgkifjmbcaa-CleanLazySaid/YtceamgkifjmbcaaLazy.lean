/- CleanLazy holds: what is left as it was is right, too; without one batch that has to stay it is not. No condition. -/
import Derived.Test.YtceamgkifjmbcaaLZ
namespace Go.Proofs.Ytceamgkifjmbcaa
open Go.ChangeShapes Go.WideShapes Go.ChangeAt Go.RowKit Go.Wm Go.Deep
/-- A slice of batches that came in has room for what it holds, and so have its rows of records. -/
theorem open_caps_lazy {H : Type} {enc : TypeId × Value → H} {W : World} {n : Nat} {v : Value} {y : DataW H × List MemPlace} (h : DataW.trod enc Try.prog W 0 (fun _ => true) true n 22 [v] = some y) : CapsAt W v := by
  rcases open_slice_fields Try.underlying22 Try.underlying28 (by kernel_rfl) (by kernel_rfl) h with ⟨hv, _⟩ | ⟨a, len, cap, m, D, hv, hlc, hm, hy, hi⟩
  · simp only [List.cons.injEq, and_true] at hv
    subst hv
    intro b o n c hv
    cases hv
  · simp only [List.cons.injEq, and_true] at hv
    subst hv
    simp only [if_true] at hm
    intro b o n c hv k hk sv hsv
    cases hv
    obtain ⟨ys, n', hD, hyl, hf⟩ := hi k (by omega)
    obtain ⟨v9, y9, c9, q9, t9⟩ := hf 9 _ rfl
    have hadd : ∀ j, (⟨b, o, none⟩ : Addr).add j = ⟨b, o + j, none⟩ := by intro j; simp only [Addr.add]; split <;> simp_all
    rw [hadd] at c9
    simp only [← Nat.add_assoc] at c9
    replace c9 : W.cell? ⟨b, o + k * 10 + 9, none⟩ = some v9 := c9
    rw [hsv] at c9
    cases c9
    rcases open_slice_fields Try.underlying26 Try.underlying33 (by kernel_rfl) (by kernel_rfl) t9 with ⟨hv, _⟩ | ⟨a9, len9, cap9, m9, D9, hv, hlc9, _⟩
    · simp only [List.cons.injEq, and_true] at hv
      subst hv
      intro a n c e
      cases e
      exact Nat.le_refl _
    · simp only [List.cons.injEq, and_true] at hv
      subst hv
      intro a n c e
      cases e
      omega
theorem trodAll_six {H : Type} {enc : TypeId × Value → H} {P : Program} {w : World} {base : Nat} {spare : Nat → Bool} {held : Bool} {t0 t1 t2 t3 t4 t5 : TypeId} {vs : Array Value} {ds : List (DataW H)} {ps : List MemPlace}
    (h : DataW.TrodAll enc P w base spare held [t0, t1, t2, t3, t4, t5] vs.toList ds ps) :
    ∃ v0 v1 v2 v3 v4 v5 d0 d1 d2 d3 d4 d5 p0 p1 p2 p3 p4 p5, vs = #[v0, v1, v2, v3, v4, v5] ∧ ds = [d0, d1, d2, d3, d4, d5] ∧ ps = p0 ++ (p1 ++ (p2 ++ (p3 ++ (p4 ++ (p5 ++ []))))) ∧ DataW.Trod enc P w base spare held t0 v0 d0 p0 ∧ DataW.Trod enc P w base spare held t1 v1 d1 p1 ∧
      DataW.Trod enc P w base spare held t2 v2 d2 p2 ∧ DataW.Trod enc P w base spare held t3 v3 d3 p3 ∧ DataW.Trod enc P w base spare held t4 v4 d4 p4 ∧ DataW.Trod enc P w base spare held t5 v5 d5 p5 := by
  obtain ⟨v0, s0, d0, e0, p0, q0, hargs, rfl, rfl, h0, h⟩ := trodAll_cons h
  obtain ⟨v1, s1, d1, e1, p1, q1, rfl, rfl, rfl, h1, h⟩ := trodAll_cons h
  obtain ⟨v2, s2, d2, e2, p2, q2, rfl, rfl, rfl, h2, h⟩ := trodAll_cons h
  obtain ⟨v3, s3, d3, e3, p3, q3, rfl, rfl, rfl, h3, h⟩ := trodAll_cons h
  obtain ⟨v4, s4, d4, e4, p4, q4, rfl, rfl, rfl, h4, h⟩ := trodAll_cons h
  obtain ⟨v5, s5, d5, e5, p5, q5, rfl, rfl, rfl, h5, h⟩ := trodAll_cons h
  obtain ⟨rfl, rfl, rfl⟩ := trodAll_nil h
  exact ⟨v0, v1, v2, v3, v4, v5, d0, d1, d2, d3, d4, d5, p0, p1, p2, p3, p4, p5, by cases vs; simp_all, rfl, rfl, h0, h1, h2, h3, h4, h5⟩
set_option maxRecDepth 100000 in
theorem lazy_lifted (os : Os) (started : os.Started) (H : Type) (enc : TypeId × Value → H) :
    ReturnsInHanded {} Try.checked os 8 .any (Rows.cleanLazySpec.pre6 enc Try.prog Try.f8 Rows.cleanLazyRow.domain false) (Rows.cleanLazySpec.post enc Try.prog Try.f8 false true false false) := by
  refine returnsInHanded_of_change_sized (C := Try.checked) Try.own started (by kernel_rfl) Try.func8
    (ChangeSpec.witness6 (enc := enc) (C := Try.checked) false ⟨#[], #[.slice none 0 0, .slice none 0 0, .int .i64 0, .int .i64 0, .int .i64 0, .int .i64 0], []⟩ 8 (by kernel_rfl) (by kernel_rfl) (by kernel_rfl) (by kernel_rfl)) ?_
  intro W base args ds gs before hval0 hW _ hsz0 _
  have hsz : (DataW.weightsEach Try.prog (Try.f8.params.toList ++ Rows.cleanLazySpec.plain.varTypes Try.prog) (ds ++ gs)).all (· ≤ reachBytes) = true := hsz0
  clear hsz0
  have hval : ∀ (j : Nat) t v, Try.f8.params[j]? = some t → args[j]? = some v → Value.okWide Try.prog W .any base t v := hval0
  have hW' := hW
  obtain ⟨p, q, hA0, hV, rfl, _, _⟩ := hW
  have hA : DataW.TrodAll enc Try.prog W 0 (fun _ => true) true Try.f8.params.toList args.toList ds p := hA0
  rw [Try.params8] at hA hval hsz
  obtain ⟨rfl, rfl⟩ := trodVars_none hV
  clear hA0 hval0
  simp only [List.append_nil] at hW'
  have hlt : ∀ x ∈ p, x.block < W.heap.size := fun x hx => by simpa using hW'.lt x hx
  have hAk := hA
  obtain ⟨v0, v1, v2, v3, v4, v5, d0, d1, d2, d3, d4, d5, p0, p1, p2, p3, p4, p5, rfl, rfl, rfl, h0, h1, h2, h3, h4, h5⟩ := trodAll_six hA
  obtain ⟨t, rfl, rfl, rfl, _⟩ := open_int Try.underlying3 (hval 2 3 v2 rfl rfl) h2
  obtain ⟨now, rfl, rfl, rfl, _⟩ := open_int Try.underlying3 (hval 3 3 v3 rfl rfl) h3
  obtain ⟨keep, rfl, rfl, rfl, _⟩ := open_int Try.underlying3 (hval 4 3 v4 rfl rfl) h4
  obtain ⟨at_, rfl, rfl, rfl, _⟩ := open_int Try.underlying3 (hval 5 3 v5 rfl rfl) h5
  obtain ⟨a0, l0, c0, rfl⟩ := okWide_slice Try.underlying22 (hval 0 22 v0 rfl rfl)
  obtain ⟨a1, l1, c1, rfl⟩ := okWide_slice Try.underlying23 (hval 1 23 v1 rfl rfl)
  obtain ⟨n0, h0⟩ := h0
  obtain ⟨n1, h1⟩ := h1
  have w0 : ∀ k ∈ d0.weights Try.prog 22, k ≤ reachBytes := fun k hk => by
    simpa using List.all_eq_true.1 hsz k (DataW.weights_mem_each (j := 0) rfl rfl k hk)
  have w1 : ∀ k ∈ d1.weights Try.prog 23, k ≤ reachBytes := fun k hk => by
    simpa using List.all_eq_true.1 hsz k (DataW.weights_mem_each (j := 1) rfl rfl k hk)
  obtain ⟨bs, hbs, hok⟩ := open_batches (by simpa [Value.cells] using h0) w0
  obtain ⟨gs, hgs⟩ := open_gones (by simpa [Value.cells] using h1) w1
  refine (lazy_any bs gs _ _ t now keep at_ W hbs (open_caps_lazy (by simpa [Value.cells] using h0)) hgs fun x hx => (hok x hx).pid).mono fun e W' ⟨he, hb⟩ => ?_
  subst he
  refine ⟨_, rfl, _, _, _, [], _, [], hW', ?_, trodAll_below Try.laidOut hb ?_ hAk hlt, rfl, hb.frame _, fun h => by cases h⟩
  · exact trodAll_mk1 (shut_bool Try.underlying4 true)
  · exact params_read (by kernel_rfl)
theorem lazy_holds : Rows.CleanLazySaid :=
  OpenClaim.holds_of_wide 8 Try.f8 rfl rfl rfl rfl rfl rfl rfl ⟨rfl, rfl, rfl, rfl, rfl⟩ rfl rfl rfl rfl rfl (by kernel_rfl) Try.func8 (by kernel_rfl)
    (of_decide_eq_true (by kernel_rfl)) (by unfold Func.isWrapper; first | (rw [if_pos (by decide +kernel)]; kernel_rfl) | (rw [if_neg (by decide +kernel)]; exact ⟨rfl, rfl⟩))
    (fun os started H enc _ => lazy_lifted os started H enc)
end Go.Proofs.Ytceamgkifjmbcaa
