/- ManifestBytes holds: of any manifest and bytes its bytes, and which manifest bytes are, is what the document says. No condition beside the row's own (what start-up laid). -/
import Derived.Test.YtcpecponmaakoaaGreatDoorK5
import Derived.Test.YtcpecponmaakoaaGreatDoorO2
import Derived.Test.YtcpecponmaakoaaGreatDoorTie
import Derived.Test.YtcpecponmaakoaaGreatDoorCards
import Derived.SevenTiedAt
namespace Go.Proofs.YtcpecponmaakoaaGreatDoor
open Go.ChangeShapes Go.WideShapes Go.ChangeAt Go.RowKit Go.Wm
set_option maxRecDepth 100000 in
theorem bytes_lifted (os : Os) (started : os.Started) (H : Type) (enc : TypeId × Value → H) :
    ReturnsInHanded {} Tryz.checked os 5 .any (fun w args => (Rows.manifestBytesSpec.pre enc Tryz.prog Tryz.f5 [] false w args ∧ laidMetH Tryz.prog laidL w) ∧ sizedMet enc Tryz.prog Tryz.f5 (OpenSpec.ofChange Rows.manifestBytesSpec) false w args)
      (Rows.manifestBytesSpec.post enc Tryz.prog Tryz.f5 false true false false) := by
  refine returnsInHanded_of_change_and (C := Tryz.checked) (X := fun w _ => laidMetH Tryz.prog laidL w) (fun _ _ _ hh h => h.of_heap hh) Tryz.own started (by kernel_rfl) Tryz.func5
    (ChangeSpec.witness_shaped (enc := enc) (C := Tryz.checked) (os := os) (X := fun w _ => laidMetH Tryz.prog laidL w) false (World.doorLaid Tryz.prog 600 os) #[.agg #[.int .i64 0, .int .i64 0, .slice none 0 0], .slice none 0 0] 8 rfl (World.shaped_of_RefB (by kernel_rfl) (by kernel_rfl)) (by kernel_rfl) (by kernel_rfl) (by kernel_rfl) (door_met os _)) ?_
  intro W base args ds gs before hval0 hW _ _ hlaid _
  have hval : ∀ (j : Nat) t v, Tryz.f5.params[j]? = some t → args[j]? = some v → Value.okWide Tryz.prog W .any base t v := hval0
  have hW' := hW
  obtain ⟨p, q, hA0, hV, rfl, _, _⟩ := hW
  have hA : DataW.TrodAll enc Tryz.prog W 0 (fun _ => true) true Tryz.f5.params.toList args.toList ds p := hA0
  rw [Tryz.params5] at hA hval
  obtain ⟨rfl, rfl⟩ := trodVars_none hV
  clear hA0 hval0
  simp only [List.append_nil] at hW'
  have hlt : ∀ x ∈ p, x.block < W.heap.size := fun x hx => by simpa using hW'.lt x hx
  have hAk := hA
  obtain ⟨v0, v1, d0, d1, p0, p1, rfl, rfl, rfl, h0, h1⟩ := trodAll_two hA
  obtain ⟨ver0, next0, u0, ps0, rfl, hps0, hwf0, hve0, hne0⟩ := open_man (hval 0 24 v0 rfl rfl) h0
  obtain ⟨a1, l1, c1, rfl⟩ := okWide_slice Tryz.underlying43 (hval 1 43 v1 rfl rfl)
  obtain ⟨n1, h1⟩ := h1
  obtain ⟨xs1, hxs1⟩ := open_bytes43 (by simpa [Value.cells] using h1)
  obtain ⟨hL, hS⟩ := laid_of hlaid
  refine (bytes_any ver0 next0 ps0 xs1 u0 _ W hL hS hps0 hwf0 hxs1).mono fun e W' ⟨he, hb⟩ => ?_
  subst he
  refine ⟨_, rfl, _, _, _, [], _, [], hW', ?_, trodAll_below Tryz.laidOut hb ?_ hAk hlt, rfl, hb.frame _, fun h => by cases h⟩
  · exact trodAll_mk1 (shut_bool Tryz.underlying4 true)
  · exact params_read (by kernel_rfl)
theorem bytes_row : Rows.ManifestBytesSaid :=
  OpenClaim.holds_of_wide 5 Tryz.f5 rfl rfl rfl rfl rfl rfl rfl ⟨rfl, rfl, rfl, rfl, rfl⟩ rfl rfl rfl rfl rfl (by kernel_rfl) Tryz.func5 (by kernel_rfl)
    (of_decide_eq_true (by kernel_rfl)) (by unfold Func.isWrapper; first | (rw [if_pos (by decide +kernel)]; kernel_rfl) | (rw [if_neg (by decide +kernel)]; exact ⟨rfl, rfl⟩))
    (fun os started H enc _ => bytes_lifted os started H enc)
set_option maxRecDepth 100000 in
theorem bytes_holds : Rows.ManifestBytesCardSaid :=
  Claim7.holds_tied_plain_at .later [] [.data, .data, .data, .sentinel, .sentinel, .widerDeep] true (true, "b00b9984490de1a5f6878e1be2a2bf12abfabb9646671515a827fbde1a4863c3") true
    bytes_row (fun _ h => by cases h) (by kernel_rfl) (fun _ h => by cases h) manifestBytes_row_tie rfl ⟨rfl, rfl⟩ (by kernel_rfl) rfl
    (fun f fn hf hfn => by
      obtain rfl : f = 5 := Option.some.inj ((show Tryz.prog.funcNamed "watermeet/watermeetlaw15.ManifestBytes" = some 5 by kernel_rfl).symm.trans hf) |>.symm
      obtain rfl : fn = Tryz.f5 := (Option.some.inj (Tryz.func5.symm.trans hfn)).symm
      exact ⟨by kernel_rfl, fun j t ht => by
        rw [Tryz.params5] at ht
        match j, ht with
        | 0, ht => cases ht; exact (show Tryz.prog.wantsStandIn 24 = false by kernel_rfl)
        | 1, ht => cases ht; exact (show Tryz.prog.wantsStandIn 43 = false by kernel_rfl)
        | j + 2, ht => simp at ht⟩)
    (by kernel_rfl)
end Go.Proofs.YtcpecponmaakoaaGreatDoor
