/- Walk: the reference's may; a manifest's numbers rise. -/
import Derived.Test.YtcpecponmaakoaaGreatDoorS4
import Derived.Test.YtcpecponmaakoaaGreatDoorW2
namespace Go.Proofs.YtcpecponmaakoaaGreatDoor
open Go.RowKit Go.Wm
/-- May a piece make a step? -/
def mayR (ps : List Piece) (i : Nat) (st : Int) : Bool :=
  if st = 1 then stIs 1 (ps.getD i zeroP) else if st = 3 then stIs 3 (ps.getD i zeroP)
  else !((ps.take i).any fun q => stIs 2 q && stIs 2 (ps.getD i zeroP)) && (stIs 1 (ps.getD i zeroP) || stIs 2 (ps.getD i zeroP))
set_option maxHeartbeats 2000000 in
set_option maxRecDepth 100000 in
theorem may_any (ver next st : Int) (i : Nat) (ps : List Piece) (v : Value) (w : World) (hv : PcsAt w v ps) (hi : i < ps.length) :
    Calls Tryz.prog 95 #[.agg #[.int .i64 ver, .int .i64 next, v], .int .i64 i, .int .i64 st] w fun e w' => e = .returned (.bool (mayR ps i st)) ∧ Below w.heap.size w w' := by
  obtain ⟨a, cap, rfl, hn, hs⟩ := hv
  have HS := hid hs
  clear hs
  obtain ⟨b, o, rfl, hx⟩ := HS.out i hi
  have hg : ps.getD i zeroP = ps[i] := by simp [List.getD, hi]
  obtain ⟨p, hp⟩ : ∃ p, p = ps[i] := ⟨_, rfl⟩
  obtain ⟨e0, e1, e2, e3, e4, e5⟩ := (hx _ (List.getElem?_eq_getElem hi)).mono (below_alloc w (.cells #[.int .i64 ver, .int .i64 next, .slice (some ⟨b, o, none⟩) ps.length cap] 24))
  rw [← hp] at e5 hg
  clear e0 e1 e2 e3 e4 hx
  by_cases h1 : st = 1
  · subst h1
    have Hm := hid (show mayR ps i 1 = stIs 1 p by unfold mayR; rw [if_pos rfl, hg])
    clear hg hp
    go_enter Tryz.func95, Tryz.ntmps95
    go_wp2
    go_ret
    exact ⟨ret_bool (by rw [Hm.out]; simp [stIs, Bool.beq_eq_decide_eq]), below_alloc _ _⟩
  · by_cases h3 : st = 3
    · subst h3
      have Hm := hid (show mayR ps i 3 = stIs 3 p by unfold mayR; rw [if_neg (by decide), if_pos rfl, hg])
      clear hg hp
      go_enter Tryz.func95, Tryz.ntmps95
      go_wp2
      go_ret
      exact ⟨ret_bool (by rw [Hm.out]; simp [stIs, Bool.beq_eq_decide_eq]), below_alloc _ _⟩
    · have Hm := hid (show mayR ps i st = (!((ps.take i).any fun q => stIs 2 q && stIs 2 p) && (stIs 1 p || stIs 2 p)) by unfold mayR; rw [if_neg h1, if_neg h3, hg])
      have h1' : (st == 1) = false := by simp [h1]
      have h3' : (st == 3) = false := by simp [h3]
      clear hg hp h1 h3
      go_enter Tryz.func95, Tryz.ntmps95
      go_wp2_with fail
      refine wp_name fun W hW => ?_
      have hB : Below w.heap.size w W := by rw [hW]; exact below_alloc _ _
      have hN2 : W.cell? ⟨w.heap.size, 2, none⟩ = some (.slice (some ⟨b, o, none⟩) ps.length cap) := by rw [hW]; simp
      clear hW e5
      go_loopw [8] (fun i' wr => ∃ k : Nat, k ≤ i ∧ i' = .int .i64 k ∧ (∀ j (h : j < ps.length), j < k → (stIs 2 ps[j] && stIs 2 p) = false) ∧ Below W.heap.size W wr) (fun i' _ => i - (intOf i').toNat)
      case atStart => exact ⟨0, by omega, rfl, fun _ _ h => by omega, Below.refl _ _⟩
      case round =>
        obtain ⟨k, hk, rfl, hall, hwr⟩ := hrel
        have Hall := hid hall
        clear hall
        have hm2 := cell_below hwr hN2
        by_cases hlt : k < i
        · obtain ⟨b', o', hab, hx⟩ := HS.out k (by omega)
          cases hab
          obtain ⟨e0, e1, e2, e3, e4, e5⟩ := ((hx _ (List.getElem?_eq_getElem (by omega))).mono hB).mono hwr
          obtain ⟨q, hq⟩ : ∃ q, q = ps[k]'(by omega) := ⟨_, rfl⟩
          rw [← hq] at e0 e1 e2 e3 e4 e5
          have hkn : k < ps.length := by omega
          clear hx
          have NEXT := hid (fun (hf : (stIs 2 q && stIs 2 p) = false) => show ∀ j (h : j < ps.length), j < k + 1 → (stIs 2 ps[j] && stIs 2 p) = false from fun j hj hjk => by
            by_cases hjk' : j = k
            · subst hjk'; rw [← hq]; exact hf
            · exact Hall.out j hj (by omega))
          have FOUND := hid (fun (hf : (stIs 2 q && stIs 2 p) = true) => show mayR ps i st = false by
            rw [Hm.out]
            have : ((ps.take i).any fun q => stIs 2 q && stIs 2 p) = true := by
              rw [List.any_eq_true]
              exact ⟨q, by rw [hq]; exact List.mem_take_iff_getElem.2 ⟨k, by omega, rfl⟩, hf⟩
            rw [this]
            rfl)
          clear hq
          by_cases hq2 : q.state = 2
          · by_cases hp2 : p.state = 2
            · have Hf := hid (FOUND.out (by simp [stIs, hq2, hp2]))
              have a1 : (q.state == 2) = true := by simp [hq2]
              have a2 : (p.state == 2) = true := by simp [hp2]
              clear hq2 hp2
              go_wp2
              go_ret
              exact ⟨ret_bool Hf.out.symm, hB.step hwr⟩
            · have Hf := hid (NEXT.out (by simp [stIs, hp2]))
              have a1 : (q.state == 2) = true := by simp [hq2]
              have a2 : (p.state == 2) = false := by simp [hp2]
              clear hq2 hp2
              go_wp2
              go_roundw
              case rel => exact ⟨k + 1, by omega, by go_num, Hf.out, hwr⟩
              case measure => simp [intOf]; omega
          · have Hf := hid (NEXT.out (by simp [stIs, hq2]))
            have a1 : (q.state == 2) = false := by simp [hq2]
            clear hq2
            go_wp2
            go_roundw
            case rel => exact ⟨k + 1, by omega, by go_num, Hf.out, hwr⟩
            case measure => simp [intOf]; omega
        · have Hf := hid (show mayR ps i st = (stIs 1 p || stIs 2 p) by
            rw [Hm.out]
            have : ((ps.take i).any fun q => stIs 2 q && stIs 2 p) = false := by
              rw [List.any_eq_false]
              intro q hq
              obtain ⟨j, hj, rfl⟩ := List.mem_take_iff_getElem.1 hq
              rw [Hall.out j (by omega) (by omega)]
              simp
            rw [this]
            rfl)
          by_cases hp1 : p.state = 1
          · have a1 : (p.state == 1) = true := by simp [hp1]
            go_wp2
            go_ret
            exact ⟨ret_bool (by rw [Hf.out]; simp [stIs, hp1]), hB.step hwr⟩
          · have a1 : (p.state == 1) = false := by simp [hp1]
            go_wp2
            go_ret
            exact ⟨ret_bool (by rw [Hf.out]; simp [stIs, hp1, Bool.beq_eq_decide_eq]), hB.step hwr⟩
theorem chk_rising {next : Int} : ∀ (ps : List Piece) (last e : Int) (o : Bool), chk next last e o ps = true → (∀ p ∈ ps, last < p.id) ∧ ps.Pairwise fun p q => p.id < q.id
  | [], _, _, _, _ => ⟨by simp, by simp⟩
  | q :: ps, last, e, o, hc => by
    rw [chk] at hc
    by_cases hb : badP next last q = true
    · rw [if_pos hb] at hc; cases hc
    · rw [if_neg hb] at hc
      have hb := badP_false (by simpa using hb)
      have hrest : ∃ e' o', chk next q.id e' o' ps = true := by
        by_cases h1 : q.state = 1 ∨ q.state = 2
        · rw [if_pos h1] at hc
          split at hc
          · cases hc
          · exact ⟨_, _, hc⟩
        · rw [if_neg h1] at hc
          split at hc
          · exact ⟨_, _, hc⟩
          · cases hc
      obtain ⟨e', o', hc'⟩ := hrest
      obtain ⟨h1, h2⟩ := chk_rising ps _ _ _ hc'
      refine ⟨fun p hp => ?_, List.pairwise_cons.2 ⟨h1, h2⟩⟩
      rcases List.mem_cons.1 hp with rfl | hp
      · exact hb.1
      · have := h1 p hp
        have := hb.1
        omega
/-- Where a number stands, and nowhere else. -/
theorem id_alone {ver next : Int} {ps : List Piece} (h : checkM ver next ps = 0) {i j : Nat} (hi : i < ps.length) (hj : j < ps.length) (he : ps[i].id = ps[j].id) : i = j := by
  have hp := (chk_rising ps _ _ _ (checkM_ok h).2.2.2.2).2
  rw [List.pairwise_iff_getElem] at hp
  rcases Nat.lt_trichotomy i j with h1 | h1 | h1
  · have := hp i j hi hj h1; omega
  · exact h1
  · have := hp j i hj hi h1; omega
end Go.Proofs.YtcpecponmaakoaaGreatDoor
