/- Walks: whether a manifest may be (the program's Check and the document's). -/
import Derived.Test.YtcpecponmaakoaaGreatDoorDefs
namespace Go.Proofs.YtcpecponmaakoaaGreatDoor
open Go.RowKit Go.Wm
theorem drewN_below {B : Nat} {a w : World} (h : Below B a w) (k : Nat) : Below B a (w.drewN k) := ⟨h.os, h.tape, h.output, h.size, h.block⟩
def beyond (n : Int) : Bool := decide (n < 0) || decide (1099511627776 < n)
def badP (next last : Int) (p : Piece) : Bool :=
  decide (p.id ≤ last) || decide (next ≤ p.id) || beyond p.base || beyond p.fin || beyond p.size || decide (p.fin ≤ p.base)
def chk (next : Int) : Int → Int → Bool → List Piece → Bool
  | _, _, _, [] => true
  | last, e, o, p :: ps =>
    if badP next last p = true then false
    else if p.state = 1 ∨ p.state = 2 then (if p.base < e ∨ o = false then false else chk next p.id p.fin (decide (p.state = 2)) ps)
    else if p.state = 3 then chk next p.id e o ps else false
theorem chk_good {next last e : Int} {o : Bool} {p : Piece} {ps : List Piece} (h : badP next last p = false) : chk next last e o (p :: ps) =
    if p.state = 1 ∨ p.state = 2 then (if p.base < e ∨ o = false then false else chk next p.id p.fin (decide (p.state = 2)) ps) else if p.state = 3 then chk next p.id e o ps else false := by
  rw [chk, if_neg (by rw [h]; simp)]
theorem chk_counts {next last e : Int} {o : Bool} {p : Piece} {ps : List Piece} (h : badP next last p = false) (h1 : p.state = 1 ∨ p.state = 2) : chk next last e o (p :: ps) =
    if p.base < e ∨ o = false then false else chk next p.id p.fin (decide (p.state = 2)) ps := by
  rw [chk_good h, if_pos h1]
theorem chk_going {next last e : Int} {o : Bool} {p : Piece} {ps : List Piece} (h : badP next last p = false) (h3 : p.state = 3) : chk next last e o (p :: ps) = chk next p.id e o ps := by
  rw [chk_good h, if_neg (by omega), if_pos h3]
theorem chk_none {next last e : Int} {o : Bool} {p : Piece} {ps : List Piece} (h : badP next last p = false) (h1 : p.state ≠ 1) (h2 : p.state ≠ 2) (h3 : p.state ≠ 3) : chk next last e o (p :: ps) = false := by
  rw [chk_good h, if_neg (by omega), if_neg h3]
def checkM (ver next : Int) (ps : List Piece) : Int :=
  if beyond ver = true ∨ beyond next = true then 1 else if chk next (-1) 0 true ps = false then 1 else if 256 < ps.length then 2 else 0
theorem beyond_any (n : Int) (b : Bool) (w : World) (h : beyond n = b) : Calls Tryz.prog 43 #[.int .i64 n] w fun e w' => e = .returned (.bool b) ∧ w' = w := by
  subst h
  by_cases h1 : n < 0
  · go_enter Tryz.func43, Tryz.ntmps43
    go_wp2
    go_ret
    exact ⟨ret_bool (by simp [beyond, h1]), rfl⟩
  · go_enter Tryz.func43, Tryz.ntmps43
    go_wp2
    go_ret
    have h2 : decide (n < 0) = false := decide_eq_false (by omega)
    exact ⟨ret_bool (by simp [beyond, h2]), rfl⟩
theorem in_any (n : Int) (b : Bool) (w : World) (h : beyond n = b) : Calls Tryz.prog 69 #[.int .i64 n] w fun e w' => e = .returned (.bool (!b)) ∧ w' = w := by
  subst h
  by_cases h1 : 0 ≤ n
  · go_enter Tryz.func69, Tryz.ntmps69
    go_wp2
    go_ret
    refine ⟨ret_bool ?_, rfl⟩
    have h2 : decide (n < 0) = false := decide_eq_false (by omega)
    have h3 : decide (1099511627776 < n) = !decide (n ≤ 1099511627776) := by rw [Bool.eq_iff_iff]; simp
    simp [beyond, h2, h3]
  · go_enter Tryz.func69, Tryz.ntmps69
    go_wp2
    go_ret
    refine ⟨ret_bool ?_, rfl⟩
    have h2 : n < 0 := by omega
    simp [beyond, h2]
theorem ret_errno {a b : Int} (h : a = b) : Ending.returned (.int .i64 a) = .returned (.int .i64 b) := by rw [h]
set_option maxHeartbeats 4000000 in
set_option maxRecDepth 100000 in
theorem check_any (ver next : Int) (ps : List Piece) (v : Value) (w : World) (hv : PcsAt w v ps) :
    Calls Tryz.prog 27 #[.agg #[.int .i64 ver, .int .i64 next, v]] w fun e w' => e = .returned (.int .i64 (checkM ver next ps)) ∧ Below w.heap.size w w' := by
  obtain ⟨a, cap, rfl, hn, hs⟩ := hv
  rcases Bool.eq_false_or_eq_true (beyond ver) with hver | hver
  · go_enter Tryz.func27, Tryz.ntmps27
    go_wp2_with (go_at_call 43; refine (beyond_any _ _ _ (by assumption)).mono ?_; rintro e w' ⟨rfl, rfl⟩)
    go_ret
    exact ⟨ret_errno (by simp [checkM, hver]), below_alloc _ _⟩
  · rcases Bool.eq_false_or_eq_true (beyond next) with hnext | hnext
    · go_enter Tryz.func27, Tryz.ntmps27
      go_wp2_with (go_at_call 43; refine (beyond_any _ _ _ (by assumption)).mono ?_; rintro e w' ⟨rfl, rfl⟩)
      go_ret
      exact ⟨ret_errno (by simp [checkM, hnext]), below_alloc _ _⟩
    · have Hc := hid (show checkM ver next ps = if chk next (-1) 0 true ps = false then 1 else if 256 < ps.length then 2 else 0 by simp [checkM, hver, hnext])
      go_enter Tryz.func27, Tryz.ntmps27
      go_wp2_with (go_at_call 43; refine (beyond_any _ _ _ (by assumption)).mono ?_; rintro e w' ⟨rfl, rfl⟩)
      refine wp_name fun W hW => ?_
      have hB : Below w.heap.size w W := by rw [hW]; exact below_alloc _ _
      have hN1 : W.cell? ⟨w.heap.size, 1, none⟩ = some (.int .i64 next) := by rw [hW]; simp
      have hN2 : W.cell? ⟨w.heap.size, 2, none⟩ = some (.slice a ps.length cap) := by rw [hW]; simp
      clear hW hver hnext
      go_loopw [3, 4, 5, 19] (fun l e o i wr => ∃ (k : Nat) (last fin : Int) (op : Bool), k ≤ ps.length ∧ i = .int .i64 k ∧ l = .int .i64 last ∧ e = .int .i64 fin ∧ o = .bool op ∧ chk next (-1) 0 true ps = chk next last fin op (ps.drop k) ∧ Below W.heap.size W wr) (fun _ _ _ i _ => ps.length - (intOf i).toNat)
      case atStart => exact ⟨0, -1, 0, true, by omega, rfl, rfl, rfl, rfl, rfl, Below.refl _ _⟩
      case round =>
        obtain ⟨k, last, fin, op, hk, rfl, rfl, rfl, rfl, hc, hwr⟩ := hrel
        by_cases hlt : k < ps.length
        · obtain ⟨b, o, rfl, hx⟩ := hs k hlt
          have hr := ((hx _ (List.getElem?_eq_getElem hlt)).mono hB).mono hwr
          obtain ⟨e0, e1, e2, e3, e4, e5⟩ := hr
          rw [List.drop_eq_getElem_cons hlt] at hc
          obtain ⟨p, hp⟩ : ∃ p, p = ps[k] := ⟨_, rfl⟩
          rw [← hp] at e0 e1 e2 e3 e4 e5 hc
          have HC := hid hc
          have hm1 := cell_below hwr hN1
          have hm2 := cell_below hwr hN2
          have g1 := fun X => cell_alloc_old X hm1
          have g2 := fun X => cell_alloc_old X hm2
          clear hc hx hs hp hN1 hN2
          have hbad : badP next last p = true → Ending.returned (.int .i64 1) = Ending.returned (.int .i64 (checkM ver next ps)) := fun h => ret_errno (by rw [Hc.out, HC.out]; simp [chk, h])
          have Hbad := hid hbad
          clear hbad
          obtain ⟨wo, rfl⟩ : ∃ wo : World, wo = wr := ⟨_, rfl⟩
          have hD := fun X => hB.step (hwr.step (below_alloc wo X))
          by_cases t1 : p.id ≤ last
          · go_wp2_with (go_at_call 43; refine (beyond_any _ _ _ (by assumption)).mono ?_; rintro e w' ⟨rfl, rfl⟩)
            go_ret
            exact ⟨Hbad.out (by simp [badP, t1]), hD _⟩
          · by_cases t2 : next ≤ p.id
            · go_wp2_with (go_at_call 43; refine (beyond_any _ _ _ (by assumption)).mono ?_; rintro e w' ⟨rfl, rfl⟩)
              go_ret
              exact ⟨Hbad.out (by simp [badP, t2]), hD _⟩
            · rcases Bool.eq_false_or_eq_true (beyond p.base) with t3 | t3
              · go_wp2_with (go_at_call 43; refine (beyond_any _ _ _ (by assumption)).mono ?_; rintro e w' ⟨rfl, rfl⟩)
                go_ret
                exact ⟨Hbad.out (by simp [badP, t3]), hD _⟩
              · rcases Bool.eq_false_or_eq_true (beyond p.fin) with t4 | t4
                · go_wp2_with (go_at_call 43; refine (beyond_any _ _ _ (by assumption)).mono ?_; rintro e w' ⟨rfl, rfl⟩)
                  go_ret
                  exact ⟨Hbad.out (by simp [badP, t4]), hD _⟩
                · rcases Bool.eq_false_or_eq_true (beyond p.size) with t5 | t5
                  · go_wp2_with (go_at_call 43; refine (beyond_any _ _ _ (by assumption)).mono ?_; rintro e w' ⟨rfl, rfl⟩)
                    go_ret
                    exact ⟨Hbad.out (by simp [badP, t5]), hD _⟩
                  · by_cases t6 : p.fin ≤ p.base
                    · go_wp2_with (go_at_call 43; refine (beyond_any _ _ _ (by assumption)).mono ?_; rintro e w' ⟨rfl, rfl⟩)
                      go_ret
                      exact ⟨Hbad.out (by simp [badP, t6]), hD _⟩
                    · have Hgood := hid (show badP next last p = false by simp [badP, t1, t2, t3, t4, t5, t6])
                      clear Hbad
                      by_cases s1 : p.state = 1
                      · have HC3 := hid (HC.out.trans (chk_counts Hgood.out (Or.inl s1)))
                        by_cases u1 : p.base < fin
                        · have H := hid (show chk next (-1) 0 true ps = false by rw [HC3.out, if_pos (Or.inl u1)])
                          go_wp2_with (go_at_call 43; refine (beyond_any _ _ _ (by assumption)).mono ?_; rintro e w' ⟨rfl, rfl⟩)
                          go_ret
                          exact ⟨ret_errno (by rw [Hc.out, H.out]; rfl), hD _⟩
                        · cases op
                          · have H := hid (show chk next (-1) 0 true ps = false by rw [HC3.out, if_pos (Or.inr rfl)])
                            go_wp2_with (go_at_call 43; refine (beyond_any _ _ _ (by assumption)).mono ?_; rintro e w' ⟨rfl, rfl⟩)
                            go_ret
                            exact ⟨ret_errno (by rw [Hc.out, H.out]; rfl), hD _⟩
                          · have H := hid (show chk next (-1) 0 true ps = chk next p.id p.fin (decide (p.state = 2)) (ps.drop (k + 1)) by rw [HC3.out, if_neg (by simp [u1])])
                            go_wp2_with (go_at_call 43; refine (beyond_any _ _ _ (by assumption)).mono ?_; rintro e w' ⟨rfl, rfl⟩)
                            go_quiet (fail)
                            go_wp2
                            go_roundw
                            case rel => exact ⟨k + 1, p.id, p.fin, false, by omega, by go_num, rfl, rfl, rfl, by rw [H.out, decide_eq_false (by omega)], drewN_below (hwr.step (below_alloc _ _)) _⟩
                            case measure => simp [intOf]; omega
                      · by_cases s2 : p.state = 2
                        · have HC3 := hid (HC.out.trans (chk_counts Hgood.out (Or.inr s2)))
                          by_cases u1 : p.base < fin
                          · have H := hid (show chk next (-1) 0 true ps = false by rw [HC3.out, if_pos (Or.inl u1)])
                            go_wp2_with (go_at_call 43; refine (beyond_any _ _ _ (by assumption)).mono ?_; rintro e w' ⟨rfl, rfl⟩)
                            go_ret
                            exact ⟨ret_errno (by rw [Hc.out, H.out]; rfl), hD _⟩
                          · cases op
                            · have H := hid (show chk next (-1) 0 true ps = false by rw [HC3.out, if_pos (Or.inr rfl)])
                              go_wp2_with (go_at_call 43; refine (beyond_any _ _ _ (by assumption)).mono ?_; rintro e w' ⟨rfl, rfl⟩)
                              go_ret
                              exact ⟨ret_errno (by rw [Hc.out, H.out]; rfl), hD _⟩
                            · have H := hid (show chk next (-1) 0 true ps = chk next p.id p.fin (decide (p.state = 2)) (ps.drop (k + 1)) by rw [HC3.out, if_neg (by simp [u1])])
                              go_wp2_with (go_at_call 43; refine (beyond_any _ _ _ (by assumption)).mono ?_; rintro e w' ⟨rfl, rfl⟩)
                              go_quiet (fail)
                              go_wp2
                              go_roundw
                              case rel => exact ⟨k + 1, p.id, p.fin, true, by omega, by go_num, rfl, rfl, rfl, by rw [H.out, decide_eq_true s2], drewN_below (hwr.step (below_alloc _ _)) _⟩
                              case measure => simp [intOf]; omega
                        · by_cases s3 : p.state = 3
                          · have H := hid (HC.out.trans (chk_going Hgood.out s3))
                            go_wp2_with (go_at_call 43; refine (beyond_any _ _ _ (by assumption)).mono ?_; rintro e w' ⟨rfl, rfl⟩)
                            go_roundw
                            case rel => exact ⟨k + 1, p.id, fin, op, by omega, by go_num, rfl, rfl, rfl, H.out, hwr.step (below_alloc _ _)⟩
                            case measure => simp [intOf]; omega
                          · have H := hid (HC.out.trans (chk_none Hgood.out s1 s2 s3))
                            go_wp2_with (go_at_call 43; refine (beyond_any _ _ _ (by assumption)).mono ?_; rintro e w' ⟨rfl, rfl⟩)
                            go_ret
                            exact ⟨ret_errno (by rw [Hc.out, H.out]; rfl), hD _⟩
        · have hke : k = ps.length := by omega
          have HC := hid (show chk next (-1) 0 true ps = true by rw [hc, hke, List.drop_length]; rfl)
          clear hc
          have hm2 := cell_below hwr hN2
          have Hke := hid hke; clear hke
          by_cases hb : 256 < ps.length
          · go_wp2
            go_ret
            exact ⟨ret_errno (by rw [Hc.out, HC.out, if_pos hb]; rfl), hB.step hwr⟩
          · go_wp2
            go_ret
            exact ⟨ret_errno (by rw [Hc.out, HC.out, if_neg hb]; rfl), hB.step hwr⟩
end Go.Proofs.YtcpecponmaakoaaGreatDoor
