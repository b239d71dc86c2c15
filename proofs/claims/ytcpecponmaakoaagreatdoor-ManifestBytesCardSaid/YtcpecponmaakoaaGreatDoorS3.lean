/- Walks: Delete of one element; the closure that tells whether a piece may be dropped. -/
import Derived.Test.YtcpecponmaakoaaGreatDoorS2
import Derived.StillTailTactics
import Derived.Deep.RegionHeld3
namespace Go.Proofs.YtcpecponmaakoaaGreatDoor
open Go.RowKit Go.Wm
theorem ownsRow_rest {w : World} {base g cap m : Nat} {l : List Piece} (h : OwnPcs w base (.slice (some ⟨g, 0, none⟩) m cap) l) (j : Nat) (hj : j < cap * 6) : (w.cell? ⟨g, j, none⟩).isSome = true := by
  rcases h.2 with ⟨h', _⟩ | ⟨g', cap', cur, h', _, hg, _, _, hc, _⟩
  · cases h'
  · cases h'
    rw [cell_of_row w g j cur 29 (0, 0) hg, Array.getElem?_eq_getElem (by omega)]
    rfl
theorem pcs_len {w : World} {base g cap m : Nat} {l : List Piece} (h : OwnPcs w base (.slice (some ⟨g, 0, none⟩) m cap) l) : m = l.length ∧ l.length ≤ cap := by
  rcases h.2 with ⟨h', _⟩ | ⟨g', cap', cur, h', _, hg, hn, _, hc, _⟩
  · cases h'
  · cases h'; exact ⟨rfl, hn⟩
theorem ownPcs_row {w : World} {b n : Nat} {v : Value} {l : List Piece} (h : OwnPcs w b v l) (hn : n = l.length) : w.ownsRow b 29 6 v n (pcCells l) := hn ▸ h
theorem own_slots {w : World} {base size n cap g : Nat} {e : TypeId} {xs : List Value} (h : w.ownsRow base e size (.slice (some ⟨g, 0, none⟩) n cap) n xs) (_ : 0 < size) : ∀ vs o, n * size ≤ o → (w.setCells g o vs).ownsRow base e size (.slice (some ⟨g, 0, none⟩) n cap) n xs ∧ w.grownBy (w.setCells g o vs) (some g) := by
  intro vs o ho
  have h2 := ownsRow_setCells vs o h
  rw [over_out _ _ _ (by rw [h.1]; exact ho)] at h2
  exact h2
theorem wpList_clear_tail {P : Program} {w : World} {ops : Array Oper} {rest : List Oper} {o : Oper} {a : Act} {Q : Exit → Act → World → Prop} (hg : o.guard = none) (s : Operand)
    (hop : o.op = Op.call { callee := Callee.builtin Builtin.clear, args := #[s], argTypes := #[22] }) (ht : P.underlying 22 = some (.slice 29))
    (hv : ∀ w, (zeroValue 29).run P w = .ok (.agg #[.int .i64 0, .int .i64 0, .int .i64 0, .int .i64 0, .int .u32 0, .int .i64 0]) w)
    (base g cap m k : Nat) (l : List Piece) (hown : OwnPcs w base (.slice (some ⟨g, 0, none⟩) m cap) l) (hk : 0 < k) (hm : m + k ≤ cap) (c : Nat) (hs : a.eval s = .slice (some ⟨g, m * 6, none⟩) k c)
    (hK : ∀ w', OwnPcs w' base (.slice (some ⟨g, 0, none⟩) m cap) l → w.grownBy w' (some g) → wpList P ops Q rest (a.put o.dst (.tuple #[])) w') : wpList P ops Q (o :: rest) a w := by
  refine wpList_plain hg fun K hK' => ?_
  obtain ⟨rfl, _⟩ := pcs_len hown
  have hz : (Value.agg #[Value.int IntKind.i64 0, .int .i64 0, .int .i64 0, .int .i64 0, .int .u32 0, .int .i64 0]).cells.size = 6 := rfl
  have hrun := run_clear_rows (P := P) w 22 29 o.type _ ht hv g (l.length * 6) k c hk (by
      intro v hv'
      simp only [Builtin.zeroCells, hz, Array.toList_map, List.mem_map] at hv'
      obtain ⟨i, _, rfl⟩ := hv'
      have : ∀ i : Fin 6, ((Value.agg #[Value.int IntKind.i64 0, .int .i64 0, .int .i64 0, .int .i64 0, .int .u32 0, .int .i64 0]).cells[i.val]!).oneCell' = true := by decide
      exact this ⟨i % 6, by omega⟩)
    (fun j hj => ownsRow_rest hown _ (by rw [hz] at hj; omega))
    (fun j _ => World.ownsRow.frozenAt hown _)
  have h2 := own_slots hown (by decide) (Builtin.zeroCells (Value.agg #[Value.int IntKind.i64 0, .int .i64 0, .int .i64 0, .int .i64 0, .int .u32 0, .int .i64 0]).cells k).toList (l.length * 6) (Nat.le_refl _)
  unfold Oper.wp
  simp [execOp, hop, resolve, invoke, builtin, hs, hrun, Result.andThen]
  exact hK' _ _ (hK _ h2.1 h2.2)
set_option maxHeartbeats 1000000 in
set_option maxRecDepth 100000 in
theorem delete_any (qs : List Piece) (i g n cap base : Nat) (w : World) (hu : OwnPcs w base (.slice (some ⟨g, 0, none⟩) n cap) qs) (hn : n = qs.length) (hlt : i < n) (hsz : n ≤ 1000000) :
    Calls Tryz.prog 94 #[.slice (some ⟨g, 0, none⟩) n cap, .int .i64 i, .int .i64 ((i : Int) + 1)] w fun e w' => e = .returned (.slice (some ⟨g, 0, none⟩) (n - 1) cap) ∧ OwnPcs w' base (.slice (some ⟨g, 0, none⟩) (n - 1) cap) (qs.eraseIdx i) ∧ w.grownBy w' (some g) := by
  have hcap := (pcs_len hu).2
  have hcap' : n ≤ cap := by omega
  have h63 : cap ≤ 9223372036854775807 := by
    rcases hu.2 with ⟨h', _⟩ | ⟨g', cap', cur, h', _, hg, hn, hm, hc, _⟩
    · cases h'
    · cases h'; simpa [maxLen] using hm
  have hne : ((i : Int) == (i : Int) + 1) = false := by rw [beq_eq_false_iff_ne]; omega
  have Hn := hid hn
  have Hc := hid hcap
  clear hn hcap
  have g1 : (0 : Int) ≤ (i : Int) := Int.natCast_nonneg _
  have g2 : (i : Int) ≤ (cap : Int) := by omega
  have g3 : (0 : Int) ≤ (i : Int) + 1 := by omega
  have g4 : (i : Int) + 1 ≤ (n : Int) := by omega
  have g5 : (n : Int) ≤ (cap : Int) := by omega
  have d2 : ((i : Int) + 1).toNat = i + 1 := by omega
  obtain ⟨i0, hi', hz, hsize, hby⟩ := info_parts Tryz.inf29
  have U := hid (OwnPcs.below hu (Below.refl _ _).drew)
  have U1 := hid (ownPcs_row (OwnPcs.cut U.out Hn.out (m := i) (by rw [← Hn.out]; omega)) (n := i) (by rw [List.length_take, ← Hn.out]; omega))
  have U2 := hid (show (pcCells (qs.drop (i + 1))).length = (n - (i + 1)) * 6 by rw [pcCells_length, List.length_drop, ← Hn.out])
  have U3 := hid (fun (w2 : World) (h : w2.ownsRow base 29 6 (.slice (some ⟨g, 0, none⟩) (n - 1) cap) (n - 1) (pcCells (qs.take i) ++ pcCells (qs.drop (i + 1)))) => show OwnPcs w2 base (.slice (some ⟨g, 0, none⟩) (n - 1) cap) (qs.eraseIdx i) by
    unfold OwnPcs
    rw [List.eraseIdx_eq_take_drop_succ, pcCells_append, List.length_append, List.length_take, List.length_drop, ← Hn.out, show min i n + (n - (i + 1)) = n - 1 by omega]
    exact h)
  have W1 := hid (fun (ad : Addr) (h1 : cap = i + 1 → n = i + 1) (h2 : cap ≠ i + 1 → ad = ⟨g, (i + 1) * 6, none⟩) j u (hj : (pcCells (qs.drop (i + 1)))[j]? = some u) => show w.drew.cell? (ad.add j) = some u by
    by_cases hc : cap = i + 1
    · rw [List.drop_eq_nil_of_le (by rw [← Hn.out, h1 hc]; exact Nat.le_refl _)] at hj
      simp [pcCells] at hj
    · rw [h2 hc, addr_add]
      rw [← pcCells_drop, List.getElem?_drop] at hj
      have := World.ownsRow.cells (v := .slice (some ⟨g, 0, none⟩) n cap) (ownPcs_row U.out Hn.out) rfl _ u hj
      rw [addr_add, Nat.zero_add] at this
      exact this)
  clear hu
  go_enter Tryz.func94, Tryz.ntmps94
  go_wp2_with fail
  by_cases hce : cap = i + 1
  · obtain rfl : n = i + 1 := by omega
    subst hce
    have g6 : (i : Int) ≤ (i : Int) + 1 := by omega
    clear g2 g4 g5 d2
    have z0 : i + 1 - (i + 1) = 0 := Nat.sub_self _
    go_still_tail 6, (by kernel_rfl)
    change wpList _ _ _ _ _ w.drew
    refine wpList_append_fits w.drew rfl (.tmp 22) (.tmp 25) 22 rfl base 29 i0 6 Tryz.underlying22 hi' hsize g i (i + 1) (pcCells (qs.take i)) rfl U1.out ⟨g, 0, none⟩ 0 _ (pcCells (qs.drop (i + 1))) rfl (by rw [U2.out, z0]) (W1.out _ (fun _ => rfl) (fun h => absurd rfl h)) (pcCells_one _) (by omega) ?_
    intro w2 hu2 hg2
    have hg2' : w.grownBy w2 (some g) := grownBy_trans (grownBy_below (Below.refl _ _).drew) hg2
    have e1 : i + 0 = (i + 1) - 1 := by omega
    rw [e1] at hu2 ⊢
    have hu3 := U3.out w2 hu2
    clear hu2 hg2 e1
    obtain ⟨N, hN⟩ : ∃ N, N = (i + 1) - 1 := ⟨_, rfl⟩
    rw [← hN] at hu3 ⊢
    have k1 : (0 : Int) ≤ (N : Int) := Int.natCast_nonneg _
    have k2 : (N : Int) ≤ ((i + 1) : Int) := by omega
    have k3 : (i + 1) - N = 1 := by omega
    have k4 : ¬ (i + 1) = N := by omega
    have hNc : N + 1 ≤ (i + 1) := by omega
    have HU3 := hid hu3
    have HG := hid hg2'
    clear hu3 hg2'
    have HN := hid hN
    clear hN
    go_wp2_with (refine wpList_clear_tail rfl (.tmp 31) rfl Tryz.underlying22 (fun _ => Tryz.zeroValue29 _) base g (i + 1) N 1 (qs.eraseIdx i) HU3.out (by decide) hNc _ rfl ?_)
    intro w3 hu4 hg4
    have HG3 := hid (grownBy_trans HG.out hg4)
    clear hg4
    go_wp2
    go_ret
    rw [← HN.out]
    exact ⟨rfl, hu4, HG3.out⟩

  have hce2 : ¬ (cap - (i + 1) = 0) := by omega
  have hce3 : i + 1 < cap := by omega
  go_still_tail 6, (by kernel_rfl)
  change wpList _ _ _ _ _ w.drew
  refine wpList_append_fits w.drew rfl (.tmp 22) (.tmp 25) 22 rfl base 29 i0 6 Tryz.underlying22 hi' hsize g i cap (pcCells (qs.take i)) rfl U1.out ⟨g, (i + 1) * 6, none⟩ (n - (i + 1)) _ (pcCells (qs.drop (i + 1))) rfl U2.out (W1.out _ (fun h => absurd h hce) (fun _ => rfl)) (pcCells_one _) (by omega) ?_
  intro w2 hu2 hg2
  have hg2' : w.grownBy w2 (some g) := grownBy_trans (grownBy_below (Below.refl _ _).drew) hg2
  have e1 : i + (n - (i + 1)) = n - 1 := by omega
  rw [e1] at hu2 ⊢
  have hu3 := U3.out w2 hu2
  clear hu2 hg2 e1
  obtain ⟨N, hN⟩ : ∃ N, N = n - 1 := ⟨_, rfl⟩
  rw [← hN] at hu3 ⊢
  have k1 : (0 : Int) ≤ (N : Int) := Int.natCast_nonneg _
  have k2 : (N : Int) ≤ (n : Int) := by omega
  have k3 : n - N = 1 := by omega
  have k4 : ¬ cap = N := by omega
  have hNc : N + 1 ≤ cap := by omega
  have HU3 := hid hu3
  have HG := hid hg2'
  clear hu3 hg2'
  have HN := hid hN
  clear hN
  go_wp2_with (refine wpList_clear_tail rfl (.tmp 31) rfl Tryz.underlying22 (fun _ => Tryz.zeroValue29 _) base g cap N 1 (qs.eraseIdx i) HU3.out (by decide) hNc _ rfl ?_)
  intro w3 hu4 hg4
  have HG3 := hid (grownBy_trans HG.out hg4)
  clear hg4
  go_wp2
  go_ret
  rw [← HN.out]
  exact ⟨rfl, hu4, HG3.out⟩
/-- May a piece be dropped: it is begun, or the first that is there. -/
def mayDrop (ps : List Piece) (i : Nat) : Bool := stIs 1 (ps.getD i zeroP) || decide (idxOf (stIs 2) ps = (i : Int))
set_option maxHeartbeats 1000000 in
theorem drop1_any (D : Nat) (ver next : Int) (ps : List Piece) (v : Value) (i : Nat) (w : World) (hv : PcsAt w v ps) (hi : i < ps.length) (hD : w.heap[D]? = some (.cells #[.int .i64 ver, .int .i64 next, v] 24 (0, 0))) :
    Calls Tryz.prog 73 #[.int .i64 i, .pointer (some ⟨D, 0, none⟩)] w fun e w' => e = .returned (.bool (mayDrop ps i)) ∧ Below w.heap.size w w' := by
  have hgd : ps.getD i zeroP = ps[i] := by simp [List.getD, hi]
  have Hm := hid (show mayDrop ps i = (stIs 1 (ps.getD i zeroP) || decide (idxOf (stIs 2) ps = (i : Int))) from rfl)
  rw [hgd] at Hm
  have IX := hid (fun B W (hb : Below w.heap.size w W) (hB : W.cell? ⟨B, 0, none⟩ = some (.int .i64 2)) => index91_any (stIs 2) ps B v W (hv.mono hb) (fun W' h' p _ => in1_any 2 B p W' (cell_below h' hB)))
  obtain ⟨a, cap, rfl, hn, hs⟩ := hv
  have hsx := hs i hi
  obtain ⟨b, o, rfl, hx⟩ := hsx
  have e5 := (hx _ (List.getElem?_eq_getElem hi)).c5
  obtain ⟨p, hp⟩ : ∃ p, p = ps[i] := ⟨_, rfl⟩
  rw [← hp] at e5 Hm
  obtain ⟨m0, m1, m2, mf⟩ := row3 hD
  have g1 : (0 : Int) ≤ (i : Int) := Int.natCast_nonneg _
  have g2 : (i : Int) < (ps.length : Int) := by omega
  have HSS := hid (fun W (hb : Below w.heap.size w W) => show W.cell? ⟨D, 2, none⟩ = some (.slice (some ⟨b, o, none⟩) ps.length cap) ∧ W.cell? ⟨b, o + i * 6 + 5, none⟩ = some (.int .i64 p.state) from ⟨cell_below hb m2, cell_below hb e5⟩)
  clear hs hx hp hgd hD m0 m1 mf
  cases h1 : stIs 1 p with
  | true =>
    rw [h1, Bool.true_or] at Hm
    have hd : p.state = 1 := by simpa [stIs] using h1
    clear h1 IX
    obtain ⟨m2, e5⟩ := HSS.out w (Below.refl _ _)
    rw [hd] at e5
    have m2 := Later.cell m2
    have e5 := Later.cell e5
    clear hd HSS
    go_enter Tryz.func73, Tryz.ntmps73
    go_wp2_with fail
    refine wp_region_later (by kernel_rfl) (by kernel_rfl) ?_
    repeat (go_big_quiet_step (fail))
    refine wpQuiet_nil ?_
    intro w2 hb2
    clear m2 e5
    go_wp2
    go_ret
    exact ⟨ret_bool Hm.out.symm, hb2⟩
  | false =>
    rw [h1, Bool.false_or] at Hm
    have hd : (p.state == 1) = false := by simpa [stIs] using h1
    have hd2 : decide (p.state = 1) = false := by simpa [stIs] using h1
    clear h1
    obtain ⟨x, hx⟩ : ∃ x, x = idxOf (stIs 2) ps := ⟨_, rfl⟩
    rw [← hx] at IX Hm
    clear hx
    go_enter Tryz.func73, Tryz.ntmps73
    go_wp2_with fail
    go_region_held3 (fun W => W.cell? ⟨D, 2, none⟩ = some (.slice (some ⟨b, o, none⟩) ps.length cap) ∧ W.cell? ⟨b, o + i * 6 + 5, none⟩ = some (.int .i64 p.state)) (first | assumption | go_keep)
      (first
        | (go_at_call 67; refine (in_fn_any 2 _).mono ?_; rintro e w5 ⟨rfl, hb5, hc5, hs5⟩; have hB5 : Below w.heap.size w w5 := (Below.refl _ _).drew.step hb5; have HS5 := HSS.out _ hB5)
        | (go_at_call 38; refine (IX.out _ _ hB5 hc5).mono ?_; rintro e w6 ⟨rfl, hb6⟩; have hB6 : Below w.heap.size w w6 := hB5.step hb6; have HS6 := HSS.out _ hB6))
    all_goals
      go_wp2
      go_ret
      exact ⟨ret_bool (by rw [Hm.out]; simp [Bool.beq_eq_decide_eq]), hB6⟩
end Go.Proofs.YtcpecponmaakoaaGreatDoor
