/- Walks of the statements: CleanDead. -/
import Derived.Test.YtceamgkifjmbcaaMath9
import Derived.Test.YtceamgkifjmbcaaW26
import Derived.Test.YtceamgkifjmbcaaW19
namespace Go.Proofs.Ytceamgkifjmbcaa
open Go.RowKit Go.Wm
/-- 'append(out, xs..)' of several batches at the head of a row, at a step of a region. -/
theorem run_append_bats (w : World) (ty : TypeId) (base : Nat) (v : Value) (xs : List Batch) (hown : OwnBats w base v xs) (g cap : Nat) (qs : List (Batch × Value))
    (hcell : ∀ j u, (batCells qs)[j]? = some u → w.cell? ⟨g, j, none⟩ = some u) (hq : ∀ p ∈ qs, OwnRecs w base p.2 p.1.recs ∧ smallRecs p.1.recs) (hn : xs.length + qs.length ≤ 100000000) (hbase : base ≤ w.heap.size) :
    ∃ v' w', (Builtin.append_ #[22, 22] ty #[v, .slice (some ⟨g, 0, none⟩) qs.length cap]).run Try.prog w = .ok v' w' ∧ OwnBats w' base v' (xs ++ qs.map (·.1)) ∧ Below base w w' ∧ w.grownBy w' v.ownBlock := by
  obtain ⟨ps, hps, hown, hrec⟩ := hown
  have hlen : ps.length = xs.length := by rw [← hps, List.length_map]
  obtain ⟨i', hi', hz, hsize, hby⟩ := info_parts Try.inf28
  have hone : ∀ p ∈ qs, p.2.oneCell' = true := fun p hp => by
    rcases (hq p hp).1.2 with ⟨h, _⟩ | ⟨g, cap, cur, h, _⟩ <;> rw [h] <;> rfl
  obtain ⟨v', w', hr', h2, h3, _⟩ := run_append_own (P := Try.prog) w base 22 ty 28 i' _ 10 96 Try.underlying22 hi' hz hsize hby rfl (by decide) v ps.length (batCells ps) hown ⟨g, 0, none⟩ qs.length cap (batCells qs) (batCells_length qs) (by
    intro j u hj
    have e : (⟨g, 0, none⟩ : Addr).add j = ⟨g, j, none⟩ := by simp only [Addr.add]; split <;> simp_all
    rw [e]
    exact hcell j u hj) (by
    intro u hu
    simp only [batCells, List.mem_flatMap] at hu
    obtain ⟨p, hp, hu⟩ := hu
    have h1 := hone p hp
    simp [Batch.cells] at hu
    rcases hu with rfl | rfl | rfl | rfl | rfl | rfl | rfl | rfl | rfl | rfl <;> first | rfl | exact h1) (by simp only [maxLen]; omega) (by omega) hbase
  refine ⟨v', w', hr', ⟨ps ++ qs, by simp [hps], ?_, ?_⟩, below_grown h3 hbase fun k hk => (hown.lt k hk).1, h3⟩
  · have e : batCells (ps ++ qs) = batCells ps ++ batCells qs := by simp [batCells]
    rw [e, List.length_append]; exact h2
  · intro p hp
    rcases List.mem_append.1 hp with hp | hp
    · exact ⟨(hrec p hp).1.kept h3 (own_ne (hrec p hp).1 hown (by decide)), (hrec p hp).2⟩
    · exact ⟨(hq p hp).1.kept h3 (own_ne (hq p hp).1 hown (by decide)), (hq p hp).2⟩
theorem step_append_bats {w : World} {ops : Array Oper} {o : Oper} {a : Act} {K : Act → World → Prop} {Q : Exit → Act → World → Prop} {E : Prop} (hgd : o.guard = none) (s x : Operand)
    (ho : o.op = .call { callee := .builtin .append, args := #[s, x], argTypes := #[22, 22] })
    (base : Nat) (v : Value) (xs : List Batch) (hs : a.eval s = v) (hown : OwnBats w base v xs) (g cap : Nat) (qs : List (Batch × Value)) (hx : a.eval x = .slice (some ⟨g, 0, none⟩) qs.length cap)
    (hcell : ∀ j u, (batCells qs)[j]? = some u → w.cell? ⟨g, j, none⟩ = some u) (hq : ∀ p ∈ qs, OwnRecs w base p.2 p.1.recs ∧ smallRecs p.1.recs) (hn : xs.length + qs.length ≤ 100000000) (hbase : base ≤ w.heap.size)
    (h : ∀ v' w', OwnBats w' base v' (xs ++ qs.map (·.1)) → Below base w w' → w.grownBy w' v.ownBlock → K (a.put o.dst v') w') :
    if Region.wanted o (yielded ops a.tmps) = true then Oper.wp Try.prog o a w K Q else E := by
  have hw : Region.wanted o (yielded ops a.tmps) = true := by simp [Region.wanted, hgd]
  rw [if_pos hw]
  obtain ⟨v', w', hr', h2, h3, h4⟩ := run_append_bats w o.type base v xs hown g cap qs hcell hq hn hbase
  unfold Oper.wp execOp
  simp only [ho, resolve, invoke, builtin, Sem.run_bind, Sem.run_pure, Result.andThen_ok, List.map_toArray, List.map_cons, List.map_nil, hs, hx, hr']
  exact h v' w' h2 h3 h4
theorem row_cells (w : World) (qs : List (Batch × Value)) : ∀ j u, (batCells qs)[j]? = some u → (w.alloc (.cells (batCells qs).toArray 28)).cell? ⟨w.heap.size, j, none⟩ = some u := fun j u h => cell_row (heap_alloc_new w _) j u h
theorem two_q {α : Type} {P : α → Prop} {a b : α} (ha : P a) (hb : P b) : ∀ p ∈ [a, b], P p := fun p hp => by
  simp at hp
  rcases hp with rfl | rfl
  · exact ha
  · exact hb
theorem le_alloc {a : Nat} {w : World} {X : Obj} (h : a ≤ w.heap.size) : a ≤ (w.alloc X).heap.size := by simp; omega
theorem preK_succ (i : Nat) : preK (i + 1) = preK i ++ [oneB i kK kV] := rfl
theorem small_of_size {rs : List Rec} (h : rs.length ≤ 1000000) (h2 : ∀ r ∈ rs, r.key.size ≤ 1000 ∧ r.val.size ≤ 1000) : smallRecs rs := ⟨h, fun r hr => ⟨Nat.le_trans (h2 r hr).1 (by decide), Nat.le_trans (h2 r hr).2 (by decide)⟩⟩
theorem dead_small (m : Nat) : smallRecs (deadB m).recs := small_of_size (by simp [deadB]) (by simp [deadB, kK]; decide)
theorem one_small (i : Int) (k v : ByteArray) (hk : k.size ≤ 1000) (hv : v.size ≤ 1000) : smallRecs (oneB i k v).recs := small_of_size (by simp [oneB]) (by simp [oneB, oneRec, hk, hv])
theorem dead_pids (m : Nat) : ∀ x ∈ deadBs m, (Lit.int .i64 x.pid).wf = true := by
  have hp : ∀ m, ∀ x ∈ preK m, x.pid = -1 := by
    intro m
    induction m with
    | zero => simp [preK]
    | succ m ih =>
      intro x hx
      rcases List.mem_append.1 hx with hx | hx
      · exact ih x hx
      · simp at hx; subst hx; rfl
  intro x hx
  have : x.pid = -1 := by
    rcases List.mem_append.1 hx with hx | hx
    · exact hp m x hx
    · simp at hx
      rcases hx with rfl | rfl <;> rfl
  rw [this]; decide
set_option maxRecDepth 100000 in
set_option maxHeartbeats 4000000 in
theorem dead_any (n : Nat) (hn : n ≤ 255) (keep age : Int) (ha : -9223372036854775808 ≤ age ∧ age ≤ 9223372036854775807) (w : World) :
    Calls Try.prog 6 #[.int .u8 n, .int .i64 keep, .int .i64 age] w fun e w' => e = .returned (.bool true) ∧ Below w.heap.size w w' := by
  by_cases h1 : keep < 0
  · have b1 : decide (keep < 0) = true := by simpa using h1
    go_enter Try.func6, Try.ntmps6
    go_wp2_with fail
    refine (live_any _).mono ?_
    rintro e1 w1 ⟨rfl, hb1⟩
    go_wp2
    go_ret
    exact ⟨rfl, hb1⟩
  · by_cases h2 : 1000 < keep
    · have b1 : decide (keep < 0) = false := by simpa using h1
      have b2 : decide (1000 < keep) = true := by simpa using h2
      go_enter Try.func6, Try.ntmps6
      go_wp2_with fail
      refine (live_any _).mono ?_
      rintro e1 w1 ⟨rfl, hb1⟩
      go_wp2
      go_ret
      exact ⟨rfl, hb1⟩
    · by_cases h3 : age < 0
      · have b1 : decide (keep < 0) = false := by simpa using h1
        have b2 : decide (1000 < keep) = false := by simpa using h2
        have b3 : decide (age < 0) = true := by simpa using h3
        go_enter Try.func6, Try.ntmps6
        go_wp2_with fail
        refine (live_any _).mono ?_
        rintro e1 w1 ⟨rfl, hb1⟩
        go_wp2
        go_ret
        exact ⟨rfl, hb1⟩
      · by_cases h4 : 1000 < age
        · have b1 : decide (keep < 0) = false := by simpa using h1
          have b2 : decide (1000 < keep) = false := by simpa using h2
          have b3 : decide (age < 0) = false := by simpa using h3
          have b4 : decide (1000 < age) = true := by simpa using h4
          go_enter Try.func6, Try.ntmps6
          go_wp2_with fail
          refine (live_any _).mono ?_
          rintro e1 w1 ⟨rfl, hb1⟩
          go_wp2
          go_ret
          exact ⟨rfl, hb1⟩
        · have b1 : decide (keep < 0) = false := by simpa using h1
          have b2 : decide (1000 < keep) = false := by simpa using h2
          have b3 : decide (age < 0) = false := by simpa using h3
          have b4 : decide (1000 < age) = false := by simpa using h4
          go_enter Try.func6, Try.ntmps6
          go_wp2_with fail
          refine (live_any _).mono ?_
          rintro e1 w1 ⟨rfl, hb1⟩
          go_wp2
          have em : ((n : Int) % 5) = ((n % 5 : Nat) : Int) := by omega
          rw [em]
          have hm : n % 5 ≤ 4 := by omega
          clear em
          generalize n % 5 = m at *
          go_loopw [7, 32] (fun u q wr => ∃ i : Nat, i ≤ m ∧ q = .int .i64 i ∧ OwnBats wr w1.heap.size u (preK i) ∧ Below w1.heap.size w1 wr) (fun _ q _ => m - (intOf q).toNat)
          case atStart => exact ⟨0, by omega, rfl, OwnBats.nil _ _, Below.refl _ _⟩
          case round =>
            obtain ⟨i, hi, rfl, hown, hwr⟩ := hrel
            by_cases hlt : i < m
            · have P := hid (preK_succ i)
              have hlen := preK_length i
              have hl2 : (preK i).length ≤ 1000000 := by omega
              clear hlen
              generalize preK i = L at *
              go_wp2_with fail
              refine (one_any (i : Int) kK kV wr).mono ?_
              rintro e2 w2 ⟨u2, rfl, hu2, hb2⟩
              have hsz := hwr.size
              obtain ⟨a4, cap4, rfl⟩ := OwnRecs.form hu2
              unfold Batch.agg
              go_wp2_with (at_builtin; refine wpList_append_bat rfl (.tmp 35) (.tmp 38) rfl Try.underlying22 Try.inf28 w1.heap.size _ L (oneB (i : Int) kK kV) (.slice a4 (oneB (i : Int) kK kV).recs.length cap4) rfl ((hown.below hb2).below (below_alloc _ _)) w2.heap.size rfl ⟨by simp, by simp, by simp, by simp, by simp, by simp, by simp, by simp, by simp, by simp⟩ ((OwnRecs.base hu2 hsz).below (below_alloc _ _)) (one_small _ _ _ (by decide) (by decide)) hl2 ?_ ?_)
              · have := hb2.size; simp; omega
              intro v' w' hown' hbel _
              go_wp2
              go_roundw
              case rel => exact ⟨i + 1, by omega, by go_num, by rw [P.out]; exact hown', ((hwr.step hb2).step (below_alloc _ _)).trans hbel⟩
              case measure => simp [intOf]; omega
            · obtain rfl : i = m := by omega
              have hlen := preK_length i
              obtain ⟨a0, cap0, hform, _, _⟩ := hown.at (by omega)
              rw [hlen] at hform
              subst hform
              have hown1 : ∀ k, (Value.slice a0 i (i + cap0)).ownBlock = some k → w1.heap.size ≤ k ∧ k < wr.heap.size := fun k hk => by
                obtain ⟨_, _, h, _⟩ := hown
                exact h.lt k hk
              obtain ⟨wo, rfl⟩ : ∃ wo : World, wo = wr := ⟨_, rfl⟩
              have hl2 : (preK i).length + 2 ≤ 100000000 := by omega
              clear hlen
              have hw52 : IntKind.i64.wrap ((i : Int) + 1) = (i : Int) + 1 := IntWalk.i64_in _ (by omega)
              go_wp2
              refine wp_name fun W hW => ?_
              have hBW : Below wo.heap.size wo W := by rw [hW]; exact (below_alloc _ _).step (below_alloc _ _)
              have hWsz : W.heap.size = wo.heap.size + 2 := by rw [hW]; simp
              have hrow : W.heap[wo.heap.size]? = some (.cells #[.int .i64 (i : Int), .string ⟨#[107]⟩, .string ⟨#[]⟩, .bool true, .int .i64 7] 33 (0, 0)) := by
                rw [hW]; exact (Below.heap_alloc _ _ _ (by simp)).trans (heap_alloc_new _ _)
              have HD := hid (own_recs_of_row (w := W) (base := w1.heap.size) (rs := (deadB i).recs) hrow rfl hwr.size (by simp [deadB]))
              have hbx : W.heap[wo.heap.size + 1]? = some (.cells #[.int .i64 (i : Int), .int .i64 (i : Int), .int .i64 0, .int .i64 0, .int .i64 (-1), .int .i64 0, .int .i64 0, .bool false, .int .i64 0, .slice (some ⟨wo.heap.size, 0, none⟩) 1 1] 28 (0, 0)) := by
                rw [hW]
                have h := fun X Y => heap_alloc_new (wo.alloc X) Y
                simp only [size_alloc] at h
                exact h _ _
              clear hW hrow
              have HSc := hid (fun w5 (hb : Below W.heap.size W w5) => show w5.cell? ⟨wo.heap.size + 1, 0, none⟩ = some (.int .i64 (i : Int)) ∧ w5.cell? ⟨wo.heap.size + 1, 1, none⟩ = some (.int .i64 (i : Int)) ∧ w5.cell? ⟨wo.heap.size + 1, 2, none⟩ = some (.int .i64 0) ∧ w5.cell? ⟨wo.heap.size + 1, 3, none⟩ = some (.int .i64 0) ∧ w5.cell? ⟨wo.heap.size + 1, 4, none⟩ = some (.int .i64 (-1)) ∧ w5.cell? ⟨wo.heap.size + 1, 5, none⟩ = some (.int .i64 0) ∧ w5.cell? ⟨wo.heap.size + 1, 6, none⟩ = some (.int .i64 0) ∧ w5.cell? ⟨wo.heap.size + 1, 7, none⟩ = some (.bool false) ∧ w5.cell? ⟨wo.heap.size + 1, 8, none⟩ = some (.int .i64 0) ∧ w5.cell? ⟨wo.heap.size + 1, 9, none⟩ = some (.slice (some ⟨wo.heap.size, 0, none⟩) 1 1) from cells10 (blk_below hbx hb))
              have HSg := hid (fun (Wx w6 : World) (hs : Wx.cell? ⟨wo.heap.size + 1, 0, none⟩ = some (.int .i64 (i : Int)) ∧ Wx.cell? ⟨wo.heap.size + 1, 1, none⟩ = some (.int .i64 (i : Int)) ∧ Wx.cell? ⟨wo.heap.size + 1, 2, none⟩ = some (.int .i64 0) ∧ Wx.cell? ⟨wo.heap.size + 1, 3, none⟩ = some (.int .i64 0) ∧ Wx.cell? ⟨wo.heap.size + 1, 4, none⟩ = some (.int .i64 (-1)) ∧ Wx.cell? ⟨wo.heap.size + 1, 5, none⟩ = some (.int .i64 0) ∧ Wx.cell? ⟨wo.heap.size + 1, 6, none⟩ = some (.int .i64 0) ∧ Wx.cell? ⟨wo.heap.size + 1, 7, none⟩ = some (.bool false) ∧ Wx.cell? ⟨wo.heap.size + 1, 8, none⟩ = some (.int .i64 0) ∧ Wx.cell? ⟨wo.heap.size + 1, 9, none⟩ = some (.slice (some ⟨wo.heap.size, 0, none⟩) 1 1)) (hg : Wx.grownBy w6 (Value.slice a0 i (i + cap0)).ownBlock) => show w6.cell? ⟨wo.heap.size + 1, 0, none⟩ = some (.int .i64 (i : Int)) ∧ w6.cell? ⟨wo.heap.size + 1, 1, none⟩ = some (.int .i64 (i : Int)) ∧ w6.cell? ⟨wo.heap.size + 1, 2, none⟩ = some (.int .i64 0) ∧ w6.cell? ⟨wo.heap.size + 1, 3, none⟩ = some (.int .i64 0) ∧ w6.cell? ⟨wo.heap.size + 1, 4, none⟩ = some (.int .i64 (-1)) ∧ w6.cell? ⟨wo.heap.size + 1, 5, none⟩ = some (.int .i64 0) ∧ w6.cell? ⟨wo.heap.size + 1, 6, none⟩ = some (.int .i64 0) ∧ w6.cell? ⟨wo.heap.size + 1, 7, none⟩ = some (.bool false) ∧ w6.cell? ⟨wo.heap.size + 1, 8, none⟩ = some (.int .i64 0) ∧ w6.cell? ⟨wo.heap.size + 1, 9, none⟩ = some (.slice (some ⟨wo.heap.size, 0, none⟩) 1 1) from
                let ⟨k0, k1, k2, k3, k4, k5, k6, k7, k8, k9⟩ := hs
                ⟨hg.cell (a := ⟨wo.heap.size + 1, 0, none⟩) k0 (fun e => Nat.not_lt.2 (Nat.le_succ _) (hown1 _ e.symm).2), hg.cell (a := ⟨wo.heap.size + 1, 1, none⟩) k1 (fun e => Nat.not_lt.2 (Nat.le_succ _) (hown1 _ e.symm).2), hg.cell (a := ⟨wo.heap.size + 1, 2, none⟩) k2 (fun e => Nat.not_lt.2 (Nat.le_succ _) (hown1 _ e.symm).2), hg.cell (a := ⟨wo.heap.size + 1, 3, none⟩) k3 (fun e => Nat.not_lt.2 (Nat.le_succ _) (hown1 _ e.symm).2), hg.cell (a := ⟨wo.heap.size + 1, 4, none⟩) k4 (fun e => Nat.not_lt.2 (Nat.le_succ _) (hown1 _ e.symm).2), hg.cell (a := ⟨wo.heap.size + 1, 5, none⟩) k5 (fun e => Nat.not_lt.2 (Nat.le_succ _) (hown1 _ e.symm).2), hg.cell (a := ⟨wo.heap.size + 1, 6, none⟩) k6 (fun e => Nat.not_lt.2 (Nat.le_succ _) (hown1 _ e.symm).2), hg.cell (a := ⟨wo.heap.size + 1, 7, none⟩) k7 (fun e => Nat.not_lt.2 (Nat.le_succ _) (hown1 _ e.symm).2), hg.cell (a := ⟨wo.heap.size + 1, 8, none⟩) k8 (fun e => Nat.not_lt.2 (Nat.le_succ _) (hown1 _ e.symm).2), hg.cell (a := ⟨wo.heap.size + 1, 9, none⟩) k9 (fun e => Nat.not_lt.2 (Nat.le_succ _) (hown1 _ e.symm).2)⟩)
              have HO := hid (fun w5 (hb : Below W.heap.size W w5) X => ((hown.below hBW).below hb).below (below_alloc w5 X))
              have HD5 := hid (fun w5 (hb : Below W.heap.size W w5) X => (HD.out.below hb).below (below_alloc w5 X))
              have HSA := hid (fun (w5 : World) (hs : w5.cell? ⟨wo.heap.size + 1, 0, none⟩ = some (.int .i64 (i : Int)) ∧ w5.cell? ⟨wo.heap.size + 1, 1, none⟩ = some (.int .i64 (i : Int)) ∧ w5.cell? ⟨wo.heap.size + 1, 2, none⟩ = some (.int .i64 0) ∧ w5.cell? ⟨wo.heap.size + 1, 3, none⟩ = some (.int .i64 0) ∧ w5.cell? ⟨wo.heap.size + 1, 4, none⟩ = some (.int .i64 (-1)) ∧ w5.cell? ⟨wo.heap.size + 1, 5, none⟩ = some (.int .i64 0) ∧ w5.cell? ⟨wo.heap.size + 1, 6, none⟩ = some (.int .i64 0) ∧ w5.cell? ⟨wo.heap.size + 1, 7, none⟩ = some (.bool false) ∧ w5.cell? ⟨wo.heap.size + 1, 8, none⟩ = some (.int .i64 0) ∧ w5.cell? ⟨wo.heap.size + 1, 9, none⟩ = some (.slice (some ⟨wo.heap.size, 0, none⟩) 1 1)) (X : Obj) => show (w5.alloc X).cell? ⟨wo.heap.size + 1, 0, none⟩ = some (.int .i64 (i : Int)) ∧ (w5.alloc X).cell? ⟨wo.heap.size + 1, 1, none⟩ = some (.int .i64 (i : Int)) ∧ (w5.alloc X).cell? ⟨wo.heap.size + 1, 2, none⟩ = some (.int .i64 0) ∧ (w5.alloc X).cell? ⟨wo.heap.size + 1, 3, none⟩ = some (.int .i64 0) ∧ (w5.alloc X).cell? ⟨wo.heap.size + 1, 4, none⟩ = some (.int .i64 (-1)) ∧ (w5.alloc X).cell? ⟨wo.heap.size + 1, 5, none⟩ = some (.int .i64 0) ∧ (w5.alloc X).cell? ⟨wo.heap.size + 1, 6, none⟩ = some (.int .i64 0) ∧ (w5.alloc X).cell? ⟨wo.heap.size + 1, 7, none⟩ = some (.bool false) ∧ (w5.alloc X).cell? ⟨wo.heap.size + 1, 8, none⟩ = some (.int .i64 0) ∧ (w5.alloc X).cell? ⟨wo.heap.size + 1, 9, none⟩ = some (.slice (some ⟨wo.heap.size, 0, none⟩) 1 1) from
                let ⟨k0, k1, k2, k3, k4, k5, k6, k7, k8, k9⟩ := hs
                ⟨cell_alloc_old X k0, cell_alloc_old X k1, cell_alloc_old X k2, cell_alloc_old X k3, cell_alloc_old X k4, cell_alloc_old X k5, cell_alloc_old X k6, cell_alloc_old X k7, cell_alloc_old X k8, cell_alloc_old X k9⟩)
              obtain ⟨k0, k1, k2, k3, k4, k5, k6, k7, k8, k9⟩ := cells10 hbx
              clear hbx hown1
              have hszW : w1.heap.size ≤ W.heap.size := Nat.le_trans hwr.size hBW.size
              have HLs : smallRecs (lastB i).recs := one_small _ _ _ (by decide) (by decide)
              go_region_held3 (fun w' => w'.cell? ⟨wo.heap.size + 1, 0, none⟩ = some (.int .i64 (i : Int)) ∧ w'.cell? ⟨wo.heap.size + 1, 1, none⟩ = some (.int .i64 (i : Int)) ∧ w'.cell? ⟨wo.heap.size + 1, 2, none⟩ = some (.int .i64 0) ∧ w'.cell? ⟨wo.heap.size + 1, 3, none⟩ = some (.int .i64 0) ∧ w'.cell? ⟨wo.heap.size + 1, 4, none⟩ = some (.int .i64 (-1)) ∧ w'.cell? ⟨wo.heap.size + 1, 5, none⟩ = some (.int .i64 0) ∧ w'.cell? ⟨wo.heap.size + 1, 6, none⟩ = some (.int .i64 0) ∧ w'.cell? ⟨wo.heap.size + 1, 7, none⟩ = some (.bool false) ∧ w'.cell? ⟨wo.heap.size + 1, 8, none⟩ = some (.int .i64 0) ∧ w'.cell? ⟨wo.heap.size + 1, 9, none⟩ = some (.slice (some ⟨wo.heap.size, 0, none⟩) 1 1)) (first | assumption | go_keep)
                (first
                  | (go_at_call 19; refine (one_any ((i : Int) + 1) kOther kW _).mono ?_; rintro e w5 ⟨u5, rfl, hu5, hb5⟩; have hb5W : Below W.heap.size W w5 := ⟨hb5.os, hb5.tape, hb5.output, hb5.size, hb5.block⟩; have HSS := HSc.out _ hb5W; obtain ⟨a5, cap5, rfl⟩ := OwnRecs.form hu5; unfold Batch.agg)
                  | (refine step_append_bats rfl (.tmp 49) (.tmp 54) rfl w1.heap.size _ (preK i) rfl (HO.out _ hb5W _) w5.heap.size 2 [(deadB i, .slice (some ⟨wo.heap.size, 0, none⟩) 1 1), (lastB i, .slice a5 (lastB i).recs.length cap5)] rfl (row_cells w5 [(deadB i, .slice (some ⟨wo.heap.size, 0, none⟩) 1 1), (lastB i, .slice a5 (lastB i).recs.length cap5)]) (two_q ⟨HD5.out _ hb5W _, dead_small i⟩ ⟨(OwnRecs.base hu5 hszW).below (below_alloc _ _), HLs⟩) hl2 (le_alloc (Nat.le_trans hszW hb5W.size)) ?_; intro v' w6 hown' hbel hgr; have HSS6 := HSg.out _ _ (HSA.out _ HSS _) hgr))
              all_goals
                have B6 : Below w1.heap.size w1 w6 := (((hwr.step hBW).step hb5W).step (below_alloc w5 _)).trans hbel
                have hown6 : OwnBats w6 w1.heap.size v' (deadBs i) := hown'
                have hat6 := hown6.at (by unfold deadBs; rw [List.length_append]; show (preK i).length + 2 ≤ 1000000; rw [preK_length]; omega)
                have hg0 : ∀ W : World, GonesAt W (.slice none 0 0) [] := fun W => ⟨none, 0, rfl, by simp, fun k hk => by simp at hk⟩
                have CL := hid (clean_any (deadBs i) [] v' (.slice none 0 0) ((i : Int) + 2) (7 + age) keep w6 hat6 (hg0 w6) (dead_pids i))
                rw [dead_clean i hm age keep (by omega) (by omega)] at CL
                have VV := hid (dead_values i hm)
                clear hown' hown6 hat6 hbel hgr HSS6 HSS HSA HSg HSc HO HD5 hu5 hb5 hb5W k0 k1 k2 k3 k4 k5 k6 k7 k8 k9 hw52
                rcases Bool.eq_false_or_eq_true (decide (age < keep)) with hak | hak
                · have hak' : age < keep := of_decide_eq_true hak
                  rw [if_pos hak'] at CL
                  clear hak'
                  go_wp2_with fail
                  refine CL.out.mono ?_
                  rintro e7 w7 ⟨ux, rfl, hux, hb7⟩
                  have hX := hux.at (by simp)
                  have VL := hid (values_any [deadB i, lastB i] [] ux (.slice none 0 0) ((i : Int) + 2) w7 hX (hg0 w7) (by simp) (by simp [recCount, deadB, lastB, oneB]))
                  rw [VV.out.1] at VL
                  go_wp2_with fail
                  refine VL.out.mono ?_
                  rintro e8 w8 ⟨uv, rfl, huv, hsv, hb8⟩
                  obtain ⟨av, cv, rfl, _, _, hsr⟩ := huv.at hsv
                  obtain ⟨bv, ov, rfl, hr⟩ := hsr 0 (by simp [lastB, oneB])
                  have hrv := (hr _ rfl).c1
                  replace hrv : w8.cell? ⟨bv, ov + 1, none⟩ = some (.string ⟨#[111, 116, 104, 101, 114]⟩) := by simpa [oneRec, kOther] using hrv
                  obtain ⟨ax, cx, rfl, _, hsx⟩ := hX.mono hb8
                  obtain ⟨bx, ox, rfl, hx0⟩ := hsx 0 (by simp)
                  obtain ⟨sx, hx0, hxr⟩ := hx0 _ rfl
                  have x0 := hx0.c0
                  have x9 := hx0.c9
                  replace x0 : w8.cell? ⟨bx, ox, none⟩ = some (.int .i64 (i : Int)) := by simpa [deadB] using x0
                  replace x9 : w8.cell? ⟨bx, ox + 9, none⟩ = some sx := by simpa using x9
                  obtain ⟨ar, cr, rfl, _, _, hsr2⟩ := hxr
                  obtain ⟨br, or, rfl, hrr⟩ := hsr2 0 (by simp [deadB])
                  have r3 := (hrr _ rfl).c3
                  replace r3 : w8.cell? ⟨br, or + 3, none⟩ = some (.bool true) := by simpa using r3
                  have lx : [deadB i, lastB i].length = 2 := rfl
                  have lr : (deadB i).recs.length = 1 := rfl
                  have lv : (lastB i).recs.length = 1 := rfl
                  rw [lr] at x9
                  rw [lx, lv]
                  clear hx0 hrr hsr2 hsx hsr hr huv hux hX VL VV lx lr lv
                  go_wp2
                  go_ret
                  exact ⟨rfl, hb1.step ((B6.step hb7).step hb8)⟩
                · have hak' : ¬ age < keep := of_decide_eq_false hak
                  rw [if_neg hak'] at CL
                  clear hak'
                  go_wp2_with fail
                  refine CL.out.mono ?_
                  rintro e7 w7 ⟨ux, rfl, hux, hb7⟩
                  have hX := hux.at (by simp)
                  have VL := hid (values_any [lastB i] [] ux (.slice none 0 0) ((i : Int) + 2) w7 hX (hg0 w7) (by simp) (by simp [recCount, lastB, oneB]))
                  rw [VV.out.2] at VL
                  go_wp2_with fail
                  refine VL.out.mono ?_
                  rintro e8 w8 ⟨uv, rfl, huv, hsv, hb8⟩
                  obtain ⟨av, cv, rfl, _, _, hsr⟩ := huv.at hsv
                  obtain ⟨bv, ov, rfl, hr⟩ := hsr 0 (by simp [lastB, oneB])
                  have hrv := (hr _ rfl).c1
                  replace hrv : w8.cell? ⟨bv, ov + 1, none⟩ = some (.string ⟨#[111, 116, 104, 101, 114]⟩) := by simpa [oneRec, kOther] using hrv
                  obtain ⟨ax, cx, rfl, _, hsx⟩ := hX.mono hb8
                  obtain ⟨bx, ox, rfl, hx0⟩ := hsx 0 (by simp)
                  obtain ⟨sx, hx0, hxr⟩ := hx0 _ rfl
                  have x0 := hx0.c0
                  replace x0 : w8.cell? ⟨bx, ox, none⟩ = some (.int .i64 ((i : Int) + 1)) := by simpa [lastB, oneB] using x0
                  have lx : [lastB i].length = 1 := rfl
                  have lv : (lastB i).recs.length = 1 := rfl
                  rw [lx, lv]
                  clear hx0 hxr hsx hsr hr huv hux hX VL VV lx lv
                  go_wp2
                  go_ret
                  exact ⟨rfl, hb1.step ((B6.step hb7).step hb8)⟩
end Go.Proofs.Ytceamgkifjmbcaa
