/- Walks: slices.DeleteFunc at the closure of 'only', only, Span. -/
import Derived.Test.YtcpecponmaakoaaGreatDoorW4
import Derived.Great.BuildSlice
namespace Go.Proofs.YtcpecponmaakoaaGreatDoor
open Go.RowKit Go.Wm
def delP (p : Piece) : Bool := !stIs 2 p
theorem only1_any (B B2 : Nat) (p : Piece) (w : World) (h : w.cell? ⟨B, 0, none⟩ = some (.func (.func 91) #[] #[.pointer (some ⟨B2, 0, none⟩)])) (h2 : w.cell? ⟨B2, 0, none⟩ = some (.int .i64 2)) :
    Calls Tryz.prog 76 #[pieceV p, .pointer (some ⟨B, 0, none⟩)] w fun e w' => e = .returned (.bool (delP p)) ∧ Below w.heap.size w w' := by
  have h := fun X => cell_alloc_old X h
  have C := hid (fun X => in1_any 2 B2 p (w.alloc X) (cell_alloc_old X h2))
  go_enter Tryz.func76, Tryz.ntmps76
  go_wp2_with (go_at_call 91; refine (C.out _).mono ?_; rintro e w1 ⟨rfl, hb1⟩)
  go_ret
  exact ⟨rfl, (below_alloc _ _).step hb1⟩
set_option maxHeartbeats 1000000 in
theorem index76_any (pred : Piece → Bool) (ps : List Piece) (B : Nat) (v : Value) (w : World) (hv : PcsAt w v ps)
    (C : ∀ W, Below w.heap.size w W → ∀ p ∈ ps, Calls Tryz.prog 76 #[pieceV p, .pointer (some ⟨B, 0, none⟩)] W fun e w' => e = .returned (.bool (pred p)) ∧ Below W.heap.size W w') :
    Calls Tryz.prog 38 #[v, .func (.func 76) #[] #[.pointer (some ⟨B, 0, none⟩)]] w fun e w' => e = .returned (.int .i64 (idxOf pred ps)) ∧ Below w.heap.size w w' := by
  obtain ⟨a, cap, rfl, hn, hs⟩ := hv
  have HS := hid hs
  have C := hid C
  clear hs
  go_enter Tryz.func38, Tryz.ntmps38
  go_wp2
  go_loopw [8] (fun i wr => ∃ k : Nat, k ≤ ps.length ∧ i = .int .i64 k ∧ (∀ j (h : j < ps.length), j < k → pred ps[j] = false) ∧ Below w.heap.size w wr) (fun i _ => ps.length - (intOf i).toNat)
  case atStart => exact ⟨0, by omega, rfl, fun _ _ h => by omega, Below.refl _ _⟩
  case round =>
    obtain ⟨k, hk, rfl, hall, hwr⟩ := hrel
    have Hall := hid hall; clear hall
    by_cases hlt : k < ps.length
    · obtain ⟨b, o, rfl, hx⟩ := HS.out k hlt
      obtain ⟨e0, e1, e2, e3, e4, e5⟩ := (hx _ (List.getElem?_eq_getElem hlt)).mono hwr
      have D := hid (C.out wr hwr ps[k] (List.getElem_mem hlt))
      clear hx
      obtain ⟨p, hp⟩ : ∃ p, p = ps[k] := ⟨_, rfl⟩
      rw [← hp] at e0 e1 e2 e3 e4 e5 D
      have Hp := hid hp; clear hp
      cases hf : pred p
      · have Hf := hid hf
        rw [hf] at D; clear hf
        go_wp2_with (go_at_call 76; refine D.out.mono ?_; rintro e w1 ⟨rfl, hb1⟩)
        go_roundw
        case rel =>
          refine ⟨k + 1, by omega, by go_num, ?_, hwr.step hb1⟩
          intro j hj hjk
          by_cases hjk' : j = k
          · subst hjk'; rw [← Hp.out]; exact Hf.out
          · exact Hall.out j hj (by omega)
        case measure => simp [intOf]; omega
      · have Hf := hid hf
        rw [hf] at D; clear hf
        go_wp2_with (go_at_call 76; refine D.out.mono ?_; rintro e w1 ⟨rfl, hb1⟩)
        go_ret
        exact ⟨ret_int (idxOf_found hlt (by rw [← Hp.out]; exact Hf.out) Hall.out).symm, hwr.step hb1⟩
    · have hke : k = ps.length := by omega
      have Hk := hid hke; clear hke
      go_wp2
      go_ret
      exact ⟨ret_int (idxOf_none (fun j hj => Hall.out j hj (by have := Hk.out; omega))).symm, hwr⟩
theorem cell_grown {w w' : World} {g B o : Nat} {v : Value} (hg : w.grownBy w' (some g)) (hne : B ≠ g) (h : w.cell? ⟨B, o, none⟩ = some v) : w'.cell? ⟨B, o, none⟩ = some v := by
  have hlt := lt_of_cell h
  rw [← h]
  unfold World.cell?
  rw [show (⟨B, o, none⟩ : Addr).block = B from rfl, hg.block B hlt (by simpa using hne)]
/-- 'l[i] = p' in a row of the call's own. -/
theorem wpList_store_pc {P : Program} {w : World} {ops : Array Oper} {rest : List Oper} {o : Oper} {a : Act} {Q : Exit → Act → World → Prop} (hgd : o.guard = none) (x y : Operand) (ho : o.op = .store 29 x y) (hi : (P.info? 29).map (·.size) = some 6)
    (base g n cap : Nat) (l : List Piece) (hown : OwnPcs w base (.slice (some ⟨g, 0, none⟩) n cap) l) (hn : n = l.length) (i : Nat) (hil : i < l.length) (p : Piece)
    (hx : a.eval x = .pointer (some ⟨g, i * 6, none⟩)) (hy : a.eval y = .agg p.cells.toArray)
    (h : ∀ w', OwnPcs w' base (.slice (some ⟨g, 0, none⟩) n cap) (l.set i p) → w.grownBy w' (some g) → wpList P ops Q rest (a.put o.dst undef) w') : wpList P ops Q (o :: rest) a w := by
  refine wpList_store_mid hgd 29 x y ho g (i * 6) p.cells.toArray hx hy ?_ hi ?_ ?_
  · exact OwnPcs.there (hn ▸ hown) hil
  · exact all_oneCell_toArray (Piece.cells_one p)
  · have := OwnPcs.set hown hn hil p
    exact h _ (by simpa using this.1) (by simpa using this.2)
theorem set_mid (kept mid rest : List Piece) (p : Piece) (h : 0 < mid.length) : kept ++ (mid.set 0 p ++ p :: rest) = (kept ++ [p]) ++ (mid.tail ++ [p]) ++ rest := by
  cases mid with
  | nil => simp at h
  | cons m mid => simp
set_option maxHeartbeats 4000000 in
set_option maxRecDepth 100000 in
theorem deleteFunc_any (ps : List Piece) (v : Value) (base B B2 : Nat) (w : World) (hbase : base ≤ w.heap.size) (hown : OwnPcs w base v ps) (hsz : ps.length ≤ 1000000)
    (hB : w.cell? ⟨B, 0, none⟩ = some (.func (.func 91) #[] #[.pointer (some ⟨B2, 0, none⟩)])) (hB2 : w.cell? ⟨B2, 0, none⟩ = some (.int .i64 2)) (hBb : B < base) (hB2b : B2 < base) :
    Calls Tryz.prog 74 #[v, .func (.func 76) #[] #[.pointer (some ⟨B, 0, none⟩)]] w fun e w' => ∃ u, e = .returned u ∧ OwnPcs w' base u (ps.filter (stIs 2)) ∧ Below base w w' := by
  have C := hid (index76_any delP ps B v w (hown.at hsz) (fun W hb p _ => only1_any B B2 p W (cell_below hb hB) (cell_below hb hB2)))
  obtain ⟨a, cap, rfl⟩ := OwnPcs.form hown
  cases hf : ps.findIdx? delP with
  | none =>
    have hi : idxOf delP ps = -1 := by simp [idxOf, hf]
    have Hall := hid (show ps.filter (stIs 2) = ps by
      rw [List.filter_eq_self]
      intro p hp
      have := List.findIdx?_eq_none_iff.1 hf p hp
      simpa [delP] using this)
    rw [hi] at C
    clear hi hf hB hB2
    go_enter Tryz.func74, Tryz.ntmps74
    go_wp2_with (go_at_call 38; refine C.out.mono ?_; rintro e w1 ⟨rfl, hb1⟩)
    go_ret
    exact ⟨_, rfl, by rw [Hall.out]; exact hown.below hb1, hb1.mono hbase⟩
  | some i0 =>
    have hi : idxOf delP ps = i0 := by simp [idxOf, hf]
    obtain ⟨hlt0, hp0, hall0⟩ := List.findIdx?_eq_some_iff_getElem.1 hf
    rw [hi] at C
    obtain ⟨g, rfl⟩ : ∃ g, a = some ⟨g, 0, none⟩ := by
      rcases hown.2 with ⟨h, h0⟩ | ⟨g, cap', cur, h, _⟩
      · omega
      · cases h; exact ⟨g, rfl⟩
    have hgb : base ≤ g := (hown.lt g rfl).1
    have hnc : ps.length ≤ cap := by
      rcases hown.2 with ⟨h, h0⟩ | ⟨g', cap', cur, h, _, _, hc, _⟩
      · omega
      · cases h; exact hc
    have Hfirst := hid (show (ps.take i0).filter (stIs 2) = ps.take i0 by
      rw [List.filter_eq_self]
      intro p hp
      obtain ⟨j, hj, rfl⟩ := List.getElem_of_mem hp
      rw [List.length_take] at hj
      have := hall0 j (by omega)
      rw [List.getElem_take]
      simpa [delP] using this)
    have Hp0 := hid hp0
    clear hi hf hp0 hall0
    go_enter Tryz.func74, Tryz.ntmps74
    go_wp2_with fail
    refine C.out.mono ?_
    rintro e w1 ⟨rfl, hb1⟩
    have hown1 := hown.below hb1
    have hB1 := cell_below hb1 hB
    have hB21 := cell_below hb1 hB2
    clear C hown hB hB2
    have hi1 : ((i0 : Int) == -1) = false := by rw [beq_eq_false_iff_ne]; omega
    go_wp2_with fail
    clear hi1
    go_loopw [5, 6] (fun vi vk wr => ∃ (k : Nat) (kept mid : List Piece), vk = .int .i64 k ∧ vi = .int .i64 kept.length ∧ k ≤ ps.length ∧ kept = (ps.take k).filter (stIs 2) ∧ kept.length + mid.length = k ∧ 0 < mid.length ∧
      OwnPcs wr base (.slice (some ⟨g, 0, none⟩) ps.length cap) (kept ++ mid ++ ps.drop k) ∧ w1.grownBy wr (some g)) (fun _ vk _ => ps.length - (intOf vk).toNat)
    case atStart =>
      refine ⟨i0 + 1, ps.take i0, [ps[i0]], by go_num, by rw [List.length_take, Nat.min_eq_left (by omega)], by omega, ?_, by simp; omega, by simp, ?_, grownBy_below (Below.refl _ _)⟩
      · rw [List.take_add_one, List.filter_append, Hfirst.out]
        have := Hp0.out
        simp [List.getElem?_eq_getElem hlt0, delP] at this ⊢
        exact this
      · have e : ps.take i0 ++ [ps[i0]] ++ ps.drop (i0 + 1) = ps := by
          rw [List.append_assoc, List.singleton_append, ← List.drop_eq_getElem_cons hlt0, List.take_append_drop]
        rw [e]; exact hown1
    case round =>
      obtain ⟨k, kept, mid, rfl, rfl, hk, hkept, hlen, hmid, hownr, hgr⟩ := hrel
      have HO := hid hownr
      have Hkept := hid hkept
      have hBr := cell_grown hgr (by omega) hB1
      have hB2r := cell_grown hgr (by omega) hB21
      clear hkept
      by_cases hlt : k < ps.length
      · have hat := hownr.at (by simp; omega)
        obtain ⟨a', cap', hv', _, hs'⟩ := hat
        injection hv' with ha1 ha2 ha3
        subst ha1 ha3
        have hll : (kept ++ mid ++ ps.drop k).length = ps.length := by simp; omega
        obtain ⟨b, o, hab, hx⟩ := hs' k (by omega)
        cases hab
        have hget : (kept ++ mid ++ ps.drop k)[k]? = some ps[k] := by
          rw [List.getElem?_append_right (by simp; omega), List.getElem?_drop]
          simp only [List.length_append, hlen, Nat.sub_self, Nat.add_zero]
          exact List.getElem?_eq_getElem hlt
        obtain ⟨e0, e1, e2, e3, e4, e5⟩ := hx _ hget
        simp only [Nat.zero_add] at e0 e1 e2 e3 e4 e5
        have Htake := hid (show (ps.take (k + 1)).filter (stIs 2) = kept ++ if stIs 2 ps[k] then [ps[k]] else [] by
          rw [List.take_add_one, List.filter_append, ← Hkept.out, List.getElem?_eq_getElem hlt]
          cases h : stIs 2 ps[k] <;> simp [h])
        rw [List.drop_eq_getElem_cons hlt] at HO
        clear hx hs' hget hownr hB1 hB21 ha2 hll
        have Hlen := hid hlen
        clear hlen
        obtain ⟨p, hp⟩ : ∃ p, p = ps[k] := ⟨_, rfl⟩
        rw [← hp] at e0 e1 e2 e3 e4 e5 HO Htake
        clear hp
        obtain ⟨wo, rfl⟩ : ∃ wo : World, wo = wr := ⟨_, rfl⟩
        have D := hid (fun X => only1_any B B2 p (wo.alloc X) (cell_alloc_old X hBr) (cell_alloc_old X hB2r))
        clear hBr hB2r
        cases hst : stIs 2 p
        · have hd : delP p = true := by simp [delP, hst]
          rw [hd] at D
          rw [hst] at Htake
          clear hd hst
          go_wp2_with (go_at_call 76; refine (D.out _).mono ?_; rintro e w2 ⟨rfl, hb2⟩)
          go_roundw
          case rel =>
            refine ⟨k + 1, kept, mid ++ [p], by go_num, rfl, by omega, by rw [Htake.out]; simp, by have := Hlen.out; simp; omega, by simp, ?_, ?_⟩
            · have := HO.out.below ((below_alloc wo _).step hb2)
              simpa using this
            · exact grownBy_trans hgr (grownBy_below ((below_alloc wo _).step hb2))
          case measure => simp [intOf]; omega
        · have hd : delP p = false := by simp [delP, hst]
          rw [hd] at D
          rw [hst] at Htake
          clear hd hst
          go_wp2_with fail
          refine (D.out _).mono ?_
          rintro e w2 ⟨rfl, hb2⟩
          have hpc : PieceAt (wo.alloc (.cells #[.int .i64 p.id, .int .i64 p.base, .int .i64 p.fin, .int .i64 p.size, .int .u32 p.sum, .int .i64 p.state] 29)) wo.heap.size 0 p := by constructor <;> simp
          obtain ⟨n0, n1, n2, n3, n4, n5⟩ := hpc.mono hb2
          simp only [Nat.zero_add] at n1 n2 n3 n4 n5
          have hO2 := HO.out.below ((below_alloc wo _).step hb2)
          have hg2 := grownBy_trans hgr (grownBy_below (row := some g) ((below_alloc wo _).step hb2))
          have hlen2 := hid (show ps.length = (kept ++ mid ++ p :: ps.drop (k + 1)).length by have := Hlen.out; simp; omega)
          have hkl : kept.length < ps.length := by have := Hlen.out; omega
          clear hb2 hpc hgr
          go_wp2_with (refine wpList_store_pc rfl (.tmp 33) (.tmp 32) rfl (by kernel_rfl) base g ps.length cap _ hO2 hlen2.out kept.length (by rw [← hlen2.out]; have := Hlen.out; omega) p rfl rfl ?_)
          intro w3 hO3 hg3
          rw [set_mid kept mid (ps.drop (k + 1)) p hmid] at hO3
          have HO3 := hid hO3
          have hg4 := grownBy_trans hg2 hg3
          clear hO2 hO3 hg2 hg3 n0 n1 n2 n3 n4 n5
          go_wp2
          go_roundw
          case rel =>
            refine ⟨k + 1, kept ++ [p], mid.tail ++ [p], by go_num, by simp, by omega, by rw [Htake.out]; simp, by have := Hlen.out; simp; omega, by simp, HO3.out, hg4⟩
          case measure => simp [intOf]; omega
      · have hke : k = ps.length := by omega
        have Hall := hid (show ps.filter (stIs 2) = kept by rw [Hkept.out, hke, List.take_length])
        have hO := HO.out
        rw [show ps.drop k = [] by rw [hke]; simp, List.append_nil] at hO
        have hll := hid (show ps.length = (kept ++ mid).length by rw [List.length_append, hlen, hke])
        have Hke := hid hke
        have hcl : kept.length < cap := by omega
        have hcl2 : ¬ cap = kept.length := by omega
        have hcl3 : kept.length ≤ ps.length := by omega
        have Hlen := hid hlen
        clear hke HO hownr hB1 hB21 hBr hB2r hlen
        go_wp2_with (refine wpList_clear_pcs rfl (.tmp 38) rfl Tryz.underlying22 (fun _ => Tryz.zeroValue29 _) base g cap kept.length _ (by rw [← hll.out]; exact hO) (by simp) _ _ (by rw [← hll.out]; rfl) (fun _ => rfl) ?_)
        intro w3 hO3 hg3
        have hO4 : OwnPcs w3 base (.slice (some ⟨g, 0, none⟩) kept.length cap) kept := by simpa using hO3
        have HB := hid (below_grown (grownBy_trans hgr hg3) (Nat.le_trans hbase hb1.size) fun q hq => by cases hq; exact hgb)
        clear hO3 hO hg3 hgr
        go_wp2
        go_ret
        exact ⟨_, rfl, by rw [Hall.out]; exact hO4, (hb1.mono hbase).trans HB.out⟩
theorem below_setRow_new (w : World) (X : Obj) (cs : Array Value) : Below w.heap.size w ((w.alloc X).setRow w.heap.size cs) :=
  (below_alloc w X).trans (below_grown (row := some w.heap.size) ⟨rfl, rfl, rfl, by simp, fun k _ hk => setRow_other _ _ k _ (fun e => hk (by rw [e]))⟩ (by simp) fun k hk => by cases hk; exact Nat.le_refl _)
set_option maxHeartbeats 1000000 in
theorem only_any (ver next : Int) (ps : List Piece) (v : Value) (w : World) (hv : PcsAt w v ps) :
    Calls Tryz.prog 40 #[.agg #[.int .i64 ver, .int .i64 next, v]] w fun e w' => ∃ u, e = .returned u ∧ OwnPcs w' w.heap.size u (ps.filter (stIs 2)) ∧ Below w.heap.size w w' := by
  obtain ⟨a, cap, rfl, hn⟩ := hv.form
  go_enter Tryz.func40, Tryz.ntmps40
  go_wp2_with fail
  refine (in_fn_any 2 _).mono ?_
  rintro e w1 ⟨rfl, hb1, hc1, hs1⟩
  have n2 := cell_below hb1 (show (w.alloc (.cells #[.int .i64 ver, .int .i64 next, .slice a ps.length cap] 24)).cell? ⟨w.heap.size, 2, none⟩ = some (.slice a ps.length cap) by simp)
  have hv1 := (hv.mono (below_alloc w _)).mono hb1
  have hbw := (below_alloc w _).step hb1
  have hs1' : w.heap.size + 1 < w1.heap.size := by simpa using hs1
  clear hb1 hv
  go_wp2_with (refine wpList_store_one rfl 63 (.tmp 3) (.tmp 4) rfl w1.heap.size rfl rfl 63 _ (heap_alloc_new _ _) (by kernel_rfl) ?_; refine wpl_name fun w2 hw2 => ?_; have hb12 : Below w1.heap.size w1 w2 := (by rw [hw2]; exact below_setRow_new _ _ _); have hB1 : w2.cell? ⟨w1.heap.size, 0, none⟩ = some (.func (.func 91) #[] #[.pointer (some ⟨w.heap.size + 1, 0, none⟩)]) := (by rw [hw2]; unfold World.cell?; rw [show (⟨w1.heap.size, 0, none⟩ : Addr).block = w1.heap.size from rfl, setRow_heap _ _ _ _ _ _ (heap_alloc_new _ _)]; rfl); have hs2 : w1.heap.size < w2.heap.size := lt_of_cell hB1; clear hw2; have n2 := cell_below hb12 n2; have hB2 := cell_below hb12 hc1; have hv2 := hv1.mono hb12; have hbw2 := hbw.step hb12; clear hbw hv1 hc1 hb12)
  refine (clone_any ps _ _ hv2).mono ?_
  rintro e w3 ⟨u, rfl, hu, hb3⟩
  have hbw3 := hbw2.step hb3
  have D := hid (deleteFunc_any ps u _ _ _ w3 hb3.size hu hn (cell_below hb3 hB1) (cell_below hb3 (by simpa using hB2)) hs2 (by omega))
  clear hb3 hu hB1 hB2 hv2 hbw2 n2
  go_wp2_with fail
  refine D.out.mono ?_
  rintro e w4 ⟨u3, rfl, hu3, hb4⟩
  go_wp2
  go_ret
  exact ⟨_, rfl, hu3.base (by omega), hbw3.trans (hb4.mono (by omega))⟩
/-- The ends of what is there. -/
def spanM (ps : List Piece) : Int × Int := match ps.filter (stIs 2) with | [] => (0, 0) | p :: l => (p.base, (l.getLastD p).fin)
end Go.Proofs.YtcpecponmaakoaaGreatDoor
