/- Walks of the program: whose batches a mark's are. -/
import Derived.Test.YtceamgkifjmbcaaVMap
import Derived.Test.YtceamgkifjmbcaaMath4
import Derived.Maps.AppendAt
import Derived.Deep.RegionHeldLaw
namespace Go.Proofs.Ytceamgkifjmbcaa
open Go.RowKit Go.Wm
/-- What 'owns' keeps: two maps of rows; F, G answer their look-ups; no two keys' open rows are one, none is one of those that are out. -/
structure OwnsAt (w : World) (base mo mt n : Nat) (f g : Int → List Int) (F G : Int → Value) : Prop where
  mo : RowMap w mo n F
  mt : RowMap w mt n G
  rf : ∀ p, OwnInts w base (F p) (f p)
  rg : ∀ k, OwnInts w base (G k) (g k)
  df : ∀ p q, p ≠ q → (F p).ownBlock = none ∨ (F p).ownBlock ≠ (F q).ownBlock
  dg : ∀ p k, (F p).ownBlock = none ∨ (F p).ownBlock ≠ (G k).ownBlock
theorem OwnsAt.below {w w' : World} {base mo mt n : Nat} {f g : Int → List Int} {F G : Int → Value} (h : OwnsAt w base mo mt n f g F G) (hb : Below w.heap.size w w') : OwnsAt w' base mo mt n f g F G :=
  ⟨h.mo.below hb, h.mt.below hb, fun p => (h.rf p).below hb, fun k => (h.rg k).below hb, h.df, h.dg⟩
theorem RowMap.mono {w : World} {m n n' : Nat} {F : Int → Value} (h : RowMap w m n F) (hn : n ≤ n') : RowMap w m n' F := let ⟨D, h1, h2⟩ := h; ⟨D, h1.mono hn, h2⟩
/-- A mark: the open row of its producer is handed over. -/
theorem OwnsAt.mark {w w' : World} {base mo mt n : Nat} {f g : Int → List Int} {F G : Int → Value} (h : OwnsAt w base mo mt n f g F G) (p i : Int) (T : ∀ v l, OwnInts w base v l → OwnInts w' base v l)
    (hmo : RowMap w' mo n (fun q => if q = p then .slice none 0 0 else F q)) (hmt : RowMap w' mt (n + 1) (fun q => if q = i then F p else G q)) :
    OwnsAt w' base mo mt (n + 1) (fun q => if q = p then [] else f q) (fun k => if k = i then f p else g k) (fun q => if q = p then .slice none 0 0 else F q) (fun q => if q = i then F p else G q) := by
  refine ⟨hmo.mono (by omega), hmt, fun q => ?_, fun k => ?_, fun q r hqr => ?_, fun q k => ?_⟩
  · by_cases hq : q = p
    · simp only [if_pos hq]; exact OwnInts.nil _ _
    · simp only [if_neg hq]; exact T _ _ (h.rf q)
  · by_cases hk : k = i
    · simp only [if_pos hk]; exact T _ _ (h.rf p)
    · simp only [if_neg hk]; exact T _ _ (h.rg k)
  · by_cases hq : q = p
    · simp only [if_pos hq]; exact .inl rfl
    · simp only [if_neg hq]
      by_cases hr : r = p
      · simp only [if_pos hr]
        cases hb : (F q).ownBlock <;> simp [Value.ownBlock]
      · simp only [if_neg hr]; exact h.df q r hqr
  · by_cases hq : q = p
    · simp only [if_pos hq]; exact .inl rfl
    · simp only [if_neg hq]
      by_cases hk : k = i
      · simp only [if_pos hk]; exact h.df q p hq
      · simp only [if_neg hk]; exact h.dg q k
theorem ne_sym {a b : Option Nat} (h : a = none ∨ a ≠ b) : b = none ∨ b ≠ a := by
  rcases h with rfl | h
  · cases b <;> simp
  · exact .inr (Ne.symm h)
theorem own_new {w : World} {base N : Nat} {v : Value} {l : List Int} (h : OwnInts w base v l) (hN : w.heap.size ≤ N) : v.ownBlock = none ∨ v.ownBlock ≠ some N := by
  cases hb : v.ownBlock with
  | none => exact .inl rfl
  | some k =>
    refine .inr ?_
    have := (h.lt k hb).2
    simp; omega
/-- A batch of a transaction: it is appended to its producer's open row. -/
theorem OwnsAt.push {w w' : World} {base mo mt n : Nat} {f g : Int → List Int} {F G : Int → Value} (h : OwnsAt w base mo mt n f g F G) (p i : Int) (u : Value)
    (T : ∀ v l, OwnInts w base v l → (v.ownBlock = none ∨ v.ownBlock ≠ (F p).ownBlock) → OwnInts w' base v l) (hu : OwnInts w' base u (f p ++ [i]))
    (hloc : u.ownBlock = (F p).ownBlock ∨ ∃ N, u.ownBlock = some N ∧ w.heap.size ≤ N)
    (hmo : RowMap w' mo (n + 1) (fun q => if q = p then u else F q)) (hmt : RowMap w' mt n G) :
    OwnsAt w' base mo mt (n + 1) (fun q => if q = p then f p ++ [i] else f q) g (fun q => if q = p then u else F q) G := by
  refine ⟨hmo, hmt.mono (by omega), fun q => ?_, fun k => T _ _ (h.rg k) (ne_sym (h.dg p k)), fun q r hqr => ?_, fun q k => ?_⟩
  · by_cases hq : q = p
    · simp only [if_pos hq]; exact hu
    · simp only [if_neg hq]; exact T _ _ (h.rf q) (h.df q p hq)
  · by_cases hq : q = p
    · have hr : ¬ r = p := fun h' => hqr (hq.trans h'.symm)
      simp only [if_pos hq, if_neg hr]
      rcases hloc with e | ⟨N, e, hN⟩
      · rw [e]; exact h.df p r (fun h' => hr h'.symm)
      · rw [e]; exact ne_sym (own_new (h.rf r) hN)
    · simp only [if_neg hq]
      by_cases hr : r = p
      · simp only [if_pos hr]
        rcases hloc with e | ⟨N, e, hN⟩
        · rw [e]; exact h.df q p hq
        · rw [e]; exact own_new (h.rf q) hN
      · simp only [if_neg hr]; exact h.df q r hqr
  · by_cases hq : q = p
    · simp only [if_pos hq]
      rcases hloc with e | ⟨N, e, hN⟩
      · rw [e]; exact h.dg p k
      · rw [e]; exact ne_sym (own_new (h.rg k) hN)
    · simp only [if_neg hq]; exact h.dg q k
/-- 'append(out, i)' of one number; where the row lies behind it. -/
theorem wpList_append_int_at {P : Program} {w : World} {ops : Array Oper} {rest : List Oper} {o : Oper} {a : Act} {Q : Exit → Act → World → Prop} (hgd : o.guard = none) (s x : Operand)
    (ho : o.op = .call { callee := .builtin .append, args := #[s, x], argTypes := #[85, 85] })
    (ht : P.underlying 85 = some (.slice 3)) (hi : (P.info? 3).map (fun i => (i.zero, i.size, i.bytes)) = some (some (.int .i64 0), 1, 8))
    (base : Nat) (v : Value) (l : List Int) (i : Int) (hs : a.eval s = v) (hown : OwnInts w base v l)
    (g : Nat) (hx : a.eval x = .slice (some ⟨g, 0, none⟩) 1 1) (hr : w.cell? ⟨g, 0, none⟩ = some (.int .i64 i))
    (hn : l.length ≤ 1000000) (hbase : base ≤ w.heap.size)
    (h : ∀ v' w', OwnInts w' base v' (l ++ [i]) → w.grownBy w' v.ownBlock → (v'.ownBlock = v.ownBlock ∨ v'.ownBlock = some w.heap.size) → wpList P ops Q rest (a.put o.dst v') w') : wpList P ops Q (o :: rest) a w := by
  obtain ⟨i', hi', hz, hsize, hby⟩ := info_parts hi
  refine wpList_append_own_at w hgd s x 85 ho base 3 i' _ 1 8 ht hi' hz hsize hby rfl (by decide) v l.length (intCells l) hs hown ⟨g, 0, none⟩ 1 1 [.int .i64 i] hx rfl ?_ (by intro u hu; simp at hu; subst hu; rfl) (by simp only [maxLen]; omega) (by omega) hbase ?_
  · intro j u hj
    match j, hj with
    | 0, hj => simp at hj; subst hj; exact hr
    | j + 1, hj => simp at hj
  · intro v' w' ho' hg _ hl
    refine h v' w' ?_ hg hl
    unfold OwnInts
    simpa [intCells] using ho'
/-- The same, inside a region whose order is drawn. -/
theorem step_append_int_at {P : Program} {w : World} {ops : Array Oper} {o : Oper} {a : Act} {K : Act → World → Prop} {Q : Exit → Act → World → Prop} {E : Prop} (hgd : o.guard = none) (s x : Operand)
    (ho : o.op = .call { callee := .builtin .append, args := #[s, x], argTypes := #[85, 85] })
    (ht : P.underlying 85 = some (.slice 3)) (hi : (P.info? 3).map (fun i => (i.zero, i.size, i.bytes)) = some (some (.int .i64 0), 1, 8))
    (base : Nat) (v : Value) (l : List Int) (i : Int) (hs : a.eval s = v) (hown : OwnInts w base v l)
    (g : Nat) (hx : a.eval x = .slice (some ⟨g, 0, none⟩) 1 1) (hr : w.cell? ⟨g, 0, none⟩ = some (.int .i64 i))
    (hn : l.length ≤ 1000000) (hbase : base ≤ w.heap.size)
    (h : ∀ v' w', OwnInts w' base v' (l ++ [i]) → w.grownBy w' v.ownBlock → (v'.ownBlock = v.ownBlock ∨ v'.ownBlock = some w.heap.size) → K (a.put o.dst v') w') :
    if Region.wanted o (yielded ops a.tmps) = true then Oper.wp P o a w K Q else E := by
  have hw : Region.wanted o (yielded ops a.tmps) = true := by simp [Region.wanted, hgd]
  rw [if_pos hw]
  obtain ⟨i', hi', hz, hsize, hby⟩ := info_parts hi
  obtain ⟨v', w', hr', h2, h3, _, h5⟩ := run_append_own_at (P := P) w base 85 o.type 3 i' _ 1 8 ht hi' hz hsize hby rfl (by decide) v l.length (intCells l) hown ⟨g, 0, none⟩ 1 1 [.int .i64 i] rfl (by
    intro j u hj
    match j, hj with
    | 0, hj => simp at hj; subst hj; exact hr
    | j + 1, hj => simp at hj) (by intro u hu; simp at hu; subst hu; rfl) (by simp only [maxLen]; omega) (by omega) hbase
  unfold Oper.wp execOp
  simp only [ho, resolve, invoke, builtin, Sem.run_bind, Sem.run_pure, Result.andThen_ok, List.map_toArray, List.map_cons, List.map_nil, hs, hx, hr']
  refine h v' w' ?_ h3 h5
  unfold OwnInts
  simpa [intCells] using h2
/-- A store's run, as an equation. -/
theorem RowMap.update {w : World} {b n : Nat} {F : Int → Value} (hmap : RowMap w b n F) (hn : n ≤ 100000000000000) (k : Int) (u : Value) (hk : (Lit.int .i64 k).wf = true) (hu : rowR u = some (rowD u, [])) :
    ∃ w', (Instr.mapUpdate 83 (.map (some b)) (.int .i64 k) u).run Try.prog w = .ok () w' ∧ RowMap w' b (n + 1) (fun q => if q = k then u else F q) ∧ w.grownBy w' (some b) := by
  obtain ⟨D, h1, h2⟩ := hmap
  obtain ⟨w', hrun, hown, hgr⟩ := h1.update klawInt Try.underlying83 (by simp only [maxLen]; omega) (Go.Maps.keyOf_int_mk Try.underlying3 hk) hu
  refine ⟨w', hrun, ⟨_, hown, fun q hq => ?_⟩, hgr⟩
  by_cases hqk : q = k
  · subst hqk
    simp only [if_true]
    rw [Go.Maps.atKey_put_same h1.isMap (show WideAt.IsKeyLit (.int .i64 q) from trivial)]
    exact ⟨[], hu⟩
  · simp only [if_neg hqk]
    rw [Go.Maps.atKey_put_other (show Lit.int .i64 q ≠ Lit.int .i64 k by simp [hqk])]
    exact h2 q hq
def OwnsRes (bs : List Batch) (w : World) (e : Ending) (w' : World) : Prop := ∃ m n mo F G, e = .returned (.map (some m)) ∧ OwnsAt w' w.heap.size mo m n (openTo bs bs.length) (outTo bs bs.length) F G ∧ Below w.heap.size w w'
theorem wf_nat {i : Nat} (h : i ≤ 1000000) : (Lit.int .i64 (i : Int)).wf = true := WalkArith.wf_i64 (by omega)
set_option maxRecDepth 100000 in
set_option maxHeartbeats 4000000 in
theorem owns_any (bs : List Batch) (v : Value) (w : World) (hb : BatchesAt w v bs) (hp : ∀ x ∈ bs, (Lit.int .i64 x.pid).wf = true) :
    Calls Try.prog 44 #[v] w (OwnsRes bs w) := by
  obtain ⟨a, cap, rfl, hn, hs⟩ := hb
  have hmm := @run_makeMap Try.prog
  rcases hs.shape with ⟨b', o, rfl, hc⟩ | h0
  · have Hc := hid hc
    clear hs hc
    go_enter Try.func44, Try.ntmps44
    go_wp2
    refine wp_name fun W hW => ?_
    have hB : Below w.heap.size w W := by rw [hW]; exact (below_alloc _ _).step (below_alloc _ _)
    have hsz : w.heap.size + 2 ≤ W.heap.size := by rw [hW]; simp
    have h0 : OwnsAt W (w.heap.size + 2) w.heap.size (w.heap.size + 1) 0 (openTo bs 0) (outTo bs 0) (fun _ => .slice none 0 0) (fun _ => .slice none 0 0) := by
      refine ⟨?_, ?_, fun _ => OwnInts.nil _ _, fun _ => OwnInts.nil _ _, fun _ _ _ => .inl rfl, fun _ _ => .inl rfl⟩
      · rw [hW]; exact (RowMap.made w).below (below_alloc _ _)
      · rw [hW]; have := RowMap.made (w.alloc (.map #[] 0)); rw [size_alloc] at this; exact this
    clear hW hmm
    go_loopw [11] (fun q wr => ∃ i : Nat, i ≤ bs.length ∧ q = .int .i64 i ∧ Below w.heap.size w wr ∧ w.heap.size + 2 ≤ wr.heap.size ∧ ∃ F G, OwnsAt wr (w.heap.size + 2) w.heap.size (w.heap.size + 1) i (openTo bs i) (outTo bs i) F G) (fun q _ => bs.length - (intOf q).toNat)
    case atStart => exact ⟨0, by omega, rfl, hB, hsz, _, _, h0⟩
    case round =>
      obtain ⟨i, hi, rfl, hwr, hszr, F, G, hO⟩ := hrel
      by_cases hlt : i < bs.length
      · obtain ⟨x, hx⟩ : ∃ x, bs[i]? = some x := ⟨_, List.getElem?_eq_getElem hlt⟩
        obtain ⟨sv, hxa, hxr⟩ := Hc.out i hlt x hx
        obtain ⟨a2, cap2, rfl, hn2⟩ := hxr.form
        obtain ⟨e0, e1, e2, e3, e4, e5, e6, e7, e8, e9⟩ := hxa.mono hwr
        have hpw := hp x (List.mem_of_getElem? hx)
        have Hop := hid (openTo_succ bs i x hx)
        have Hou := hid (outTo_succ bs i x hx)
        have hwi := wf_nat (show i ≤ 1000000 by omega)
        clear hx hxa hxr h0
        rcases Bool.eq_false_or_eq_true (x.ctl != 0) with h1 | h1
        · have h1' : ¬ x.ctl = 0 := by simpa using h1
          simp only [if_neg h1'] at Hop Hou
          clear h1'
          have LK := fun X => (hO.below (below_alloc wr X)).mo.look x.pid hpw
          go_wp2_with (refine wpList_row_put rfl (.tmp 20) (.tmp 21) (.tmp 25) rfl (w.heap.size + 1) i G rfl (hO.below (below_alloc _ _)).mt (by omega) (i : Int) (F x.pid) rfl rfl hwi (rowR_own (hO.rf x.pid)) ?_)
          intro w2 hmt2 hg2
          have c4 : w2.cell? ⟨wr.heap.size, 4, none⟩ = some (.int .i64 x.pid) := hg2.cell (a := ⟨wr.heap.size, 4, none⟩) (by simp) (by simp; omega)
          have hmo2 := (hO.below (below_alloc wr (.cells #[.int .i64 x.base, .int .i64 x.last, .int .i64 x.frm, .int .i64 x.epoch, .int .i64 x.pid, .int .i64 x.gen, .int .i64 x.seq, .bool x.txn, .int .i64 x.ctl, .slice a2 x.recs.length cap2] 28))).mo.kept hg2 (by simp)
          clear LK
          go_wp2_with (refine wpList_row_del rfl (.tmp 26) (.tmp 28) rfl w.heap.size i F rfl hmo2 x.pid rfl hpw ?_)
          intro w3 hmo3 hg3
          have hB2 := below_grown (base := w.heap.size) hg2 (by simp; omega) (fun k hk => by cases hk; omega)
          have hB3 := below_grown (base := w.heap.size) hg3 (Nat.le_trans (by simp; omega) hg2.size) (fun k hk => by cases hk; omega)
          have hszz : wr.heap.size + 1 ≤ w2.heap.size := by have := hg2.size; simpa using this
          have hszz3 := hg3.size
          have hnew := hO.mark x.pid (i : Int) (fun v l hv => World.ownsRow.kept (World.ownsRow.kept (OwnInts.below hv (below_alloc wr _)) hg2 (own_not hv (by omega))) hg3 (own_not hv (by omega))) hmo3 (hmt2.kept hg3 (by simp))
          rw [← Hop.out, ← Hou.out] at hnew
          go_wp2
          go_roundw
          case rel => exact ⟨i + 1, by omega, by go_num, ((hwr.step (below_alloc _ _)).trans hB2).trans hB3, by omega, _, _, hnew⟩
          case measure => simp [intOf]; omega
        · have h1' : x.ctl = 0 := by simpa using h1
          simp only [if_pos h1'] at Hop Hou
          clear h1'
          rcases Bool.eq_false_or_eq_true x.txn with h2 | h2
          · simp only [h2, if_true] at Hop
            have LK := fun X => (hO.below (below_alloc wr X)).mo.look x.pid hpw
            have hlen := openTo_length bs i x.pid
            go_wp2
            refine wp_name fun W3 hW3 => ?_
            have hB3 : Below wr.heap.size wr W3 := by rw [hW3]; exact below_alloc _ _
            have hsz3 : wr.heap.size < W3.heap.size := by rw [hW3]; simp
            have k4 : W3.cell? ⟨wr.heap.size, 4, none⟩ = some (.int .i64 x.pid) := by rw [hW3]; simp
            have hO3 := (hO.below hB3).below ((Below.refl W3.heap.size W3).drew)
            have LK3 := hO3.mo.look x.pid hpw
            have hOX := fun X => ((hO.below hB3).below (below_alloc W3 X)).below (w' := (W3.alloc X).drew) ((Below.refl _ _).drew)
            have LKX := fun X => (hOX X).mo.look x.pid hpw
            have hB3d : Below wr.heap.size wr W3.drew := hB3.drew
            have hsz3d : wr.heap.size < W3.drew.heap.size := hsz3
            have k4d : W3.drew.cell? ⟨wr.heap.size, 4, none⟩ = some (.int .i64 x.pid) := k4
            clear hW3 LK e0 e1 e2 e3 e4 e5 e6 e7 e8 e9
            have hne1 : some wr.heap.size ≠ (F x.pid).ownBlock := by
              intro h; have := (hO.rf x.pid).lt _ h.symm; omega
            have hne2 : ∀ k, k < w.heap.size + 2 → some k ≠ (F x.pid).ownBlock := by
              intro k hk h; have := (hO.rf x.pid).lt _ h.symm; omega
            have hrowge : ∀ k, (F x.pid).ownBlock = some k → w.heap.size ≤ k := by
              intro k h; have := (hO.rf x.pid).lt _ h; omega
            have HO := hid hO
            have HOX := hid hOX
            have hszW : w.heap.size + 2 ≤ W3.heap.size := by omega
            clear hO hOX hO3
            have hs4 := hid (fun (X : Obj) (w4 : World) (hg : (W3.alloc X).drew.grownBy w4 (F x.pid).ownBlock) => hg.cell (a := ⟨wr.heap.size, 4, none⟩) (cell_alloc_old X k4) hne1)
            have hmk := hid (fun (X : Obj) (w4 : World) (hg : (W3.alloc X).drew.grownBy w4 (F x.pid).ownBlock) => (HOX.out X).mo.kept hg (hne2 _ (by omega)))
            have hne3 : some wr.heap.size ≠ some w.heap.size := by simp; omega
            have hi14 : i ≤ 100000000000000 := by omega
            go_region_held_law (fun w' => w'.cell? ⟨wr.heap.size, 4, none⟩ = some (.int .i64 x.pid)) (first | assumption | go_keep)
              (first
                | (refine step_append_int_at rfl (.tmp 38) (.tmp 40) rfl Try.underlying85 Try.inf3 (w.heap.size + 2) (F x.pid) (openTo bs i x.pid) (i : Int) rfl ((HOX.out _).rf x.pid) W3.heap.size rfl (by simp) (by omega) (by simp; omega) ?_; intro u w4 hown4 hg4 hloc4; have s4 := hs4.out _ _ hg4; obtain ⟨w5, hup5, hmo5, hg5⟩ := RowMap.update (hmk.out _ _ hg4) hi14 x.pid u hpw (rowR_own hown4); have s5 := hg5.cell (a := ⟨wr.heap.size, 4, none⟩) s4 hne3))
            all_goals
              have hszX : wr.heap.size < w4.heap.size := by have := hg4.size; simp at this; omega
              have hszY := hg5.size
              have hnew := HO.out.push x.pid (i : Int) u (fun v l hv hd => World.ownsRow.kept (World.ownsRow.kept (OwnInts.below (OwnInts.below (OwnInts.below hv hB3) (below_alloc W3 _)) ((Below.refl _ _).drew)) hg4 hd) hg5 (own_not hv (by omega))) (World.ownsRow.kept hown4 hg5 (own_not hown4 (by omega))) (hloc4.imp id (fun e => ⟨_, e, by simp; omega⟩)) hmo5 (((HOX.out _).mt.kept hg4 (hne2 _ (by omega))).kept hg5 (by simp))
              have hbel : Below w.heap.size w w5 := (((((hwr.step hB3).step (below_alloc W3 _)).drew).grown hg4 (by simp; omega) hrowge).grown hg5 (Nat.le_trans (by omega) (Nat.le_of_lt hszX)) (fun k hk => by cases hk; exact Nat.le_refl _))
              have Hnew := hid hnew
              clear LK3 LKX hup5 k4d hmo5 hnew
              go_wp2
              go_roundw
              case rel => exact ⟨i + 1, by omega, by go_num, hbel, by omega, _, _, by rw [Hop.out, Hou.out]; exact Hnew.out⟩
              case measure => simp [intOf]; omega
          · have hnew : OwnsAt wr (w.heap.size + 2) w.heap.size (w.heap.size + 1) (i + 1) (openTo bs (i + 1)) (outTo bs (i + 1)) F G := by
              rw [Hop.out, Hou.out, h2]
              simp only [Bool.false_eq_true, if_false]
              exact ⟨hO.mo.mono (by omega), hO.mt.mono (by omega), hO.rf, hO.rg, hO.df, hO.dg⟩
            clear hO
            go_wp2
            go_roundw
            case rel => exact ⟨i + 1, by omega, by go_num, hwr.step (below_alloc _ _), by simp; omega, _, _, hnew.below (below_alloc _ _)⟩
            case measure => simp [intOf]; omega
      · have hie : i = bs.length := by omega
        have Hi := hid hie; clear hie
        go_wp2
        go_ret
        refine ⟨w.heap.size + 1, bs.length, w.heap.size, F, G, rfl, ?_, hwr⟩
        rw [Hi.out] at hO
        exact ⟨hO.mo, hO.mt, fun p => ownsRow_mono (hO.rf p) (by omega), fun k => ownsRow_mono (hO.rg k) (by omega), hO.df, hO.dg⟩
  · obtain rfl : bs = [] := List.eq_nil_of_length_eq_zero h0
    clear hs h0 hn hp
    simp only [List.length_nil]
    generalize 0 + cap = c0
    have h1 := (RowMap.made w).below (below_alloc (w.alloc (.map #[] 0)) (.map #[] 0))
    have h2 := RowMap.made (w.alloc (.map #[] 0))
    rw [size_alloc] at h2
    go_enter Try.func44, Try.ntmps44
    go_wp2
    refine wp_loop_once ?_
    go_wp2
    go_ret
    exact ⟨w.heap.size + 1, 0, w.heap.size, fun _ => .slice none 0 0, fun _ => .slice none 0 0, rfl, ⟨h1, h2, fun _ => OwnInts.nil _ _, fun _ => OwnInts.nil _ _, fun _ _ _ => .inl rfl, fun _ _ => .inl rfl⟩, (below_alloc _ _).step (below_alloc _ _)⟩
end Go.Proofs.Ytceamgkifjmbcaa
