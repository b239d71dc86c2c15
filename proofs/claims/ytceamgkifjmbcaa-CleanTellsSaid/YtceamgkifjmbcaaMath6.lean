/- Plain law: what is not below stays as it was; as many records without keys are left as there were, of those that count. A row of batches whose records lie in an older world. -/
import Derived.Test.YtceamgkifjmbcaaW19
namespace Go.Proofs.Ytceamgkifjmbcaa
open Go.RowKit Go.Wm
def emptyTo (rs : List Rec) : Nat → Nat
  | 0 => 0
  | k + 1 => emptyTo rs k + (match rs[k]? with | some r => if r.key.toList.isEmpty = true then 1 else 0 | none => 0)
theorem emptyTo_succ (rs : List Rec) (k : Nat) (r : Rec) (h : rs[k]? = some r) : emptyTo rs (k + 1) = emptyTo rs k + if r.key.toList.isEmpty = true then 1 else 0 := by
  simp [emptyTo, h]
theorem emptyTo_le (rs : List Rec) : ∀ k, emptyTo rs k ≤ k
  | 0 => by simp [emptyTo]
  | k + 1 => by
    have := emptyTo_le rs k
    rw [emptyTo]
    repeat' split
    all_goals omega
def upTo (to : Int) (bs : List Batch) : Nat → List Batch
  | 0 => []
  | k + 1 => match bs[k]? with | some x => if (decide (to ≤ x.last)) = true then upTo to bs k ++ [x] else upTo to bs k | none => upTo to bs k
theorem upTo_succ (to : Int) (bs : List Batch) (k : Nat) (x : Batch) (h : bs[k]? = some x) : upTo to bs (k + 1) = if (decide (to ≤ x.last)) = true then upTo to bs k ++ [x] else upTo to bs k := by
  simp [upTo, h]
theorem upTo_le (to : Int) (bs : List Batch) : ∀ k, (upTo to bs k).length ≤ k
  | 0 => by simp [upTo]
  | k + 1 => by
    have := upTo_le to bs k
    rw [upTo]
    repeat' split
    all_goals first | omega | (simp; omega)
/-- The records without keys of the batches that are below and meet q. -/
def bareTo (to : Int) (q : Batch → Bool) (bs : List Batch) : Nat → Nat
  | 0 => 0
  | k + 1 => match bs[k]? with | some x => if (decide (to ≤ x.last)) = true then bareTo to q bs k else bareTo to q bs k + (if q x = true then emptyTo x.recs x.recs.length else 0) | none => bareTo to q bs k
theorem bareTo_succ (to : Int) (q : Batch → Bool) (bs : List Batch) (k : Nat) (x : Batch) (h : bs[k]? = some x) :
    bareTo to q bs (k + 1) = if (decide (to ≤ x.last)) = true then bareTo to q bs k else bareTo to q bs k + (if q x = true then emptyTo x.recs x.recs.length else 0) := by
  simp [bareTo, h]
def isData (x : Batch) : Bool := x.ctl == 0
def isBare (l : List Gone) (x : Batch) : Bool := (x.ctl == 0) && !l.any (goneR x)
/-! appended one by one -/
theorem upTo_append (to : Int) (bs : List Batch) (y : Batch) : ∀ k, k ≤ bs.length → upTo to (bs ++ [y]) k = upTo to bs k
  | 0, _ => rfl
  | k + 1, h => by rw [upTo, upTo, List.getElem?_append_left (by omega), upTo_append to bs y k (by omega)]
theorem bareTo_append (to : Int) (q : Batch → Bool) (bs : List Batch) (y : Batch) : ∀ k, k ≤ bs.length → bareTo to q (bs ++ [y]) k = bareTo to q bs k
  | 0, _ => rfl
  | k + 1, h => by rw [bareTo, bareTo, List.getElem?_append_left (by omega), bareTo_append to q bs y k (by omega)]
theorem upTo_snoc (to : Int) (bs : List Batch) (y : Batch) : upTo to (bs ++ [y]) (bs ++ [y]).length = if (decide (to ≤ y.last)) = true then upTo to bs bs.length ++ [y] else upTo to bs bs.length := by
  rw [show (bs ++ [y]).length = bs.length + 1 from by simp, upTo_succ to _ bs.length y (by simp), upTo_append to bs y bs.length (Nat.le_refl _)]
theorem bareTo_snoc (to : Int) (q : Batch → Bool) (bs : List Batch) (y : Batch) :
    bareTo to q (bs ++ [y]) (bs ++ [y]).length = if (decide (to ≤ y.last)) = true then bareTo to q bs bs.length else bareTo to q bs bs.length + (if q y = true then emptyTo y.recs y.recs.length else 0) := by
  rw [show (bs ++ [y]).length = bs.length + 1 from by simp, bareTo_succ to q _ bs.length y (by simp), bareTo_append to q bs y bs.length (Nat.le_refl _)]
theorem emptyTo_append (rs : List Rec) (r : Rec) : ∀ k, k ≤ rs.length → emptyTo (rs ++ [r]) k = emptyTo rs k
  | 0, _ => rfl
  | k + 1, h => by rw [emptyTo, emptyTo, List.getElem?_append_left (by omega), emptyTo_append rs r k (by omega)]
theorem emptyTo_snoc (rs : List Rec) (r : Rec) : emptyTo (rs ++ [r]) (rs ++ [r]).length = emptyTo rs rs.length + if r.key.toList.isEmpty = true then 1 else 0 := by
  rw [show (rs ++ [r]).length = rs.length + 1 from by simp, emptyTo_succ _ rs.length r (by simp), emptyTo_append rs r rs.length (Nat.le_refl _)]
theorem empty_left (bs : List Batch) (l : List Gone) (to now keep : Int) (i : Nat) (x : Batch) (hc : countsB l to x = true) : ∀ k, k ≤ x.recs.length → emptyTo (leftTo bs l to now keep i x k) (leftTo bs l to now keep i x k).length = emptyTo x.recs k
  | 0, _ => rfl
  | k + 1, h => by
    have ih := empty_left bs l to now keep i x hc k (by omega)
    have hk : x.recs[k]? = some x.recs[k] := List.getElem?_eq_getElem (by omega)
    rw [leftTo_succ bs l to now keep i x k (by omega), emptyTo_succ _ k _ hk]
    by_cases hs : staysB bs l to now keep i k x x.recs[k] = true
    · rw [if_pos hs, emptyTo_snoc, ih]
    · rw [if_neg hs, ih]
      have he : ¬ x.recs[k].key.toList.isEmpty = true := by
        intro he
        apply hs
        simp only [staysB, hc, he, Bool.true_and, Bool.true_or]
      rw [if_neg he]; rfl
theorem keeps_law (bs : List Batch) (l : List Gone) (to now keep : Int) : ∀ i, i ≤ bs.length →
    upTo to (cleanTo bs l to now keep i) (cleanTo bs l to now keep i).length = upTo to bs i ∧ bareTo to isData (cleanTo bs l to now keep i) (cleanTo bs l to now keep i).length = bareTo to (isBare l) bs i
  | 0, _ => ⟨rfl, rfl⟩
  | i + 1, h => by
    obtain ⟨ih1, ih2⟩ := keeps_law bs l to now keep i (by omega)
    obtain ⟨x, hx⟩ : ∃ x, bs[i]? = some x := ⟨_, List.getElem?_eq_getElem (by omega)⟩
    rw [cleanTo_succ bs l to now keep i x hx, upTo_succ to bs i x hx, bareTo_succ to _ bs i x hx]
    by_cases h1 : to ≤ x.last
    · have hs : batchStaysB bs l to now keep i x = true := by simp [batchStaysB, h1]
      have hr : cleanedRecs bs l to now keep i x = x.recs := by
        have : ¬ x.last < to := by omega
        simp [cleanedRecs, this]
      rw [if_pos hs, upTo_snoc, bareTo_snoc]
      simp only [h1, decide_true, if_true]
      rw [ih1, ih2, hr]
      exact ⟨rfl, rfl⟩
    · have hlt : x.last < to := by omega
      have h1' : decide (to ≤ x.last) = false := by simpa using hlt
      -- what is left of the batch counts as the batch did
      have key : (if isData { x with recs := cleanedRecs bs l to now keep i x } = true then emptyTo (cleanedRecs bs l to now keep i x) (cleanedRecs bs l to now keep i x).length else 0) = (if isBare l x = true then emptyTo x.recs x.recs.length else 0) := by
        by_cases hc : x.ctl = 0
        · have hcl : cleanedRecs bs l to now keep i x = leftG bs l to now keep i x := by simp [cleanedRecs, hlt, hc]
          have hg : l.any (goneR x) = (x.txn && l.any (goneP x)) := any_goneR x l (by simp [hc])
          have hcount : countsB l to x = isBare l x := by
            simp [countsB, isBare, hlt, hc, hg]
          rw [hcl]
          have hd : isData { x with recs := leftG bs l to now keep i x } = true := by simp [isData, hc]
          rw [if_pos hd]
          by_cases hb : isBare l x = true
          · rw [if_pos hb]
            exact empty_left bs l to now keep i x (by rw [hcount]; exact hb) _ (Nat.le_refl _)
          · rw [if_neg hb]
            have : leftG bs l to now keep i x = [] := leftTo_none bs l to now keep i x (by rw [hcount]; simpa using hb) _
            rw [this]; rfl
        · have hd : ¬ isData { x with recs := cleanedRecs bs l to now keep i x } = true := by simp [isData, hc]
          have hb : ¬ isBare l x = true := by simp [isBare, hc]
          rw [if_neg hd, if_neg hb]
      by_cases hs : batchStaysB bs l to now keep i x = true
      · rw [if_pos hs, upTo_snoc, bareTo_snoc]
        simp only [h1']
        simp only [Bool.false_eq_true, if_false]
        rw [ih1, ih2, key]
        exact ⟨rfl, rfl⟩
      · rw [if_neg hs]
        simp only [h1']
        simp only [Bool.false_eq_true, if_false]
        rw [ih1, ih2]
        refine ⟨rfl, ?_⟩
        have h0 : (if isBare l x = true then emptyTo x.recs x.recs.length else 0) = 0 := by
          rw [← key]
          by_cases hc : x.ctl = 0
          · have hcl : cleanedRecs bs l to now keep i x = leftG bs l to now keep i x := by simp [cleanedRecs, hlt, hc]
            have hz : (leftG bs l to now keep i x).length = 0 := by
              have hs' : batchStaysB bs l to now keep i x = false := by simpa using hs
              simp [batchStaysB, h1', hc, hasLeft_nat bs l to now keep i x hx] at hs'
              simpa using hs'.2
            rw [hcl, hz]
            simp [emptyTo]
          · have hd : ¬ isData { x with recs := cleanedRecs bs l to now keep i x } = true := by simp [isData, hc]
            rw [if_neg hd]
        rw [h0]; rfl
/-! a row of batches, their records in an older world -/
def RowBats (w w0 : World) (v : Value) (xs : List Batch) : Prop :=
  Below w0.heap.size w0 w ∧ ∃ ps : List (Batch × Value), ps.map (·.1) = xs ∧ w.ownsRow w0.heap.size 28 10 v ps.length (batCells ps) ∧ ∀ p ∈ ps, RecsAt w0 p.2 p.1.recs
theorem RowBats.nil {w w0 : World} (h : Below w0.heap.size w0 w) : RowBats w w0 (.slice none 0 0) [] := ⟨h, [], rfl, World.ownsRow_nil w _ 28 10, by simp⟩
theorem RowBats.below {w w' w0 : World} {v : Value} {xs : List Batch} (h : RowBats w w0 v xs) (hb : Below w.heap.size w w') : RowBats w' w0 v xs :=
  let ⟨h0, ps, h1, h2, h3⟩ := h; ⟨h0.step hb, ps, h1, ownsRow_below h2 hb, h3⟩
theorem RowBats.at {w w0 : World} {v : Value} {xs : List Batch} (h : RowBats w w0 v xs) (hs : xs.length ≤ 1000000) : BatchesAt w v xs := by
  obtain ⟨h0, ps, hps, h, hr⟩ := h
  have hlen : ps.length = xs.length := by rw [← hps, List.length_map]
  obtain ⟨h1, h2⟩ := id h
  rcases h2 with ⟨rfl, h0⟩ | ⟨g, cap, cur, rfl, hg, hb, hn, hm, hc, ht⟩
  · have : xs = [] := List.eq_nil_of_length_eq_zero (by omega)
    subst this
    exact ⟨none, 0, rfl, by simp, fun k hk => by simp at hk⟩
  · refine ⟨_, cap - ps.length, by rw [← hlen]; congr 1; omega, hs, fun k hk => ⟨g, 0, rfl, fun x hx => ?_⟩⟩
    have hk' : k < ps.length := by omega
    have hcell : ∀ j u, (batCells ps)[j]? = some u → w.cell? ⟨g, j, none⟩ = some u := by
      intro j u hj
      have := World.ownsRow.cells (v := .slice (some ⟨g, 0, none⟩) ps.length cap) h rfl j u hj
      have e : (⟨g, 0, none⟩ : Addr).add j = ⟨g, j, none⟩ := by simp only [Addr.add]; split <;> simp_all
      rwa [e] at this
    have hx' : ps[k].1 = x := by
      rw [List.getElem?_eq_getElem hk] at hx
      rw [← Option.some.inj hx]
      simp [← hps]
    have hf := fun j hj => flat_get (fun p : Batch × Value => p.1.cells p.2) 10 (fun _ => rfl) ps k j hk' hj
    have f0 := hcell _ _ (hf 0 (by omega))
    have f1 := hcell _ _ (hf 1 (by omega))
    have f2 := hcell _ _ (hf 2 (by omega))
    have f3 := hcell _ _ (hf 3 (by omega))
    have f4 := hcell _ _ (hf 4 (by omega))
    have f5 := hcell _ _ (hf 5 (by omega))
    have f6 := hcell _ _ (hf 6 (by omega))
    have f7 := hcell _ _ (hf 7 (by omega))
    have f8 := hcell _ _ (hf 8 (by omega))
    have f9 := hcell _ _ (hf 9 (by omega))
    rw [hx'] at f0 f1 f2 f3 f4 f5 f6 f7 f8
    simp only [Nat.zero_add]
    have hrec := hr ps[k] (List.getElem_mem _)
    rw [hx'] at hrec
    exact ⟨ps[k].2, ⟨f0, f1, f2, f3, f4, f5, f6, f7, f8, f9⟩, hrec.mono h0⟩
/-- 'append(out, x)' of one batch whose records lie in an older world. -/
theorem wpList_append_row {P : Program} {w w0 : World} {ops : Array Oper} {rest : List Oper} {o : Oper} {a : Act} {Q : Exit → Act → World → Prop} (hgd : o.guard = none) (s x : Operand)
    (ho : o.op = .call { callee := .builtin .append, args := #[s, x], argTypes := #[22, 22] })
    (ht : P.underlying 22 = some (.slice 28)) (hi : (P.info? 28).map (fun i => (i.zero, i.size, i.bytes)) = some (some (.agg #[.int .i64 0, .int .i64 0, .int .i64 0, .int .i64 0, .int .i64 0, .int .i64 0, .int .i64 0, .bool false, .int .i64 0, .slice none 0 0]), 10, 96))
    (v : Value) (xs : List Batch) (y : Batch) (sv : Value) (hs : a.eval s = v) (hown : RowBats w w0 v xs)
    (g : Nat) (hx : a.eval x = .slice (some ⟨g, 0, none⟩) 1 1) (hy : BatchAt w g 0 y sv) (hyr : RecsAt w0 sv y.recs)
    (hn : xs.length ≤ 1000000)
    (h : ∀ v' w', RowBats w' w0 v' (xs ++ [y]) → Below w0.heap.size w w' → w.grownBy w' v.ownBlock → wpList P ops Q rest (a.put o.dst v') w') : wpList P ops Q (o :: rest) a w := by
  obtain ⟨hb0, ps, hps, hown, hrec⟩ := hown
  have hlen : ps.length = xs.length := by rw [← hps, List.length_map]
  obtain ⟨r0, r1, r2, r3, r4, r5, r6, r7, r8, r9⟩ := hy
  have hone : sv.oneCell' = true := by
    obtain ⟨a, cap, rfl, _⟩ := hyr; rfl
  refine wpList_append1 hgd s x 22 ho w0.heap.size 28 _ 10 96 ht hi rfl (by decide) v ps.length (batCells ps) hs hown g (y.cells sv) hx rfl ?_ ?_ (by omega) (by decide) hb0.size ?_
  · intro j u hj
    match j, hj with
    | 0, hj => simp [Batch.cells] at hj; subst hj; exact r0
    | 1, hj => simp [Batch.cells] at hj; subst hj; exact r1
    | 2, hj => simp [Batch.cells] at hj; subst hj; exact r2
    | 3, hj => simp [Batch.cells] at hj; subst hj; exact r3
    | 4, hj => simp [Batch.cells] at hj; subst hj; exact r4
    | 5, hj => simp [Batch.cells] at hj; subst hj; exact r5
    | 6, hj => simp [Batch.cells] at hj; subst hj; exact r6
    | 7, hj => simp [Batch.cells] at hj; subst hj; exact r7
    | 8, hj => simp [Batch.cells] at hj; subst hj; exact r8
    | 9, hj => simp [Batch.cells] at hj; subst hj; exact r9
    | j + 10, hj => simp [Batch.cells] at hj
  · intro u hu
    simp [Batch.cells] at hu
    rcases hu with rfl | rfl | rfl | rfl | rfl | rfl | rfl | rfl | rfl | rfl <;> first | rfl | exact hone
  · intro v' w' ho' hb hg
    refine h v' w' ⟨hb0.trans hb, ps ++ [(y, sv)], by simp [hps], by simpa [batCells] using ho', ?_⟩ hb hg
    intro p hp
    rcases List.mem_append.1 hp with hp | hp
    · exact hrec p hp
    · simp at hp
      subst hp
      exact hyr
end Go.Proofs.Ytceamgkifjmbcaa
