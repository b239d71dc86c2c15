/- What the program leaves of each batch, as plain functions; that it is what the document defines. -/
import Derived.Test.YtceamgkifjmbcaaW14
import Derived.Test.YtceamgkifjmbcaaW10
namespace Go.Proofs.Ytceamgkifjmbcaa
open Go.RowKit Go.Wm
def pcleanedRecs (l : List Gone) (to : Int) (f : ByteArray → Int × Int) (now keep : Int) (i : Nat) (x : Batch) : List Rec :=
  if (decide (to ≤ x.last)) = true then x.recs else if (x.ctl == 0) = true then pleftG l to f now keep i x else x.recs
def pstayB (bs : List Batch) (l : List Gone) (to : Int) (f : ByteArray → Int × Int) (now keep e : Int) (i : Nat) (x : Batch) : Bool :=
  decide (to ≤ x.last) || (((i : Int) == e) || (if (x.ctl == 0) = true then decide (0 < (pleftG l to f now keep i x).length) else (outTo bs bs.length (i : Int)).any (pHas bs l to f now keep)))
def pkeep (bs : List Batch) (l : List Gone) (to : Int) (f : ByteArray → Int × Int) (now keep e : Int) (i : Nat) (x : Batch) : Option Batch :=
  if pstayB bs l to f now keep e i x = true then some { x with recs := pcleanedRecs l to f now keep i x } else none
def pallAt (bs : List Batch) (l : List Gone) (to : Int) (f : ByteArray → Int × Int) (now keep e : Int) (i : Nat) : Option Batch :=
  match bs[i]? with | some x => pkeep bs l to f now keep e i x | none => none
def pcleanTo (bs : List Batch) (l : List Gone) (to : Int) (f : ByteArray → Int × Int) (now keep e : Int) : Nat → List Batch
  | 0 => []
  | i + 1 => match pallAt bs l to f now keep e i with
    | some y => pcleanTo bs l to f now keep e i ++ [y]
    | none => pcleanTo bs l to f now keep e i
/-! the program's is the document's -/
theorem lastInTo_nonneg (key : ByteArray) (i : Nat) (rs : List Rec) (s : Int × Int) : ∀ k, (∃ j < k, ∃ r, rs[j]? = some r ∧ r.key = key) → 0 ≤ (lastInTo key i rs s k).1
  | 0, h => by obtain ⟨j, hj, _⟩ := h; omega
  | k + 1, ⟨j, hj, r, hr, hk⟩ => by
    rw [lastInTo]
    by_cases hjk : j = k
    · subst hjk
      rw [hr]; simp [hk]
    · have ih := lastInTo_nonneg key i rs s k ⟨j, by omega, r, hr, hk⟩
      split
      · split
        · simp
        · exact ih
      · exact ih
theorem lastInTo_keep (key : ByteArray) (i : Nat) (rs : List Rec) (s : Int × Int) (h : 0 ≤ s.1) : ∀ k, 0 ≤ (lastInTo key i rs s k).1
  | 0 => h
  | k + 1 => by
    have ih := lastInTo_keep key i rs s h k
    rw [lastInTo]
    split
    · split
      · simp
      · exact ih
    · exact ih
theorem lastTo_nonneg (bs : List Batch) (l : List Gone) (to : Int) (key : ByteArray) (i : Nat) (x : Batch) (hi : bs[i]? = some x) (hc : countsB l to x = true) (j : Nat) (r : Rec) (hr : x.recs[j]? = some r) (hk : r.key = key) :
    ∀ n, i < n → 0 ≤ (lastTo bs l to key n).1
  | 0, h => by omega
  | n + 1, h => by
    by_cases hin : i = n
    · subst hin
      rw [lastTo, hi]
      simp only [hc, if_true]
      exact lastInTo_nonneg _ _ _ _ _ ⟨j, (List.getElem?_eq_some_iff.1 hr).1, r, hr, hk⟩
    · have ih := lastTo_nonneg bs l to key i x hi hc j r hr hk n (by omega)
      rw [lastTo]
      split
      · split
        · exact lastInTo_keep _ _ _ _ ih _
        · exact ih
      · exact ih
theorem isEmpty_iff (k : ByteArray) : k.toList.isEmpty = true ↔ k = ⟨#[]⟩ := by
  have h0 : (⟨#[]⟩ : ByteArray).toList = [] := by rw [ByteArray.toList_eq]
  rw [List.isEmpty_iff]
  constructor
  · intro h; exact toList_inj.1 (h.trans h0.symm)
  · intro h; rw [h]; exact h0
theorem pstays_eq (bs : List Batch) (l : List Gone) (to now keep : Int) (i k : Nat) (x : Batch) (hi : bs[i]? = some x) (hc : countsB l to x = true) (r : Rec) (hr : x.recs[k]? = some r) :
    pstaysB (lookF bs l to) now keep i k r = staysB bs l to now keep i k x r := by
  unfold pstaysB staysB
  rw [hc, Bool.true_and]
  cases he : r.key.toList.isEmpty with
  | true => simp
  | false =>
    have hne : ¬ r.key = ⟨#[]⟩ := by intro h; rw [← isEmpty_iff, he] at h; cases h
    have hnn := lastTo_nonneg bs l to r.key i x hi hc k r hr rfl bs.length (List.getElem?_eq_some_iff.1 hi).1
    have hz : lookF bs l to r.key = lastG bs l to r.key := by
      unfold lookF
      rw [if_neg hne]
      unfold zOf
      rw [if_neg]
      intro h
      have h1 : (lastTo bs l to r.key bs.length).1 = -1 := by
        have := congrArg Prod.fst h; exact this
      omega
    rw [hz]
    generalize lastG bs l to r.key = p
    have hd : decide (keep ≤ wrap64 (now - r.stamp)) = !decide (wrap64 (now - r.stamp) < keep) := by
      rw [Bool.eq_iff_iff]; simp
    rw [hd]
    cases r.dead <;> cases decide (wrap64 (now - r.stamp) < keep) <;> simp
theorem pleftTo_eq (bs : List Batch) (l : List Gone) (to now keep : Int) (i : Nat) (x : Batch) (hi : bs[i]? = some x) (hc : countsB l to x = true) : ∀ k, pleftTo (lookF bs l to) now keep i x k = leftTo bs l to now keep i x k
  | 0 => rfl
  | k + 1 => by
    rw [pleftTo, leftTo, pleftTo_eq bs l to now keep i x hi hc k]
    cases hr : x.recs[k]? with
    | none => rfl
    | some r => simp only [pstays_eq bs l to now keep i k x hi hc r hr]
theorem leftTo_none (bs : List Batch) (l : List Gone) (to now keep : Int) (i : Nat) (x : Batch) (hc : countsB l to x = false) : ∀ k, leftTo bs l to now keep i x k = []
  | 0 => rfl
  | k + 1 => by
    rw [leftTo, leftTo_none bs l to now keep i x hc k]
    cases hr : x.recs[k]? with
    | none => rfl
    | some r => simp [staysB, hc]
theorem pleftG_eq (bs : List Batch) (l : List Gone) (to now keep : Int) (i : Nat) (x : Batch) (hi : bs[i]? = some x) : pleftG l to (lookF bs l to) now keep i x = leftG bs l to now keep i x := by
  unfold pleftG leftG
  cases hc : countsB l to x with
  | true => simp [pleftTo_eq bs l to now keep i x hi hc]
  | false => simp [leftTo_none bs l to now keep i x hc]
theorem pHas_eq (bs : List Batch) (l : List Gone) (to now keep : Int) (k : Int) : pHas bs l to (lookF bs l to) now keep k = hasLeft bs l to now keep k := by
  unfold pHas hasLeft leftAt
  cases h : bs[k.toNat]? with
  | none => simp
  | some y => simp [pleftG_eq bs l to now keep k.toNat y h]
theorem endLast_lt (bs : List Batch) (to : Int) : ∀ n, endLast bs to n < n
  | 0 => by simp [endLast]
  | n + 1 => by
    have ih := endLast_lt bs to n
    rw [endLast]
    split
    · split <;> omega
    · omega
/-- The last batch that is below is where all behind it are not. -/
theorem endLast_iff (bs : List Batch) (to : Int) (i : Nat) (x : Batch) (hi : bs[i]? = some x) (hx : x.last < to) : ∀ n, i < n → (((i : Int) = endLast bs to n) ↔ ∀ j y, i < j → j < n → bs[j]? = some y → to ≤ y.last)
  | 0, h => by omega
  | n + 1, h => by
    rw [endLast]
    by_cases hin : i = n
    · subst hin
      rw [hi]
      simp only [hx, if_true, true_iff]
      intro j y h1 h2; omega
    · have ih := endLast_iff bs to i x hi hx n (by omega)
      have hlt := endLast_lt bs to n
      cases hn : bs[n]? with
      | none =>
        simp only
        rw [ih]
        constructor
        · intro hall j y h1 h2 hy
          by_cases hj : j = n
          · subst hj; rw [hn] at hy; cases hy
          · exact hall j y h1 (by omega) hy
        · intro hall j y h1 h2 hy; exact hall j y h1 (by omega) hy
      | some z =>
        simp only
        split
        · rename_i hz
          constructor
          · intro h'; omega
          · intro hall; have := hall n z (by omega) (by omega) hn; omega
        · rename_i hz
          rw [ih]
          constructor
          · intro hall j y h1 h2 hy
            by_cases hj : j = n
            · subst hj; rw [hn] at hy; cases hy; omega
            · exact hall j y h1 (by omega) hy
          · intro hall j y h1 h2 hy; exact hall j y h1 (by omega) hy
theorem endB_iff (bs : List Batch) (to : Int) (i : Nat) : endB bs to i = true ↔ ∀ j y, i < j → j < bs.length → bs[j]? = some y → to ≤ y.last := by
  unfold endB
  rw [List.all_eq_true]
  constructor
  · intro h j y h1 h2 hy
    have hm : y ∈ bs.drop (i + 1) := by
      rw [List.mem_iff_getElem?]
      exact ⟨j - (i + 1), by rw [List.getElem?_drop, show i + 1 + (j - (i + 1)) = j from by omega, hy]⟩
    exact of_decide_eq_true (h y hm)
  · intro h y hy
    rw [List.mem_iff_getElem?] at hy
    obtain ⟨k, hk⟩ := hy
    rw [List.getElem?_drop] at hk
    exact decide_eq_true (h (i + 1 + k) y (by omega) (List.getElem?_eq_some_iff.1 hk).1 hk)
theorem pstay_eq (bs : List Batch) (l : List Gone) (to now keep : Int) (i : Nat) (x : Batch) (hi : bs[i]? = some x) :
    pstayB bs l to (lookF bs l to) now keep (endLast bs to bs.length) i x = batchStaysB bs l to now keep i x := by
  unfold pstayB batchStaysB
  by_cases h1 : to ≤ x.last
  · simp [h1]
  · have hx : x.last < to := by omega
    have hend : ((i : Int) == endLast bs to bs.length) = endB bs to i := by
      rw [Bool.eq_iff_iff, endB_iff, ← endLast_iff bs to i x hi hx bs.length (List.getElem?_eq_some_iff.1 hi).1]
      simp
    rw [hend]
    by_cases hc : x.ctl = 0
    · have hl : hasLeft bs l to now keep (i : Int) = decide (0 < (leftG bs l to now keep i x).length) := hasLeft_nat bs l to now keep i x hi
      simp [hc, hl, pleftG_eq bs l to now keep i x hi]
    · have hown := outTo_of bs i x hi hc bs.length (List.getElem?_eq_some_iff.1 hi).1
      have hf : pHas bs l to (lookF bs l to) now keep = hasLeft bs l to now keep := by funext k; exact pHas_eq bs l to now keep k
      simp [hc, hown, hf]
theorem pcleaned_eq (bs : List Batch) (l : List Gone) (to now keep : Int) (i : Nat) (x : Batch) (hi : bs[i]? = some x) :
    pcleanedRecs l to (lookF bs l to) now keep i x = cleanedRecs bs l to now keep i x := by
  unfold pcleanedRecs cleanedRecs
  rw [pleftG_eq bs l to now keep i x hi]
  by_cases h1 : to ≤ x.last
  · have : ¬ x.last < to := by omega
    simp [h1, this]
  · have : x.last < to := by omega
    simp [h1, this]
theorem pcleanTo_eq (bs : List Batch) (l : List Gone) (to now keep : Int) : ∀ i, pcleanTo bs l to (lookF bs l to) now keep (endLast bs to bs.length) i = cleanTo bs l to now keep i
  | 0 => rfl
  | i + 1 => by
    rw [pcleanTo, cleanTo, pcleanTo_eq bs l to now keep i]
    unfold pallAt
    cases hi : bs[i]? with
    | none => rfl
    | some x =>
      simp only [pkeep, pstay_eq bs l to now keep i x hi, pcleaned_eq bs l to now keep i x hi]
      cases batchStaysB bs l to now keep i x <;> simp
end Go.Proofs.Ytceamgkifjmbcaa
