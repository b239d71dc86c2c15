/- Plain laws: a step of the law's keeps a manifest that may be. -/
import Derived.Test.YtcpecponmaakoaaGreatDoorZ1
namespace Go.Proofs.YtcpecponmaakoaaGreatDoor
open Go.RowKit Go.Wm
theorem tab2 (s : Int) : tbl.any (isPair s 2) = decide (s = 1) := by
  simp only [tbl, List.any_cons, List.any_nil, isPair]
  by_cases h : s = 1 <;> simp [h]
theorem tab3 (s : Int) : tbl.any (isPair s 3) = (decide (s = 1) || decide (s = 2)) := by
  simp only [tbl, List.any_cons, List.any_nil, isPair]
  by_cases h : s = 1
  · simp [h]
  · by_cases h2 : s = 2 <;> simp [h, h2]
theorem tab4 (s : Int) : tbl.any (isPair s 4) = decide (s = 3) := by
  simp only [tbl, List.any_cons, List.any_nil, isPair]
  by_cases h : s = 3 <;> simp [h]
theorem beginE_ok {ver next base fin size : Int} {ps : List Piece} (h : beginE ver next base fin size ps = 0) :
    (0 ≤ base ∧ base ≤ 1099511627776) ∧ (0 ≤ fin ∧ fin ≤ 1099511627776) ∧ (0 ≤ size ∧ size ≤ 1099511627776) ∧ base < fin ∧ (∀ p ∈ ps, stIs 1 p = false) ∧ (spanP ps).2 ≤ base ∧ ps.length ≠ 256 ∧ ver ≠ 1099511627776 ∧ next ≠ 1099511627776 := by
  unfold beginE at h
  split at h
  · omega
  · next h1 =>
    split at h
    · omega
    · next h2 =>
      split at h
      · omega
      · next h3 =>
        split at h
        · omega
        · next h4 =>
          rw [not_or, not_or, not_or] at h1
          rw [not_or, not_or] at h4
          refine ⟨beyond_false (by simpa using h1.1), beyond_false (by simpa using h1.2.1), beyond_false (by simpa using h1.2.2.1), by omega, ?_, by omega, h4.1, h4.2.1, h4.2.2⟩
          intro p hp
          have : ps.any (stIs 1) = false := by simpa using h2
          rw [List.any_eq_false] at this
          simpa using this p hp
theorem begin_good {ver next base fin size sum : Int} {ps : List Piece} (hc : checkM ver next ps = 0) (h : beginE ver next base fin size ps = 0) : checkM (ver + 1) (next + 1) (ps ++ [⟨next, base, fin, size, sum, 1⟩]) = 0 := by
  obtain ⟨⟨v0, v1⟩, ⟨n0, n1⟩, hlen, _, hk⟩ := checkM_ok hc
  obtain ⟨hb, hf, hs, hbf, hno, hsp, hl, hv, hn⟩ := beginE_ok h
  refine checkM_mk (by omega) (by omega) (by rw [List.length_append, List.length_singleton]; omega) ?_
  refine chk_snoc _ (badP_iff.2 ⟨?_, ?_, hb, hf, hs, hbf⟩) rfl ps (by omega) hno (by rw [endA_span]; exact hsp) hk
  · show next - 1 < next; omega
  · show next < next + 1; omega
theorem beginM_ok {ver next base fin size sum : Int} {ps : List Piece} (hc : checkM ver next ps = 0) (h : (beginM ver next base fin size sum ps).2.2 = 0) :
    beginE ver next base fin size ps = 0 ∧ beginM ver next base fin size sum ps = ((ver + 1, next + 1, ps ++ [⟨next, base, fin, size, sum, 1⟩]), next, 0) := by
  unfold beginM at h ⊢
  rw [if_neg (by simp [hc])] at h ⊢
  by_cases he : beginE ver next base fin size ps = 0
  · rw [if_neg (by simp [he])]
    exact ⟨he, rfl⟩
  · rw [if_pos he] at h
    exact absurd h he
theorem stepM_ok {ver next id st : Int} {ps : List Piece} {may : Nat → Bool} (hc : checkM ver next ps = 0) (h : (stepM ver next ps id st may).2 = 0) :
    ∃ i, ∃ hi : i < ps.length, ps.findIdx? (idIs id) = some i ∧ ps[i].id = id ∧ tbl.any (isPair ps[i].state st) = true ∧ may i = true ∧ ver ≠ 1099511627776 ∧ stepM ver next ps id st may = ((ver + 1, next, if st = 4 then ps.eraseIdx i else ps.set i (setState ps[i] st)), 0) := by
  unfold stepM at h ⊢
  rw [if_neg (by simp [hc])] at h ⊢
  cases hf : ps.findIdx? (idIs id) with
  | none => rw [hf] at h; simp at h
  | some i =>
    rw [hf] at h
    simp only at h ⊢
    have hf' := hf
    rw [List.findIdx?_eq_some_iff_getElem] at hf'
    obtain ⟨hi, hp, _⟩ := hf'
    have hg : ps.getD i zeroP = ps[i] := by simp [List.getD, hi]
    rw [hg] at h ⊢
    split at h
    · simp at h
    · next h1 =>
      split at h
      · simp at h
      · next h2 =>
        have h1' : (tbl.any (isPair ps[i].state st) && may i) = true := by
          cases hb : (tbl.any (isPair ps[i].state st) && may i) with
          | true => rfl
          | false => exact absurd hb h1
        rw [if_neg h1, if_neg h2]
        rw [Bool.and_eq_true] at h1'
        exact ⟨i, hi, rfl, by simpa [idIs] using hp, h1'.1, h1'.2, h2, rfl⟩
theorem step_good {ver next id st : Int} {ps : List Piece} {may : Nat → Bool} (hst : st = 2 ∨ st = 3 ∨ st = 4) (hc : checkM ver next ps = 0) (h : (stepM ver next ps id st may).2 = 0) :
    checkM (stepM ver next ps id st may).1.1 (stepM ver next ps id st may).1.2.1 (stepM ver next ps id st may).1.2.2 = 0 := by
  obtain ⟨i, hi, _, _, ht, _, hv, he⟩ := stepM_ok hc h
  obtain ⟨⟨v0, v1⟩, ⟨n0, n1⟩, hlen, _, hk⟩ := checkM_ok hc
  rw [he]
  refine checkM_mk (by simp only; omega) (by simp only; omega) ?_ ?_
  · show (if st = 4 then ps.eraseIdx i else ps.set i (setState ps[i] st)).length ≤ 256
    split
    · rw [List.length_eraseIdx]; split <;> omega
    · rw [List.length_set]; omega
  · show chk next (-1) 0 true (if st = 4 then ps.eraseIdx i else ps.set i (setState ps[i] st)) = true
    rcases hst with rfl | rfl | rfl
    · rw [if_neg (by decide)]
      rw [tab2] at ht
      exact chk_set 2 (.inl rfl) ps i hi (.inl (by simpa using ht)) hk
    · rw [if_neg (by decide)]
      rw [tab3] at ht
      refine chk_set 3 (.inr rfl) ps i hi ?_ hk
      have : ps[i].state = 1 ∨ ps[i].state = 2 := by simpa using ht
      rcases this with h | h
      · exact .inl h
      · exact .inr ⟨h, rfl⟩
    · rw [if_pos rfl]
      rw [tab4] at ht
      exact chk_erase ps i hi (by simpa using ht) hk
/-- The pieces that are left. -/
theorem filter_good {ver next : Int} {ps : List Piece} (hc : checkM ver next ps = 0) (v : Int) (hv : 0 ≤ v ∧ v ≤ 1099511627776) : checkM v next (ps.filter (stIs 2)) = 0 := by
  obtain ⟨_, hn, hlen, _, hk⟩ := checkM_ok hc
  exact checkM_mk hv hn (Nat.le_trans (List.length_filter_le _ _) hlen) (chk_filter ps (Int.le_refl _) (Int.le_refl _) hk)
def logB : ByteArray := ⟨#[108, 111, 103]⟩
/-- A manifest behind a step of the law's. -/
def doneM (ver next : Int) (ps : List Piece) (kind by' n : Int) : Int × Int × List Piece :=
  if kind = 0 then (if (beginM ver next (wrap64 ((spanP ps).2 + by')) (wrap64 (wrap64 ((spanP ps).2 + by') + n)) n 1 ps).2.2 ≠ 0 then (ver, next, ps) else (beginM ver next (wrap64 ((spanP ps).2 + by')) (wrap64 (wrap64 ((spanP ps).2 + by') + n)) n 1 ps).1)
  else if kind = 1 then (if (stepM ver next ps by' 2 (fun _ => true)).2 ≠ 0 then (ver, next, ps) else (stepM ver next ps by' 2 (fun _ => true)).1)
  else if kind = 2 then (if (stepM ver next ps by' 3 (mayDrop ps)).2 ≠ 0 then (ver, next, ps) else (stepM ver next ps by' 3 (mayDrop ps)).1)
  else if kind = 3 then (if (stepM ver next ps by' 4 (fun _ => true)).2 ≠ 0 then (ver, next, ps) else (stepM ver next ps by' 4 (fun _ => true)).1)
  else if kind = 4 then (healM ver next ps logB []).1
  else (ver, next, ps)
theorem stepM_len (ver next : Int) (ps : List Piece) (id st : Int) (may : Nat → Bool) : (stepM ver next ps id st may).1.2.2.length ≤ ps.length := by
  unfold stepM
  split
  · simp
  · split
    · simp
    · split
      · simp
      · split
        · simp
        · show (if st = 4 then ps.eraseIdx _ else ps.set _ _).length ≤ ps.length
          split
          · rw [List.length_eraseIdx]; split <;> omega
          · rw [List.length_set]; exact Nat.le_refl _
theorem beginM_len (ver next base fin size sum : Int) (ps : List Piece) : (beginM ver next base fin size sum ps).1.2.2.length ≤ ps.length + 1 := by
  unfold beginM
  split
  · simp
  · split
    · simp
    · simp
theorem done_len (ver next : Int) (ps : List Piece) (kind by' n : Int) : (doneM ver next ps kind by' n).2.2.length ≤ ps.length + 1 := by
  unfold doneM
  split
  · split
    · simp
    · exact beginM_len ..
  · split
    · split
      · simp
      · exact Nat.le_succ_of_le (stepM_len ..)
    · split
      · split
        · simp
        · exact Nat.le_succ_of_le (stepM_len ..)
      · split
        · split
          · simp
          · exact Nat.le_succ_of_le (stepM_len ..)
        · split
          · unfold healM
            split
            · simp
            · exact Nat.le_succ_of_le (List.length_filter_le _ _)
          · simp
theorem done_good {ver next : Int} {ps : List Piece} (kind by' n : Int) (hc : checkM ver next ps = 0) : checkM (doneM ver next ps kind by' n).1 (doneM ver next ps kind by' n).2.1 (doneM ver next ps kind by' n).2.2 = 0 := by
  unfold doneM
  split
  · split
    · exact hc
    · next h =>
      obtain ⟨h1, h2⟩ := beginM_ok hc (by simpa using h)
      rw [h2]
      exact begin_good hc h1
  · split
    · split
      · exact hc
      · next h => exact step_good (.inl rfl) hc (by simpa using h)
    · split
      · split
        · exact hc
        · next h => exact step_good (.inr (.inl rfl)) hc (by simpa using h)
      · split
        · split
          · exact hc
          · next h => exact step_good (.inr (.inr rfl)) hc (by simpa using h)
        · split
          · obtain ⟨⟨v0, v1⟩, _⟩ := checkM_ok hc
            unfold healM
            rw [if_neg (by simp [hc])]
            refine filter_good hc _ ?_
            show 0 ≤ (if (ps.filter (stIs 2)).length < ps.length then (if ver = 1099511627776 then ver else ver + 1) else ver) ∧ (if (ps.filter (stIs 2)).length < ps.length then (if ver = 1099511627776 then ver else ver + 1) else ver) ≤ 1099511627776
            split
            · split <;> omega
            · omega
          · exact hc
end Go.Proofs.YtcpecponmaakoaaGreatDoor
