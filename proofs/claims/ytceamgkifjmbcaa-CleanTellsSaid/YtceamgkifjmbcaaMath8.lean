/- Plain law: the places of the keys' last records, in order; the values there. -/
import Derived.Test.YtceamgkifjmbcaaW25
namespace Go.Proofs.Ytceamgkifjmbcaa
open Go.RowKit Go.Wm
def recPlaces (i : Nat) (x : Batch) : List (Int × Int) := (List.range x.recs.length).map fun j => ((i : Int), ((j : Nat) : Int))
/-- All places of records in the first n batches, in order. -/
def placesTo (bs : List Batch) : Nat → List (Int × Int)
  | 0 => []
  | i + 1 => placesTo bs i ++ (match bs[i]? with | some x => recPlaces i x | none => [])
def isLast (bs : List Batch) (l : List Gone) (to : Int) (p : Int × Int) : Bool := match recAt bs p with
  | some r => !r.key.toList.isEmpty && (lastG bs l to r.key == p)
  | none => false
def lastPlaces (bs : List Batch) (l : List Gone) (to : Int) : List (Int × Int) := (placesTo bs bs.length).filter (isLast bs l to)
theorem mem_placesTo (bs : List Batch) (p : Int × Int) : ∀ n, n ≤ bs.length → (p ∈ placesTo bs n ↔ ∃ (i j : Nat) (x : Batch) (r : Rec), i < n ∧ p = ((i : Int), (j : Int)) ∧ bs[i]? = some x ∧ x.recs[j]? = some r)
  | 0, _ => by simp [placesTo]
  | n + 1, h => by
    have ih := mem_placesTo bs p n (by omega)
    obtain ⟨x, hx⟩ : ∃ x, bs[n]? = some x := ⟨_, List.getElem?_eq_getElem (by omega)⟩
    rw [placesTo, hx, List.mem_append, ih]
    constructor
    · rintro (⟨i, j, y, r, h1, h2⟩ | h1)
      · exact ⟨i, j, y, r, by omega, h2⟩
      · obtain ⟨j, hj, rfl⟩ := List.mem_map.1 h1
        rw [List.mem_range] at hj
        exact ⟨n, j, x, x.recs[j], by omega, rfl, hx, List.getElem?_eq_getElem hj⟩
    · rintro ⟨i, j, y, r, h1, rfl, hy, hr⟩
      by_cases hin : i = n
      · subst hin
        rw [hx] at hy
        cases hy
        exact .inr (List.mem_map.2 ⟨j, List.mem_range.2 (List.getElem?_eq_some_iff.1 hr).1, rfl⟩)
      · exact .inl ⟨i, j, y, r, by omega, rfl, hy, hr⟩
theorem placesTo_length (bs : List Batch) : ∀ n, n ≤ bs.length → (placesTo bs n).length = recCount (bs.take n)
  | 0, _ => by simp [placesTo, recCount]
  | n + 1, h => by
    have ih := placesTo_length bs n (by omega)
    have hx : bs[n]? = some bs[n] := List.getElem?_eq_getElem (by omega)
    rw [placesTo, hx, List.length_append, ih, recCount_take bs n (by omega)]
    simp [recPlaces]
theorem placesTo_rising (bs : List Batch) : ∀ n, n ≤ bs.length → (placesTo bs n).Pairwise (fun a b => ltP a b = true)
  | 0, _ => by simp [placesTo]
  | n + 1, h => by
    have ih := placesTo_rising bs n (by omega)
    have hx : bs[n]? = some bs[n] := List.getElem?_eq_getElem (by omega)
    rw [placesTo, hx, List.pairwise_append]
    refine ⟨ih, ?_, fun a ha b hb => ?_⟩
    · unfold recPlaces
      rw [List.pairwise_map]
      refine List.pairwise_lt_range.imp fun {a b} hab => ?_
      rw [ltP_iff]
      right
      exact ⟨rfl, by simpa using hab⟩
    · obtain ⟨i, j, y, r, h1, rfl, _⟩ := (mem_placesTo bs a n (by omega)).1 ha
      obtain ⟨j', _, rfl⟩ := List.mem_map.1 hb
      rw [ltP_iff]
      left
      simpa using h1
theorem lastPlaces_rising (bs : List Batch) (l : List Gone) (to : Int) : (lastPlaces bs l to).Pairwise (fun a b => ltP a b = true) := (placesTo_rising bs bs.length (Nat.le_refl _)).filter _
theorem ltP_total {a b : Int × Int} (h : ltP b a = false) (hne : a ≠ b) : ltP a b = true := by
  rw [ltP_false] at h
  rw [ltP_iff]
  have : ¬ (a.1 = b.1 ∧ a.2 = b.2) := fun ⟨h1, h2⟩ => hne (Prod.ext h1 h2)
  omega
theorem ltP_ne {a b : Int × Int} (h : ltP a b = true) : a ≠ b := by
  rintro rfl
  rw [ltP_iff] at h
  omega
/-- Two keys' last places differ. -/
theorem place_key {bs : List Batch} {l : List Gone} {to : Int} {k k' : ByteArray} (h : (lookO bs l to k).isSome = true) (h' : (lookO bs l to k').isSome = true) (e : lastG bs l to k = lastG bs l to k') : k = k' := by
  obtain ⟨_, _, _, i, j, x, r, hp, hx, hr, hk, _⟩ := lookO_some h
  obtain ⟨_, _, _, i', j', x', r', hp', hx', hr', hk', _⟩ := lookO_some h'
  rw [hp, hp'] at e
  simp only [Prod.mk.injEq] at e
  obtain ⟨e1, e2⟩ := e
  have e1' : i = i' := by omega
  have e2' : j = j' := by omega
  subst e1' e2'
  rw [hx] at hx'
  cases hx'
  rw [hr] at hr'
  cases hr'
  exact hk.symm.trans hk'
theorem mem_lastPlaces (bs : List Batch) (l : List Gone) (to : Int) (p : Int × Int) : p ∈ lastPlaces bs l to ↔ ∃ k, (lookO bs l to k).isSome = true ∧ lastG bs l to k = p := by
  unfold lastPlaces
  rw [List.mem_filter, mem_placesTo bs p bs.length (Nat.le_refl _)]
  constructor
  · rintro ⟨⟨i, j, x, r, _, rfl, hx, hr⟩, hl⟩
    have hrec : recAt bs ((i : Int), (j : Int)) = some r := by simp [recAt, hx, hr]
    simp only [isLast, hrec, Bool.and_eq_true, Bool.not_eq_true', beq_iff_eq] at hl
    refine ⟨r.key, ?_, hl.2⟩
    unfold lookO oOf
    have hne : r.key ≠ ⟨#[]⟩ := by intro e; rw [(isEmpty_iff r.key).2 e] at hl; exact absurd hl.1 (by simp)
    rw [if_neg hne, hl.2, if_neg]
    · rfl
    · intro e; simp at e
  · rintro ⟨k, hk, rfl⟩
    obtain ⟨hne, _, _, i, j, x, r, hp, hx, hr, hkr, _⟩ := lookO_some hk
    refine ⟨⟨i, j, x, r, (List.getElem?_eq_some_iff.1 hx).1, hp, hx, hr⟩, ?_⟩
    have hrec : recAt bs (lastG bs l to k) = some r := by rw [hp]; simp [recAt, hx, hr]
    have he : r.key.toList.isEmpty = false := by
      cases he : r.key.toList.isEmpty with
      | false => rfl
      | true => rw [hkr] at he; exact absurd ((isEmpty_iff k).1 he) hne
    rw [hkr] at he
    simp only [isLast, hrec, hkr, he]
    simp
theorem placesOf_eq {bs : List Batch} {l : List Gone} {to : Int} {xs : List (Int × Int)} (h : PlacesOf (lookO bs l to) xs) : xs = lastPlaces bs l to := by
  obtain ⟨ks, hnd, hk, hperm⟩ := h.keys
  have hget : ∀ k, (lookO bs l to k).isSome = true → (lookO bs l to k).getD (0, 0) = lastG bs l to k := fun k hk => by
    obtain ⟨_, _, ho, _⟩ := lookO_some hk
    rw [ho]; rfl
  have hxnd : xs.Nodup := by
    rw [hperm.nodup_iff, List.nodup_iff_pairwise_ne, List.pairwise_map]
    refine (List.nodup_iff_pairwise_ne.1 hnd).imp_of_mem fun {a b} ha hb hne e => hne ?_
    have ha' := (hk a).1 ha
    have hb' := (hk b).1 hb
    rw [hget a ha', hget b hb'] at e
    exact place_key ha' hb' e
  have hmem : ∀ p, p ∈ xs ↔ p ∈ lastPlaces bs l to := fun p => by
    rw [mem_lastPlaces, hperm.mem_iff, List.mem_map]
    constructor
    · rintro ⟨k, hkm, rfl⟩
      have hk' := (hk k).1 hkm
      exact ⟨k, hk', (hget k hk').symm⟩
    · rintro ⟨k, hk', rfl⟩
      exact ⟨k, (hk k).2 hk', hget k hk'⟩
  have hlr := lastPlaces_rising bs l to
  have hxr : xs.Pairwise (fun a b => ltP a b = true) := by
    have h1 := h.rising
    have h2 := List.nodup_iff_pairwise_ne.1 hxnd
    exact (h1.and h2).imp fun {a b} hab => ltP_total hab.1 hab.2
  have hlnd : (lastPlaces bs l to).Nodup := List.nodup_iff_pairwise_ne.2 (hlr.imp fun {a b} h => ltP_ne h)
  refine List.Perm.eq_of_pairwise (le := fun a b => ltP a b = true) (fun a b _ _ h1 h2 => ?_) hxr hlr ((List.perm_ext_iff_of_nodup hxnd hlnd).2 hmem)
  rw [ltP_iff] at h1 h2
  omega
theorem lastPlaces_le (bs : List Batch) (l : List Gone) (to : Int) : (lastPlaces bs l to).length ≤ recCount bs := by
  have h1 : (lastPlaces bs l to).length ≤ (placesTo bs bs.length).length := List.length_filter_le _ _
  rw [placesTo_length bs bs.length (Nat.le_refl _), List.take_length] at h1
  exact h1
/-- P13.3. -/
def valuesG (bs : List Batch) (l : List Gone) (to : Int) : List Rec := ((lastPlaces bs l to).filterMap (recAt bs)).filter (fun r => !r.dead)
end Go.Proofs.Ytceamgkifjmbcaa
