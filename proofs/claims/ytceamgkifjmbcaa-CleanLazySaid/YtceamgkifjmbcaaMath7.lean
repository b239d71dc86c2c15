/- Plain law: behind cleaning each key has one record at the most, the one that was its last; no new key comes. -/
import Derived.Test.YtceamgkifjmbcaaW22
namespace Go.Proofs.Ytceamgkifjmbcaa
open Go.RowKit Go.Wm
def isKey (K : ByteArray) (r : Rec) : Bool := r.key.toList == K.toList
theorem isKey_iff (K : ByteArray) (r : Rec) : isKey K r = true ↔ r.key = K := by simp [isKey, toList_inj]
/-- How many of the first k records bear the key. -/
def hitR (K : ByteArray) (rs : List Rec) : Nat → Nat
  | 0 => 0
  | k + 1 => hitR K rs k + (match rs[k]? with | some r => if isKey K r = true then 1 else 0 | none => 0)
theorem hitR_succ (K : ByteArray) (rs : List Rec) (k : Nat) (r : Rec) (h : rs[k]? = some r) : hitR K rs (k + 1) = hitR K rs k + if isKey K r = true then 1 else 0 := by simp [hitR, h]
theorem hitR_le (K : ByteArray) (rs : List Rec) : ∀ k, hitR K rs k ≤ k
  | 0 => by simp [hitR]
  | k + 1 => by
    have := hitR_le K rs k
    rw [hitR]
    repeat' split
    all_goals omega
def below (to : Int) (x : Batch) : Bool := decide (x.last < to) && (x.ctl == 0)
def hitB (K : ByteArray) (to : Int) (bs : List Batch) : Nat → Nat
  | 0 => 0
  | k + 1 => hitB K to bs k + (match bs[k]? with | some x => if below to x = true then hitR K x.recs x.recs.length else 0 | none => 0)
theorem hitB_succ (K : ByteArray) (to : Int) (bs : List Batch) (k : Nat) (x : Batch) (h : bs[k]? = some x) : hitB K to bs (k + 1) = hitB K to bs k + if below to x = true then hitR K x.recs x.recs.length else 0 := by simp [hitB, h]
theorem hitR_append (K : ByteArray) (rs : List Rec) (r : Rec) : ∀ k, k ≤ rs.length → hitR K (rs ++ [r]) k = hitR K rs k
  | 0, _ => rfl
  | k + 1, h => by rw [hitR, hitR, List.getElem?_append_left (by omega), hitR_append K rs r k (by omega)]
theorem hitR_snoc (K : ByteArray) (rs : List Rec) (r : Rec) : hitR K (rs ++ [r]) (rs ++ [r]).length = hitR K rs rs.length + if isKey K r = true then 1 else 0 := by
  rw [show (rs ++ [r]).length = rs.length + 1 from by simp, hitR_succ K _ rs.length r (by simp), hitR_append K rs r rs.length (Nat.le_refl _)]
theorem hitB_append (K : ByteArray) (to : Int) (bs : List Batch) (y : Batch) : ∀ k, k ≤ bs.length → hitB K to (bs ++ [y]) k = hitB K to bs k
  | 0, _ => rfl
  | k + 1, h => by rw [hitB, hitB, List.getElem?_append_left (by omega), hitB_append K to bs y k (by omega)]
theorem hitB_snoc (K : ByteArray) (to : Int) (bs : List Batch) (y : Batch) : hitB K to (bs ++ [y]) (bs ++ [y]).length = hitB K to bs bs.length + if below to y = true then hitR K y.recs y.recs.length else 0 := by
  rw [show (bs ++ [y]).length = bs.length + 1 from by simp, hitB_succ K to _ bs.length y (by simp), hitB_append K to bs y bs.length (Nat.le_refl _)]
variable (bs : List Batch) (l : List Gone) (to now keep : Int)
theorem hit_left (K : ByteArray) (hK : K ≠ ⟨#[]⟩) (i : Nat) (x : Batch) : ∀ k, k ≤ x.recs.length →
    hitR K (leftTo bs l to now keep i x k) (leftTo bs l to now keep i x k).length ≤ if (lastG bs l to K).1 = (i : Int) ∧ (lastG bs l to K).2 < (k : Int) then 1 else 0
  | 0, _ => by simp [leftTo, hitR]
  | k + 1, h => by
    have ih := hit_left K hK i x k (by omega)
    rw [leftTo_succ bs l to now keep i x k (by omega)]
    by_cases hs : staysB bs l to now keep i k x x.recs[k] = true
    · rw [if_pos hs, hitR_snoc]
      by_cases hk : isKey K x.recs[k] = true
      · have hk' := (isKey_iff K _).1 hk
        simp only [staysB, Bool.and_eq_true, Bool.or_eq_true] at hs
        obtain ⟨_, hs⟩ := hs
        rcases hs with hs | ⟨⟨h1, h2⟩, _⟩
        · rw [isEmpty_iff, hk'] at hs; exact absurd hs hK
        · rw [hk'] at h1 h2
          have e1 : (lastG bs l to K).1 = (i : Int) := by simpa using h1
          have e2 : (lastG bs l to K).2 = (k : Int) := by simpa using h2
          rw [if_neg (by omega)] at ih
          rw [if_pos hk, if_pos ⟨e1, by omega⟩]
          omega
      · rw [if_neg hk]
        split
        · split at ih <;> omega
        · rename_i hn
          rw [if_neg (by omega)] at ih
          omega
    · rw [if_neg hs]
      split
      · split at ih <;> omega
      · rename_i hn
        rw [if_neg (by omega)] at ih
        omega
theorem hit_clean (K : ByteArray) (hK : K ≠ ⟨#[]⟩) : ∀ i, i ≤ bs.length → hitB K to (cleanTo bs l to now keep i) (cleanTo bs l to now keep i).length ≤ if 0 ≤ (lastG bs l to K).1 ∧ (lastG bs l to K).1 < (i : Int) then 1 else 0
  | 0, _ => by simp [cleanTo, hitB]
  | i + 1, h => by
    have ih := hit_clean K hK i (by omega)
    obtain ⟨x, hx⟩ : ∃ x, bs[i]? = some x := ⟨_, List.getElem?_eq_getElem (by omega)⟩
    rw [cleanTo_succ bs l to now keep i x hx]
    split
    · rw [hitB_snoc]
      by_cases hb : below to { x with recs := cleanedRecs bs l to now keep i x } = true
      · rw [if_pos hb]
        have hb' : below to x = true := hb
        have hcl : cleanedRecs bs l to now keep i x = leftG bs l to now keep i x := by
          unfold cleanedRecs
          rw [if_pos (show (decide (x.last < to) && (x.ctl == 0)) = true from hb')]
        have hl := hit_left bs l to now keep K hK i x x.recs.length (Nat.le_refl _)
        show _ + hitR K (cleanedRecs bs l to now keep i x) (cleanedRecs bs l to now keep i x).length ≤ _
        rw [hcl]
        unfold leftG
        split
        · split at ih <;> split at hl <;> omega
        · rename_i hn
          rw [if_neg (by omega)] at ih
          rw [if_neg (by omega)] at hl
          omega
      · rw [if_neg hb]
        split
        · split at ih <;> omega
        · rename_i hn
          rw [if_neg (by omega)] at ih
          omega
    · split
      · split at ih <;> omega
      · rename_i hn
        rw [if_neg (by omega)] at ih
        omega
/-- What a record that is left is: an old one, in a batch with the same head; the last of its key, if it bears one. -/
theorem left_is (i : Nat) (x : Batch) (hx : bs[i]? = some x) (r : Rec) : ∀ k, k ≤ x.recs.length → r ∈ leftTo bs l to now keep i x k →
    countsB l to x = true ∧ ∃ j : Nat, x.recs[j]? = some r ∧ (r.key = ⟨#[]⟩ ∨ lastG bs l to r.key = ((i : Int), (j : Int)))
  | 0, _, h => by simp [leftTo] at h
  | k + 1, hk, h => by
    rw [leftTo_succ bs l to now keep i x k (by omega)] at h
    split at h
    · rename_i hs
      rcases List.mem_append.1 h with h | h
      · exact left_is i x hx r k (by omega) h
      · simp at h
        subst h
        simp only [staysB, Bool.and_eq_true, Bool.or_eq_true] at hs
        obtain ⟨hc, hs⟩ := hs
        refine ⟨hc, k, List.getElem?_eq_getElem (by omega), ?_⟩
        rcases hs with hs | ⟨⟨h1, h2⟩, _⟩
        · exact .inl ((isEmpty_iff _).1 hs)
        · exact .inr (Prod.ext (by simpa using h1) (by simpa using h2))
    · exact left_is i x hx r k (by omega) h
theorem clean_is : ∀ n, n ≤ bs.length → ∀ y ∈ cleanTo bs l to now keep n, ∃ (i : Nat) (x : Batch), i < n ∧ bs[i]? = some x ∧ y = { x with recs := cleanedRecs bs l to now keep i x }
  | 0, _, y, hy => by simp [cleanTo] at hy
  | n + 1, h, y, hy => by
    obtain ⟨x, hx⟩ : ∃ x, bs[n]? = some x := ⟨_, List.getElem?_eq_getElem (by omega)⟩
    rw [cleanTo_succ bs l to now keep n x hx] at hy
    split at hy
    · rcases List.mem_append.1 hy with hy | hy
      · obtain ⟨i, x, h1, h2⟩ := clean_is n (by omega) y hy
        exact ⟨i, x, by omega, h2⟩
      · simp at hy
        exact ⟨n, x, by omega, hx, hy⟩
    · obtain ⟨i, x, h1, h2⟩ := clean_is n (by omega) y hy
      exact ⟨i, x, by omega, h2⟩
/-- A record below that bears a key is the key's last one. -/
theorem clean_off (y : Batch) (hy : y ∈ cleanG bs l to now keep) (hb : below to y = true) (r : Rec) (hr : r ∈ y.recs) (hne : r.key ≠ ⟨#[]⟩) : r.off = offAt bs (lastG bs l to r.key) := by
  obtain ⟨i, x, hi, hx, rfl⟩ := clean_is bs l to now keep bs.length (Nat.le_refl _) y hy
  have hb' : below to x = true := hb
  have hcl : cleanedRecs bs l to now keep i x = leftG bs l to now keep i x := by
    unfold cleanedRecs
    rw [if_pos (show (decide (x.last < to) && (x.ctl == 0)) = true from hb')]
  have hr' : r ∈ leftG bs l to now keep i x := by rw [← hcl]; exact hr
  obtain ⟨_, j, hj, h⟩ := left_is bs l to now keep i x hx r x.recs.length (Nat.le_refl _) hr'
  rcases h with h | h
  · exact absurd h hne
  · rw [h]; simp [offAt, recAt, hx, hj]
/-- No new key. -/
theorem clean_key (K : ByteArray) (h : (lookO (cleanG bs l to now keep) l to K).isSome = true) : (lookO bs l to K).isSome = true := by
  obtain ⟨hne, _, _, i, j, y, r, _, hy, hr, hk, hc⟩ := lookO_some h
  obtain ⟨i', x, hi, hx, he⟩ := clean_is bs l to now keep bs.length (Nat.le_refl _) y (List.mem_of_getElem? hy)
  have hcx : countsB l to x = true := by rw [he] at hc; exact hc
  have hbx : (decide (x.last < to) && (x.ctl == 0)) = true := by
    simp only [countsB, Bool.and_eq_true] at hcx ⊢
    exact hcx.1
  have hr' : r ∈ leftG bs l to now keep i' x := by
    have := List.mem_of_getElem? hr
    rw [he] at this
    have hcl : cleanedRecs bs l to now keep i' x = leftG bs l to now keep i' x := by unfold cleanedRecs; rw [if_pos hbx]
    rw [← hcl]; exact this
  obtain ⟨_, j', hj', _⟩ := left_is bs l to now keep i' x hx r x.recs.length (Nat.le_refl _) hr'
  have hnn := lastTo_nonneg bs l to K i' x hx hcx j' r hj' hk bs.length hi
  unfold lookO
  rw [if_neg hne]
  unfold oOf
  rw [if_neg]
  · rfl
  · intro h
    have h1 : (lastTo bs l to K bs.length).1 = -1 := by
      have := congrArg Prod.fst h; exact this
    omega
theorem length_le_of_mem {α : Type} [DecidableEq α] : ∀ {l1 l2 : List α}, l1.Nodup → (∀ x ∈ l1, x ∈ l2) → l1.length ≤ l2.length
  | [], _, _, _ => by simp
  | a :: l1, l2, hn, h => by
    have ha := h a (by simp)
    rw [List.nodup_cons] at hn
    have ih := length_le_of_mem (l1 := l1) (l2 := l2.erase a) hn.2 (fun x hx => by
      have hxa : x ≠ a := by rintro rfl; exact hn.1 hx
      exact (List.mem_erase_of_ne hxa).2 (h x (by simp [hx])))
    rw [List.length_erase_of_mem ha] at ih
    have : 0 < l2.length := List.length_pos_of_mem ha
    simp; omega
end Go.Proofs.Ytceamgkifjmbcaa
