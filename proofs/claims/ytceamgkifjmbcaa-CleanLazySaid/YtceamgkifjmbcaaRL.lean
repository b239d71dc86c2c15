/- Plain laws: lists that are picked by places; cleaned again it is the same; what is told stays told; what is left is right; what was is right; without one that stays it is not. -/
import Derived.Test.YtceamgkifjmbcaaC7
import Derived.Test.YtceamgkifjmbcaaMath7
namespace Go.Proofs.Ytceamgkifjmbcaa
open Go.RowKit Go.Wm
/-- The batches f i, of the places i below n that P picks. -/
def selTo (P : Nat → Bool) (f : Nat → Batch) : Nat → List Batch
  | 0 => []
  | n + 1 => if P n = true then selTo P f n ++ [f n] else selTo P f n
theorem selTo_prefix (P : Nat → Bool) (f : Nat → Batch) {i n : Nat} (h : i ≤ n) : ∃ rest, selTo P f n = selTo P f i ++ rest := by
  induction n with
  | zero => have : i = 0 := by omega
            subst this; exact ⟨[], by simp⟩
  | succ n ih =>
    by_cases hi : i = n + 1
    · subst hi; exact ⟨[], by simp⟩
    · obtain ⟨rest, hr⟩ := ih (by omega)
      rw [selTo, hr]
      split
      · exact ⟨rest ++ [f n], by simp⟩
      · exact ⟨rest, rfl⟩
theorem selTo_pos_le (P : Nat → Bool) (f : Nat → Batch) {i n : Nat} (h : i ≤ n) : (selTo P f i).length ≤ (selTo P f n).length := by
  obtain ⟨rest, hr⟩ := selTo_prefix P f h
  rw [hr]; simp
theorem selTo_pos_lt (P : Nat → Bool) (f : Nat → Batch) {i n : Nat} (h : i < n) (hp : P i = true) : (selTo P f i).length < (selTo P f n).length := by
  have h1 := selTo_pos_le P f (show i + 1 ≤ n from h)
  rw [selTo, if_pos hp] at h1
  simp at h1; omega
theorem selTo_at (P : Nat → Bool) (f : Nat → Batch) {i n : Nat} (h : i < n) (hp : P i = true) : (selTo P f n)[(selTo P f i).length]? = some (f i) := by
  obtain ⟨rest, hr⟩ := selTo_prefix P f (show i + 1 ≤ n from h)
  rw [hr, selTo, if_pos hp]
  simp
theorem selTo_of (P : Nat → Bool) (f : Nat → Batch) : ∀ n p, p < (selTo P f n).length → ∃ i, i < n ∧ P i = true ∧ p = (selTo P f i).length ∧ (selTo P f n)[p]? = some (f i)
  | 0, p, h => by simp [selTo] at h
  | n + 1, p, h => by
    by_cases hp : P n = true
    · by_cases hlt : p < (selTo P f n).length
      · obtain ⟨i, hi, hP, he, _⟩ := selTo_of P f n p hlt
        exact ⟨i, by omega, hP, he, by rw [he]; exact selTo_at P f (by omega) hP⟩
      · rw [selTo, if_pos hp] at h
        simp at h
        have he : p = (selTo P f n).length := by omega
        exact ⟨n, by omega, hp, he, by rw [he]; exact selTo_at P f (by omega) hp⟩
    · rw [selTo, if_neg hp] at h
      obtain ⟨i, hi, hP, he, _⟩ := selTo_of P f n p h
      exact ⟨i, by omega, hP, he, by rw [he]; exact selTo_at P f (by omega) hP⟩
theorem selTo_congr {P Q : Nat → Bool} {f g : Nat → Batch} : ∀ n, (∀ i, i < n → P i = Q i ∧ f i = g i) → selTo P f n = selTo Q g n
  | 0, _ => rfl
  | n + 1, h => by
    have ih := selTo_congr n (fun i hi => h i (by omega))
    obtain ⟨h1, h2⟩ := h n (by omega)
    rw [selTo, selTo, ih, h1, h2]
/-- Without one of them. -/
theorem selTo_erase (P : Nat → Bool) (f : Nat → Batch) : ∀ n p, p < (selTo P f n).length → ∃ i, i < n ∧ P i = true ∧ (selTo P f n).take p ++ (selTo P f n).drop (p + 1) = selTo (fun j => P j && !(j == i)) f n
  | 0, p, h => by simp [selTo] at h
  | n + 1, p, h => by
    by_cases hp : P n = true
    · by_cases hlt : p < (selTo P f n).length
      · obtain ⟨i, hi, hP, he⟩ := selTo_erase P f n p hlt
        refine ⟨i, by omega, hP, ?_⟩
        have hn : (n == i) = false := by simp; omega
        rw [selTo, if_pos hp, selTo, hp, hn]
        simp only [Bool.not_false, Bool.and_self, if_true]
        rw [← he, List.take_append_of_le_length (by omega), List.drop_append_of_le_length (by omega)]
        simp
      · rw [selTo, if_pos hp] at h
        simp at h
        have he : p = (selTo P f n).length := by omega
        subst he
        refine ⟨n, by omega, hp, ?_⟩
        rw [selTo, if_pos hp, selTo]
        simp only [beq_self_eq_true, Bool.not_true, Bool.and_false, Bool.false_eq_true, if_false]
        rw [List.take_left', List.drop_eq_nil_of_le (by simp), List.append_nil]
        · refine selTo_congr n (fun i hi => ⟨?_, rfl⟩)
          have : (i == n) = false := by simp; omega
          simp [this]
        · rfl
    · rw [selTo, if_neg hp] at h
      obtain ⟨i, hi, hP, he⟩ := selTo_erase P f n p h
      refine ⟨i, by omega, hP, ?_⟩
      have hp' : P n = false := by simpa using hp
      rw [selTo, if_neg hp, selTo, hp']
      simp only [Bool.false_and, Bool.false_eq_true, if_false]
      exact he
/-- Each batch that is picked is found at its place, if no earlier one that is free is like it. -/
theorem matchTo_sel (bs : List Batch) (P : Nat → Bool) (f : Nat → Batch) (zs : List Batch)
    (h1 : ∀ i, i < bs.length → P i = true → ∃ b, bs[i]? = some b ∧ matchB (f i) b = true)
    (h2 : ∀ i m b, i < bs.length → P i = true → m < i → P m = false → bs[m]? = some b → matchB (f i) b = false) :
    ∀ n, n ≤ bs.length → (∃ rest, zs = selTo P f n ++ rest) →
      ∃ (a : Nat) (T : Nat → Option Batch), matchTo bs zs (selTo P f n).length = some (a, T) ∧ a ≤ n ∧ (∀ m, a ≤ m → m < n → P m = false) ∧ ∀ j, T j = if j < n ∧ P j = true then some (f j) else none
  | 0, _, _ => ⟨0, fun _ => none, rfl, Nat.le_refl _, fun m h h' => by omega, fun j => by simp⟩
  | n + 1, hn, ⟨rest, hz⟩ => by
    by_cases hp : P n = true
    · have hz' : zs = selTo P f n ++ ([f n] ++ rest) := by rw [hz, selTo, if_pos hp, List.append_assoc]
      obtain ⟨a, T, hM, ha, hfree, hT⟩ := matchTo_sel bs P f zs h1 h2 n (by omega) ⟨_, hz'⟩
      have hzn : zs[(selTo P f n).length]? = some (f n) := by rw [hz']; simp
      have hidx : (bs.drop a).findIdx? (matchB (f n)) = some (n - a) := by
        obtain ⟨b, hb, hm⟩ := h1 n (by omega) hp
        rw [List.findIdx?_eq_some_iff_getElem]
        have hlen : n - a < (bs.drop a).length := by rw [List.length_drop]; omega
        refine ⟨hlen, ?_, fun j hj => ?_⟩
        · have : (bs.drop a)[n - a]? = some b := by rw [List.getElem?_drop, show a + (n - a) = n from by omega, hb]
          rw [List.getElem?_eq_getElem hlen] at this
          rw [Option.some.inj this, hm]
        · have hjl : j < (bs.drop a).length := by omega
          have hbj : bs[a + j]? = some (bs.drop a)[j] := by rw [← List.getElem?_drop, List.getElem?_eq_getElem hjl]
          rw [h2 n (a + j) _ (by omega) hp (by omega) (hfree (a + j) (by omega) (by omega)) hbj]
          simp
      refine ⟨n + 1, fun j => if j = a + (n - a) then some (f n) else T j, ?_, Nat.le_refl _, fun m h h' => by omega, fun j => ?_⟩
      · rw [selTo, if_pos hp, List.length_append, List.length_singleton, matchTo, hM]
        simp only [hzn, hidx]
        rw [show a + (n - a) + 1 = n + 1 from by omega]
      · show (if j = a + (n - a) then some (f n) else T j) = _
        rw [show a + (n - a) = n from by omega, hT j]
        by_cases hj : j = n
        · subst hj; simp [hp]
        · have e : (j < n + 1 ∧ P j = true) ↔ (j < n ∧ P j = true) := by constructor <;> (rintro ⟨x, y⟩; exact ⟨by omega, y⟩)
          simp [hj, e]
    · have hs : selTo P f (n + 1) = selTo P f n := by rw [selTo, if_neg hp]
      obtain ⟨a, T, hM, ha, hfree, hT⟩ := matchTo_sel bs P f zs h1 h2 n (by omega) ⟨rest, by rw [hz, hs]⟩
      refine ⟨a, T, by rw [hs]; exact hM, by omega, fun m h h' => ?_, fun j => ?_⟩
      · by_cases hm : m = n
        · subst hm; simpa using hp
        · exact hfree m h (by omega)
      · rw [hT j]
        by_cases hj : j = n
        · subst hj; simp [hp]
        · have e : (j < n + 1 ∧ P j = true) ↔ (j < n ∧ P j = true) := by constructor <;> (rintro ⟨x, y⟩; exact ⟨by omega, y⟩)
          simp [e]
/-! some records of others, in order -/
theorem restTo_sub (ys : List Rec) : ∀ (xs : List Rec), xs.Sublist ys → ∀ k, ∃ L, restTo xs ys k = some L ∧ (xs.drop k).Sublist L := by
  intro xs h k
  induction k with
  | zero => exact ⟨ys, rfl, by simpa using h⟩
  | succ k ih =>
    obtain ⟨L, hL, hs⟩ := ih
    cases hx : xs[k]? with
    | none =>
      refine ⟨L, by rw [restTo, hL, hx], ?_⟩
      have : xs.length ≤ k := by rw [List.getElem?_eq_none_iff] at hx; exact hx
      rw [List.drop_eq_nil_of_le (by omega)]
      exact List.nil_sublist _
    | some x =>
      have hk : k < xs.length := (List.getElem?_eq_some_iff.1 hx).1
      have hd : xs.drop k = x :: xs.drop (k + 1) := by
        rw [List.drop_eq_getElem_cons hk]
        rw [List.getElem?_eq_getElem hk] at hx
        rw [Option.some.inj hx]
      rw [hd] at hs
      have hmem : x ∈ L := hs.subset (by simp)
      have key : ∀ (L' : List Rec), (x :: xs.drop (k + 1)).Sublist L' → ∃ i, L'.findIdx? (isRec x) = some i ∧ (xs.drop (k + 1)).Sublist (L'.drop (i + 1)) := by
        intro L'
        induction L' with
        | nil => intro h; cases h
        | cons a L' ihL =>
          intro h
          by_cases ha : isRec x a = true
          · refine ⟨0, by simp [List.findIdx?_cons, ha], ?_⟩
            rw [List.drop_succ_cons, List.drop_zero]
            cases h with
            | cons _ h => exact (List.sublist_cons_self x _).trans h
            | cons_cons _ h => exact h
          · have h' : (x :: xs.drop (k + 1)).Sublist L' := by
              cases h with
              | cons _ h => exact h
              | cons_cons _ h => exact absurd (by simp [isRec]) ha
            obtain ⟨i, hi, hsi⟩ := ihL h'
            refine ⟨i + 1, by simp [List.findIdx?_cons, ha, hi], ?_⟩
            rw [List.drop_succ_cons]; exact hsi
      obtain ⟨i, hi, hsi⟩ := key L hs
      exact ⟨L.drop (i + 1), by rw [restTo, hL, hx]; simp [hi], hsi⟩
theorem among_sub {xs ys : List Rec} (h : xs.Sublist ys) : amongB xs ys = true := by
  obtain ⟨L, hL, _⟩ := restTo_sub ys xs h xs.length
  unfold amongB; rw [hL]; rfl
theorem leftTo_sub (bs : List Batch) (l : List Gone) (to now keep : Int) (i : Nat) (x : Batch) : ∀ k, k ≤ x.recs.length → (leftTo bs l to now keep i x k).Sublist (x.recs.take k)
  | 0, _ => by simp [leftTo]
  | k + 1, h => by
    have ih := leftTo_sub bs l to now keep i x k (by omega)
    rw [leftTo_succ bs l to now keep i x k (by omega), List.take_add_one, List.getElem?_eq_getElem (by omega)]
    split
    · exact ih.append (List.Sublist.refl _)
    · exact ih.trans (List.sublist_append_left _ _)
theorem cleaned_sub (bs : List Batch) (l : List Gone) (to now keep : Int) (i : Nat) (x : Batch) : (cleanedRecs bs l to now keep i x).Sublist x.recs := by
  unfold cleanedRecs
  split
  · have := leftTo_sub bs l to now keep i x x.recs.length (Nat.le_refl _)
    rwa [List.take_length] at this
  · exact List.Sublist.refl _
theorem alike_refl (b : Batch) (rs : List Rec) : alikeB b { b with recs := rs } = true := by simp [alikeB]
theorem match_clean (b : Batch) (rs : List Rec) (h : rs.Sublist b.recs) : matchB { b with recs := rs } b = true := by
  unfold matchB
  rw [alike_refl, Bool.true_and]
  exact among_sub h
theorem match_base {y b : Batch} (h : y.base ≠ b.base) : matchB y b = false := by
  have : (b.base == y.base) = false := by simpa using fun e => h e.symm
  simp [matchB, alikeB, this]
/-! what is left, so -/
section
variable (bs : List Batch) (l : List Gone) (to now keep : Int)
def stAt (i : Nat) : Bool := match bs[i]? with | some x => batchStaysB bs l to now keep i x | none => false
def clAt (i : Nat) : Batch := match bs[i]? with | some x => { x with recs := cleanedRecs bs l to now keep i x } | none => ⟨0, 0, 0, 0, 0, 0, 0, false, 0, []⟩
theorem stAt_of {i : Nat} {x : Batch} (h : bs[i]? = some x) : stAt bs l to now keep i = batchStaysB bs l to now keep i x := by unfold stAt; rw [h]
theorem clAt_of {i : Nat} {x : Batch} (h : bs[i]? = some x) : clAt bs l to now keep i = { x with recs := cleanedRecs bs l to now keep i x } := by unfold clAt; rw [h]
theorem cleanTo_sel : ∀ n, n ≤ bs.length → cleanTo bs l to now keep n = selTo (stAt bs l to now keep) (clAt bs l to now keep) n
  | 0, _ => rfl
  | n + 1, h => by
    obtain ⟨x, hx⟩ : ∃ x, bs[n]? = some x := ⟨_, List.getElem?_eq_getElem (by omega)⟩
    rw [cleanTo_succ bs l to now keep n x hx, cleanTo_sel n (by omega), selTo, stAt_of bs l to now keep hx, clAt_of bs l to now keep hx]
theorem cleanG_sel : cleanG bs l to now keep = selTo (stAt bs l to now keep) (clAt bs l to now keep) bs.length := cleanTo_sel bs l to now keep bs.length (Nat.le_refl _)
end
theorem self_sel (bs : List Batch) : ∀ n, n ≤ bs.length → selTo (fun _ => true) (fun i => (bs[i]?).getD ⟨0, 0, 0, 0, 0, 0, 0, false, 0, []⟩) n = bs.take n
  | 0, _ => by simp [selTo]
  | n + 1, h => by
    rw [selTo, if_pos rfl, self_sel bs n (by omega), List.take_add_one, List.getElem?_eq_getElem (by omega)]
    rfl
/-- Batches stand in order of their offsets. -/
def risK (bs : List Batch) (i : Nat) : Bool := match bs[i]? with
  | some b => decide (b.base ≤ b.last) && (match i with | 0 => true | j + 1 => match bs[j]? with | some a => decide (a.last < b.base) | none => true)
  | none => true
def risingB (bs : List Batch) : Bool := (List.range bs.length).all (risK bs)
theorem rising_base {bs : List Batch} (h : risingB bs = true) : ∀ (i m : Nat) (x b : Batch), m < i → bs[i]? = some x → bs[m]? = some b → b.base ≤ b.last ∧ b.last < x.base ∧ x.base ≤ x.last
  | 0, m, x, b, hm, _, _ => by omega
  | i + 1, m, x, b, hm, hx, hb => by
    have hall := fun k => List.all_eq_true.1 h k
    have hi := (List.getElem?_eq_some_iff.1 hx).1
    have h1 := hall (i + 1) (List.mem_range.2 hi)
    simp only [risK, hx] at h1
    obtain ⟨a, ha⟩ : ∃ a, bs[i]? = some a := ⟨_, List.getElem?_eq_getElem (by omega)⟩
    simp only [ha, Bool.and_eq_true, decide_eq_true_eq] at h1
    by_cases hmi : m = i
    · subst hmi
      rw [ha] at hb
      cases hb
      have h2 := hall m (List.mem_range.2 (by omega))
      simp only [risK, ha, Bool.and_eq_true, decide_eq_true_eq] at h2
      exact ⟨h2.1, h1.2, h1.1⟩
    · obtain ⟨q1, q2, q3⟩ := rising_base h i m a b (by omega) ha hb
      exact ⟨q1, by omega, h1.1⟩
end Go.Proofs.Ytceamgkifjmbcaa

namespace Go.Proofs.Ytceamgkifjmbcaa
open Go.RowKit Go.Wm
theorem lastG_uniq {xs : List Batch} {l : List Gone} {to : Int} {K : ByteArray} {i j : Nat} {x : Batch} {r : Rec} (hi : xs[i]? = some x) (hr : x.recs[j]? = some r) (hk : r.key = K) (hc : countsB l to x = true)
    (U : ∀ (i' j' : Nat) (x' : Batch) (r' : Rec), xs[i']? = some x' → x'.recs[j']? = some r' → r'.key = K → countsB l to x' = true → i' = i ∧ j' = j) : lastG xs l to K = ((i : Int), (j : Int)) := by
  rcases lastTo_place xs l to K xs.length (Nat.le_refl _) with h | ⟨i', j', x', r', h, h1, h2, h3, h4⟩
  · have hnn := lastTo_nonneg xs l to K i x hi hc j r hr hk xs.length (List.getElem?_eq_some_iff.1 hi).1
    rw [h] at hnn
    simp at hnn
  · obtain ⟨rfl, rfl⟩ := U i' j' x' r' h1 h2 h3 h4
    exact h
theorem txn_of (bs : List Batch) (pid : Int) : ∀ n, n ≤ bs.length → ∀ q ∈ txnTo bs pid n, ∃ (j : Nat) (z : Batch), q = (j : Int) ∧ bs[j]? = some z ∧ j < n ∧ z.pid = pid ∧ z.ctl = 0 ∧ z.txn = true ∧ ∀ m u, j < m → m < n → bs[m]? = some u → u.pid = pid → u.ctl = 0
  | 0, _, q, h => by simp [txnTo] at h
  | n + 1, hn, q, h => by
    have hx : bs[n]? = some bs[n] := List.getElem?_eq_getElem (by omega)
    rw [txnTo_succ bs pid n (by omega)] at h
    have step : q ∈ txnTo bs pid n → (bs[n].pid = pid → bs[n].ctl = 0) → ∃ (j : Nat) (z : Batch), q = (j : Int) ∧ bs[j]? = some z ∧ j < n + 1 ∧ z.pid = pid ∧ z.ctl = 0 ∧ z.txn = true ∧ ∀ m u, j < m → m < n + 1 → bs[m]? = some u → u.pid = pid → u.ctl = 0 := by
      intro h h0
      obtain ⟨j, z, h1, h2, h3, h4, h5, h6, h7⟩ := txn_of bs pid n (by omega) q h
      refine ⟨j, z, h1, h2, by omega, h4, h5, h6, fun m u hm hm' hu hp => ?_⟩
      by_cases hmn : m = n
      · subst hmn
        rw [hx] at hu
        cases hu
        exact h0 hp
      · exact h7 m u hm (by omega) hu hp
    split at h
    · rename_i hp
      split at h
      · rename_i hc
        split at h
        · rename_i ht
          rcases List.mem_append.1 h with h | h
          · exact step h (fun _ => hc)
          · simp at h
            subst h
            exact ⟨n, _, rfl, hx, by omega, hp, hc, ht, fun m u hm hm' => by omega⟩
        · exact step h (fun _ => hc)
      · simp at h
    · rename_i hp
      exact step h (fun h' => absurd h' hp)
theorem txn_mem (bs : List Batch) (pid : Int) (j : Nat) (z : Batch) (h2 : bs[j]? = some z) (h4 : z.pid = pid) (h5 : z.ctl = 0) (h6 : z.txn = true) : ∀ n, n ≤ bs.length → j < n → (∀ m u, j < m → m < n → bs[m]? = some u → u.pid = pid → u.ctl = 0) → (j : Int) ∈ txnTo bs pid n
  | 0, _, h, _ => by omega
  | n + 1, hn, hj, h7 => by
    have hx : bs[n]? = some bs[n] := List.getElem?_eq_getElem (by omega)
    rw [txnTo_succ bs pid n (by omega)]
    by_cases hjn : j = n
    · subst hjn
      rw [hx] at h2
      cases h2
      simp [h4, h5, h6]
    · have ih := txn_mem bs pid j z h2 h4 h5 h6 n (by omega) (by omega) (fun m u hm hm' => h7 m u hm (by omega))
      have h0 := h7 n _ (by omega) (by omega) hx
      split
      · rename_i hp
        rw [if_pos (h0 hp)]
        split
        · exact List.mem_append_left _ ih
        · exact ih
      · exact ih
theorem stays_last {bs : List Batch} {l : List Gone} {to now keep : Int} {i j : Nat} {z : Batch} {r : Rec} (h : staysB bs l to now keep i j z r = true) (hne : r.key ≠ ⟨#[]⟩) : lastG bs l to r.key = ((i : Int), (j : Int)) ∧ (!r.dead || decide (wrap64 (now - r.stamp) < keep)) = true := by
  simp only [staysB, Bool.and_eq_true, Bool.or_eq_true (r.key.toList.isEmpty), beq_iff_eq] at h
  rcases h.2 with h | ⟨⟨h1, h2⟩, h3⟩
  · exact absurd ((isEmpty_iff _).1 h) hne
  · exact ⟨Prod.ext h1 h2, h3⟩
theorem leftTo_all (xs : List Batch) (l : List Gone) (to now keep : Int) (p : Nat) (y : Batch) (h : ∀ k r, y.recs[k]? = some r → staysB xs l to now keep p k y r = true) : ∀ k, k ≤ y.recs.length → leftTo xs l to now keep p y k = y.recs.take k
  | 0, _ => by simp [leftTo]
  | k + 1, hk => by
    have hr : y.recs[k]? = some y.recs[k] := List.getElem?_eq_getElem (by omega)
    rw [leftTo_succ xs l to now keep p y k (by omega), if_pos (h k _ hr), leftTo_all xs l to now keep p y h k (by omega), List.take_add_one, hr]
    rfl
section
variable (bs : List Batch) (l : List Gone) (to now keep : Int)
theorem left_stays (i : Nat) (x : Batch) : ∀ k, k ≤ x.recs.length → ∀ p r, (leftTo bs l to now keep i x k)[p]? = some r → ∃ j, j < k ∧ x.recs[j]? = some r ∧ staysB bs l to now keep i j x r = true ∧ p = (leftTo bs l to now keep i x j).length
  | 0, _, p, r, h => by simp [leftTo] at h
  | k + 1, hk, p, r, h => by
    have hr : x.recs[k]? = some x.recs[k] := List.getElem?_eq_getElem (by omega)
    rw [leftTo_succ bs l to now keep i x k (by omega)] at h
    split at h
    · rename_i hs
      by_cases hp : p < (leftTo bs l to now keep i x k).length
      · rw [List.getElem?_append_left hp] at h
        obtain ⟨j, h1, h2⟩ := left_stays i x k (by omega) p r h
        exact ⟨j, by omega, h2⟩
      · have hlt := (List.getElem?_eq_some_iff.1 h).1
        simp at hlt
        have he : p = (leftTo bs l to now keep i x k).length := by omega
        rw [he] at h
        simp at h
        subst h
        exact ⟨k, by omega, hr, hs, he⟩
    · obtain ⟨j, h1, h2⟩ := left_stays i x k (by omega) p r h
      exact ⟨j, by omega, h2⟩
theorem clean_at {p : Nat} {y : Batch} (hp : (cleanG bs l to now keep)[p]? = some y) : ∃ (i : Nat) (z : Batch), i < bs.length ∧ bs[i]? = some z ∧ batchStaysB bs l to now keep i z = true ∧ stAt bs l to now keep i = true ∧ p = (selTo (stAt bs l to now keep) (clAt bs l to now keep) i).length ∧ y = { z with recs := cleanedRecs bs l to now keep i z } := by
  rw [cleanG_sel] at hp
  obtain ⟨i, hi, hP, he, hat⟩ := selTo_of _ _ _ _ (List.getElem?_eq_some_iff.1 hp).1
  rw [hp] at hat
  obtain ⟨z, hz⟩ : ∃ z, bs[i]? = some z := ⟨_, List.getElem?_eq_getElem hi⟩
  refine ⟨i, z, hi, hz, by rw [← stAt_of bs l to now keep hz]; exact hP, hP, he, ?_⟩
  rw [← clAt_of bs l to now keep hz]
  exact Option.some.inj hat
theorem clean_pos {i : Nat} {z : Batch} (hz : bs[i]? = some z) (hs : batchStaysB bs l to now keep i z = true) : (cleanG bs l to now keep)[(selTo (stAt bs l to now keep) (clAt bs l to now keep) i).length]? = some { z with recs := cleanedRecs bs l to now keep i z } := by
  rw [cleanG_sel, ← clAt_of bs l to now keep hz]
  exact selTo_at _ _ (List.getElem?_eq_some_iff.1 hz).1 (by rw [stAt_of bs l to now keep hz]; exact hs)
theorem cleaned_counts {i : Nat} {z : Batch} (hc : countsB l to z = true) : cleanedRecs bs l to now keep i z = leftG bs l to now keep i z := by
  unfold cleanedRecs
  simp only [countsB, Bool.and_eq_true] at hc
  rw [if_pos (by rw [hc.1.1, hc.1.2]; rfl)]
theorem clean_place {p k : Nat} {y : Batch} {r : Rec} (hp : (cleanG bs l to now keep)[p]? = some y) (hc : countsB l to y = true) (hr : y.recs[k]? = some r) : ∃ (i j : Nat) (z : Batch), bs[i]? = some z ∧ p = (selTo (stAt bs l to now keep) (clAt bs l to now keep) i).length ∧ staysB bs l to now keep i j z r = true ∧ k = (leftTo bs l to now keep i z j).length := by
  obtain ⟨i, z, _, hz, _, _, he, rfl⟩ := clean_at bs l to now keep hp
  have hc' : countsB l to z = true := hc
  have hr' : (leftG bs l to now keep i z)[k]? = some r := by rw [← cleaned_counts bs l to now keep hc']; exact hr
  obtain ⟨j, _, _, h3, h4⟩ := left_stays bs l to now keep i z z.recs.length (Nat.le_refl _) k r hr'
  exact ⟨i, j, z, hz, he, h3, h4⟩
theorem last_clean {p k : Nat} {y : Batch} {r : Rec} (hp : (cleanG bs l to now keep)[p]? = some y) (hc : countsB l to y = true) (hr : y.recs[k]? = some r) (hne : r.key ≠ ⟨#[]⟩) : lastG (cleanG bs l to now keep) l to r.key = ((p : Int), (k : Int)) := by
  refine lastG_uniq hp hr rfl hc fun p' k' y' r' hp' hr' hk' hc' => ?_
  obtain ⟨i, j, z, hz, h1, h2, h3⟩ := clean_place bs l to now keep hp hc hr
  obtain ⟨i', j', z', hz', h1', h2', h3'⟩ := clean_place bs l to now keep hp' hc' hr'
  have e1 := (stays_last h2 hne).1
  have e2 := (stays_last h2' (by rw [hk']; exact hne)).1
  rw [hk', e1] at e2
  simp only [Prod.mk.injEq] at e2
  have e3 : i' = i := by omega
  have e4 : j' = j := by omega
  subst e3 e4
  rw [hz] at hz'
  cases hz'
  exact ⟨h1'.trans h1.symm, h3'.trans h3.symm⟩
theorem left_clean {p : Nat} {y : Batch} (hp : (cleanG bs l to now keep)[p]? = some y) (hc : countsB l to y = true) : leftG (cleanG bs l to now keep) l to now keep p y = y.recs := by
  unfold leftG
  rw [leftTo_all _ l to now keep p y ?_ _ (Nat.le_refl _), List.take_length]
  intro k r hr
  obtain ⟨i, j, z, hz, h1, h2, h3⟩ := clean_place bs l to now keep hp hc hr
  unfold staysB
  rw [hc, Bool.true_and]
  cases he : r.key.toList.isEmpty with
  | true => rfl
  | false =>
    have hne : r.key ≠ ⟨#[]⟩ := by intro e; rw [(isEmpty_iff r.key).2 e] at he; cases he
    rw [last_clean bs l to now keep hp hc hr hne, (stays_last h2 hne).2]
    simp
theorem cleaned_clean {p : Nat} {y : Batch} (hp : (cleanG bs l to now keep)[p]? = some y) : cleanedRecs (cleanG bs l to now keep) l to now keep p y = y.recs := by
  cases hc : countsB l to y with
  | true => rw [cleaned_counts _ l to now keep hc, left_clean bs l to now keep hp hc]
  | false =>
    unfold cleanedRecs
    split
    · rename_i hb
      obtain ⟨i, z, _, hz, _, _, _, rfl⟩ := clean_at bs l to now keep hp
      have hc' : countsB l to z = false := hc
      have hb' : (decide (z.last < to) && (z.ctl == 0)) = true := hb
      unfold leftG
      rw [leftTo_none _ l to now keep p _ hc]
      show [] = cleanedRecs bs l to now keep i z
      unfold cleanedRecs
      rw [if_pos hb']
      unfold leftG
      rw [leftTo_none _ l to now keep i _ hc']
    · rfl
theorem left_counts {i : Nat} {z : Batch} (h : 0 < (leftG bs l to now keep i z).length) : countsB l to z = true := by
  cases hc : countsB l to z with
  | true => rfl
  | false =>
    unfold leftG at h
    rw [leftTo_none bs l to now keep i z hc] at h
    simp at h
theorem has_clean {i : Nat} {z : Batch} (hz : bs[i]? = some z) (h0 : z.ctl = 0) (h : hasLeft bs l to now keep (i : Int) = true) :
    batchStaysB bs l to now keep i z = true ∧ hasLeft (cleanG bs l to now keep) l to now keep ((selTo (stAt bs l to now keep) (clAt bs l to now keep) i).length : Int) = true := by
  have hst : batchStaysB bs l to now keep i z = true := by unfold batchStaysB; rw [if_pos h0, h]; simp
  refine ⟨hst, ?_⟩
  rw [hasLeft_nat bs l to now keep i z hz] at h
  have hl := of_decide_eq_true h
  have hc := left_counts bs l to now keep hl
  have hp := clean_pos bs l to now keep hz hst
  rw [hasLeft_nat _ l to now keep _ _ hp, left_clean bs l to now keep hp hc]
  show decide (0 < (cleanedRecs bs l to now keep i z).length) = true
  rw [cleaned_counts bs l to now keep hc]
  exact h
theorem stays_clean {p : Nat} {y : Batch} (hp : (cleanG bs l to now keep)[p]? = some y) : batchStaysB (cleanG bs l to now keep) l to now keep p y = true := by
  obtain ⟨i, z, hi, hz, hst, hP, he, rfl⟩ := clean_at bs l to now keep hp
  have hst0 := hst
  unfold batchStaysB at hst ⊢
  simp only [Bool.or_eq_true] at hst ⊢
  rcases hst with h | h | h
  · exact .inl h
  · refine .inr (.inl ?_)
    rw [endB_iff] at h ⊢
    intro p' y' hlt hlen hp'
    obtain ⟨i', z', hi', hz', _, _, he', rfl⟩ := clean_at bs l to now keep hp'
    have : i < i' := by
      apply Nat.lt_of_not_le
      intro hle
      have := selTo_pos_le (stAt bs l to now keep) (clAt bs l to now keep) hle
      omega
    exact h i' z' this hi' hz'
  · refine .inr (.inr ?_)
    by_cases h0 : z.ctl = 0
    · rw [if_pos h0] at h
      rw [if_pos h0]
      have := (has_clean bs l to now keep hz h0 h).2
      rw [← he] at this
      exact this
    · rw [if_neg h0] at h
      rw [if_neg h0]
      rw [List.any_eq_true] at h ⊢
      obtain ⟨q, hq, hl⟩ := h
      obtain ⟨j, u, rfl, hu, hj, hpid, hc0, htx, hno⟩ := txn_of bs z.pid i (by omega) q hq
      obtain ⟨hus, hul⟩ := has_clean bs l to now keep hu hc0 hl
      have hpu := clean_pos bs l to now keep hu hus
      refine ⟨_, ?_, hul⟩
      have hjP : stAt bs l to now keep j = true := by rw [stAt_of bs l to now keep hu]; exact hus
      refine txn_mem (cleanG bs l to now keep) z.pid _ _ hpu hpid hc0 htx p (Nat.le_of_lt (List.getElem?_eq_some_iff.1 hp).1) (by rw [he]; exact selTo_pos_lt _ _ hj hjP) ?_
      intro m v hm hm' hv hvp
      obtain ⟨i', z', hi', hz', _, hP', he', rfl⟩ := clean_at bs l to now keep hv
      refine hno i' z' ?_ ?_ hz' hvp
      · apply Nat.lt_of_not_le
        intro hle
        have := selTo_pos_le (stAt bs l to now keep) (clAt bs l to now keep) hle
        omega
      · apply Nat.lt_of_not_le
        intro hle
        have := selTo_pos_le (stAt bs l to now keep) (clAt bs l to now keep) hle
        omega
theorem clean_clean : cleanG (cleanG bs l to now keep) l to now keep = cleanG bs l to now keep := by
  have key : ∀ n, n ≤ (cleanG bs l to now keep).length → cleanTo (cleanG bs l to now keep) l to now keep n = (cleanG bs l to now keep).take n := by
    intro n
    induction n with
    | zero => intro _; simp [cleanTo]
    | succ n ih =>
      intro hn
      obtain ⟨y, hy⟩ : ∃ y, (cleanG bs l to now keep)[n]? = some y := ⟨_, List.getElem?_eq_getElem (by omega)⟩
      rw [cleanTo_succ _ l to now keep n y hy, if_pos (stays_clean bs l to now keep hy), ih (by omega), cleaned_clean bs l to now keep hy, List.take_add_one, hy]
      rfl
  have := key _ (Nat.le_refl _)
  rwa [List.take_length] at this
end
end Go.Proofs.Ytceamgkifjmbcaa

namespace Go.Proofs.Ytceamgkifjmbcaa
open Go.RowKit Go.Wm
def live (r : Rec) : Bool := !r.key.toList.isEmpty && !r.dead
/-- The values that a batch tells, of the first k of its records. -/
def vR (bs : List Batch) (l : List Gone) (to : Int) (i : Nat) (x : Batch) : Nat → List Rec
  | 0 => []
  | k + 1 => vR bs l to i x k ++ (match x.recs[k]? with | some r => if (live r && (lastG bs l to r.key == ((i : Int), (k : Int)))) = true then [r] else [] | none => [])
def V0 (l : List Gone) (to : Int) (x : Batch) : List Rec := if countsB l to x = true then x.recs.filter live else []
def valTo (bs : List Batch) (l : List Gone) (to : Int) (n : Nat) : List Rec := (((placesTo bs n).filter (isLast bs l to)).filterMap (recAt bs)).filter (fun r => !r.dead)
theorem valTo_rec (bs : List Batch) (l : List Gone) (to : Int) (i : Nat) (x : Batch) (hx : bs[i]? = some x) : ∀ k, k ≤ x.recs.length →
    (((((List.range k).map fun j => ((i : Int), ((j : Nat) : Int))).filter (isLast bs l to)).filterMap (recAt bs)).filter (fun r => !r.dead)) = vR bs l to i x k
  | 0, _ => rfl
  | k + 1, hk => by
    have hr : x.recs[k]? = some x.recs[k] := List.getElem?_eq_getElem (by omega)
    have hrec : recAt bs ((i : Int), (k : Int)) = some x.recs[k] := by simp [recAt, hx, hr]
    rw [List.range_succ, List.map_append, List.filter_append, List.filterMap_append, List.filter_append, valTo_rec bs l to i x hx k (by omega), vR, hr]
    congr 1
    simp only [List.map_cons, List.map_nil]
    have hL : isLast bs l to ((i : Int), (k : Int)) = (!x.recs[k].key.toList.isEmpty && (lastG bs l to x.recs[k].key == ((i : Int), (k : Int)))) := by simp only [isLast, hrec]
    rw [List.filter_cons, hL]
    unfold live
    cases h1 : x.recs[k].key.toList.isEmpty <;> cases h2 : (lastG bs l to x.recs[k].key == ((i : Int), (k : Int))) <;> cases h3 : x.recs[k].dead <;> simp [hrec, h3]
theorem valTo_succ (bs : List Batch) (l : List Gone) (to : Int) (n : Nat) (x : Batch) (hx : bs[n]? = some x) : valTo bs l to (n + 1) = valTo bs l to n ++ vR bs l to n x x.recs.length := by
  unfold valTo
  rw [placesTo, hx, List.filter_append, List.filterMap_append, List.filter_append]
  congr 1
  exact valTo_rec bs l to n x hx x.recs.length (Nat.le_refl _)
theorem vR_none (bs : List Batch) (l : List Gone) (to : Int) (i : Nat) (x : Batch) (hx : bs[i]? = some x) (hc : countsB l to x = false) : ∀ k, vR bs l to i x k = []
  | 0 => rfl
  | k + 1 => by
    rw [vR, vR_none bs l to i x hx hc k]
    cases hr : x.recs[k]? with
    | none => rfl
    | some r =>
      have hf : (lastG bs l to r.key == ((i : Int), (k : Int))) = false := by
        cases h : (lastG bs l to r.key == ((i : Int), (k : Int))) with
        | false => rfl
        | true =>
          have h' : lastG bs l to r.key = ((i : Int), (k : Int)) := by simpa using h
          rcases lastTo_place bs l to r.key bs.length (Nat.le_refl _) with h0 | ⟨i', j', x', r', h0, h1, _, _, h4⟩
          · have h0' : lastG bs l to r.key = (-1, -1) := h0
            rw [h0'] at h'
            simp only [Prod.mk.injEq] at h'
            omega
          · have h0' : lastG bs l to r.key = ((i' : Int), (j' : Int)) := h0
            rw [h0'] at h'
            simp only [Prod.mk.injEq] at h'
            have e : i' = i := by omega
            subst e
            rw [hx] at h1
            cases h1
            rw [hc] at h4
            cases h4
      simp [hf]
theorem vR_left (bs : List Batch) (l : List Gone) (to now keep : Int) (i : Nat) (x : Batch) (hc : countsB l to x = true) : ∀ k, k ≤ x.recs.length → vR bs l to i x k = (leftTo bs l to now keep i x k).filter live
  | 0, _ => rfl
  | k + 1, hk => by
    have hr : x.recs[k]? = some x.recs[k] := List.getElem?_eq_getElem (by omega)
    rw [vR, vR_left bs l to now keep i x hc k (by omega), leftTo_succ bs l to now keep i x k (by omega), hr]
    have hL : (lastG bs l to x.recs[k].key == ((i : Int), (k : Int))) = ((lastG bs l to x.recs[k].key).1 == (i : Int) && (lastG bs l to x.recs[k].key).2 == (k : Int)) := rfl
    have hS : staysB bs l to now keep i k x x.recs[k] = (x.recs[k].key.toList.isEmpty || ((lastG bs l to x.recs[k].key == ((i : Int), (k : Int))) && (!x.recs[k].dead || decide (wrap64 (now - x.recs[k].stamp) < keep)))) := by
      unfold staysB; rw [hc, Bool.true_and, hL]
    rw [hS]
    have hlv : live x.recs[k] = (!x.recs[k].key.toList.isEmpty && !x.recs[k].dead) := rfl
    simp only [hlv]
    cases h1 : x.recs[k].key.toList.isEmpty <;> cases h2 : (lastG bs l to x.recs[k].key == ((i : Int), (k : Int))) <;> cases h3 : x.recs[k].dead <;> cases h4 : decide (wrap64 (now - x.recs[k].stamp) < keep) <;> simp [List.filter_append, hlv, h1, h3]
theorem vR_all (xs : List Batch) (l : List Gone) (to : Int) (p : Nat) (y : Batch) (h : ∀ (k : Nat) (r : Rec), y.recs[k]? = some r → r.key ≠ ⟨#[]⟩ → lastG xs l to r.key = ((p : Int), (k : Int))) : ∀ k, k ≤ y.recs.length → vR xs l to p y k = (y.recs.take k).filter live
  | 0, _ => by simp [vR]
  | k + 1, hk => by
    have hr : y.recs[k]? = some y.recs[k] := List.getElem?_eq_getElem (by omega)
    rw [vR, vR_all xs l to p y h k (by omega), List.take_add_one, hr, List.filter_append]
    congr 1
    cases he : y.recs[k].key.toList.isEmpty with
    | true =>
      have hlv : live y.recs[k] = false := by unfold live; rw [he]; rfl
      simp [hlv]
    | false =>
      have hne : y.recs[k].key ≠ ⟨#[]⟩ := by intro e; rw [(isEmpty_iff _).2 e] at he; cases he
      show (if (live y.recs[k] && (lastG xs l to y.recs[k].key == ((p : Int), (k : Int)))) = true then [y.recs[k]] else []) = [y.recs[k]].filter live
      rw [h k _ hr hne]
      cases hlv : live y.recs[k] <;> simp [hlv]
section
variable (bs : List Batch) (l : List Gone) (to now keep : Int)
theorem values_left : ∀ n, n ≤ bs.length → valTo bs l to n = (cleanTo bs l to now keep n).flatMap (V0 l to)
  | 0, _ => rfl
  | n + 1, h => by
    obtain ⟨x, hx⟩ : ∃ x, bs[n]? = some x := ⟨_, List.getElem?_eq_getElem (by omega)⟩
    rw [valTo_succ bs l to n x hx, values_left n (by omega), cleanTo_succ bs l to now keep n x hx]
    cases hc : countsB l to x with
    | false =>
      rw [vR_none bs l to n x hx hc]
      split
      · have hv : V0 l to { x with recs := cleanedRecs bs l to now keep n x } = [] := by
          unfold V0
          rw [if_neg]
          intro h'
          have h2 : countsB l to x = true := h'
          rw [hc] at h2; cases h2
        simp [hv]
      · simp
    | true =>
      rw [vR_left bs l to now keep n x hc _ (Nat.le_refl _)]
      split
      · have hv : V0 l to { x with recs := cleanedRecs bs l to now keep n x } = (leftTo bs l to now keep n x x.recs.length).filter live := by
          unfold V0
          rw [if_pos (show countsB l to { x with recs := cleanedRecs bs l to now keep n x } = true from hc)]
          show (cleanedRecs bs l to now keep n x).filter live = _
          rw [cleaned_counts bs l to now keep hc]
          rfl
        simp [hv]
      · rename_i hs
        have h0 : leftTo bs l to now keep n x x.recs.length = [] := by
          have h1 : ¬ hasLeft bs l to now keep (n : Int) = true := by
            intro h1
            apply hs
            have hctl : x.ctl = 0 := by
              simp only [countsB, Bool.and_eq_true, beq_iff_eq] at hc
              exact hc.1.2
            exact (has_clean bs l to now keep hx hctl h1).1
          rw [hasLeft_nat bs l to now keep n x hx] at h1
          have h2 : (leftG bs l to now keep n x).length = 0 := by simpa using h1
          exact List.eq_nil_of_length_eq_zero h2
        rw [h0]; simp
theorem values_clean : valuesG (cleanG bs l to now keep) l to = valuesG bs l to := by
  have h1 : valuesG bs l to = (cleanG bs l to now keep).flatMap (V0 l to) := values_left bs l to now keep bs.length (Nat.le_refl _)
  have h2 : ∀ n, n ≤ (cleanG bs l to now keep).length → valTo (cleanG bs l to now keep) l to n = ((cleanG bs l to now keep).take n).flatMap (V0 l to) := by
    intro n
    induction n with
    | zero => intro _; simp [valTo, placesTo]
    | succ n ih =>
      intro hn
      obtain ⟨y, hy⟩ : ∃ y, (cleanG bs l to now keep)[n]? = some y := ⟨_, List.getElem?_eq_getElem (by omega)⟩
      rw [valTo_succ _ l to n y hy, ih (by omega), List.take_add_one, hy, List.flatMap_append]
      congr 1
      show vR (cleanG bs l to now keep) l to n y y.recs.length = [y].flatMap (V0 l to)
      rw [List.flatMap_cons, List.flatMap_nil, List.append_nil]
      cases hc : countsB l to y with
      | false => rw [vR_none _ l to n y hy hc]; unfold V0; rw [hc]; rfl
      | true =>
        rw [vR_all _ l to n y (fun k r hr hne => last_clean bs l to now keep hy hc hr hne) _ (Nat.le_refl _), List.take_length]
        unfold V0; rw [if_pos hc]
  have h3 := h2 _ (Nat.le_refl _)
  rw [List.take_length] at h3
  rw [h1]
  exact h3
theorem pallAt_eq (i : Nat) : pallAt bs l to (lookF bs l to) now keep (endLast bs to bs.length) i = if stAt bs l to now keep i = true then some (clAt bs l to now keep i) else none := by
  unfold pallAt
  cases hx : bs[i]? with
  | none => simp [stAt, hx]
  | some x =>
    rw [stAt_of bs l to now keep hx, clAt_of bs l to now keep hx]
    simp only [pkeep, pstay_eq bs l to now keep i x hx, pcleaned_eq bs l to now keep i x hx]
theorem outTo_data {k : Nat} {x : Batch} (hx : bs[k]? = some x) (hc : x.ctl = 0) : ∀ n, outTo bs n (k : Int) = []
  | 0 => rfl
  | n + 1 => by
    have ih := outTo_data hx hc n
    rw [outTo]
    cases hn : bs[n]? with
    | none => exact ih
    | some y =>
      by_cases hkn : (k : Int) = (n : Int)
      · have e : k = n := by omega
        subst e
        rw [hx] at hn
        cases hn
        simp [hc, ih]
      · simp [hkn, ih]
/-- What is left of batches that stand in order is right. -/
theorem right_law (hr : risingB bs = true) : checkG bs (cleanG bs l to now keep) l to now keep = 0 := by
  have hsel := cleanG_sel bs l to now keep
  obtain ⟨a, T, hM, _, _, hT⟩ := matchTo_sel bs (stAt bs l to now keep) (clAt bs l to now keep) (cleanG bs l to now keep)
    (fun i hi _ => by
      obtain ⟨b, hb⟩ : ∃ b, bs[i]? = some b := ⟨_, List.getElem?_eq_getElem hi⟩
      exact ⟨b, hb, by rw [clAt_of bs l to now keep hb]; exact match_clean b _ (cleaned_sub bs l to now keep i b)⟩)
    (fun i m b hi _ hm _ hb => by
      obtain ⟨x, hx⟩ : ∃ x, bs[i]? = some x := ⟨_, List.getElem?_eq_getElem hi⟩
      obtain ⟨q1, q2, _⟩ := rising_base hr i m x b hm hx hb
      refine match_base ?_
      rw [clAt_of bs l to now keep hx]
      show x.base ≠ b.base
      omega) bs.length (Nat.le_refl _) ⟨[], by rw [hsel]; simp⟩
  rw [← hsel] at hM
  unfold checkG
  rw [hM]
  simp only
  have hole : (List.range bs.length).any (holeAt bs l to now keep T) = false := by
    rw [List.any_eq_false]
    intro i hi
    have hi' := List.mem_range.1 hi
    unfold holeAt
    rw [pallAt_eq, hT i]
    by_cases hs : stAt bs l to now keep i = true
    · simp only [hs, hi', and_self, if_true]
      rw [among_sub (List.Sublist.refl _)]
      simp
    · simp [hs]
  have split : (List.range bs.length).any (splitAt bs T) = false := by
    rw [List.any_eq_false]
    intro k hk
    have hk' := List.mem_range.1 hk
    obtain ⟨x, hx⟩ : ∃ x, bs[k]? = some x := ⟨_, List.getElem?_eq_getElem hk'⟩
    unfold splitAt
    rw [hT k]
    by_cases hs : stAt bs l to now keep k = true
    · simp [hs, hk']
    · intro hcon
      simp only [Bool.and_eq_true] at hcon
      obtain ⟨_, hany⟩ := hcon
      apply hs
      rw [stAt_of bs l to now keep hx]
      by_cases hc : x.ctl = 0
      · rw [outTo_data bs hx hc] at hany
        simp at hany
      · have hout := outTo_of bs k x hx hc bs.length hk'
        rw [hout, List.any_eq_true] at hany
        obtain ⟨q, hq, hh⟩ := hany
        have hns : batchStaysB bs l to now keep k x = false := by
          rw [← stAt_of bs l to now keep hx]; simpa using hs
        have hlt : ¬ to ≤ x.last := by
          intro h'
          have : batchStaysB bs l to now keep k x = true := by simp [batchStaysB, h']
          rw [hns] at this; cases this
        obtain ⟨j, z, rfl, hz, hj, hpid, hc0, htx, _⟩ := txn_of bs x.pid k (by omega) q hq
        obtain ⟨q1, q2, q3⟩ := rising_base hr k j x z hj hx hz
        have hh' : hasLeft bs l to now keep (j : Int) = true := by
          unfold hasT at hh
          rw [show ((j : Int)).toNat = j from by omega, hT j] at hh
          by_cases hsj : j < bs.length ∧ stAt bs l to now keep j = true
          · rw [if_pos hsj] at hh
            rw [clAt_of bs l to now keep hz] at hh
            have hcl : cleanedRecs bs l to now keep j z = leftG bs l to now keep j z := by
              unfold cleanedRecs
              rw [if_pos (by simp [hc0]; omega)]
            rw [hasLeft_nat bs l to now keep j z hz, ← hcl]
            exact hh
          · rw [if_neg hsj] at hh
            simp at hh
        unfold batchStaysB
        rw [if_neg hc]
        simp only [Bool.or_eq_true]
        exact .inr (.inr (List.any_eq_true.2 ⟨_, hq, hh'⟩))
  rw [hole, split]
  simp [values_clean]
/-- What was is right, too. -/
theorem self_law : checkG bs bs l to now keep = 0 := by
  have hself := self_sel bs bs.length (Nat.le_refl _)
  rw [List.take_length] at hself
  obtain ⟨a, T, hM, _, _, hT⟩ := matchTo_sel bs (fun _ => true) (fun i => (bs[i]?).getD ⟨0, 0, 0, 0, 0, 0, 0, false, 0, []⟩) bs
    (fun i hi _ => by
      obtain ⟨b, hb⟩ : ∃ b, bs[i]? = some b := ⟨_, List.getElem?_eq_getElem hi⟩
      exact ⟨b, hb, by rw [hb]; exact match_clean b b.recs (List.Sublist.refl _)⟩)
    (fun i m b _ _ _ h => by cases h) bs.length (Nat.le_refl _) ⟨[], by rw [hself]; simp⟩
  rw [hself] at hM
  unfold checkG
  rw [hM]
  simp only
  have hole : (List.range bs.length).any (holeAt bs l to now keep T) = false := by
    rw [List.any_eq_false]
    intro i hi
    have hi' := List.mem_range.1 hi
    obtain ⟨b, hb⟩ : ∃ b, bs[i]? = some b := ⟨_, List.getElem?_eq_getElem hi'⟩
    unfold holeAt
    rw [pallAt_eq, hT i]
    by_cases hs : stAt bs l to now keep i = true
    · simp only [hs, hi', and_self, if_true]
      rw [clAt_of bs l to now keep hb, hb]
      show ¬ (!amongB (cleanedRecs bs l to now keep i b) b.recs) = true
      rw [among_sub (cleaned_sub bs l to now keep i b)]
      simp
    · simp [hs]
  have split : (List.range bs.length).any (splitAt bs T) = false := by
    rw [List.any_eq_false]
    intro k hk
    have hk' := List.mem_range.1 hk
    unfold splitAt
    rw [hT k]
    simp [hk']
  rw [hole, split]
  simp
/-- Without one batch that has to stay it is not. -/
theorem lazy_law (hr : risingB bs = true) (p : Nat) (hp : p < (cleanG bs l to now keep).length) : checkG bs ((cleanG bs l to now keep).take p ++ (cleanG bs l to now keep).drop (p + 1)) l to now keep = 321 := by
  rw [cleanG_sel] at hp ⊢
  obtain ⟨i0, hi0, hP0, he⟩ := selTo_erase _ _ _ _ hp
  rw [he]
  clear he hp
  obtain ⟨a, T, hM, _, _, hT⟩ := matchTo_sel bs (fun j => stAt bs l to now keep j && !(j == i0)) (clAt bs l to now keep) (selTo (fun j => stAt bs l to now keep j && !(j == i0)) (clAt bs l to now keep) bs.length)
    (fun i hi _ => by
      obtain ⟨b, hb⟩ : ∃ b, bs[i]? = some b := ⟨_, List.getElem?_eq_getElem hi⟩
      exact ⟨b, hb, by rw [clAt_of bs l to now keep hb]; exact match_clean b _ (cleaned_sub bs l to now keep i b)⟩)
    (fun i m b hi _ hm _ hb => by
      obtain ⟨x, hx⟩ : ∃ x, bs[i]? = some x := ⟨_, List.getElem?_eq_getElem hi⟩
      obtain ⟨q1, q2, _⟩ := rising_base hr i m x b hm hx hb
      refine match_base ?_
      rw [clAt_of bs l to now keep hx]
      show x.base ≠ b.base
      omega) bs.length (Nat.le_refl _) ⟨[], by simp⟩
  unfold checkG
  rw [hM]
  simp only
  have hole : (List.range bs.length).any (holeAt bs l to now keep T) = true := by
    rw [List.any_eq_true]
    refine ⟨i0, List.mem_range.2 hi0, ?_⟩
    unfold holeAt
    rw [pallAt_eq, hT i0]
    simp [hP0]
  rw [hole]
  simp
end
end Go.Proofs.Ytceamgkifjmbcaa
