/- Plain laws: a number's digits read back; sorted and compacted lists are insertions. -/
import Derived.Lib.AtoiTie
import Derived.Lib.ItoaLen
import Derived.Lib.SlicesCompact
namespace Go.Wm
open Go.Lib
theorem decFrom_append (l m : List UInt8) : ∀ acc, decFrom acc (l ++ m) = (decFrom acc l).bind fun n => decFrom n m := by
  induction l with
  | nil => intro acc; rfl
  | cons b l ih =>
    intro acc
    simp only [List.cons_append, decFrom]
    cases digitVal b with
    | none => rfl
    | some d => exact ih _
theorem digit_of (i : Nat) (h : i < 10) : (UInt8.ofNat (48 + i)).toNat = 48 + i := by
  rw [UInt8.toNat_ofNat']; omega
theorem digitVal_of (i : Nat) (h : i < 10) : digitVal (UInt8.ofNat (48 + i)) = some i := by
  unfold digitVal
  rw [digit_of i h, if_pos (by omega)]
  congr 1; omega
theorem decFrom_decDigits (u : Nat) : decFrom 0 (decDigits u) = some u := by
  induction u using Nat.strongRecOn with
  | _ u ih =>
    by_cases h : u < 10
    · rw [decDigits, dif_pos h]
      simp only [decFrom, digitVal_of u h, Nat.zero_mul, Nat.zero_add]
    · rw [decDigits, dif_neg h, decFrom_append, ih (u / 10) (by omega)]
      simp only [Option.bind_some, decFrom, digitVal_of (u % 10) (by omega)]
      congr 1; omega
theorem decDigits_digit (u : Nat) : ∀ b ∈ decDigits u, 48 ≤ b.toNat ∧ b.toNat ≤ 57 := by
  induction u using Nat.strongRecOn with
  | _ u ih =>
    intro b hb
    by_cases h : u < 10
    · rw [decDigits, dif_pos h] at hb
      simp only [List.mem_singleton] at hb
      subst hb
      rw [digit_of u h]; omega
    · rw [decDigits, dif_neg h, List.mem_append] at hb
      rcases hb with hb | hb
      · exact ih (u / 10) (by omega) b hb
      · simp only [List.mem_singleton] at hb
        subst hb
        rw [digit_of _ (by omega)]; omega
theorem nDigits_13 (u : Nat) (h : u < 10000000000000) : nDigits u ≤ 13 := by
  rcases Nat.lt_or_ge 13 (nDigits u) with h1 | h1
  · exfalso
    have key : ∀ k u, k + 1 ≤ nDigits u → 0 < u → 10 ^ k ≤ u := by
      intro k
      induction k with
      | zero => intro u _ h0; rw [Nat.pow_zero]; omega
      | succ k ih =>
        intro u hu h0
        by_cases h : u < 10
        · rw [nDigits_small h] at hu; omega
        · rw [nDigits_big h] at hu
          have := ih (u / 10) (by omega) (by omega)
          rw [Nat.pow_succ]; omega
    by_cases h0 : 0 < u
    · have := key 13 u h1 h0
      omega
    · have : u = 0 := by omega
      subst this
      rw [nDigits_small (by decide)] at h1; omega
  · exact h1
theorem itoa_nat (x : Int) (h : 0 ≤ x) : itoa x = decDigits x.toNat := by unfold itoa; rw [if_neg (by omega)]
theorem atoiAll_itoa (x : Int) (h : 0 ≤ x) (h2 : x ≤ 1099511627776) : atoiAll (itoa x) = .ok x := by
  rw [itoa_nat x h]
  have hl : (decDigits x.toNat).length ≤ 13 := by rw [decDigits_length]; exact nDigits_13 _ (by omega)
  rw [atoiAll_short _ (by omega)]
  have hd := decDigits_digit x.toNat
  have hf := decFrom_decDigits x.toNat
  cases hc : decDigits x.toNat with
  | nil =>
    have := nDigits_pos x.toNat
    rw [← decDigits_length, hc] at this
    simp at this
  | cons b r =>
    have hb := hd b (by rw [hc]; simp)
    have h45 : (b == 45) = false := by
      rw [beq_eq_false_iff_ne]
      intro e; rw [e] at hb
      exact absurd hb.1 (by decide)
    have h43 : (b == 43) = false := by
      rw [beq_eq_false_iff_ne]
      intro e; rw [e] at hb
      exact absurd hb.1 (by decide)
    rw [hc] at hf
    simp only [atoi, h45, h43, Bool.false_eq_true, if_false, decNat, List.isEmpty_cons, hf, Option.map_some, NumEnd.ofOption]
    congr 1; omega
/-! rising lists -/
theorem blt_irrefl (x : List UInt8) : ¬ x < x := List.lt_irrefl x
theorem rising_eq : ∀ (l m : List (List UInt8)), l.Pairwise (· < ·) → m.Pairwise (· < ·) → (∀ x, x ∈ l ↔ x ∈ m) → l = m
  | [], [], _, _, _ => rfl
  | [], y :: m, _, _, h => by have := (h y).2 (by simp); simp at this
  | x :: l, [], _, _, h => by have := (h x).1 (by simp); simp at this
  | x :: l, y :: m, hl, hm, h => by
    rw [List.pairwise_cons] at hl hm
    have e : x = y := by
      have h1 := (h x).1 (by simp)
      have h2 := (h y).2 (by simp)
      rw [List.mem_cons] at h1 h2
      rcases h1 with h1 | h1
      · exact h1
      · rcases h2 with h2 | h2
        · exact h2.symm
        · exact absurd (List.lt_trans (hm.1 x h1) (hl.1 y h2)) (blt_irrefl y)
    subst e
    congr 1
    refine rising_eq l m hl.2 hm.2 fun z => ⟨fun hz => ?_, fun hz => ?_⟩
    · have := (h z).1 (by simp [hz])
      rw [List.mem_cons] at this
      rcases this with rfl | h'
      · exact absurd (hl.1 z hz) (blt_irrefl z)
      · exact h'
    · have := (h z).2 (by simp [hz])
      rw [List.mem_cons] at this
      rcases this with rfl | h'
      · exact absurd (hm.1 z hz) (blt_irrefl z)
      · exact h'
def putB : List (List UInt8) → List UInt8 → List (List UInt8)
  | [], s => [s]
  | x :: l, s => if x < s then x :: putB l s else if x = s then x :: l else s :: x :: l
theorem mem_putB (s y : List UInt8) : ∀ l, y ∈ putB l s ↔ y ∈ l ∨ y = s
  | [] => by simp [putB]
  | x :: l => by
    unfold putB
    split
    · rw [List.mem_cons, mem_putB s y l, List.mem_cons, or_assoc]
    · split
      · rename_i _ h
        subst h
        simp only [List.mem_cons]
        constructor
        · intro h; exact .inl h
        · rintro (h | h)
          · exact h
          · exact .inl h
      · simp only [List.mem_cons]
        constructor
        · rintro (h | h)
          · exact .inr h
          · exact .inl h
        · rintro (h | h)
          · exact .inr h
          · exact .inl h
theorem putB_rising (s : List UInt8) : ∀ l, l.Pairwise (· < ·) → (putB l s).Pairwise (· < ·)
  | [], _ => by simp [putB]
  | x :: l, h => by
    rw [List.pairwise_cons] at h
    unfold putB
    split
    · rename_i hlt
      rw [List.pairwise_cons]
      refine ⟨fun y hy => ?_, putB_rising s l h.2⟩
      rw [mem_putB] at hy
      rcases hy with hy | rfl
      · exact h.1 y hy
      · exact hlt
    · split
      · rw [List.pairwise_cons]; exact h
      · rename_i h1 h2
        have hsx : s < x := by
          rcases List.le_total s x with h3 | h3
          · exact List.lt_of_le_of_lt (α := UInt8) (List.le_refl s) (by
              rcases Decidable.em (s < x) with h4 | h4
              · exact h4
              · exact absurd (List.le_antisymm (as := x) (bs := s) h4 h3) h2)
          · exact absurd (List.le_antisymm (as := x) (bs := s) h3 h1) h2
        rw [List.pairwise_cons, List.pairwise_cons]
        refine ⟨fun y hy => ?_, h⟩
        rw [List.mem_cons] at hy
        rcases hy with rfl | hy
        · exact hsx
        · exact List.lt_trans hsx (h.1 y hy)
theorem foldl_putB_rising (l : List (List UInt8)) : ∀ acc, acc.Pairwise (· < ·) → (l.foldl putB acc).Pairwise (· < ·) := by
  induction l with
  | nil => intro acc h; exact h
  | cons x l ih => intro acc h; exact ih _ (putB_rising x acc h)
theorem mem_foldl_putB (y : List UInt8) (l : List (List UInt8)) : ∀ acc, y ∈ l.foldl putB acc ↔ y ∈ acc ∨ y ∈ l := by
  induction l with
  | nil => intro acc; simp
  | cons x l ih =>
    intro acc
    rw [List.foldl_cons, ih, mem_putB, List.mem_cons, or_assoc]
theorem compactUpTo_rising (zs : List (List UInt8)) (hs : zs.Pairwise fun x y => x ≤ y) : ∀ m, m ≤ zs.length →
    (compactUpTo zs.toArray m).Pairwise (· < ·) ∧ (∀ x, x ∈ compactUpTo zs.toArray m ↔ x ∈ zs.take m) := by
  intro m
  induction m with
  | zero => intro _; exact ⟨by simp [compactUpTo], fun x => by simp [compactUpTo]⟩
  | succ m ih =>
    intro hm
    obtain ⟨h1, h2⟩ := ih (by omega)
    have hg : zs.toArray[m]! = zs[m]'(by omega) := by simp [getElem!_pos, show m < zs.length by omega]
    rw [compactUpTo_succ, List.take_succ_eq_append_getElem (by omega), hg]
    have hle : ∀ j (hj : j < zs.length), j ≤ m → zs[j] ≤ zs[m]'(by omega) := by
      intro j hj hjm
      rcases Nat.lt_or_ge j m with h | h
      · exact List.pairwise_iff_getElem.1 hs j m hj (by omega) h
      · have : j = m := by omega
        subst this
        exact List.le_refl _
    by_cases hk : keeps zs.toArray m = true
    · rw [if_pos hk]
      refine ⟨?_, fun x => by rw [List.mem_append, List.mem_append, h2]⟩
      rw [List.pairwise_append]
      refine ⟨h1, by simp, fun x hx y hy => ?_⟩
      simp only [List.mem_singleton] at hy
      subst hy
      rw [h2] at hx
      obtain ⟨j, hj, rfl⟩ := List.getElem_of_mem hx
      rw [List.length_take] at hj
      rw [List.getElem_take]
      have hjm : j < m := by omega
      have hm0 : m ≠ 0 := by omega
      have hne : zs[m]'(by omega) ≠ zs[m - 1]'(by omega) := by
        have : (m = 0 ∨ zs.toArray[m]! ≠ zs.toArray[m - 1]!) := by simpa [keeps] using hk
        rcases this with h | h
        · exact absurd h hm0
        · rw [hg] at h
          simpa [getElem!_pos, show m - 1 < zs.length by omega] using h
      have h3 : zs[j]'(by omega) ≤ zs[m - 1]'(by omega) := by
        rcases Nat.lt_or_ge j (m - 1) with h | h
        · exact List.pairwise_iff_getElem.1 hs j (m - 1) (by omega) (by omega) h
        · have : j = m - 1 := by omega
          subst this
          exact List.le_refl _
      have h4 := hle (m - 1) (by omega) (by omega)
      have h5 : zs[m - 1]'(by omega) < zs[m]'(by omega) := by
        rcases Decidable.em (zs[m - 1]'(by omega) < zs[m]'(by omega)) with h6 | h6
        · exact h6
        · exact absurd (List.le_antisymm h6 h4) hne
      exact List.lt_of_le_of_lt h3 h5
    · rw [if_neg hk, List.append_nil]
      refine ⟨h1, fun x => ?_⟩
      rw [h2, List.mem_append]
      constructor
      · exact .inl
      · rintro (h | h)
        · exact h
        · simp only [List.mem_singleton] at h
          subst h
          have : ¬ (m = 0 ∨ zs.toArray[m]! ≠ zs.toArray[m - 1]!) := by simpa [keeps] using hk
          rw [not_or, Decidable.not_not] at this
          obtain ⟨hm0, he⟩ := this
          rw [hg] at he
          have he2 : zs[m]'(by omega) = zs[m - 1]'(by omega) := by simpa [getElem!_pos, show m - 1 < zs.length by omega] using he
          rw [he2]
          exact List.mem_take_iff_getElem.2 ⟨m - 1, by omega, rfl⟩
theorem compact_sort_eq (l : List (List UInt8)) : compact (l.mergeSort fun x y => decide (x ≤ y)) = l.foldl putB [] := by
  have hs : (l.mergeSort fun x y => decide (x ≤ y)).Pairwise fun x y => x ≤ y := by
    have := List.pairwise_mergeSort (le := fun x y : List UInt8 => decide (x ≤ y)) (fun a b c h1 h2 => by simp only [decide_eq_true_eq] at *; exact List.le_trans h1 h2) (fun a b => by simp only [Bool.or_eq_true, decide_eq_true_eq]; exact List.le_total a b) l
    exact this.imp (by simp)
  obtain ⟨h1, h2⟩ := compactUpTo_rising _ hs _ (Nat.le_refl _)
  refine rising_eq _ _ h1 (foldl_putB_rising l [] (by simp)) fun x => ?_
  show x ∈ compactUpTo _ _ ↔ _
  rw [h2, List.take_length, mem_foldl_putB]
  simp
end Go.Wm
