/- Plain laws: what may be stays what may be, step by step; pieces that are there lie one behind the other. -/
import Derived.Test.YtcpecponmaakoaaGreatDoorH4
import Derived.Test.YtcpecponmaakoaaGreatDoorH2
import Derived.Test.YtcpecponmaakoaaGreatDoorS4
namespace Go.Proofs.YtcpecponmaakoaaGreatDoor
open Go.RowKit Go.Wm
theorem beyond_iff {n : Int} : beyond n = false ↔ 0 ≤ n ∧ n ≤ 1099511627776 := by
  unfold beyond
  simp
theorem checkM_mk {ver next : Int} {ps : List Piece} (h1 : 0 ≤ ver ∧ ver ≤ 1099511627776) (h2 : 0 ≤ next ∧ next ≤ 1099511627776) (hl : ps.length ≤ 256) (hc : chk next (-1) 0 true ps = true) : checkM ver next ps = 0 := by
  unfold checkM
  rw [if_neg (by rw [beyond_iff.2 h1, beyond_iff.2 h2]; simp), if_neg (by rw [hc]; simp), if_neg (by omega)]
theorem badP_iff {next last : Int} {p : Piece} : badP next last p = false ↔ last < p.id ∧ p.id < next ∧ (0 ≤ p.base ∧ p.base ≤ 1099511627776) ∧ (0 ≤ p.fin ∧ p.fin ≤ 1099511627776) ∧ (0 ≤ p.size ∧ p.size ≤ 1099511627776) ∧ p.base < p.fin := by
  constructor
  · exact badP_false
  · rintro ⟨h1, h2, h3, h4, h5, h6⟩
    unfold badP
    rw [beyond_iff.2 h3, beyond_iff.2 h4, beyond_iff.2 h5]
    simp
    omega
/-- A check of one piece more, parted. -/
theorem chk_cons {next last e : Int} {o : Bool} {p : Piece} {ps : List Piece} : chk next last e o (p :: ps) = true ↔
    badP next last p = false ∧ ((p.state = 1 ∨ p.state = 2) ∧ e ≤ p.base ∧ o = true ∧ chk next p.id p.fin (decide (p.state = 2)) ps = true ∨ p.state = 3 ∧ chk next p.id e o ps = true) := by
  rw [chk]
  by_cases hb : badP next last p = true
  · rw [if_pos hb]
    simp [hb]
  · rw [if_neg hb]
    have hb' : badP next last p = false := by simpa using hb
    by_cases h1 : p.state = 1 ∨ p.state = 2
    · rw [if_pos h1]
      by_cases h2 : p.base < e ∨ o = false
      · rw [if_pos h2]
        constructor
        · intro h; cases h
        · rintro ⟨_, ⟨_, h3, h4, _⟩ | ⟨h3, _⟩⟩
          · rcases h2 with h2 | h2
            · omega
            · rw [h2] at h4; cases h4
          · omega
      · rw [if_neg h2]
        rw [not_or] at h2
        constructor
        · intro h
          exact ⟨hb', .inl ⟨h1, by omega, by simpa using h2.2, h⟩⟩
        · rintro ⟨_, ⟨_, _, _, h⟩ | ⟨h3, _⟩⟩
          · exact h
          · omega
    · rw [if_neg h1]
      by_cases h3 : p.state = 3
      · rw [if_pos h3]
        constructor
        · intro h; exact ⟨hb', .inr ⟨h3, h⟩⟩
        · rintro ⟨_, ⟨h4, _⟩ | ⟨_, h⟩⟩
          · exact absurd h4 h1
          · exact h
      · rw [if_neg h3]
        constructor
        · intro h; cases h
        · rintro ⟨_, ⟨h4, _⟩ | ⟨h4, _⟩⟩
          · exact absurd h4 h1
          · exact absurd h4 h3
theorem chk_mono {next : Int} : ∀ (ps : List Piece) {l1 l2 e1 e2 : Int} {o1 o2 : Bool}, l1 ≤ l2 → e1 ≤ e2 → (o2 = true → o1 = true) → chk next l2 e2 o2 ps = true → chk next l1 e1 o1 ps = true
  | [], _, _, _, _, _, _, _, _, _, _ => rfl
  | p :: ps, l1, l2, e1, e2, o1, o2, hl, he, ho, h => by
    rw [chk_cons] at h ⊢
    obtain ⟨hb, h⟩ := h
    have hb2 := badP_iff.1 hb
    refine ⟨badP_iff.2 ⟨by omega, hb2.2⟩, ?_⟩
    rcases h with ⟨h1, h2, h3, h4⟩ | ⟨h1, h2⟩
    · exact .inl ⟨h1, by omega, ho h3, h4⟩
    · exact .inr ⟨h1, chk_mono ps (Int.le_refl _) he ho h2⟩
/-- A piece's step. -/
theorem chk_set {next : Int} (st : Int) (h23 : st = 2 ∨ st = 3) : ∀ (ps : List Piece) (i : Nat) (hi : i < ps.length) {last e : Int} {o : Bool}, (ps[i].state = 1 ∨ ps[i].state = 2 ∧ st = 3) → chk next last e o ps = true → chk next last e o (ps.set i (setState ps[i] st)) = true
  | p :: ps, 0, _, last, e, o, hs, h => by
    rw [List.set_cons_zero]
    show chk next last e o (setState p st :: ps) = true
    have hs : p.state = 1 ∨ p.state = 2 ∧ st = 3 := hs
    rw [chk_cons] at h ⊢
    obtain ⟨hb, h⟩ := h
    have hb2 := badP_iff.1 hb
    refine ⟨badP_iff.2 hb2, ?_⟩
    rcases h with ⟨h1, h2, h3, h4⟩ | ⟨h1, h2⟩
    · rcases h23 with rfl | rfl
      · refine .inl ⟨.inr rfl, h2, h3, ?_⟩
        exact chk_mono ps (Int.le_refl _) (Int.le_refl _) (fun _ => by simp [setState]) h4
      · refine .inr ⟨rfl, ?_⟩
        exact chk_mono ps (Int.le_refl _) (by have := hb2.2.2.2.2.2; show e ≤ p.fin; omega) (fun _ => h3) h4
    · omega
  | p :: ps, i + 1, hi, last, e, o, hs, h => by
    rw [List.set_cons_succ]
    rw [chk_cons] at h ⊢
    obtain ⟨hb, h⟩ := h
    refine ⟨hb, ?_⟩
    have hi' : i < ps.length := by simpa using hi
    rcases h with ⟨h1, h2, h3, h4⟩ | ⟨h1, h2⟩
    · exact .inl ⟨h1, h2, h3, chk_set st h23 ps i hi' hs h4⟩
    · exact .inr ⟨h1, chk_set st h23 ps i hi' hs h2⟩
theorem chk_erase {next : Int} : ∀ (ps : List Piece) (i : Nat) (hi : i < ps.length) {last e : Int} {o : Bool}, ps[i].state = 3 → chk next last e o ps = true → chk next last e o (ps.eraseIdx i) = true
  | p :: ps, 0, _, last, e, o, hs, h => by
    rw [List.eraseIdx_cons_zero]
    have hs : p.state = 3 := hs
    rw [chk_cons] at h
    obtain ⟨hb, h⟩ := h
    have hb2 := badP_iff.1 hb
    rcases h with ⟨h1, _⟩ | ⟨_, h2⟩
    · omega
    · exact chk_mono ps (by omega) (Int.le_refl _) id h2
  | p :: ps, i + 1, hi, last, e, o, hs, h => by
    rw [List.eraseIdx_cons_succ]
    rw [chk_cons] at h ⊢
    obtain ⟨hb, h⟩ := h
    refine ⟨hb, ?_⟩
    have hi' : i < ps.length := by simpa using hi
    rcases h with ⟨h1, h2, h3, h4⟩ | ⟨h1, h2⟩
    · exact .inl ⟨h1, h2, h3, chk_erase ps i hi' hs h4⟩
    · exact .inr ⟨h1, chk_erase ps i hi' hs h2⟩
theorem chk_filter {next : Int} : ∀ (ps : List Piece) {l1 l2 e1 e2 : Int} {o : Bool}, l1 ≤ l2 → e1 ≤ e2 → chk next l2 e2 o ps = true → chk next l1 e1 true (ps.filter (stIs 2)) = true
  | [], _, _, _, _, _, _, _, _ => rfl
  | p :: ps, l1, l2, e1, e2, o, hl, he, h => by
    rw [chk_cons] at h
    obtain ⟨hb, h⟩ := h
    have hb2 := badP_iff.1 hb
    by_cases h2 : p.state = 2
    · rw [List.filter_cons_of_pos (by simp [stIs, h2]), chk_cons]
      rcases h with ⟨_, h3, h4, h5⟩ | ⟨h3, _⟩
      · refine ⟨badP_iff.2 ⟨by omega, hb2.2⟩, .inl ⟨.inr h2, by omega, rfl, ?_⟩⟩
        have := chk_filter ps (Int.le_refl _) (Int.le_refl _) h5
        rw [decide_eq_true h2]
        exact this
      · omega
    · rw [List.filter_cons_of_neg (by simp [stIs, h2])]
      rcases h with ⟨_, h3, h4, h5⟩ | ⟨h3, h5⟩
      · exact chk_filter ps (by omega) (by omega) h5
      · exact chk_filter ps (by omega) he h5
/-- The end of what counts. -/
def endA : Int → List Piece → Int
  | e, [] => e
  | e, p :: ps => if p.state = 2 then endA p.fin ps else endA e ps
theorem endA_spanL : ∀ (ps : List Piece) (e : Int), endA e ps = if ps.filter (stIs 2) = [] then e else (spanL (ps.filter (stIs 2))).2
  | [], _ => rfl
  | p :: ps, e => by
    rw [endA]
    by_cases h : p.state = 2
    · rw [if_pos h, endA_spanL ps p.fin, List.filter_cons_of_pos (show stIs 2 p = true by simp [stIs, h])]
      cases hf : ps.filter (stIs 2) with
      | nil => simp [spanL]
      | cons q l => simp [spanL]
    · rw [if_neg h, endA_spanL ps e, List.filter_cons_of_neg (by simp [stIs, h])]
theorem endA_span (ps : List Piece) : endA 0 ps = (spanP ps).2 := by
  rw [endA_spanL, spanP]
  cases hf : ps.filter (stIs 2) with
  | nil => rfl
  | cons q l => rfl
theorem chk_snoc {next : Int} (q : Piece) (hq : badP (next + 1) (next - 1) q = false) (hs : q.state = 1) : ∀ (ps : List Piece) {last e : Int}, last < next → (∀ p ∈ ps, stIs 1 p = false) → endA e ps ≤ q.base → chk next last e true ps = true → chk (next + 1) last e true (ps ++ [q]) = true
  | [], last, e, hl, _, he, _ => by
    rw [List.nil_append, chk_cons]
    have hb2 := badP_iff.1 hq
    exact ⟨badP_iff.2 ⟨by omega, hb2.2⟩, .inl ⟨.inl hs, he, rfl, rfl⟩⟩
  | p :: ps, last, e, hl, hno, he, h => by
    rw [List.cons_append, chk_cons]
    rw [chk_cons] at h
    obtain ⟨hb, h⟩ := h
    have hb2 := badP_iff.1 hb
    have hp1 : p.state ≠ 1 := by
      have := hno p (by simp)
      intro h1
      simp [stIs, h1] at this
    refine ⟨badP_iff.2 ⟨hb2.1, by omega, hb2.2.2⟩, ?_⟩
    rw [endA] at he
    rcases h with ⟨h1, h2, h3, h4⟩ | ⟨h1, h2⟩
    · have hp2 : p.state = 2 := by rcases h1 with h1 | h1; exact absurd h1 hp1; exact h1
      rw [if_pos hp2] at he
      rw [decide_eq_true hp2] at h4
      refine .inl ⟨h1, h2, h3, ?_⟩
      rw [decide_eq_true hp2]
      exact chk_snoc q hq hs ps (by omega) (fun p' hp' => hno p' (by simp [hp'])) he h4
    · rw [if_neg (by omega)] at he
      exact .inr ⟨h1, chk_snoc q hq hs ps (by omega) (fun p' hp' => hno p' (by simp [hp'])) he h2⟩
/-- The pieces that are there lie one behind the other. -/
theorem chk_pairs {next : Int} : ∀ (ps : List Piece) {last e : Int} {o : Bool}, chk next last e o ps = true → (∀ p ∈ ps.filter (stIs 2), e ≤ p.base ∧ p.base < p.fin) ∧ (ps.filter (stIs 2)).Pairwise fun p q => p.fin ≤ q.base
  | [], _, _, _, _ => ⟨by simp, by simp⟩
  | p :: ps, last, e, o, h => by
    rw [chk_cons] at h
    obtain ⟨hb, h⟩ := h
    have hb2 := badP_iff.1 hb
    by_cases h2 : p.state = 2
    · rw [List.filter_cons_of_pos (by simp [stIs, h2])]
      rcases h with ⟨_, h3, h4, h5⟩ | ⟨h3, _⟩
      · obtain ⟨i1, i2⟩ := chk_pairs ps h5
        refine ⟨fun q hq => ?_, List.pairwise_cons.2 ⟨fun q hq => (i1 q hq).1, i2⟩⟩
        rcases List.mem_cons.1 hq with rfl | hq
        · exact ⟨h3, hb2.2.2.2.2.2⟩
        · have := i1 q hq
          exact ⟨by omega, this.2⟩
      · omega
    · rw [List.filter_cons_of_neg (by simp [stIs, h2])]
      rcases h with ⟨_, h3, h4, h5⟩ | ⟨h3, h5⟩
      · obtain ⟨i1, i2⟩ := chk_pairs ps h5
        exact ⟨fun q hq => ⟨by have := (i1 q hq).1; omega, (i1 q hq).2⟩, i2⟩
      · exact chk_pairs ps h5
theorem lastD_get : ∀ (l : List Piece) (q : Piece), (q :: l)[l.length]'(by simp) = l.getLastD q
  | [], _ => rfl
  | r :: l, q => by
    have := lastD_get l r
    have e : ((r :: l).getLastD q) = l.getLastD r := by cases l <;> rfl
    rw [e, ← this]
    rfl
theorem spanL_in {l : List Piece} (hp : l.Pairwise fun p q => p.fin ≤ q.base) (hb : ∀ p ∈ l, p.base < p.fin) : ∀ p ∈ l, (spanL l).1 ≤ p.base ∧ p.fin ≤ (spanL l).2 := by
  cases l with
  | nil => intro p h; simp at h
  | cons q l =>
    rw [List.pairwise_cons] at hp
    have hlast : ∀ (l : List Piece) (q : Piece), (∀ p ∈ q :: l, p.base < p.fin) → (∀ p ∈ l, q.fin ≤ p.base) → l.Pairwise (fun p q => p.fin ≤ q.base) → ∀ p ∈ q :: l, p.fin ≤ (l.getLastD q).fin := by
      intro l
      induction l with
      | nil => intro q _ _ _ p hp; simp at hp; subst hp; simp
      | cons r l ih =>
        intro q h1 h2 h3 p hpm
        rw [List.pairwise_cons] at h3
        have hr := ih r (fun p hp => h1 p (List.mem_cons_of_mem _ hp)) h3.1 h3.2
        have e : ((r :: l).getLastD q) = l.getLastD r := by cases l <;> rfl
        rw [e]
        rcases List.mem_cons.1 hpm with rfl | hpm
        · have h4 := hr r (by simp)
          have h5 := h2 r (by simp)
          have h6 := h1 r (by simp)
          omega
        · exact hr p hpm
    intro p hpm
    refine ⟨?_, ?_⟩
    · show q.base ≤ p.base
      rcases List.mem_cons.1 hpm with rfl | hpm
      · exact Int.le_refl _
      · have h1 := hp.1 p hpm
        have h2 := hb q (by simp)
        omega
    · have := hlast l q hb hp.1 hp.2 p hpm
      show p.fin ≤ ((q :: l)[l.length]'(by simp)).fin
      rw [lastD_get]
      exact this
/-- At most one piece that is there holds an offset. -/
theorem count_one {off : Int} : ∀ {l : List Piece}, l.Pairwise (fun p q => p.fin ≤ q.base) → (l.filter fun p => decide (p.base ≤ off) && decide (off < p.fin)).length ≤ 1
  | [], _ => by simp
  | p :: l, h => by
    rw [List.pairwise_cons] at h
    by_cases hp : (decide (p.base ≤ off) && decide (off < p.fin)) = true
    · rw [List.filter_cons_of_pos (p := fun p : Piece => decide (p.base ≤ off) && decide (off < p.fin)) hp]
      have hn : (l.filter fun p => decide (p.base ≤ off) && decide (off < p.fin)) = [] := by
        rw [List.filter_eq_nil_iff]
        intro q hq
        have h1 := h.1 q hq
        simp at hp ⊢
        omega
      rw [hn]
      simp
    · rw [List.filter_cons_of_neg (p := fun p : Piece => decide (p.base ≤ off) && decide (off < p.fin)) hp]
      exact count_one h.2
theorem atP_filter (off : Int) (ps : List Piece) : ps.filter (atP off) = (ps.filter (stIs 2)).filter fun p => decide (p.base ≤ off) && decide (off < p.fin) := by
  rw [List.filter_filter]
  congr 1
  funext p
  unfold atP stIs
  rw [Bool.and_assoc, Bool.and_comm]
end Go.Proofs.YtcpecponmaakoaaGreatDoor
