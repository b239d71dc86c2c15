/- Plain law: marks put in where they belong, place by place, are the marks of the keys in their order. -/
import Derived.Test.YtceamgkifjmbcaaMath8
namespace Go.Proofs.Ytceamgkifjmbcaa
open Go.RowKit Go.Wm
def ltK (a b : ByteArray) : Bool := Op.bytesLess a.toList b.toList
theorem ltK_iff (a b : ByteArray) : ltK a b = true ↔ a.toList < b.toList := by unfold ltK; rw [bytesLess_eq]; simp
theorem ltK_trans {a b c : ByteArray} (h1 : ltK a b = true) (h2 : ltK b c = true) : ltK a c = true := by
  rw [ltK_iff] at *; exact List.lt_trans h1 h2
theorem ltK_irrefl (a : ByteArray) : ltK a a = false := by
  cases h : ltK a a with
  | false => rfl
  | true => rw [ltK_iff] at h; exact absurd h (List.lt_irrefl _)
theorem ltK_total {a b : ByteArray} (h : ltK a b = false) (hne : a ≠ b) : ltK b a = true := by
  rw [ltK_iff]
  have h1 : ¬ a.toList < b.toList := by intro h'; rw [(ltK_iff a b).2 h'] at h; cases h
  have h2 : b.toList ≤ a.toList := by simpa using h1
  rcases List.le_iff_lt_or_eq.1 h2 with h3 | h3
  · exact h3
  · exact absurd (toList_inj.1 h3).symm hne
/-- Where a key belongs, from n down. -/
def insPos (ms : List Mark) (K : ByteArray) : Nat → Nat
  | 0 => 0
  | n + 1 => match ms[n]? with | some m => if ltK K m.key = true then insPos ms K n else n + 1 | none => n + 1
theorem insPos_le (ms : List Mark) (K : ByteArray) : ∀ n, insPos ms K n ≤ n
  | 0 => Nat.le_refl _
  | n + 1 => by
    have := insPos_le ms K n
    rw [insPos]
    split
    · split <;> omega
    · omega
theorem insPos_above (ms : List Mark) (K : ByteArray) : ∀ n, n ≤ ms.length → ∀ j m, insPos ms K n ≤ j → j < n → ms[j]? = some m → ltK K m.key = true
  | 0, _, j, m, _, h, _ => by omega
  | n + 1, hn, j, m, h1, h2, h3 => by
    have hm : ms[n]? = some ms[n] := List.getElem?_eq_getElem (by omega)
    rw [insPos, hm] at h1
    simp only at h1
    split at h1
    · rename_i hk
      by_cases hj : j = n
      · subst hj
        rw [hm] at h3
        cases h3
        exact hk
      · exact insPos_above ms K n (by omega) j m h1 (by omega) h3
    · omega
theorem insPos_at (ms : List Mark) (K : ByteArray) : ∀ n, n ≤ ms.length → ∀ j m, insPos ms K n = j + 1 → ms[j]? = some m → ltK K m.key = false
  | 0, _, j, m, h, _ => by simp [insPos] at h
  | n + 1, hn, j, m, h1, h3 => by
    have hm : ms[n]? = some ms[n] := List.getElem?_eq_getElem (by omega)
    rw [insPos, hm] at h1
    simp only at h1
    split at h1
    · exact insPos_at ms K n (by omega) j m h1 h3
    · rename_i hk
      have hj : j = n := by omega
      subst hj
      rw [hm] at h3
      cases h3
      simpa using hk
def insM (ms : List Mark) (m : Mark) : List Mark := (ms.take (insPos ms m.key ms.length) ++ [m]) ++ ms.drop (insPos ms m.key ms.length)
theorem insM_length (ms : List Mark) (m : Mark) : (insM ms m).length = ms.length + 1 := by
  have := insPos_le ms m.key ms.length
  unfold insM
  simp only [List.length_append, List.length_take, List.length_drop, List.length_singleton]
  omega
theorem mem_insM (ms : List Mark) (m x : Mark) : x ∈ insM ms m ↔ x = m ∨ x ∈ ms := by
  unfold insM
  rw [List.mem_append, List.mem_append, List.mem_singleton]
  have h : x ∈ ms ↔ x ∈ ms.take (insPos ms m.key ms.length) ∨ x ∈ ms.drop (insPos ms m.key ms.length) := by
    rw [← List.mem_append, List.take_append_drop]
  rw [h]
  constructor
  · rintro ((h | h) | h)
    · exact .inr (.inl h)
    · exact .inl h
    · exact .inr (.inr h)
  · rintro (h | h | h)
    · exact .inl (.inr h)
    · exact .inl (.inl h)
    · exact .inr h
def RiseM (ms : List Mark) : Prop := ms.Pairwise (fun a b => ltK a.key b.key = true)
theorem insM_rise {ms : List Mark} {m : Mark} (h : RiseM ms) (hne : ∀ x ∈ ms, x.key ≠ m.key) : RiseM (insM ms m) := by
  unfold insM RiseM
  have hle := insPos_le ms m.key ms.length
  have hab := insPos_above ms m.key ms.length (Nat.le_refl _)
  have hat := insPos_at ms m.key ms.length (Nat.le_refl _)
  generalize insPos ms m.key ms.length = p at *
  have hup : ∀ x ∈ ms.drop p, ltK m.key x.key = true := by
    intro x hx
    obtain ⟨j, hj⟩ := List.mem_iff_getElem?.1 hx
    rw [List.getElem?_drop] at hj
    exact hab (p + j) x (by omega) (List.getElem?_eq_some_iff.1 hj).1 hj
  have hdown : ∀ x ∈ ms.take p, ltK x.key m.key = true := by
    intro x hx
    obtain ⟨j, hj⟩ := List.mem_iff_getElem?.1 hx
    have hjl := (List.getElem?_eq_some_iff.1 hj).1
    rw [List.length_take] at hjl
    rw [List.getElem?_take_of_lt (by omega)] at hj
    obtain ⟨q, rfl⟩ : ∃ q, p = q + 1 := ⟨p - 1, by omega⟩
    have hq : ms[q]? = some ms[q] := List.getElem?_eq_getElem (by omega)
    have h1 := ltK_total (hat q _ rfl hq) (fun e => hne ms[q] (List.getElem_mem _) e.symm)
    by_cases hjq : j = q
    · subst hjq
      rw [hq] at hj
      cases hj
      exact h1
    · have h2 := List.pairwise_iff_getElem.1 h j q (by omega) (by omega) (by omega)
      have hx' : ms[j] = x := by
        rw [List.getElem?_eq_getElem (by omega)] at hj
        exact Option.some.inj hj
      rw [hx'] at h2
      exact ltK_trans h2 h1
  have hparts : (ms.take p ++ ms.drop p).Pairwise (fun a b => ltK a.key b.key = true) := by rw [List.take_append_drop]; exact h
  rw [List.pairwise_append] at hparts
  obtain ⟨q1, q2, q3⟩ := hparts
  rw [List.append_assoc, List.pairwise_append]
  refine ⟨q1, ?_, ?_⟩
  · rw [List.singleton_append, List.pairwise_cons]
    exact ⟨hup, q2⟩
  · intro a ha b hb
    rw [List.singleton_append, List.mem_cons] at hb
    rcases hb with rfl | hb
    · exact hdown a ha
    · exact q3 a ha b hb
section
variable (bs : List Batch) (l : List Gone) (to : Int)
def isLastAt (i k : Nat) (r : Rec) : Bool := !r.key.toList.isEmpty && ((lastG bs l to r.key).1 == (i : Int) && (lastG bs l to r.key).2 == (k : Int))
def insR (i : Nat) (x : Batch) (s : List Mark) : Nat → List Mark
  | 0 => s
  | k + 1 => match x.recs[k]? with | some r => if isLastAt bs l to i k r = true then insM (insR i x s k) ⟨r.key, r.off⟩ else insR i x s k | none => insR i x s k
theorem insR_succ (i : Nat) (x : Batch) (s : List Mark) (k : Nat) (r : Rec) (h : x.recs[k]? = some r) : insR bs l to i x s (k + 1) = if isLastAt bs l to i k r = true then insM (insR bs l to i x s k) ⟨r.key, r.off⟩ else insR bs l to i x s k := by rw [insR, h]
def insTo : Nat → List Mark
  | 0 => []
  | i + 1 => match bs[i]? with | some x => insR bs l to i x (insTo i) x.recs.length | none => insTo i
theorem insTo_succ (i : Nat) (x : Batch) (h : bs[i]? = some x) : insTo bs l to (i + 1) = insR bs l to i x (insTo bs l to i) x.recs.length := by rw [insTo, h]
theorem insR_length (i : Nat) (x : Batch) (s : List Mark) : ∀ k, (insR bs l to i x s k).length ≤ s.length + k
  | 0 => by simp [insR]
  | k + 1 => by
    have := insR_length i x s k
    rw [insR]
    split
    · split
      · rw [insM_length]; omega
      · omega
    · omega
def Before (p : Int × Int) (i k : Nat) : Prop := p.1 < (i : Int) ∨ (p.1 = (i : Int) ∧ p.2 < (k : Int))
/-- What the marks are, behind the places that are before (i, k). -/
def MarksOf (ms : List Mark) (i k : Nat) : Prop := RiseM ms ∧ ∀ m, m ∈ ms ↔ ∃ K, (lookO bs l to K).isSome = true ∧ Before (lastG bs l to K) i k ∧ m = markOf bs l to K
theorem markOf_of {K : ByteArray} {i j : Nat} {x : Batch} {r : Rec} (hs : (lookO bs l to K).isSome = true) (hp : lastG bs l to K = ((i : Int), (j : Int))) (hx : bs[i]? = some x) (hr : x.recs[j]? = some r) : markOf bs l to K = ⟨K, r.off⟩ := by
  obtain ⟨_, hlF, _⟩ := lookO_some hs
  unfold markOf offAt recAt
  rw [hlF, hp]
  simp [hx, hr]
theorem isLastAt_some {i k : Nat} {r : Rec} (h : isLastAt bs l to i k r = true) : (lookO bs l to r.key).isSome = true ∧ lastG bs l to r.key = ((i : Int), (k : Int)) := by
  simp only [isLastAt, Bool.and_eq_true, Bool.not_eq_true', beq_iff_eq] at h
  obtain ⟨h1, h2, h3⟩ := h
  have hp : lastG bs l to r.key = ((i : Int), (k : Int)) := Prod.ext h2 h3
  refine ⟨?_, hp⟩
  unfold lookO oOf
  have hne : r.key ≠ ⟨#[]⟩ := by intro e; rw [(isEmpty_iff r.key).2 e] at h1; cases h1
  rw [if_neg hne, hp, if_neg]
  · rfl
  · intro e; simp only [Prod.mk.injEq] at e; omega
theorem marks_rec (i : Nat) (x : Batch) (hx : bs[i]? = some x) (s : List Mark) (h0 : MarksOf bs l to s i 0) : ∀ k, k ≤ x.recs.length → MarksOf bs l to (insR bs l to i x s k) i k
  | 0, _ => h0
  | k + 1, hk => by
    obtain ⟨ihr, ihm⟩ := marks_rec i x hx s h0 k (by omega)
    have hr : x.recs[k]? = some x.recs[k] := List.getElem?_eq_getElem (by omega)
    rw [insR_succ bs l to i x s k _ hr]
    generalize insR bs l to i x s k = ms at *
    have hstep : ∀ K, (lookO bs l to K).isSome = true → (Before (lastG bs l to K) i (k + 1) ↔ Before (lastG bs l to K) i k ∨ lastG bs l to K = ((i : Int), (k : Int))) := by
      intro K hK
      obtain ⟨_, _, _, i', j', x', r', hp, _⟩ := lookO_some hK
      rw [hp]
      unfold Before
      simp only [Prod.mk.injEq]
      omega
    by_cases hl : isLastAt bs l to i k x.recs[k] = true
    · rw [if_pos hl]
      obtain ⟨hs, hp⟩ := isLastAt_some bs l to hl
      have hmk := markOf_of bs l to hs hp hx hr
      refine ⟨insM_rise ihr fun y hy => ?_, fun m => ?_⟩
      · obtain ⟨K, hK, hb, rfl⟩ := (ihm y).1 hy
        intro e
        have e' : K = x.recs[k].key := e
        rw [e', hp] at hb
        unfold Before at hb
        simp only at hb
        omega
      · rw [mem_insM, ihm]
        constructor
        · rintro (rfl | ⟨K, hK, hb, rfl⟩)
          · exact ⟨x.recs[k].key, hs, (hstep _ hs).2 (.inr hp), hmk.symm⟩
          · exact ⟨K, hK, (hstep K hK).2 (.inl hb), rfl⟩
        · rintro ⟨K, hK, hb, rfl⟩
          rcases (hstep K hK).1 hb with h | h
          · exact .inr ⟨K, hK, h, rfl⟩
          · left
            have e : K = x.recs[k].key := place_key hK hs (h.trans hp.symm)
            rw [e]; exact hmk
    · rw [if_neg hl]
      refine ⟨ihr, fun m => ?_⟩
      rw [ihm]
      constructor
      · rintro ⟨K, hK, hb, rfl⟩
        exact ⟨K, hK, (hstep K hK).2 (.inl hb), rfl⟩
      · rintro ⟨K, hK, hb, rfl⟩
        rcases (hstep K hK).1 hb with h | h
        · exact ⟨K, hK, h, rfl⟩
        · exfalso
          apply hl
          obtain ⟨hne, _, _, i', j', x', r', hp, hx', hr', hk', _⟩ := lookO_some hK
          rw [h] at hp
          simp only [Prod.mk.injEq] at hp
          have e1 : i' = i := by omega
          have e2 : j' = k := by omega
          subst e1 e2
          rw [hx] at hx'
          cases hx'
          rw [hr] at hr'
          cases hr'
          have he : x.recs[j'].key.toList.isEmpty = false := by
            cases he : x.recs[j'].key.toList.isEmpty with
            | false => rfl
            | true => exact absurd ((isEmpty_iff _).1 he) (by rw [hk']; exact hne)
          rw [hk'] at he
          simp only [isLastAt, hk', h, he]
          simp
theorem marks_to : ∀ n, n ≤ bs.length → MarksOf bs l to (insTo bs l to n) n 0
  | 0, _ => by
    refine ⟨List.Pairwise.nil, fun m => ?_⟩
    constructor
    · intro h; simp [insTo] at h
    · rintro ⟨K, hK, hb, _⟩
      obtain ⟨_, _, _, i', j', x', r', hp, _⟩ := lookO_some hK
      rw [hp] at hb
      unfold Before at hb
      simp only at hb
      omega
  | n + 1, h => by
    have hx : bs[n]? = some bs[n] := List.getElem?_eq_getElem (by omega)
    rw [insTo_succ bs l to n _ hx]
    obtain ⟨h1, h2⟩ := marks_rec bs l to n _ hx _ (marks_to n (by omega)) _ (Nat.le_refl _)
    refine ⟨h1, fun m => ?_⟩
    rw [h2]
    have hstep : ∀ K, (lookO bs l to K).isSome = true → (Before (lastG bs l to K) n bs[n].recs.length ↔ Before (lastG bs l to K) (n + 1) 0) := by
      intro K hK
      obtain ⟨_, _, _, i', j', x', r', hp, hx', hr', _⟩ := lookO_some hK
      have hj := (List.getElem?_eq_some_iff.1 hr').1
      rw [hp]
      unfold Before
      simp only
      constructor
      · intro hb; omega
      · intro hb
        by_cases hin : i' = n
        · subst hin
          rw [hx] at hx'
          cases hx'
          right; omega
        · left; omega
    constructor
    · rintro ⟨K, hK, hb, rfl⟩; exact ⟨K, hK, (hstep K hK).1 hb, rfl⟩
    · rintro ⟨K, hK, hb, rfl⟩; exact ⟨K, hK, (hstep K hK).2 hb, rfl⟩
/-- The document's marks are the program's. -/
theorem marks_eq {ks : List ByteArray} (h : KeysAre (lookO bs l to) ks) : insTo bs l to bs.length = ks.map (markOf bs l to) := by
  obtain ⟨h1, h2⟩ := marks_to bs l to bs.length (Nat.le_refl _)
  have hkey : ∀ K, (markOf bs l to K).key = K := fun K => rfl
  have hr : RiseM (ks.map (markOf bs l to)) := by
    unfold RiseM
    rw [List.pairwise_map]
    refine (h.rising.and (List.nodup_iff_pairwise_ne.1 h.once)).imp fun {a b} hab => ?_
    show ltK a b = true
    rw [ltK_iff, ByteArray.toList_eq, ByteArray.toList_eq]
    rcases List.le_iff_lt_or_eq.1 hab.1 with h3 | h3
    · exact h3
    · exact absurd (toList_inj.1 (by rw [ByteArray.toList_eq, ByteArray.toList_eq]; exact h3)) hab.2
  have hmem : ∀ m, m ∈ insTo bs l to bs.length ↔ m ∈ ks.map (markOf bs l to) := by
    intro m
    rw [h2, List.mem_map]
    constructor
    · rintro ⟨K, hK, _, rfl⟩; exact ⟨K, (h.mem K).2 hK, rfl⟩
    · rintro ⟨K, hK, rfl⟩
      have hK' := (h.mem K).1 hK
      refine ⟨K, hK', ?_, rfl⟩
      obtain ⟨_, _, _, i', j', x', r', hp, hx', _⟩ := lookO_some hK'
      have := (List.getElem?_eq_some_iff.1 hx').1
      rw [hp]
      unfold Before
      simp only
      omega
  have hnd : ∀ {xs : List Mark}, RiseM xs → xs.Nodup := fun {xs} hx => List.nodup_iff_pairwise_ne.2 (hx.imp fun {a b} hab e => by rw [e, ltK_irrefl] at hab; cases hab)
  unfold RiseM at h1 hr
  refine List.Perm.eq_of_pairwise (le := fun a b : Mark => ltK a.key b.key = true) (fun a b _ _ q1 q2 => ?_) h1 hr ((List.perm_ext_iff_of_nodup (hnd h1) (hnd hr)).2 hmem)
  have := ltK_trans q1 q2
  rw [ltK_irrefl] at this
  cases this
end
end Go.Proofs.Ytceamgkifjmbcaa
