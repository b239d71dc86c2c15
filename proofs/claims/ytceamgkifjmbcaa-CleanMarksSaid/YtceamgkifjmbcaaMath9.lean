/- Plain law: what is left hangs on the clock only through which gone keys are still to be told; the chapter's law of a gone key, at its five inputs. -/
import Derived.Test.YtceamgkifjmbcaaMath8
import Derived.Test.YtceamgkifjmbcaaW17
namespace Go.Proofs.Ytceamgkifjmbcaa
open Go.RowKit Go.Wm
section
variable {bs : List Batch} {l : List Gone} {to now keep now' keep' : Int}
def SameTold (bs : List Batch) (now keep now' keep' : Int) : Prop := ∀ x ∈ bs, ∀ r ∈ x.recs, r.dead = true → decide (wrap64 (now - r.stamp) < keep) = decide (wrap64 (now' - r.stamp) < keep')
theorem left_congr (h : SameTold bs now keep now' keep') (i : Nat) (x : Batch) (hx : bs[i]? = some x) : ∀ k, leftTo bs l to now keep i x k = leftTo bs l to now' keep' i x k
  | 0 => rfl
  | k + 1 => by
    rw [leftTo, leftTo, left_congr h i x hx k]
    cases hr : x.recs[k]? with
    | none => rfl
    | some r =>
      have hs : staysB bs l to now keep i k x r = staysB bs l to now' keep' i k x r := by
        unfold staysB
        cases hd : r.dead with
        | false => simp
        | true => rw [h x (List.mem_of_getElem? hx) r (List.mem_of_getElem? hr) hd]
      simp only [hs]
theorem has_congr (h : SameTold bs now keep now' keep') (k : Int) : hasLeft bs l to now keep k = hasLeft bs l to now' keep' k := by
  unfold hasLeft leftAt leftG
  cases hx : bs[k.toNat]? with
  | none => rfl
  | some x => simp only [left_congr h k.toNat x hx]
theorem clean_congr (h : SameTold bs now keep now' keep') : ∀ i, cleanTo bs l to now keep i = cleanTo bs l to now' keep' i
  | 0 => rfl
  | i + 1 => by
    rw [cleanTo, cleanTo, clean_congr h i]
    cases hx : bs[i]? with
    | none => rfl
    | some x =>
      have hf : hasLeft bs l to now keep = hasLeft bs l to now' keep' := by funext k; exact has_congr h k
      have hb : batchStaysB bs l to now keep i x = batchStaysB bs l to now' keep' i x := by unfold batchStaysB; rw [hf]
      have hc : cleanedRecs bs l to now keep i x = cleanedRecs bs l to now' keep' i x := by unfold cleanedRecs leftG; rw [left_congr h i x hx]
      simp only [hb, hc]
end
def kK : ByteArray := ⟨#[107]⟩
def kV : ByteArray := ⟨#[118]⟩
def kOther : ByteArray := ⟨#[111, 116, 104, 101, 114]⟩
def kW : ByteArray := ⟨#[119]⟩
def preK : Nat → List Batch
  | 0 => []
  | i + 1 => preK i ++ [oneB i kK kV]
def deadB (m : Nat) : Batch := ⟨m, m, 0, 0, -1, 0, 0, false, 0, [⟨m, kK, ⟨#[]⟩, true, 7⟩]⟩
def lastB (m : Nat) : Batch := oneB ((m : Int) + 1) kOther kW
def deadBs (m : Nat) : List Batch := preK m ++ [deadB m, lastB m]
theorem preK_length : ∀ m, (preK m).length = m
  | 0 => rfl
  | m + 1 => by simp [preK, preK_length m]
theorem preK_alive (m : Nat) : ∀ x ∈ preK m, ∀ r ∈ x.recs, r.dead = false := by
  induction m with
  | zero => simp [preK]
  | succ m ih =>
    intro x hx r hr
    rcases List.mem_append.1 hx with hx | hx
    · exact ih x hx r hr
    · simp at hx
      subst hx
      simp [oneB, oneRec] at hr
      subst hr; rfl
theorem told_dead (m : Nat) (age keep : Int) (h0 : 0 ≤ age) (h1 : age ≤ 1000) : SameTold (deadBs m) (7 + age) keep 7 (if age < keep then 1 else 0) := by
  intro x hx r hr hd
  rcases List.mem_append.1 hx with hx | hx
  · rw [preK_alive m x hx r hr] at hd; cases hd
  · simp at hx
    rcases hx with rfl | rfl
    · simp [deadB] at hr
      subst hr
      simp only
      rw [show (7 + age - 7) = age from by omega, IntWalk.wrap64_in age ⟨by omega, by omega⟩, show ((7 : Int) - 7) = 0 from rfl, IntWalk.wrap64_in 0 ⟨by omega, by omega⟩]
      split <;> simp_all
    · simp [lastB, oneB, oneRec] at hr
      subst hr
      cases hd
theorem dead_told (m : Nat) (hm : m ≤ 4) : cleanG (deadBs m) [] ((m : Int) + 2) 7 1 = [deadB m, lastB m] := by
  rcases (by omega : m = 0 ∨ m = 1 ∨ m = 2 ∨ m = 3 ∨ m = 4) with rfl | rfl | rfl | rfl | rfl <;> decide +kernel
theorem dead_untold (m : Nat) (hm : m ≤ 4) : cleanG (deadBs m) [] ((m : Int) + 2) 7 0 = [lastB m] := by
  rcases (by omega : m = 0 ∨ m = 1 ∨ m = 2 ∨ m = 3 ∨ m = 4) with rfl | rfl | rfl | rfl | rfl <;> decide +kernel
theorem dead_values (m : Nat) (hm : m ≤ 4) : valuesG [deadB m, lastB m] [] ((m : Int) + 2) = (lastB m).recs ∧ valuesG [lastB m] [] ((m : Int) + 2) = (lastB m).recs := by
  rcases (by omega : m = 0 ∨ m = 1 ∨ m = 2 ∨ m = 3 ∨ m = 4) with rfl | rfl | rfl | rfl | rfl <;> decide +kernel
theorem dead_clean (m : Nat) (hm : m ≤ 4) (age keep : Int) (h0 : 0 ≤ age) (h1 : age ≤ 1000) : cleanG (deadBs m) [] ((m : Int) + 2) (7 + age) keep = if age < keep then [deadB m, lastB m] else [lastB m] := by
  unfold cleanG
  rw [clean_congr (told_dead m age keep h0 h1)]
  split
  · exact dead_told m hm
  · exact dead_untold m hm
end Go.Proofs.Ytceamgkifjmbcaa
