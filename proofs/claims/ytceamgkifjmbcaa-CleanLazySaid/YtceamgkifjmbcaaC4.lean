/- Walks of the program: match. -/
import Derived.Test.YtceamgkifjmbcaaC3
namespace Go.Proofs.Ytceamgkifjmbcaa
open Go.RowKit Go.Wm
/-- 's[k:]' of batches. -/
theorem bats_from {w : World} {v : Value} {bs : List Batch} (h : BatchesC w v bs) (k : Nat) (hk : k ≤ bs.length) : ∃ v',
    (∀ W : World, (Instr.slice 22 v (some (.int .i64 (k : Int))) none none).run Try.prog W = .ok v' W) ∧ BatchesC w v' (bs.drop k) := by
  obtain ⟨a, cap, rfl, hn, hs⟩ := h
  have hb := fun W => run_sliceBound (P := Try.prog) W .i64 (k : Int) bs.length .sliceB (by omega) (by omega)
  cases a with
  | none =>
    have h0 : bs.length = 0 := by
      rcases hs.shape with ⟨b, o, h, _⟩ | h
      · cases h
      · exact h
    have hk0 : k = 0 := by omega
    subst hk0
    refine ⟨.slice none (bs.length - 0) (bs.length + cap - 0), fun W => ?_, ⟨none, cap, by simp, by simpa using hn, fun j hj => ?_⟩⟩
    · have := hb W
      simp [Instr.slice, run_underlying Try.underlying22, Instr.sliceBounds, go_sem] at this ⊢
    · simp at hj; omega
  | some A =>
    refine ⟨.slice (if bs.length + cap = k then some A else some (A.add (k * 10))) (bs.length - k) (bs.length + cap - k), fun W => ?_, ⟨_, cap, by rw [List.length_drop]; congr 1; omega, by rw [List.length_drop]; omega, fun j hj => ?_⟩⟩
    · have := hb W
      by_cases hck : bs.length + cap = k
      · simp [Instr.slice, run_underlying Try.underlying22, Instr.sliceBounds, this, hck, go_sem]
      · simp [Instr.slice, run_underlying Try.underlying22, Instr.sliceBounds, this, hck, go_sem]
    · rw [List.length_drop] at hj
      have hck : ¬ bs.length + cap = k := by omega
      obtain ⟨b, o, ha, hr⟩ := hs (k + j) (by omega)
      simp only [Option.some.injEq] at ha
      subst ha
      refine ⟨b, o + k * 10, ?_, fun r hr' => ?_⟩
      · rw [if_neg hck]
        simp only [Addr.add]
        split
        · rename_i h0; simp [h0]
        · rfl
      · rw [List.getElem?_drop] at hr'
        have := hr r hr'
        rw [show o + k * 10 + j * 10 = o + (k + j) * 10 from by omega]
        exact this
set_option maxHeartbeats 2000000 in
theorem matchIndex_any (bs iss : List Batch) (v vis : Value) (i : Nat) (y : Batch) (hy : iss[i]? = some y) (B1 B2 : Nat) (w : World) (h1 : w.cell? ⟨B1, 0, none⟩ = some vis) (h2 : w.cell? ⟨B2, 0, none⟩ = some (.int .i64 i)) (his : BatchesC w vis iss) (hb : BatchesC w v bs) :
    Calls Try.prog 62 #[v, .func (.func 63) #[] #[.pointer (some ⟨B1, 0, none⟩), .pointer (some ⟨B2, 0, none⟩)]] w
      fun e w' => e = .returned (.int .i64 (idxOf (matchB y) bs)) ∧ Below w.heap.size w w' := by
  obtain ⟨a, cap, rfl, hn, hs⟩ := hb
  have C := hid (fun W (h : Below w.heap.size w W) b sv hb => matchClosure_any iss vis i y b hy sv B1 B2 W (cell_below h h1) (cell_below h h2) (his.mono h) hb)
  have HS := hid hs
  clear h1 h2 his hs hy
  go_enter Try.func62, Try.ntmps62
  go_wp2
  go_loopw [8] (fun q wr => ∃ k : Nat, k ≤ bs.length ∧ q = .int .i64 k ∧ (∀ j (h : j < bs.length), j < k → matchB y bs[j] = false) ∧ Below w.heap.size w wr) (fun q _ => bs.length - (intOf q).toNat)
  case atStart => exact ⟨0, by omega, rfl, fun _ _ h => by omega, Below.refl _ _⟩
  case round =>
    obtain ⟨k, hk, rfl, hall, hwr⟩ := hrel
    have Hall := hid hall; clear hall
    by_cases hlt : k < bs.length
    · obtain ⟨b', o, rfl, hc⟩ := HS.out k hlt
      obtain ⟨sv, hba, hbr⟩ := hc _ (List.getElem?_eq_getElem hlt)
      obtain ⟨e0, e1, e2, e3, e4, e5, e6, e7, e8, e9⟩ := hba.mono hwr
      have D := hid (C.out wr hwr bs[k] sv (hbr.mono hwr))
      obtain ⟨a2, cap2, rfl, hn2⟩ := hbr.1.form
      clear hc hba hbr
      cases hf : matchB y bs[k]
      · have Hf := hid hf
        rw [hf] at D; clear hf
        go_wp2_with fail
        refine D.out.mono ?_
        rintro e w1 ⟨rfl, hb1⟩
        go_wp2
        go_roundw
        case rel =>
          refine ⟨k + 1, by omega, by go_num, ?_, hwr.step hb1⟩
          intro j hj hjk
          by_cases hjk' : j = k
          · subst hjk'; exact Hf.out
          · exact Hall.out j hj (by omega)
        case measure => simp [intOf]; omega
      · have Hf := hid hf
        rw [hf] at D; clear hf
        go_wp2_with fail
        refine D.out.mono ?_
        rintro e w1 ⟨rfl, hb1⟩
        go_wp2
        go_ret
        exact ⟨ret_int (idxOf_found hlt Hf.out Hall.out).symm, hwr.step hb1⟩
    · have hke : k = bs.length := by omega
      have Hk := hid hke; clear hke
      go_wp2
      go_ret
      exact ⟨ret_int (idxOf_none (fun j hj => Hall.out j hj (by have := Hk.out; omega))).symm, hwr⟩
/-- Behind the first k of what is left: where to look on, and what each batch that was is. -/
def matchTo (was iss : List Batch) : Nat → Option (Nat × (Nat → Option Batch))
  | 0 => some (0, fun _ => none)
  | k + 1 => match matchTo was iss k with
    | some (at_, T) => (match iss[k]? with
      | some y => (match (was.drop at_).findIdx? (matchB y) with | some n => some (at_ + n + 1, fun j => if j = at_ + n then some y else T j) | none => none)
      | none => some (at_, T))
    | none => none
theorem matchTo_none {was iss : List Batch} {k : Nat} (h : matchTo was iss k = none) : ∀ n, k ≤ n → matchTo was iss n = none
  | 0, hn => by have : k = 0 := by omega
                subst this; exact h
  | n + 1, hn => by
    by_cases e : k = n + 1
    · subst e; exact h
    · have := matchTo_none h n (by omega)
      rw [matchTo, this]
/-- A pointer to a batch that is there, or nil. -/
def ThereAt (w : World) (v : Value) : Option Batch → Prop
  | none => v = .pointer none
  | some y => ∃ b o sv, v = .pointer (some ⟨b, o, none⟩) ∧ BatchAt w b o y sv ∧ RecsC w sv y.recs
theorem ThereAt.mono {w w' : World} (hb : Below w.heap.size w w') {v : Value} {y : Option Batch} (h : ThereAt w v y) : ThereAt w' v y := by
  cases y with
  | none => exact h
  | some y =>
    obtain ⟨b, o, sv, h1, h2, h3⟩ := h
    exact ⟨b, o, sv, h1, h2.mono hb, h3.mono hb⟩
def MatchRes (n : Nat) (M : Option (Nat × (Nat → Option Batch))) (w : World) (e : Ending) (w' : World) : Prop :=
  match M with
  | none => e = .returned (.tuple #[.slice none 0 0, .bool false]) ∧ Below w.heap.size w w'
  | some (_, T) => ∃ A f, e = .returned (.tuple #[.slice (some ⟨A, 0, none⟩) n n, .bool true]) ∧ w.heap.size ≤ A ∧ w'.rowIs A 60 n f ∧ (∀ j, j < n → ThereAt w (f j) (T j)) ∧ Below w.heap.size w w'
theorem idxOf_someB {p : Batch → Bool} {l : List Batch} {i : Nat} (h : l.findIdx? p = some i) : idxOf p l = (i : Int) ∧ i < l.length := by
  unfold idxOf
  rw [h]
  rw [List.findIdx?_eq_some_iff_getElem] at h
  exact ⟨rfl, h.1⟩
set_option maxRecDepth 100000 in
set_option maxHeartbeats 4000000 in
theorem match_any (was iss : List Batch) (v vis : Value) (w : World) (hb : BatchesC w v was) (his : BatchesC w vis iss) :
    Calls Try.prog 41 #[v, vis] w (MatchRes was.length (matchTo was iss iss.length) w) := by
  have hbw := hb
  obtain ⟨a, cap, rfl, hn, hs⟩ := hb
  have hisw := his
  obtain ⟨ai, capi, rfl, hni, hsi⟩ := his
  have HSI := hid hsi
  have hmk := fun W => run_make_row' (P := Try.prog) 56 60 (.pointer none) 8 Try.underlying56 Try.inf60 rfl .i64 .i64 was.length (by omega) (by omega) W
  clear hs hsi
  go_enter Try.func41, Try.ntmps41
  go_wp2
  refine wp_name fun W hW => ?_
  have hB : Below w.heap.size w W := by rw [hW]; exact (below_alloc _ _).step (below_alloc _ _)
  have hsz : w.heap.size + 2 ≤ W.heap.size := by rw [hW]; simp
  have hbox : W.cell? ⟨w.heap.size, 0, none⟩ = some (.slice ai iss.length (iss.length + capi)) := by rw [hW]; simp
  have hrow0 : W.rowIs (w.heap.size + 1) 60 was.length (fun _ => .pointer none) := by
    rw [hW]; have := World.rowIs_made (w.alloc (.cells #[.slice ai iss.length (iss.length + capi)] 22)) (.pointer none) was.length 60; rw [size_alloc] at this; exact this
  clear hW hmk
  go_loopw [7, 15] (fun c q wr => ∃ (k A : Nat) (T : Nat → Option Batch) (f : Nat → Value), k ≤ iss.length ∧ q = .int .i64 k ∧ matchTo was iss k = some (A, T) ∧ c = .int .i64 A ∧ A ≤ was.length ∧ wr.cell? ⟨w.heap.size, 0, none⟩ = some (.slice ai iss.length (iss.length + capi)) ∧ wr.rowIs (w.heap.size + 1) 60 was.length f ∧ (∀ j, j < was.length → ThereAt w (f j) (T j)) ∧ Below w.heap.size w wr ∧ w.heap.size + 2 ≤ wr.heap.size) (fun _ q _ => iss.length - (intOf q).toNat)
  case atStart => exact ⟨0, 0, _, _, by omega, rfl, rfl, rfl, by omega, hbox, hrow0, fun _ _ => rfl, hB, hsz⟩
  case round =>
    obtain ⟨k, A, T, f, hk, rfl, hM, rfl, hA, hbx, hrow, hT, hwr, hsz2⟩ := hrel
    have HM := hid hM
    have HT := hid hT
    clear hM hT
    by_cases hlt : k < iss.length
    · obtain ⟨y, hy⟩ : ∃ y, iss[k]? = some y := ⟨_, List.getElem?_eq_getElem hlt⟩
      have HN := hid (show matchTo was iss (k + 1) = (match (was.drop A).findIdx? (matchB y) with | some n => some (A + n + 1, fun j => if j = A + n then some y else T j) | none => none) by rw [matchTo, HM.out, hy])
      obtain ⟨bi, oi, rfl, hya⟩ := HSI.out k hlt
      obtain ⟨sy, hya, hyr⟩ := hya y hy
      obtain ⟨v', hsl, hdr⟩ := bats_from hbw A hA
      have hbx' := hbx
      have I := hid (matchIndex_any (was.drop A) iss v' _ k y hy w.heap.size wr.heap.size (wr.alloc (.cells #[.int .i64 (k : Int)] 3)) (cell_alloc_old _ hbx) (by simp) ((hisw.mono hwr).mono (below_alloc _ _)) ((hdr.mono hwr).mono (below_alloc _ _)))
      have HYA := hid (show ThereAt w (.pointer (some ⟨bi, oi + k * 10, none⟩)) (some y) from ⟨bi, oi + k * 10, sy, rfl, hya, hyr⟩)
      clear hya hyr hy hdr
      cases hf : (was.drop A).findIdx? (matchB y) with
      | none =>
        have hi : idxOf (matchB y) (was.drop A) = -1 := by unfold idxOf; rw [hf]
        rw [hi] at I
        rw [hf] at HN
        clear hi hf
        go_wp2_with fail
        refine I.out.mono ?_
        rintro e2' w2 ⟨rfl, hb2⟩
        clear hsl
        go_wp2
        go_ret2
        unfold MatchRes
        rw [matchTo_none HN.out iss.length (by omega)]
        exact ⟨rfl, hwr.step ((below_alloc _ _).step hb2)⟩
      | some n =>
        obtain ⟨hi, hil⟩ := idxOf_someB hf
        rw [hi] at I
        rw [hf] at HN
        rw [List.length_drop] at hil
        clear hi hf
        go_wp2_with fail
        refine I.out.mono ?_
        rintro e2' w2 ⟨rfl, hb2⟩
        have hb3 := (below_alloc wr (.cells #[.int .i64 (k : Int)] 3)).step hb2
        have bx2 := cell_below hb3 hbx
        have bi2 := cell_below hb2 (show (wr.alloc (.cells #[.int .i64 (k : Int)] 3)).cell? ⟨wr.heap.size, 0, none⟩ = some (.int .i64 (k : Int)) by simp)
        have hrow2 := rowIs_below hrow hb3
        have cA := hrow2.cell (show A + n < was.length by omega)
        have zA := hrow2.frozen (A + n)
        have hsz3 := hb3.size
        clear hsl hbx hbx'
        go_wp2
        go_roundw
        case rel =>
          refine ⟨k + 1, A + n + 1, _, _, by omega, by go_num, HN.out, by go_num, by omega, ?_, hrow2.set (A + n) _, fun j hj => ?_, (hwr.step hb3).setCell (p := ⟨w.heap.size + 1, A + n, none⟩) (by simp) _, by simp [World.setCell]; omega⟩
          · exact ((grown_setCell _ (w.heap.size + 1) (A + n) _).cell (a := ⟨w.heap.size, 0, none⟩) bx2 (by simp))
          · by_cases hj' : j = A + n
            · simp only [if_pos hj']; exact HYA.out
            · simp only [if_neg hj']; exact HT.out j hj
        case measure => simp [intOf]; omega
    · obtain rfl : k = iss.length := by omega
      go_wp2
      go_ret2
      unfold MatchRes
      rw [HM.out]
      exact ⟨w.heap.size + 1, f, rfl, by omega, hrow, HT.out, hwr⟩
end Go.Proofs.Ytceamgkifjmbcaa
