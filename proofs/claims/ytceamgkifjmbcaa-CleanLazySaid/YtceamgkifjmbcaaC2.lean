/- Walks of the program: where a record stands among others; whether records are some of others, in order; whether lists of records are equal. -/
import Derived.Test.YtceamgkifjmbcaaC1
import Derived.Test.YtceamgkifjmbcaaW3
namespace Go.Wm
open Go.RowKit
/-- A slice's capacity is no less than its length. -/
def capOk (v : Value) : Prop := ∀ a n c, v = .slice a n c → n ≤ c
def RecsC (w : World) (v : Value) (rs : List Rec) : Prop := RecsAt w v rs ∧ capOk v
theorem RecsC.mono {w w' : World} (hb : Below w.heap.size w w') {v : Value} {rs : List Rec} (h : RecsC w v rs) : RecsC w' v rs := ⟨h.1.mono hb, h.2⟩
def BatchesC (w : World) (v : Value) (bs : List Batch) : Prop :=
  ∃ a cap, v = .slice a bs.length (bs.length + cap) ∧ bs.length ≤ 1000000 ∧
    SliceAt a bs.length 10 (fun k b o => ∀ x, bs[k]? = some x → ∃ sv, BatchAt w b o x sv ∧ RecsC w sv x.recs)
theorem BatchesC.at {w : World} {v : Value} {bs : List Batch} (h : BatchesC w v bs) : BatchesAt w v bs := by
  obtain ⟨a, cap, rfl, h1, h3⟩ := h
  refine ⟨a, cap, rfl, h1, fun k hk => ?_⟩
  obtain ⟨b, o, ha, h⟩ := h3 k hk
  exact ⟨b, o, ha, fun x hx => let ⟨sv, h1, h2⟩ := h x hx; ⟨sv, h1, h2.1⟩⟩
theorem BatchesC.mono {w w' : World} (hb : Below w.heap.size w w') {v : Value} {bs : List Batch} (h : BatchesC w v bs) : BatchesC w' v bs := by
  obtain ⟨a, cap, rfl, h1, h3⟩ := h
  refine ⟨a, cap, rfl, h1, fun k hk => ?_⟩
  obtain ⟨b, o, ha, h⟩ := h3 k hk
  exact ⟨b, o, ha, fun x hx => let ⟨sv, h1, h2⟩ := h x hx; ⟨sv, h1.mono hb, h2.mono hb⟩⟩
end Go.Wm
namespace Go.Proofs.Ytceamgkifjmbcaa
open Go.RowKit Go.Wm
set_option maxHeartbeats 1000000 in
theorem equal_any (xs ys : List Rec) (v u : Value) (w : World) (hx : RecsAt w v xs) (hy : RecsAt w u ys) :
    Calls Try.prog 43 #[v, u] w fun e w' => e = .returned (.bool (decide (xs = ys))) ∧ Below w.heap.size w w' := by
  obtain ⟨a, cap, rfl, hn, _, hs⟩ := hx
  obtain ⟨a2, cap2, rfl, hn2, _, hs2⟩ := hy
  by_cases hlen : xs.length = ys.length
  · have L1 : ((xs.length : Int) != (ys.length : Int)) = false := by simp [hlen]
    have Hlen := hid hlen; clear hlen
    go_enter Try.func43, Try.ntmps43
    go_wp2
    clear L1
    go_loopw [13] (fun i wr => ∃ k : Nat, k ≤ xs.length ∧ i = .int .i64 k ∧ (∀ j (h : j < xs.length) (h' : j < ys.length), j < k → xs[j] = ys[j]) ∧ Below w.heap.size w wr) (fun i _ => xs.length - (intOf i).toNat)
    case atStart => exact ⟨0, by omega, rfl, fun _ _ _ h => by omega, Below.refl _ _⟩
    case round =>
      obtain ⟨k, hk, rfl, hall, hwr⟩ := hrel
      have Hall := hid hall; clear hall
      by_cases hlt : k < xs.length
      · have hlt2 : k < ys.length := by have := Hlen.out; omega
        obtain ⟨b, o, ha, hc⟩ := hs k hlt
        obtain ⟨b2, o2, ha2, hc2⟩ := hs2 k hlt2
        obtain ⟨e0, e1, e2, e3, e4⟩ := (hc _ (List.getElem?_eq_getElem hlt)).mono hwr
        obtain ⟨g0, g1, g2, g3, g4⟩ := (hc2 _ (List.getElem?_eq_getElem hlt2)).mono hwr
        have R := fun w => rec_neq_run xs[k] ys[k] w
        have e0 := Later.cell e0
        have e1 := Later.cell e1
        have e2 := Later.cell e2
        have e3 := Later.cell e3
        have e4 := Later.cell e4
        have g0 := Later.cell g0
        have g1 := Later.cell g1
        have g2 := Later.cell g2
        have g3 := Later.cell g3
        have g4 := Later.cell g4
        clear hc hs hc2 hs2
        by_cases hf : xs[k] = ys[k]
        · have Hf := hid hf
          simp only [hf, decide_true, Bool.not_true] at R
          simp only [hf] at e0 e1 e2 e3 e4
          clear hf
          go_wp2
          refine wp_region_later (by kernel_rfl) (by kernel_rfl) ?_
          repeat (go_big_quiet_step (fail))
          refine wpQuiet_nil ?_
          intro w2 hb2
          clear R ha ha2
          go_wp2
          go_roundw
          case rel =>
            refine ⟨k + 1, by omega, by go_num, ?_, hwr.step hb2⟩
            intro j hj hj' hjk
            by_cases hjk' : j = k
            · subst hjk'; exact Hf.out
            · exact Hall.out j hj hj' (by omega)
          case measure => simp [intOf]; omega
        · have Hf := hid hf
          rw [decide_eq_false hf] at R
          clear hf
          go_wp2
          refine wp_region_later (by kernel_rfl) (by kernel_rfl) ?_
          repeat (go_big_quiet_step (fail))
          refine wpQuiet_nil ?_
          intro w2 hb2
          clear R ha ha2
          go_wp2
          go_ret
          refine ⟨ret_bool ?_, hwr.step hb2⟩
          rw [eq_comm, decide_eq_false_iff_not]
          intro h
          exact Hf.out (by simp [h])
      · have hke : k = xs.length := by omega
        have Hk := hid hke; clear hke
        go_wp2
        go_ret
        refine ⟨ret_bool ?_, hwr⟩
        rw [eq_comm, decide_eq_true_iff]
        exact List.ext_getElem Hlen.out fun j h1 h2 => Hall.out j h1 h2 (by omega)
  · have L1 : ((xs.length : Int) != (ys.length : Int)) = true := by simp; omega
    have Hlen := hid hlen; clear hlen
    go_enter Try.func43, Try.ntmps43
    go_wp2
    go_ret
    refine ⟨ret_bool ?_, Below.refl _ _⟩
    rw [eq_comm, decide_eq_false_iff_not]
    intro h
    exact Hlen.out (by rw [h])
def isRec (r y : Rec) : Bool := decide (r = y)
set_option maxHeartbeats 1000000 in
theorem index_any (r : Rec) (ys : List Rec) (u : Value) (w : World) (hy : RecsAt w u ys) :
    Calls Try.prog 65 #[u, .agg #[.int .i64 r.off, .string r.key, .string r.val, .bool r.dead, .int .i64 r.stamp]] w fun e w' => e = .returned (.int .i64 (idxOf (isRec r) ys)) ∧ Below w.heap.size w w' := by
  obtain ⟨a2, cap2, rfl, hn2, _, hs2⟩ := hy
  go_enter Try.func65, Try.ntmps65
  go_wp2
  refine wp_name fun W hW => ?_
  have hB : Below w.heap.size w W := by rw [hW]; exact below_alloc _ _
  have hN : RecAt W w.heap.size 0 r := by rw [hW]; exact ⟨by simp, by simp, by simp, by simp, by simp⟩
  clear hW
  go_loopw [8] (fun i wr => ∃ k : Nat, k ≤ ys.length ∧ i = .int .i64 k ∧ (∀ j (h : j < ys.length), j < k → isRec r ys[j] = false) ∧ Below W.heap.size W wr) (fun i _ => ys.length - (intOf i).toNat)
  case atStart => exact ⟨0, by omega, rfl, fun _ _ h => by omega, Below.refl _ _⟩
  case round =>
    obtain ⟨k, hk, rfl, hall, hwr⟩ := hrel
    have Hall := hid hall; clear hall
    by_cases hlt : k < ys.length
    · obtain ⟨b2, o2, rfl, hc2⟩ := hs2 k hlt
      obtain ⟨g0, g1, g2, g3, g4⟩ := ((hc2 _ (List.getElem?_eq_getElem hlt)).mono hB).mono hwr
      obtain ⟨e0, e1, e2, e3, e4⟩ := hN.mono hwr
      have R := fun w => rec_eql_run r ys[k] w
      have e0 := Later.cell e0
      have e1 := Later.cell e1
      have e2 := Later.cell e2
      have e3 := Later.cell e3
      have e4 := Later.cell e4
      have g0 := Later.cell g0
      have g1 := Later.cell g1
      have g2 := Later.cell g2
      have g3 := Later.cell g3
      have g4 := Later.cell g4
      clear hc2 hs2
      cases hf : isRec r ys[k]
      · have Hf := hid hf
        rw [show decide (r = ys[k]) = false from hf] at R
        clear hf
        go_wp2
        refine wp_region_later (by kernel_rfl) (by kernel_rfl) ?_
        repeat (go_big_quiet_step (fail))
        refine wpQuiet_nil ?_
        intro w2 hb2
        clear R
        go_wp2
        go_roundw
        case rel =>
          refine ⟨k + 1, by omega, by go_num, ?_, hwr.step hb2⟩
          intro j hj hjk
          by_cases hjk' : j = k
          · subst hjk'; exact Hf.out
          · exact Hall.out j hj (by omega)
        case measure => simp [intOf]; omega
      · have Hf := hid hf
        rw [show decide (r = ys[k]) = true from hf] at R
        clear hf
        go_wp2
        refine wp_region_later (by kernel_rfl) (by kernel_rfl) ?_
        repeat (go_big_quiet_step (fail))
        refine wpQuiet_nil ?_
        intro w2 hb2
        clear R
        go_wp2
        go_ret
        exact ⟨ret_int (idxOf_found hlt Hf.out Hall.out).symm, hB.step (hwr.step hb2)⟩
    · have hke : k = ys.length := by omega
      have Hk := hid hke; clear hke
      go_wp2
      go_ret
      exact ⟨ret_int (idxOf_none (fun j hj => Hall.out j hj (by have := Hk.out; omega))).symm, hB.step hwr⟩
/-- 's[k:]' of records. -/
theorem recs_from {w : World} {v : Value} {rs : List Rec} (h : RecsC w v rs) (k : Nat) (hk : k ≤ rs.length) : ∃ v',
    (∀ W : World, (Instr.slice 26 v (some (.int .i64 (k : Int))) none none).run Try.prog W = .ok v' W) ∧ RecsC w v' (rs.drop k) := by
  obtain ⟨⟨a, cap, rfl, hn, hz, hs⟩, hc⟩ := h
  have hcap : rs.length ≤ cap := hc _ _ _ rfl
  have hb := fun W => run_sliceBound (P := Try.prog) W .i64 (k : Int) rs.length .sliceB (by omega) (by omega)
  cases a with
  | none =>
    have h0 : rs.length = 0 := by
      rcases hs.shape with ⟨b, o, h, _⟩ | h
      · cases h
      · exact h
    have hk0 : k = 0 := by omega
    subst hk0
    refine ⟨.slice none (rs.length - 0) (cap - 0), fun W => ?_, ⟨none, cap - 0, by simp, by simpa using hn, by simpa using hz, fun j hj => ?_⟩, fun a n c e => ?_⟩
    · have := hb W
      simp [Instr.slice, run_underlying Try.underlying26, Instr.sliceBounds, go_sem] at this ⊢
    · simp at hj; omega
    · simp only [Value.slice.injEq] at e
      obtain ⟨_, rfl, rfl⟩ := e
      omega
  | some A =>
    refine ⟨.slice (if cap = k then some A else some (A.add (k * 5))) (rs.length - k) (cap - k), fun W => ?_, ⟨_, cap - k, by rw [List.length_drop], by rw [List.length_drop]; omega, fun r hr => hz r (List.mem_of_mem_drop hr), fun j hj => ?_⟩, fun a n c e => ?_⟩
    · have := hb W
      by_cases hck : cap = k
      · simp [Instr.slice, run_underlying Try.underlying26, Instr.sliceBounds, this, hck, go_sem]
      · simp [Instr.slice, run_underlying Try.underlying26, Instr.sliceBounds, this, hck, go_sem]
    · rw [List.length_drop] at hj
      have hck : ¬ cap = k := by omega
      obtain ⟨b, o, ha, hr⟩ := hs (k + j) (by omega)
      simp only [Option.some.injEq] at ha
      subst ha
      refine ⟨b, o + k * 5, ?_, fun r hr' => ?_⟩
      · rw [if_neg hck]
        simp only [Addr.add]
        split
        · rename_i h0; simp [h0]
        · rfl
      · rw [List.getElem?_drop] at hr'
        have := hr r hr'
        rw [show o + k * 5 + j * 5 = o + (k + j) * 5 from by omega]
        exact this
    · simp only [Value.slice.injEq] at e
      obtain ⟨_, rfl, rfl⟩ := e
      omega
/-- What is left of 'of' behind the first k of 'some', each found in its turn; none: one was not found. -/
def restTo (xs ys : List Rec) : Nat → Option (List Rec)
  | 0 => some ys
  | k + 1 => match restTo xs ys k with
    | some L => (match xs[k]? with | some x => (match L.findIdx? (isRec x) with | some i => some (L.drop (i + 1)) | none => none) | none => some L)
    | none => none
def amongB (xs ys : List Rec) : Bool := (restTo xs ys xs.length).isSome
theorem restTo_none {xs ys : List Rec} {k : Nat} (h : restTo xs ys k = none) : ∀ n, k ≤ n → restTo xs ys n = none
  | 0, hn => by have : k = 0 := by omega
                subst this; exact h
  | n + 1, hn => by
    by_cases e : k = n + 1
    · subst e; exact h
    · have := restTo_none h n (by omega)
      rw [restTo, this]
theorem idxOf_some {p : Rec → Bool} {l : List Rec} {i : Nat} (h : l.findIdx? p = some i) : idxOf p l = (i : Int) ∧ i < l.length := by
  unfold idxOf
  rw [h]
  rw [List.findIdx?_eq_some_iff_getElem] at h
  exact ⟨rfl, h.1⟩
set_option maxHeartbeats 2000000 in
theorem among_any (xs ys : List Rec) (v u : Value) (w : World) (hx : RecsAt w v xs) (hy : RecsC w u ys) :
    Calls Try.prog 42 #[v, u] w fun e w' => e = .returned (.bool (amongB xs ys)) ∧ Below w.heap.size w w' := by
  obtain ⟨a, cap, rfl, hn, hz, hs⟩ := hx
  have HS := hid hs
  clear hs
  go_enter Try.func42, Try.ntmps42
  go_wp2
  go_loopw [1, 10] (fun u q wr => ∃ (k : Nat) (L : List Rec), k ≤ xs.length ∧ q = .int .i64 k ∧ restTo xs ys k = some L ∧ RecsC wr u L ∧ Below w.heap.size w wr) (fun _ q _ => xs.length - (intOf q).toNat)
  case atStart => exact ⟨0, ys, by omega, rfl, rfl, hy, Below.refl _ _⟩
  case round =>
    obtain ⟨k, L, hk, rfl, hrest, hL, hwr⟩ := hrel
    have HR := hid hrest
    clear hrest
    by_cases hlt : k < xs.length
    · obtain ⟨b, o, rfl, hc⟩ := HS.out k hlt
      have hxk : xs[k]? = some xs[k] := List.getElem?_eq_getElem hlt
      obtain ⟨e0, e1, e2, e3, e4⟩ := (hc _ hxk).mono hwr
      have HN := hid (show restTo xs ys (k + 1) = (match L.findIdx? (isRec xs[k]) with | some i => some (L.drop (i + 1)) | none => none) by rw [restTo, HR.out, hxk])
      have I := hid (fun X => index_any xs[k] L u1 _ (hL.1.mono (below_alloc wr X)))
      clear hc hxk
      generalize xs[k] = x at *
      cases hf : L.findIdx? (isRec x) with
      | none =>
        have hi : idxOf (isRec x) L = -1 := by unfold idxOf; rw [hf]
        rw [hi] at I
        rw [hf] at HN
        clear hi hf
        go_wp2_with fail
        refine (I.out _).mono ?_
        rintro e2' w2 ⟨rfl, hb2⟩
        go_wp2
        go_ret
        refine ⟨ret_bool ?_, hwr.step ((below_alloc _ _).step hb2)⟩
        unfold amongB
        rw [restTo_none HN.out xs.length (by omega)]
        rfl
      | some i =>
        obtain ⟨hi, hil⟩ := idxOf_some hf
        rw [hi] at I
        rw [hf] at HN
        have hL1 := hL.1
        have hLn : L.length ≤ 1000000 := let ⟨_, _, _, h, _⟩ := hL1; h
        clear hi hf hL1
        obtain ⟨v', hsl, hrec⟩ := recs_from hL (i + 1) (by omega)
        rw [show (((i + 1 : Nat) : Int)) = (i : Int) + 1 from by omega] at hsl
        go_wp2_with fail
        refine (I.out _).mono ?_
        rintro e2' w2 ⟨rfl, hb2⟩
        have hrec2 := hrec.mono ((below_alloc wr _).step hb2)
        go_wp2
        clear hsl
        go_roundw
        case rel => exact ⟨k + 1, L.drop (i + 1), by omega, by go_num, HN.out, hrec2, hwr.step ((below_alloc _ _).step hb2)⟩
        case measure => simp [intOf]; omega
    · obtain rfl : k = xs.length := by omega
      go_wp2
      go_ret
      exact ⟨ret_bool (by unfold amongB; rw [HR.out]; rfl), hwr⟩
end Go.Proofs.Ytceamgkifjmbcaa
