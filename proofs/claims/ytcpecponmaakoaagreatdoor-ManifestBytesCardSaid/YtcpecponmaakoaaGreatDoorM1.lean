/- Walks: the reference's Texts, there, figures, Name; the law's few. -/
import Derived.Test.YtcpecponmaakoaaGreatDoorH1
namespace Go.Proofs.YtcpecponmaakoaaGreatDoor
open Go.RowKit Go.Wm
/-- A slice value that reads as these texts, however many. -/
def TextsBig (w : World) (v : Value) (l : List ByteArray) : Prop :=
  ∃ a cap, v = .slice a l.length cap ∧ l.length ≤ cap ∧ SliceAt a l.length 1 (fun k b o => ∀ s, l[k]? = some s → w.cell? ⟨b, o, none⟩ = some (.string s))
theorem TextsBig.at {w : World} {v : Value} {l : List ByteArray} (h : TextsBig w v l) (hl : l.length ≤ 1000000) : TextsAt w v l :=
  let ⟨a, cap, h1, _, h3⟩ := h; ⟨a, cap, h1, hl, h3⟩
theorem TextsBig.mono {w w' : World} (hb : Below w.heap.size w w') {v : Value} {l : List ByteArray} (h : TextsBig w v l) : TextsBig w' v l := by
  obtain ⟨a, cap, rfl, h1, h3⟩ := h
  refine ⟨a, cap, rfl, h1, fun k hk => ?_⟩
  obtain ⟨b, o, ha, h⟩ := h3 k hk
  exact ⟨b, o, ha, fun r hr => cell_below hb (h r hr)⟩
/-- Are names few, and short? -/
def fewM (pre : ByteArray) (names : List ByteArray) : Bool := decide (∀ s ∈ names.take 100, s.size ≤ 200) && decide (pre.size ≤ 100) && decide (names.length ≤ 60)
theorem fewM_true {pre : ByteArray} {names : List ByteArray} (h : fewM pre names = true) : pre.size ≤ 100 ∧ names.length ≤ 60 ∧ ∀ s ∈ names, s.size ≤ 200 := by
  unfold fewM at h
  simp only [Bool.and_eq_true, decide_eq_true_eq] at h
  obtain ⟨⟨h1, h2⟩, h3⟩ := h
  refine ⟨h2, h3, fun s hs => h1 s ?_⟩
  rw [List.take_of_length_le (by omega)]
  exact hs
set_option maxHeartbeats 1000000 in
theorem fewTexts_any (pre : ByteArray) (names : List ByteArray) (v : Value) (w : World) (hv : TextsBig w v names) :
    Calls Tryz.prog 16 #[.string pre, v] w fun e w' => e = .returned (.bool (fewM pre names)) ∧ Below w.heap.size w w' := by
  obtain ⟨a, cap, rfl, hnc, hs⟩ := hv
  have HS := hid hs
  clear hs
  go_enter Tryz.func16, Tryz.ntmps16
  go_wp2
  go_loopw [5] (fun i wr => ∃ k : Nat, i = .int .i64 k ∧ k ≤ names.length ∧ k ≤ 100 ∧ (∀ j (h : j < names.length), j < k → names[j].size ≤ 200) ∧ Below w.heap.size w wr) (fun i _ => names.length - (intOf i).toNat)
  case atStart => exact ⟨0, rfl, by omega, by omega, fun _ _ h => by omega, Below.refl _ _⟩
  case round =>
    obtain ⟨k, rfl, hk, hk2, hall, hwr⟩ := hrel
    have Hall := hid hall
    clear hall
    by_cases hlt : k < names.length ∧ k < 100
    · obtain ⟨hlt, hlt2⟩ := hlt
      obtain ⟨b, o, rfl, hx⟩ := HS.out k hlt
      have e0 := cell_below hwr (hx _ (List.getElem?_eq_getElem hlt))
      rw [Nat.mul_one] at e0
      clear hx
      obtain ⟨s, hs⟩ : ∃ s, s = names[k] := ⟨_, rfl⟩
      rw [← hs] at e0
      have Hs := hid hs
      clear hs
      by_cases hz : s.size ≤ 200
      · have Hz := hid hz
        go_wp2
        go_roundw
        case rel =>
          refine ⟨k + 1, by go_num, by omega, by omega, ?_, hwr⟩
          intro j hj hjk
          by_cases hjk' : j = k
          · subst hjk'; rw [← Hs.out]; exact Hz.out
          · exact Hall.out j hj (by omega)
        case measure => simp [intOf]; omega
      · have Hf := hid (show fewM pre names = false by
          unfold fewM
          rw [decide_eq_false]
          · rfl
          · intro h
            apply hz
            rw [Hs.out]
            exact h _ (List.mem_take_iff_getElem.2 ⟨k, by omega, rfl⟩))
        go_wp2
        go_ret
        exact ⟨ret_bool Hf.out.symm, hwr⟩
    · have Hf := hid (show fewM pre names = (decide (pre.size ≤ 100) && decide (names.length ≤ 60)) by
        unfold fewM
        rw [decide_eq_true (p := ∀ s ∈ names.take 100, s.size ≤ 200)]
        · rfl
        · intro s hs
          obtain ⟨j, hj, rfl⟩ := List.mem_take_iff_getElem.1 hs
          exact Hall.out j (by omega) (by omega))
      have Hlt := hid hlt
      by_cases hq : k < names.length
      · have hq2 : ¬ (k < 100) := by omega
        clear hlt
        by_cases hp : pre.size ≤ 100
        · go_wp2
          go_ret
          exact ⟨ret_bool (by rw [Hf.out, decide_eq_true hp, Bool.true_and, decide_eq_decide]; omega), hwr⟩
        · go_wp2
          go_ret
          exact ⟨ret_bool (by rw [Hf.out, decide_eq_false hp]; rfl), hwr⟩
      · clear hlt
        by_cases hp : pre.size ≤ 100
        · go_wp2
          go_ret
          exact ⟨ret_bool (by rw [Hf.out, decide_eq_true hp, Bool.true_and, decide_eq_decide]; omega), hwr⟩
        · go_wp2
          go_ret
          exact ⟨ret_bool (by rw [Hf.out, decide_eq_false hp]; rfl), hwr⟩
def thereB (x : Int) (ps : List Piece) : Bool := ps.any fun p => idIs x p && stIs 2 p
set_option maxHeartbeats 1000000 in
theorem there_any (ver next x : Int) (ps : List Piece) (v : Value) (w : World) (hv : PcsAt w v ps) :
    Calls Tryz.prog 49 #[.agg #[.int .i64 ver, .int .i64 next, v], .int .i64 x] w fun e w' => e = .returned (.bool (thereB x ps)) ∧ Below w.heap.size w w' := by
  obtain ⟨a, cap, rfl, hn, hs⟩ := hv
  have HS := hid hs
  clear hs
  go_enter Tryz.func49, Tryz.ntmps49
  go_wp2
  refine wp_name fun W hW => ?_
  have hB : Below w.heap.size w W := by rw [hW]; exact below_alloc _ _
  have hN2 : W.cell? ⟨w.heap.size, 2, none⟩ = some (.slice a ps.length cap) := by rw [hW]; simp
  clear hW
  go_loopw [5] (fun i wr => ∃ k : Nat, k ≤ ps.length ∧ i = .int .i64 k ∧ (∀ j (h : j < ps.length), j < k → (idIs x ps[j] && stIs 2 ps[j]) = false) ∧ Below W.heap.size W wr) (fun i _ => ps.length - (intOf i).toNat)
  case atStart => exact ⟨0, by omega, rfl, fun _ _ h => by omega, Below.refl _ _⟩
  case round =>
    obtain ⟨k, hk, rfl, hall, hwr⟩ := hrel
    have Hall := hid hall
    clear hall
    have hm2 := cell_below hwr hN2
    by_cases hlt : k < ps.length
    · obtain ⟨b, o, rfl, hx⟩ := HS.out k hlt
      obtain ⟨e0, e1, e2, e3, e4, e5⟩ := ((hx _ (List.getElem?_eq_getElem hlt)).mono hB).mono hwr
      clear hx hN2
      obtain ⟨p, hp⟩ : ∃ p, p = ps[k] := ⟨_, rfl⟩
      rw [← hp] at e0 e1 e2 e3 e4 e5
      have NEXT := hid (fun (hf : (idIs x p && stIs 2 p) = false) => show ∀ j (h : j < ps.length), j < k + 1 → (idIs x ps[j] && stIs 2 ps[j]) = false from fun j hj hjk => by
        by_cases hjk' : j = k
        · subst hjk'; rw [← hp]; exact hf
        · exact Hall.out j hj (by omega))
      have FOUND := hid (fun (hf : (idIs x p && stIs 2 p) = true) => show thereB x ps = true by
        unfold thereB
        rw [List.any_eq_true]
        exact ⟨p, by rw [hp]; exact List.getElem_mem hlt, hf⟩)
      clear hp
      by_cases h1 : p.id = x
      · by_cases h2 : p.state = 2
        · have Hf := hid (FOUND.out (by simp [idIs, stIs, h1, h2]))
          go_wp2
          go_ret
          exact ⟨ret_bool Hf.out.symm, hB.step hwr⟩
        · have Hf := hid (NEXT.out (by simp [stIs, h2]))
          go_wp2
          go_roundw
          case rel => exact ⟨k + 1, by omega, by go_num, Hf.out, hwr⟩
          case measure => simp [intOf]; omega
      · have Hf := hid (NEXT.out (by simp [idIs, h1]))
        go_wp2
        go_roundw
        case rel => exact ⟨k + 1, by omega, by go_num, Hf.out, hwr⟩
        case measure => simp [intOf]; omega
    · have hke : k = ps.length := by omega
      have Hf := hid (show thereB x ps = false by
        unfold thereB
        rw [List.any_eq_false]
        intro q hq
        obtain ⟨j, hj, rfl⟩ := List.getElem_of_mem hq
        rw [Hall.out j hj (by omega)]
        simp)
      clear hke
      go_wp2
      go_ret
      exact ⟨ret_bool Hf.out.symm, hB.step hwr⟩
set_option maxHeartbeats 1000000 in
theorem texts_any (xs ys : List ByteArray) (v u : Value) (w : World) (hx : TextsAt w v xs) (hy : TextsAt w u ys) :
    Calls Tryz.prog 20 #[v, u] w fun e w' => e = .returned (.bool (decide (xs = ys))) ∧ Below w.heap.size w w' := by
  obtain ⟨a, cap, rfl, hn, hs⟩ := hx
  obtain ⟨c, cap2, rfl, hn2, hs2⟩ := hy
  have HS := hid hs
  have HS2 := hid hs2
  clear hs hs2
  by_cases hl : xs.length = ys.length
  · have Hl := hid hl
    have hlb : ((xs.length : Int) != ys.length) = false := by simp [hl]
    clear hl
    go_enter Tryz.func20, Tryz.ntmps20
    go_wp2
    go_loopw [5] (fun i wr => ∃ k : Nat, k ≤ xs.length ∧ i = .int .i64 k ∧ (∀ j (h : j < xs.length) (h2 : j < ys.length), j < k → xs[j] = ys[j]) ∧ Below w.heap.size w wr) (fun i _ => xs.length - (intOf i).toNat)
    case atStart => exact ⟨0, by omega, rfl, fun _ _ _ h => by omega, Below.refl _ _⟩
    case round =>
      obtain ⟨k, hk, rfl, hall, hwr⟩ := hrel
      have Hall := hid hall
      clear hall
      by_cases hlt : k < xs.length
      · have hlt2 : k < ys.length := by rw [← Hl.out]; exact hlt
        obtain ⟨b, o, rfl, hx⟩ := HS.out k hlt
        obtain ⟨b2, o2, rfl, hx2⟩ := HS2.out k hlt2
        have e0 := cell_below hwr (hx _ (List.getElem?_eq_getElem hlt))
        have f0 := cell_below hwr (hx2 _ (List.getElem?_eq_getElem hlt2))
        rw [Nat.mul_one] at e0 f0
        clear hx hx2
        obtain ⟨s, hs⟩ : ∃ s, s = xs[k] := ⟨_, rfl⟩
        obtain ⟨t, ht⟩ : ∃ t, t = ys[k] := ⟨_, rfl⟩
        rw [← hs] at e0
        rw [← ht] at f0
        have Hs := hid hs
        have Ht := hid ht
        clear hs ht
        by_cases hst : s = t
        · subst hst
          have hq : (s.toList == s.toList) = true := by simp
          go_wp2
          go_region
          go_wp2
          go_roundw
          case rel =>
            refine ⟨k + 1, by omega, by go_num, ?_, hwr.drew⟩
            intro j hj hj2 hjk
            by_cases hjk' : j = k
            · subst hjk'; rw [← Hs.out, ← Ht.out]
            · exact Hall.out j hj hj2 (by omega)
          case measure => simp [intOf]; omega
        · have hq : (s.toList == t.toList) = false := by rw [run_eq_bytes]; simpa using hst
          have Hne := hid (show decide (xs = ys) = false from decide_eq_false (fun h => hst (by rw [Hs.out, Ht.out]; subst h; rfl)))
          clear hst
          go_wp2
          go_region
          go_wp2
          go_ret
          exact ⟨ret_bool Hne.out.symm, hwr.drew⟩
      · have hke : k = xs.length := by omega
        have He := hid (show decide (xs = ys) = true from decide_eq_true (List.ext_getElem Hl.out (fun j h1 h2 => Hall.out j h1 h2 (by omega))))
        clear hke
        go_wp2
        go_ret
        exact ⟨ret_bool He.out.symm, hwr⟩
  · have Hne := hid (show decide (xs = ys) = false from decide_eq_false (fun h => hl (by rw [h])))
    have hlb : ((xs.length : Int) != ys.length) = true := by simp; omega
    clear hl
    go_enter Tryz.func20, Tryz.ntmps20
    go_wp2
    go_ret
    exact ⟨ret_bool Hne.out.symm, Below.refl _ _⟩
end Go.Proofs.YtcpecponmaakoaaGreatDoor
