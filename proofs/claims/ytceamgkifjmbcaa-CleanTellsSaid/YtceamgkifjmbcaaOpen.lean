/- The frame of chapter 13's statements: arguments opened to what they read as; a law's end shut. -/
import Derived.Test.YtceamgkifjmbcaaW18
import Derived.Test.YtceamgkifjmbcaaRows
import Derived.Deep.Slices
import Derived.Deep.Fields
import Derived.ChangeSame
import Derived.ProofKit
import Derived.SizedLaws
namespace Go.Wm
open Go.ChangeShapes Go.WideShapes Go.Deep Go.RowKit
section
variable {H : Type} {enc : TypeId × Value → H} {P : Program} {w : World} {base : Nat} {spare : Nat → Bool} {held : Bool}
/-- A slice of structs of one-cell fields, its elements by their cells and their fields' readings. -/
theorem open_slice_fields {t e : TypeId} {fs : Array Field} {fuel : Nat} {cs : List Value} {x : DataW H × List MemPlace} (ht : P.underlying t = some (.slice e)) (he : P.underlying e = some (.struct fs))
    (hone : oneCellFields P fs = true) (hC : P.cellsOf e = fs.size) (h : DataW.trod enc P w base spare held fuel t cs = some x) :
    (cs = [.slice none 0 0] ∧ x = (.nil, [])) ∨
    ∃ (a : Addr) (len cap m : Nat) (D : Nat → DataW H), cs = [.slice (some a) len cap] ∧ len ≤ cap ∧ m = (if spare a.block then cap else len) ∧
      x.1 = .slice ((List.range len).map D) ((List.range (m - len)).map fun j => D (len + j)) ∧
      ∀ i, i < m → ∃ (ys : List (DataW H × List MemPlace)) (n : Nat), D i = .agg (ys.map (·.1)) ∧ ys.length = fs.size ∧
        ∀ (j : Nat) (f : Field), fs[j]? = some f → ∃ (v : Value) (y : DataW H × List MemPlace), w.cell? (a.add (i * fs.size + j)) = some v ∧ ys[j]? = some y ∧ DataW.trod enc P w base spare held n f.type [v] = some y := by
  rcases open_slice ht h with h0 | ⟨a, len, cap, m, n, D, Pl, hcs, hb, hl, hm, hmm, hx, hi⟩
  · exact .inl h0
  · refine .inr ⟨a, len, cap, m, D, hcs, hl, hmm, by rw [hx], fun i him => ?_⟩
    obtain ⟨cs', hc, ht'⟩ := hi i him
    rw [hC] at hc
    obtain ⟨ys, n', hn', hy, hlen, hyl, hf⟩ := DataW.trod_struct he ht'
    obtain ⟨_, hcl, hat⟩ := World.cells?_some hc
    simp only [Prod.mk.injEq] at hy
    refine ⟨ys, n', hy.1, hyl, fun j f hj => ?_⟩
    obtain ⟨ho, hk⟩ := hone_of hone j f hj
    have hjl : j < fs.size := (Array.getElem?_eq_some_iff.1 hj).1
    have hcell := hat j hjl
    have hv : cs'[j]? = some (cs'[j]'(by omega)) := List.getElem?_eq_getElem (by omega)
    have h1 := hf j f hj
    rw [ho, hk] at h1
    have hone' : (cs'.drop j).take 1 = [cs'[j]'(by omega)] := by
      rw [List.drop_eq_getElem_cons (by omega)]
      rfl
    rw [hone'] at h1
    have hys : ys[j]? = some (ys[j]'(by omega)) := List.getElem?_eq_getElem (by omega)
    refine ⟨_, _, ?_, hys, h1.trans hys⟩
    rw [← Go.Deep.add_add, hcell, hv]
/-- What fits an index each, as one list. -/
theorem list_of {α : Type} {n : Nat} {R : Nat → α → Prop} (h : ∀ i, i < n → ∃ x, R i x) : ∃ l : List α, l.length = n ∧ ∀ i x, l[i]? = some x → R i x := by
  induction n with
  | zero => exact ⟨[], rfl, fun i x hx => by simp at hx⟩
  | succ n ih =>
    obtain ⟨l, hl, hr⟩ := ih fun i hi => h i (by omega)
    obtain ⟨x, hx⟩ := h n (by omega)
    refine ⟨l ++ [x], by simp [hl], fun i y hy => ?_⟩
    by_cases hi : i < n
    · rw [List.getElem?_append_left (by omega)] at hy; exact hr i y hy
    · rw [List.getElem?_append_right (by omega)] at hy
      have : i = n := by
        have := (List.getElem?_eq_some_iff.1 hy).1
        simp at this; omega
      subst this
      simp [hl] at hy
      subst hy; exact hx
theorem weightsAll_mem {e : TypeId} : ∀ {ds : List (DataW H)} {d : DataW H}, d ∈ ds → ∀ n ∈ d.weights P e, n ∈ DataW.weightsAll P e ds
  | d0 :: ds, d, hd, n, hn => by
    simp only [DataW.weightsAll, List.mem_append]
    rcases List.mem_cons.1 hd with rfl | h
    · exact .inl hn
    · exact .inr (weightsAll_mem h n hn)
  | [], _, hd, _, _ => by simp at hd
/-- What a slice weighs: itself, and each element. -/
theorem weights_slice {t e : TypeId} (hu : P.underlying t = some (.slice e)) {elems sp : List (DataW H)} (h : ∀ n ∈ (DataW.slice elems sp).weights P t, n ≤ reachBytes) :
    (elems.length + sp.length) * P.bytesOf e ≤ reachBytes ∧ ∀ d ∈ elems, ∀ n ∈ d.weights P e, n ≤ reachBytes := by
  simp only [DataW.weights, hu, List.mem_cons, List.mem_append] at h
  exact ⟨h _ (.inl rfl), fun d hd n hn => h n (.inr (.inl (weightsAll_mem hd n hn)))⟩
/-- What a struct weighs: each field. -/
theorem weights_struct {e : TypeId} {fs : Array Field} (hu : P.underlying e = some (.struct fs)) {parts : List (DataW H)} (h : ∀ n ∈ (DataW.agg parts).weights P e, n ≤ reachBytes)
    {j : Nat} {f : Field} {d : DataW H} (hf : fs[j]? = some f) (hd : parts[j]? = some d) : ∀ n ∈ d.weights P f.type, n ≤ reachBytes := by
  intro n hn
  simp only [DataW.weights, hu] at h
  refine h n (DataW.weights_mem_each (j := j) (t := f.type) ?_ hd n hn)
  rw [List.getElem?_map, Array.getElem?_toList, hf]; rfl
theorem trodAll_below {W W' : World} (hl : laidOutB P = true) (hb : Below W.heap.size W W') : ∀ {ts : List TypeId} {vs : List Value} {ds : List (DataW H)} {ps : List MemPlace}, (∀ t ∈ ts, P.readableRec t = true ∧ t < P.types.size) →
    DataW.TrodAll enc P W 0 (fun _ => true) true ts vs ds ps → (∀ x ∈ ps, x.block < W.heap.size) → DataW.TrodAll enc P W' 0 (fun b => decide (b < W.heap.size)) true ts vs ds ps
  | [], [], [], _, _, h, _ => h
  | t :: ts, v :: vs, d :: ds, ps, hr, h, hlt => by
    obtain ⟨p, q, h1, h2, rfl⟩ := h
    exact ⟨p, q, Below.trod hl (hr t (by simp)).1 (hr t (by simp)).2 h1 hb (fun x hx => hlt x (by simp [hx])), trodAll_below hl hb (fun t' ht' => hr t' (by simp [ht'])) h2 (fun x hx => hlt x (by simp [hx])), rfl⟩
  | [], _ :: _, _, _, _, h, _ => h.elim
  | [], [], _ :: _, _, _, h, _ => h.elim
  | _ :: _, [], _, _, _, h, _ => h.elim
  | _ :: _, _ :: _, [], _, _, h, _ => h.elim
end
end Go.Wm
namespace Go.Proofs.Ytceamgkifjmbcaa
open Go.ChangeShapes Go.WideShapes Go.ChangeAt Go.RowKit Go.Wm
theorem Try.own : ownKnob Try.prog.godebug = none := by kernel_rfl
theorem Try.laidOut : laidOutB Try.prog = true := by kernel_rfl
theorem Try.bytes28 : Try.prog.bytesOf 28 = 96 := by kernel_rfl
theorem Try.bytes33 : Try.prog.bytesOf 33 = 56 := by kernel_rfl
theorem Try.bytes51 : Try.prog.bytesOf 51 = 32 := by kernel_rfl
section
variable {H : Type} {enc : TypeId × Value → H} {W : World}
/-- []Rec -/
theorem open_recs {n : Nat} {v : Value} {y : DataW H × List MemPlace} (h : DataW.trod enc Try.prog W 0 (fun _ => true) true n 26 [v] = some y) (hw : ∀ k ∈ y.1.weights Try.prog 26, k ≤ reachBytes) :
    ∃ rs, RecsBig W v rs ∧ ∀ r ∈ rs, (Lit.int .i64 r.off).wf = true := by
  rcases open_slice_fields Try.underlying26 Try.underlying33 (by kernel_rfl) (by kernel_rfl) h with ⟨hv, _⟩ | ⟨a, len, cap, m, D, hv, hlc, hm, hy, hi⟩
  · simp only [List.cons.injEq, and_true] at hv
    subst hv
    exact ⟨[], ⟨none, 0, rfl, by simp, by simp, fun k hk => by simp at hk⟩, by simp⟩
  · simp only [List.cons.injEq, and_true] at hv
    subst hv
    rw [hy] at hw
    obtain ⟨hw1, hw2⟩ := weights_slice Try.underlying26 hw
    rw [Try.bytes33] at hw1
    simp only [List.length_map, List.length_range, reachBytes] at hw1
    simp only [if_true] at hm
    have hsp0 : 0 < len → a.spot = none := by
      intro h0
      obtain ⟨ys, n', hD, hyl, hf⟩ := hi 0 (by omega)
      obtain ⟨v0, y0, c0, _, t0⟩ := hf 0 _ rfl
      have := World.cell?_spot c0
      simpa [Addr.add] using this
    have each : ∀ i, i < len → ∃ r : Rec, (∃ b o, a = ⟨b, o, none⟩ ∧ RecAt W b (o + i * 5) r) ∧ (r.key.size ≤ 140737488351232 ∧ r.val.size ≤ 140737488351232) ∧ (Lit.int .i64 r.off).wf = true := by
      intro i hil
      obtain ⟨ys, n', hD, hyl, hf⟩ := hi i (by omega)
      have hwi := hw2 (D i) (List.mem_map.2 ⟨i, by simpa using hil, rfl⟩)
      rw [hD] at hwi
      obtain ⟨v0, y0, c0, _, t0⟩ := hf 0 _ rfl
      obtain ⟨v1, y1, c1, q1, t1⟩ := hf 1 _ rfl
      obtain ⟨v2, y2, c2, q2, t2⟩ := hf 2 _ rfl
      obtain ⟨v3, y3, c3, _, t3⟩ := hf 3 _ rfl
      obtain ⟨v4, y4, c4, _, t4⟩ := hf 4 _ rfl
      have w1 := weights_struct Try.underlying33 hwi (j := 1) rfl (by rw [List.getElem?_map, q1]; rfl)
      have w2 := weights_struct Try.underlying33 hwi (j := 2) rfl (by rw [List.getElem?_map, q2]; rfl)
      obtain ⟨o0, e0, _, wf0⟩ := DataW.trod_int Try.underlying3 t0
      obtain ⟨s1, e1, x1, _⟩ := DataW.trod_string Try.underlying9 t1
      obtain ⟨s2, e2, x2, _⟩ := DataW.trod_string Try.underlying9 t2
      obtain ⟨b3, e3, _⟩ := DataW.trod_bool Try.underlying4 t3
      obtain ⟨o4, e4, _, _⟩ := DataW.trod_int Try.underlying3 t4
      simp only [List.cons.injEq, and_true] at e0 e1 e2 e3 e4
      subst e0 e1 e2 e3 e4
      rw [x1] at w1
      rw [x2] at w2
      have z1 := w1 s1.data.toList.length (by simp [DataW.weights])
      have z2 := w2 s2.data.toList.length (by simp [DataW.weights])
      obtain ⟨b, o, sp⟩ := a
      have hsp : sp = none := hsp0 (by omega)
      subst hsp
      have hadd : ∀ j, (⟨b, o, none⟩ : Addr).add j = ⟨b, o + j, none⟩ := by intro j; simp only [Addr.add]; split <;> simp_all
      rw [hadd] at c0 c1 c2 c3 c4
      simp only [← Nat.add_assoc] at c0 c1 c2 c3 c4
      refine ⟨⟨o0, s1, s2, b3, o4⟩, ⟨b, o, rfl, ⟨c0, c1, c2, c3, c4⟩⟩, ⟨?_, ?_⟩, wf0⟩
      · simpa [reachBytes] using z1
      · simpa [reachBytes] using z2
    obtain ⟨rs, hrl, hr⟩ := list_of each
    subst hrl
    refine ⟨rs, ⟨some a, cap, rfl, by omega, fun r hrm => ?_, fun k hk => ?_⟩, fun r hrm => ?_⟩
    · obtain ⟨k, hk⟩ := List.mem_iff_getElem?.1 hrm
      exact (hr k r hk).2.1
    · obtain ⟨⟨b, o, ha, _⟩, _⟩ := hr k _ (List.getElem?_eq_getElem hk)
      refine ⟨b, o, by rw [ha], fun r hrk => ?_⟩
      obtain ⟨⟨b', o', ha', hra⟩, _⟩ := hr k r hrk
      rw [ha] at ha'
      simp only [Addr.mk.injEq, and_true] at ha'
      obtain ⟨rfl, rfl⟩ := ha'
      exact hra
    · obtain ⟨k, hk⟩ := List.mem_iff_getElem?.1 hrm
      exact (hr k r hk).2.2
/-- []Gone -/
theorem open_gones {n : Nat} {v : Value} {y : DataW H × List MemPlace} (h : DataW.trod enc Try.prog W 0 (fun _ => true) true n 23 [v] = some y) (hw : ∀ k ∈ y.1.weights Try.prog 23, k ≤ reachBytes) :
    ∃ gs, GonesBig W v gs := by
  rcases open_slice_fields Try.underlying23 Try.underlying51 (by kernel_rfl) (by kernel_rfl) h with ⟨hv, _⟩ | ⟨a, len, cap, m, D, hv, hlc, hm, hy, hi⟩
  · simp only [List.cons.injEq, and_true] at hv
    subst hv
    exact ⟨[], ⟨none, 0, rfl, by simp, fun k hk => by simp at hk⟩⟩
  · simp only [List.cons.injEq, and_true] at hv
    subst hv
    rw [hy] at hw
    obtain ⟨hw1, hw2⟩ := weights_slice Try.underlying23 hw
    rw [Try.bytes51] at hw1
    simp only [List.length_map, List.length_range, reachBytes] at hw1
    simp only [if_true] at hm
    have hsp0 : 0 < len → a.spot = none := by
      intro h0
      obtain ⟨ys, n', hD, hyl, hf⟩ := hi 0 (by omega)
      obtain ⟨v0, y0, c0, _, t0⟩ := hf 0 _ rfl
      have := World.cell?_spot c0
      simpa [Addr.add] using this
    have each : ∀ i, i < len → ∃ r : Gone, ∃ b o, a = ⟨b, o, none⟩ ∧ GoneAt W b (o + i * 4) r := by
      intro i hil
      obtain ⟨ys, n', hD, hyl, hf⟩ := hi i (by omega)
      obtain ⟨v0, y0, c0, _, t0⟩ := hf 0 _ rfl
      obtain ⟨v1, y1, c1, _, t1⟩ := hf 1 _ rfl
      obtain ⟨v2, y2, c2, _, t2⟩ := hf 2 _ rfl
      obtain ⟨v3, y3, c3, _, t3⟩ := hf 3 _ rfl
      obtain ⟨o0, e0, _, _⟩ := DataW.trod_int Try.underlying3 t0
      obtain ⟨o1, e1, _, _⟩ := DataW.trod_int Try.underlying3 t1
      obtain ⟨o2, e2, _, _⟩ := DataW.trod_int Try.underlying3 t2
      obtain ⟨o3, e3, _, _⟩ := DataW.trod_int Try.underlying3 t3
      simp only [List.cons.injEq, and_true] at e0 e1 e2 e3
      subst e0 e1 e2 e3
      obtain ⟨b, o, sp⟩ := a
      have hsp : sp = none := hsp0 (by omega)
      subst hsp
      have hadd : ∀ j, (⟨b, o, none⟩ : Addr).add j = ⟨b, o + j, none⟩ := by intro j; simp only [Addr.add]; split <;> simp_all
      rw [hadd] at c0 c1 c2 c3
      simp only [← Nat.add_assoc] at c0 c1 c2 c3
      exact ⟨⟨o0, o1, o2, o3⟩, b, o, rfl, ⟨c0, c1, c2, c3⟩⟩
    obtain ⟨rs, hrl, hr⟩ := list_of each
    subst hrl
    refine ⟨rs, ⟨some a, cap, rfl, by omega, fun k hk => ?_⟩⟩
    obtain ⟨b, o, ha, _⟩ := hr k _ (List.getElem?_eq_getElem hk)
    refine ⟨b, o, by rw [ha], fun r hrk => ?_⟩
    obtain ⟨b', o', ha', hra⟩ := hr k r hrk
    rw [ha] at ha'
    simp only [Addr.mk.injEq, and_true] at ha'
    obtain ⟨rfl, rfl⟩ := ha'
    exact hra
/-- What is known of a batch that came in, besides where it lies. -/
structure BatchOk (x : Batch) : Prop where
  base : (Lit.int .i64 x.base).wf = true
  last : (Lit.int .i64 x.last).wf = true
  pid : (Lit.int .i64 x.pid).wf = true
  offs : ∀ r ∈ x.recs, (Lit.int .i64 r.off).wf = true
/-- []Batch -/
theorem open_batches {n : Nat} {v : Value} {y : DataW H × List MemPlace} (h : DataW.trod enc Try.prog W 0 (fun _ => true) true n 22 [v] = some y) (hw : ∀ k ∈ y.1.weights Try.prog 22, k ≤ reachBytes) :
    ∃ bs, BatchesBig W v bs ∧ ∀ x ∈ bs, BatchOk x := by
  rcases open_slice_fields Try.underlying22 Try.underlying28 (by kernel_rfl) (by kernel_rfl) h with ⟨hv, _⟩ | ⟨a, len, cap, m, D, hv, hlc, hm, hy, hi⟩
  · simp only [List.cons.injEq, and_true] at hv
    subst hv
    exact ⟨[], ⟨none, 0, rfl, by simp, fun k hk => by simp at hk⟩, by simp⟩
  · simp only [List.cons.injEq, and_true] at hv
    subst hv
    rw [hy] at hw
    obtain ⟨hw1, hw2⟩ := weights_slice Try.underlying22 hw
    rw [Try.bytes28] at hw1
    simp only [List.length_map, List.length_range, reachBytes] at hw1
    simp only [if_true] at hm
    have hsp0 : 0 < len → a.spot = none := by
      intro h0
      obtain ⟨ys, n', hD, hyl, hf⟩ := hi 0 (by omega)
      obtain ⟨v0, y0, c0, _, t0⟩ := hf 0 _ rfl
      have := World.cell?_spot c0
      simpa [Addr.add] using this
    have each : ∀ i, i < len → ∃ r : Batch, (∃ b o, a = ⟨b, o, none⟩ ∧ ∃ sv, BatchAt W b (o + i * 10) r sv ∧ RecsBig W sv r.recs) ∧ BatchOk r := by
      intro i hil
      obtain ⟨ys, n', hD, hyl, hf⟩ := hi i (by omega)
      have hwi := hw2 (D i) (List.mem_map.2 ⟨i, by simpa using hil, rfl⟩)
      rw [hD] at hwi
      obtain ⟨v0, y0, c0, _, t0⟩ := hf 0 _ rfl
      obtain ⟨v1, y1, c1, _, t1⟩ := hf 1 _ rfl
      obtain ⟨v2, y2, c2, _, t2⟩ := hf 2 _ rfl
      obtain ⟨v3, y3, c3, _, t3⟩ := hf 3 _ rfl
      obtain ⟨v4, y4, c4, _, t4⟩ := hf 4 _ rfl
      obtain ⟨v5, y5, c5, _, t5⟩ := hf 5 _ rfl
      obtain ⟨v6, y6, c6, _, t6⟩ := hf 6 _ rfl
      obtain ⟨v7, y7, c7, _, t7⟩ := hf 7 _ rfl
      obtain ⟨v8, y8, c8, _, t8⟩ := hf 8 _ rfl
      obtain ⟨v9, y9, c9, q9, t9⟩ := hf 9 _ rfl
      have w9 := weights_struct Try.underlying28 hwi (j := 9) rfl (by rw [List.getElem?_map, q9]; rfl)
      obtain ⟨o0, e0, _, f0⟩ := DataW.trod_int Try.underlying3 t0
      obtain ⟨o1, e1, _, f1⟩ := DataW.trod_int Try.underlying3 t1
      obtain ⟨o2, e2, _, _⟩ := DataW.trod_int Try.underlying3 t2
      obtain ⟨o3, e3, _, _⟩ := DataW.trod_int Try.underlying3 t3
      obtain ⟨o4, e4, _, f4⟩ := DataW.trod_int Try.underlying3 t4
      obtain ⟨o5, e5, _, _⟩ := DataW.trod_int Try.underlying3 t5
      obtain ⟨o6, e6, _, _⟩ := DataW.trod_int Try.underlying3 t6
      obtain ⟨o7, e7, _⟩ := DataW.trod_bool Try.underlying4 t7
      obtain ⟨o8, e8, _, _⟩ := DataW.trod_int Try.underlying3 t8
      obtain ⟨rs, hrs, hoff⟩ := open_recs t9 w9
      simp only [List.cons.injEq, and_true] at e0 e1 e2 e3 e4 e5 e6 e7 e8
      subst e0 e1 e2 e3 e4 e5 e6 e7 e8
      obtain ⟨b, o, sp⟩ := a
      have hsp : sp = none := hsp0 (by omega)
      subst hsp
      have hadd : ∀ j, (⟨b, o, none⟩ : Addr).add j = ⟨b, o + j, none⟩ := by intro j; simp only [Addr.add]; split <;> simp_all
      rw [hadd] at c0 c1 c2 c3 c4 c5 c6 c7 c8 c9
      simp only [← Nat.add_assoc] at c0 c1 c2 c3 c4 c5 c6 c7 c8 c9
      exact ⟨⟨o0, o1, o2, o3, o4, o5, o6, o7, o8, rs⟩, ⟨b, o, rfl, v9, ⟨c0, c1, c2, c3, c4, c5, c6, c7, c8, c9⟩, hrs⟩, ⟨f0, f1, f4, hoff⟩⟩
    obtain ⟨rs, hrl, hr⟩ := list_of each
    subst hrl
    refine ⟨rs, ⟨some a, cap - rs.length, by congr 1; omega, by omega, fun k hk => ?_⟩, fun r hrm => ?_⟩
    · obtain ⟨⟨b, o, ha, _⟩, _⟩ := hr k _ (List.getElem?_eq_getElem hk)
      refine ⟨b, o, by rw [ha], fun r hrk => ?_⟩
      obtain ⟨⟨b', o', ha', hra⟩, _⟩ := hr k r hrk
      rw [ha] at ha'
      simp only [Addr.mk.injEq, and_true] at ha'
      obtain ⟨rfl, rfl⟩ := ha'
      exact hra
    · obtain ⟨k, hk⟩ := List.mem_iff_getElem?.1 hrm
      exact (hr k r hk).2
end
theorem trodAll_five {H : Type} {enc : TypeId × Value → H} {P : Program} {w : World} {base : Nat} {spare : Nat → Bool} {held : Bool} {t0 t1 t2 t3 t4 : TypeId} {vs : Array Value} {ds : List (DataW H)} {ps : List MemPlace}
    (h : DataW.TrodAll enc P w base spare held [t0, t1, t2, t3, t4] vs.toList ds ps) :
    ∃ v0 v1 v2 v3 v4 d0 d1 d2 d3 d4 p0 p1 p2 p3 p4, vs = #[v0, v1, v2, v3, v4] ∧ ds = [d0, d1, d2, d3, d4] ∧ ps = p0 ++ (p1 ++ (p2 ++ (p3 ++ (p4 ++ [])))) ∧ DataW.Trod enc P w base spare held t0 v0 d0 p0 ∧ DataW.Trod enc P w base spare held t1 v1 d1 p1 ∧
      DataW.Trod enc P w base spare held t2 v2 d2 p2 ∧ DataW.Trod enc P w base spare held t3 v3 d3 p3 ∧ DataW.Trod enc P w base spare held t4 v4 d4 p4 := by
  obtain ⟨v0, s0, d0, e0, p0, q0, hargs, rfl, rfl, h0, h⟩ := trodAll_cons h
  obtain ⟨v1, s1, d1, e1, p1, q1, rfl, rfl, rfl, h1, h⟩ := trodAll_cons h
  obtain ⟨v2, s2, d2, e2, p2, q2, rfl, rfl, rfl, h2, h⟩ := trodAll_cons h
  obtain ⟨v3, s3, d3, e3, p3, q3, rfl, rfl, rfl, h3, h⟩ := trodAll_cons h
  obtain ⟨v4, s4, d4, e4, p4, q4, rfl, rfl, rfl, h4, h⟩ := trodAll_cons h
  obtain ⟨rfl, rfl, rfl⟩ := trodAll_nil h
  exact ⟨v0, v1, v2, v3, v4, d0, d1, d2, d3, d4, p0, p1, p2, p3, p4, by cases vs; simp_all, rfl, rfl, h0, h1, h2, h3, h4⟩
theorem params_read {P : Program} {l : List TypeId} (h : (l.all fun t => P.readableRec t && decide (t < P.types.size)) = true) : ∀ t ∈ l, P.readableRec t = true ∧ t < P.types.size := by
  intro t ht
  have := List.all_eq_true.1 h t ht
  simpa using this
end Go.Proofs.Ytceamgkifjmbcaa
