/- The frame of chapter 15's statements: arguments opened to what they read as. -/
import Derived.Test.YtcpecponmaakoaaGreatDoorH1
import Derived.Test.YtcpecponmaakoaaGreatDoorS1
import Derived.Test.YtcpecponmaakoaaGreatDoorRows
import Derived.Deep.Slices
import Derived.Deep.Fields
import Derived.ChangeSame
import Derived.ProofKit
import Derived.SizedLaws
import Derived.Lib.LaidTab
import Derived.Lib.LaidU8
import Derived.LaidHandle
import Derived.LaidLaws
import Derived.LaidMore
import Derived.Stop.LaidErr
import Derived.MakeChecks
namespace Go.Wm
open Go.ChangeShapes Go.WideShapes Go.Deep Go.RowKit
section
variable {H : Type} {enc : TypeId × Value → H} {P : Program} {w : World} {base : Nat} {spare : Nat → Bool} {held : Bool}
/-- A slice of structs of one-cell fields, its elements by their cells and their fields' readings. -/
theorem open_slice_fields {t e : TypeId} {fs : Array Field} {fuel : Nat} {cs : List Value} {x : DataW H × List MemPlace} (ht : P.underlying t = some (.slice e)) (he : P.underlying e = some (.struct fs))
    (hone : oneCellFields P fs = true) (hC : P.cellsOf e = fs.size) (h : DataW.trod enc P w base spare held fuel t cs = some x) :
    (cs = [.slice none 0 0] ∧ x = (.nil, [])) ∨
    ∃ (a : Addr) (len cap m : Nat) (D : Nat → DataW H), cs = [.slice (some a) len cap] ∧ len ≤ cap ∧ m = (if spare a.block then cap else len) ∧
      x.1 = .slice ((List.range len).map D) ((List.range (m - len)).map fun j => D (len + j)) ∧
      ∀ i, i < m → ∃ (ys : List (DataW H × List MemPlace)) (n : Nat), D i = .agg (ys.map (·.1)) ∧ ys.length = fs.size ∧
        ∀ (j : Nat) (f : Field), fs[j]? = some f → ∃ (v : Value) (y : DataW H × List MemPlace), w.cell? (a.add (i * fs.size + j)) = some v ∧ ys[j]? = some y ∧ DataW.trod enc P w base spare held n f.type [v] = some y := by
  rcases open_slice ht h with h0 | ⟨a, len, cap, m, n, D, Pl, hcs, hb, hl, hm, hmm, hx, hi⟩
  · exact .inl h0
  · refine .inr ⟨a, len, cap, m, D, hcs, hl, hmm, by rw [hx], fun i him => ?_⟩
    obtain ⟨cs', hc, ht'⟩ := hi i him
    rw [hC] at hc
    obtain ⟨ys, n', hn', hy, hlen, hyl, hf⟩ := DataW.trod_struct he ht'
    obtain ⟨_, hcl, hat⟩ := World.cells?_some hc
    simp only [Prod.mk.injEq] at hy
    refine ⟨ys, n', hy.1, hyl, fun j f hj => ?_⟩
    obtain ⟨ho, hk⟩ := hone_of hone j f hj
    have hjl : j < fs.size := (Array.getElem?_eq_some_iff.1 hj).1
    have hcell := hat j hjl
    have hv : cs'[j]? = some (cs'[j]'(by omega)) := List.getElem?_eq_getElem (by omega)
    have h1 := hf j f hj
    rw [ho, hk] at h1
    have hone' : (cs'.drop j).take 1 = [cs'[j]'(by omega)] := by
      rw [List.drop_eq_getElem_cons (by omega)]
      rfl
    rw [hone'] at h1
    have hys : ys[j]? = some (ys[j]'(by omega)) := List.getElem?_eq_getElem (by omega)
    refine ⟨_, _, ?_, hys, h1.trans hys⟩
    rw [← Go.Deep.add_add, hcell, hv]
/-- What fits an index each, as one list. -/
theorem list_of {α : Type} {n : Nat} {R : Nat → α → Prop} (h : ∀ i, i < n → ∃ x, R i x) : ∃ l : List α, l.length = n ∧ ∀ i x, l[i]? = some x → R i x := by
  induction n with
  | zero => exact ⟨[], rfl, fun i x hx => by simp at hx⟩
  | succ n ih =>
    obtain ⟨l, hl, hr⟩ := ih fun i hi => h i (by omega)
    obtain ⟨x, hx⟩ := h n (by omega)
    refine ⟨l ++ [x], by simp [hl], fun i y hy => ?_⟩
    by_cases hi : i < n
    · rw [List.getElem?_append_left (by omega)] at hy; exact hr i y hy
    · rw [List.getElem?_append_right (by omega)] at hy
      have : i = n := by
        have := (List.getElem?_eq_some_iff.1 hy).1
        simp at this; omega
      subst this
      simp [hl] at hy
      subst hy; exact hx
theorem weightsAll_mem {e : TypeId} : ∀ {ds : List (DataW H)} {d : DataW H}, d ∈ ds → ∀ n ∈ d.weights P e, n ∈ DataW.weightsAll P e ds
  | d0 :: ds, d, hd, n, hn => by
    simp only [DataW.weightsAll, List.mem_append]
    rcases List.mem_cons.1 hd with rfl | h
    · exact .inl hn
    · exact .inr (weightsAll_mem h n hn)
  | [], _, hd, _, _ => by simp at hd
/-- What a slice weighs: itself, and each element. -/
theorem weights_slice {t e : TypeId} (hu : P.underlying t = some (.slice e)) {elems sp : List (DataW H)} (h : ∀ n ∈ (DataW.slice elems sp).weights P t, n ≤ reachBytes) :
    (elems.length + sp.length) * P.bytesOf e ≤ reachBytes ∧ ∀ d ∈ elems, ∀ n ∈ d.weights P e, n ≤ reachBytes := by
  simp only [DataW.weights, hu, List.mem_cons, List.mem_append] at h
  exact ⟨h _ (.inl rfl), fun d hd n hn => h n (.inr (.inl (weightsAll_mem hd n hn)))⟩
/-- What a struct weighs: each field. -/
theorem weights_struct {e : TypeId} {fs : Array Field} (hu : P.underlying e = some (.struct fs)) {parts : List (DataW H)} (h : ∀ n ∈ (DataW.agg parts).weights P e, n ≤ reachBytes)
    {j : Nat} {f : Field} {d : DataW H} (hf : fs[j]? = some f) (hd : parts[j]? = some d) : ∀ n ∈ d.weights P f.type, n ≤ reachBytes := by
  intro n hn
  simp only [DataW.weights, hu] at h
  refine h n (DataW.weights_mem_each (j := j) (t := f.type) ?_ hd n hn)
  rw [List.getElem?_map, Array.getElem?_toList, hf]; rfl
theorem trodAll_below {W W' : World} (hl : laidOutB P = true) (hb : Below W.heap.size W W') : ∀ {ts : List TypeId} {vs : List Value} {ds : List (DataW H)} {ps : List MemPlace}, (∀ t ∈ ts, P.readableRec t = true ∧ t < P.types.size) →
    DataW.TrodAll enc P W 0 (fun _ => true) true ts vs ds ps → (∀ x ∈ ps, x.block < W.heap.size) → DataW.TrodAll enc P W' 0 (fun b => decide (b < W.heap.size)) true ts vs ds ps
  | [], [], [], _, _, h, _ => h
  | t :: ts, v :: vs, d :: ds, ps, hr, h, hlt => by
    obtain ⟨p, q, h1, h2, rfl⟩ := h
    exact ⟨p, q, Below.trod hl (hr t (by simp)).1 (hr t (by simp)).2 h1 hb (fun x hx => hlt x (by simp [hx])), trodAll_below hl hb (fun t' ht' => hr t' (by simp [ht'])) h2 (fun x hx => hlt x (by simp [hx])), rfl⟩
  | [], _ :: _, _, _, _, h, _ => h.elim
  | [], [], _ :: _, _, _, h, _ => h.elim
  | _ :: _, [], _, _, _, h, _ => h.elim
  | _ :: _, _ :: _, [], _, _, h, _ => h.elim
end
end Go.Wm
namespace Go.Proofs.YtcpecponmaakoaaGreatDoor
open Go.ChangeShapes Go.WideShapes Go.ChangeAt Go.RowKit Go.Wm
theorem Tryz.own : ownKnob Tryz.prog.godebug = none := by kernel_rfl
theorem Tryz.laidOut : laidOutB Tryz.prog = true := by kernel_rfl
theorem Tryz.bytes29 : Tryz.prog.bytesOf 29 = 48 := by kernel_rfl
theorem Tryz.bytes9 : Tryz.prog.bytesOf 9 = 16 := by kernel_rfl
theorem Tryz.bytes5 : Tryz.prog.bytesOf 5 = 1 := by kernel_rfl
/-- A slice value that reads as these pieces, however many. -/
def PcsBig (w : World) (v : Value) (ps : List Piece) : Prop :=
  ∃ a cap, v = .slice a ps.length cap ∧ ps.length ≤ cap ∧ SliceAt a ps.length 6 (fun k b o => ∀ p, ps[k]? = some p → PieceAt w b o p)
theorem PcsBig.at {w : World} {v : Value} {ps : List Piece} (h : PcsBig w v ps) (hl : ps.length ≤ 1000000) : PcsAt w v ps :=
  let ⟨a, cap, h1, _, h3⟩ := h; ⟨a, cap, h1, hl, h3⟩
theorem PcsBig.mono {w w' : World} (hb : Below w.heap.size w w') {v : Value} {ps : List Piece} (h : PcsBig w v ps) : PcsBig w' v ps := by
  obtain ⟨a, cap, rfl, h1, h3⟩ := h
  refine ⟨a, cap, rfl, h1, fun k hk => ?_⟩
  obtain ⟨b, o, ha, h⟩ := h3 k hk
  exact ⟨b, o, ha, fun r hr => (h r hr).mono hb⟩
/-- What is known of a piece that came in, besides where it lies. -/
structure PieceWf (p : Piece) : Prop where
  id : (Lit.int .i64 p.id).wf = true
  base : (Lit.int .i64 p.base).wf = true
  fin : (Lit.int .i64 p.fin).wf = true
  size : (Lit.int .i64 p.size).wf = true
  sum : (Lit.int .u32 p.sum).wf = true
  state : (Lit.int .i64 p.state).wf = true
section
variable {H : Type} {enc : TypeId × Value → H} {W : World} {base : Nat}
/-- []Piece -/
theorem open_pieces {n : Nat} {v : Value} {y : DataW H × List MemPlace} (h : DataW.trod enc Tryz.prog W 0 (fun _ => true) true n 22 [v] = some y) :
    ∃ ps, PcsBig W v ps ∧ ∀ p ∈ ps, PieceWf p := by
  rcases open_slice_fields Tryz.underlying22 Tryz.underlying29 (by kernel_rfl) (by kernel_rfl) h with ⟨hv, _⟩ | ⟨a, len, cap, m, D, hv, hlc, hm, hy, hi⟩
  · simp only [List.cons.injEq, and_true] at hv
    subst hv
    exact ⟨[], ⟨none, 0, rfl, by simp, fun k hk => by simp at hk⟩, by simp⟩
  · simp only [List.cons.injEq, and_true] at hv
    subst hv
    simp only [if_true] at hm
    have hsp0 : 0 < len → a.spot = none := by
      intro h0
      obtain ⟨ys, n', hD, hyl, hf⟩ := hi 0 (by omega)
      obtain ⟨v0, y0, c0, _, t0⟩ := hf 0 _ rfl
      have := World.cell?_spot c0
      simpa [Addr.add] using this
    have each : ∀ i, i < len → ∃ r : Piece, (∃ b o, a = ⟨b, o, none⟩ ∧ PieceAt W b (o + i * 6) r) ∧ PieceWf r := by
      intro i hil
      obtain ⟨ys, n', hD, hyl, hf⟩ := hi i (by omega)
      obtain ⟨v0, y0, c0, _, t0⟩ := hf 0 _ rfl
      obtain ⟨v1, y1, c1, _, t1⟩ := hf 1 _ rfl
      obtain ⟨v2, y2, c2, _, t2⟩ := hf 2 _ rfl
      obtain ⟨v3, y3, c3, _, t3⟩ := hf 3 _ rfl
      obtain ⟨v4, y4, c4, _, t4⟩ := hf 4 _ rfl
      obtain ⟨v5, y5, c5, _, t5⟩ := hf 5 _ rfl
      obtain ⟨o0, e0, _, f0⟩ := DataW.trod_int Tryz.underlying3 t0
      obtain ⟨o1, e1, _, f1⟩ := DataW.trod_int Tryz.underlying3 t1
      obtain ⟨o2, e2, _, f2⟩ := DataW.trod_int Tryz.underlying3 t2
      obtain ⟨o3, e3, _, f3⟩ := DataW.trod_int Tryz.underlying3 t3
      obtain ⟨o4, e4, _, f4⟩ := DataW.trod_int Tryz.underlying27 t4
      obtain ⟨o5, e5, _, f5⟩ := DataW.trod_int Tryz.underlying3 t5
      simp only [List.cons.injEq, and_true] at e0 e1 e2 e3 e4 e5
      subst e0 e1 e2 e3 e4 e5
      obtain ⟨b, o, sp⟩ := a
      have hsp : sp = none := hsp0 (by omega)
      subst hsp
      have hadd : ∀ j, (⟨b, o, none⟩ : Addr).add j = ⟨b, o + j, none⟩ := by intro j; simp only [Addr.add]; split <;> simp_all
      rw [hadd] at c0 c1 c2 c3 c4 c5
      simp only [← Nat.add_assoc] at c0 c1 c2 c3 c4 c5
      exact ⟨⟨o0, o1, o2, o3, o4, o5⟩, ⟨b, o, rfl, ⟨c0, c1, c2, c3, c4, c5⟩⟩, ⟨f0, f1, f2, f3, f4, f5⟩⟩
    obtain ⟨rs, hrl, hr⟩ := list_of each
    subst hrl
    refine ⟨rs, ⟨some a, cap, rfl, hlc, fun k hk => ?_⟩, fun r hrm => ?_⟩
    · obtain ⟨⟨b, o, ha, _⟩, _⟩ := hr k _ (List.getElem?_eq_getElem hk)
      refine ⟨b, o, by rw [ha], fun r hrk => ?_⟩
      obtain ⟨⟨b', o', ha', hra⟩, _⟩ := hr k r hrk
      rw [ha] at ha'
      simp only [Addr.mk.injEq, and_true] at ha'
      obtain ⟨rfl, rfl⟩ := ha'
      exact hra
    · obtain ⟨k, hk⟩ := List.mem_iff_getElem?.1 hrm
      exact (hr k r hk).2
set_option maxRecDepth 100000 in
/-- A manifest. -/
theorem open_man {v : Value} {d : DataW H} {p : List MemPlace} (hv : Value.okWide Tryz.prog W .any base 24 v) (h : DataW.Trod enc Tryz.prog W 0 (fun _ => true) true 24 v d p) :
    ∃ ver next u ps, v = .agg #[.int .i64 ver, .int .i64 next, u] ∧ PcsBig W u ps ∧ (∀ p ∈ ps, PieceWf p) ∧ (Lit.int .i64 ver).wf = true ∧ (Lit.int .i64 next).wf = true := by
  obtain ⟨v0, v1, v2, y0, y1, y2, n, rfl, rfl, rfl, t0, t1, t2⟩ := Joins.open_agg3 Tryz.underlying24 (by kernel_rfl) (by kernel_rfl) hv h
  obtain ⟨o0, e0, _, f0⟩ := DataW.trod_int Tryz.underlying3 t0
  obtain ⟨o1, e1, _, f1⟩ := DataW.trod_int Tryz.underlying3 t1
  obtain ⟨ps, hps, hwf⟩ := open_pieces t2
  simp only [List.cons.injEq, and_true] at e0 e1
  subst e0 e1
  exact ⟨o0, o1, v2, ps, rfl, hps, hwf, f0, f1⟩
end
theorem params_read {P : Program} {l : List TypeId} (h : (l.all fun t => P.readableRec t && decide (t < P.types.size)) = true) : ∀ t ∈ l, P.readableRec t = true ∧ t < P.types.size := by
  intro t ht
  have := List.all_eq_true.1 h t ht
  simpa using this
/-! the listed variables -/
def laidL : List (String × DataW Unit) := [("math/bits.deBruijn32tab", Rows.laid_math_bits_deBruijn32tab), ("math/bits.deBruijn64tab", Rows.laid_math_bits_deBruijn64tab), ("internal/strconv.uint64pow10", Rows.laid_internal_strconv_uint64pow10), ("strconv.ErrRange", Rows.laid_strconv_ErrRange), ("strconv.ErrSyntax", Rows.laid_strconv_ErrSyntax), ("watermeet/manifest.steps", Rows.laid_watermeet_manifest_steps)]
theorem gSteps : Tryz.prog.globalNamed "watermeet/manifest.steps" = some 0 := by kernel_rfl
theorem tSteps : (Tryz.prog.globals[0]?).map (·.type) = some 112 := by kernel_rfl
theorem gSyn : Tryz.prog.globalNamed "strconv.ErrSyntax" = some 1 := by kernel_rfl
theorem tSyn : (Tryz.prog.globals[1]?).map (·.type) = some 68 := by kernel_rfl
theorem gRng : Tryz.prog.globalNamed "strconv.ErrRange" = some 2 := by kernel_rfl
theorem tRng : (Tryz.prog.globals[2]?).map (·.type) = some 68 := by kernel_rfl
theorem gPow : Tryz.prog.globalNamed "internal/strconv.uint64pow10" = some 3 := by kernel_rfl
theorem tPow : (Tryz.prog.globals[3]?).map (·.type) = some 164 := by kernel_rfl
theorem cells79 : Tryz.prog.cellsOf 79 = 1 := by kernel_rfl
theorem cells164 : Tryz.prog.cellsOf 164 = 20 := by kernel_rfl
theorem cells111 : Tryz.prog.cellsOf 111 = 2 := by kernel_rfl
theorem powData : (Rows.laid_internal_strconv_uint64pow10 : DataW Unit) = Lib.tabData .u64 Lib.pow10Tab := by rfl
theorem laid_of {W : World} (h : laidMetH Tryz.prog laidL W) : Laid W ∧ StepsAt W 0 := by
  rw [MakeChecks.laidMetH_plain _ _ _ (by kernel_rfl)] at h
  refine ⟨⟨?_, ?_, ?_⟩, ?_⟩
  · have h1 : laidMet Tryz.prog (("internal/strconv.uint64pow10", Rows.laid_internal_strconv_uint64pow10) :: _) W := (laidMet.tail (laidMet.tail h))
    rw [powData] at h1
    exact Lib.tabIs_of_head gPow tPow Tryz.underlying164 Tryz.underlying79 cells79 cells164 h1
  · obtain ⟨g, t, cs, fuel, p, hg, ht, hv, hd⟩ := Lib.laidMet.reads h (n := "strconv.ErrSyntax") (d := Rows.laid_strconv_ErrSyntax) (.tail _ (.tail _ (.tail _ (.tail _ (.head _)))))
    obtain rfl := Option.some.inj (gSyn.symm.trans hg)
    obtain rfl := Option.some.inj (tSyn.symm.trans ht)
    obtain ⟨l⟩ := cs
    obtain ⟨_, u, x, hc, _, _⟩ := iface_of_trod Tryz.underlying68 hd
    have hc : l = [.iface u x] := hc
    subst hc
    exact ⟨u, x, hv⟩
  · obtain ⟨g, t, cs, fuel, p, hg, ht, hv, hd⟩ := Lib.laidMet.reads h (n := "strconv.ErrRange") (d := Rows.laid_strconv_ErrRange) (.tail _ (.tail _ (.tail _ (.head _))))
    obtain rfl := Option.some.inj (gRng.symm.trans hg)
    obtain rfl := Option.some.inj (tRng.symm.trans ht)
    obtain ⟨l⟩ := cs
    obtain ⟨_, u, x, hc, _, _⟩ := iface_of_trod Tryz.underlying68 hd
    have hc : l = [.iface u x] := hc
    subst hc
    exact ⟨u, x, hv⟩
  · obtain ⟨g, t, cs, fuel, p, hg, ht, hv, hd⟩ := Lib.laidMet.reads h (n := "watermeet/manifest.steps") (d := Rows.laid_watermeet_manifest_steps) (.tail _ (.tail _ (.tail _ (.tail _ (.tail _ (.head _))))))
    obtain rfl := Option.some.inj (gSteps.symm.trans hg)
    obtain rfl := Option.some.inj (tSteps.symm.trans ht)
    have each : ∀ (i : Nat) (x : Int × Int), tbl[i]? = some x → (cs.toList.drop (i * 2)).take 2 = [.int .i64 x.1, .int .i64 x.2] := by
      intro i x hx
      have hi : i < 4 := (List.getElem?_eq_some_iff.1 hx).1
      obtain ⟨f', d, q, hds, ht'⟩ := Lib.array_elem Tryz.underlying112 hd i hi
      rw [cells111] at ht'
      have hdx : d = Lib.tabData .i64 [x.1, x.2] := by
        match i, hx, hds with
        | 0, hx, hds => cases hx; cases hds; rfl
        | 1, hx, hds => cases hx; cases hds; rfl
        | 2, hx, hds => cases hx; cases hds; rfl
        | 3, hx, hds => cases hx; cases hds; rfl
      subst hdx
      exact Lib.cells_of_tab Tryz.underlying111 Tryz.underlying3 cells3 cells111 ht'
    have cell : ∀ j : Nat, W.cell? ⟨0, j, none⟩ = cs.toList[j]? := by
      intro j
      have := World.var?_cell gSteps hv j
      simpa using this
    intro k x hx
    have e := each k x hx
    refine ⟨?_, ?_⟩
    · rw [cell]
      have := congrArg (·[0]?) e
      simpa [List.getElem?_take, List.getElem?_drop] using this
    · rw [cell]
      have := congrArg (·[1]?) e
      simpa [List.getElem?_take, List.getElem?_drop] using this
theorem door_met (os : Os) (args : Array Value) : laidMetH Tryz.prog laidL ((World.doorLaid Tryz.prog 600 os).forCall (fun _ _ => 0) ⟨#[], args, []⟩).memory :=
  laidMetH_of_parts3 (fuel := 8) (laidMet_of_run' 8 (by kernel_rfl) (by kernel_rfl)) (by kernel_rfl) (by kernel_rfl)
end Go.Proofs.YtcpecponmaakoaaGreatDoor
