/- Readers that come in. -/
import Derived.Test.YtbeiejanhoiodaaGreatF1
import Derived.Test.YtbeiejanhoiodaaGreatMC1
namespace Go.Wt
open Go.RowKit Go.ChangeShapes Go.WideShapes Go.Deep Go.Proofs
abbrev i64 : Sh := .int .i64
abbrev tpSh : List Sh := [.str, i64, i64]
abbrev posSh : List Sh := [.str, .str, i64, i64, i64]
abbrev toldSh : List Sh := [.str, i64, i64, i64, i64, i64, .str, .str, .bool, i64]
theorem sh27 : shOf Tryz.prog 20 27 = some tpSh := by kernel_rfl
theorem sh25 : shOf Tryz.prog 20 25 = some [.str, .str, i64, i64, .sl true posSh, .sl true toldSh] := by kernel_rfl
theorem HasS.int_inv {k : IntKind} {t : Tree} (h : HasS (.int k) t) : ∃ n, t = .v (.int k n) := by cases h; exact ⟨_, rfl⟩
theorem HasS.str_inv {t : Tree} (h : HasS .str t) : ∃ s, t = .v (.string s) := by cases h; exact ⟨_, rfl⟩
theorem HasS.bool_inv {t : Tree} (h : HasS .bool t) : ∃ b, t = .v (.bool b) := by cases h; exact ⟨_, rfl⟩
/-- A slice of structs, element by element. -/
theorem HasS.sl_inv {α : Type} {l : List Sh} {t : Tree} {f : α → Tree} (h : HasS (.sl true l) t) (hf : ∀ cs : List Tree, cs.length = l.length → (∀ (j : Nat) (s : Sh) (c : Tree), l[j]? = some s → cs[j]? = some c → HasS s c) → ∃ x, .agg cs = f x) : ∃ xs : List α, t = .sl l.length (xs.map f) := by
  cases h with
  | sl h0 h1 h2 =>
    rename_i ts
    have : ∀ ts : List Tree, (∀ t ∈ ts, t.cells.length = l.length) → (∀ t ∈ ts, if true = true then ∃ cs, t = .agg cs else t.one = true) → (∀ t ∈ ts, ∀ (j : Nat) (s : Sh) (c : Tree), l[j]? = some s → t.cells[j]? = some c → HasS s c) → ∃ xs : List α, ts = xs.map f := by
      intro ts
      induction ts with
      | nil => intros; exact ⟨[], rfl⟩
      | cons t ts ih =>
        intro h0 h1 h2
        obtain ⟨xs, rfl⟩ := ih (fun t ht => h0 t (List.mem_cons_of_mem _ ht)) (fun t ht => h1 t (List.mem_cons_of_mem _ ht)) (fun t ht => h2 t (List.mem_cons_of_mem _ ht))
        have ha := h1 t List.mem_cons_self
        rw [if_pos rfl] at ha
        obtain ⟨cs, rfl⟩ := ha
        obtain ⟨x, hx⟩ := hf cs (h0 _ List.mem_cons_self) (h2 _ List.mem_cons_self)
        exact ⟨x :: xs, by rw [hx]; rfl⟩
    obtain ⟨xs, rfl⟩ := this ts h0 h1 h2
    exact ⟨xs, rfl⟩
theorem list3 {l : List Tree} (h : l.length = 3) : ∃ a b c, l = [a, b, c] := by
  match l, h with
  | [a, b, c], _ => exact ⟨a, b, c, rfl⟩
theorem list5 {l : List Tree} (h : l.length = 5) : ∃ a b c d e, l = [a, b, c, d, e] := by
  match l, h with
  | [a, b, c, d, e], _ => exact ⟨a, b, c, d, e, rfl⟩
theorem list6 {l : List Tree} (h : l.length = 6) : ∃ a b c d e f, l = [a, b, c, d, e, f] := by
  match l, h with
  | [a, b, c, d, e, f], _ => exact ⟨a, b, c, d, e, f, rfl⟩
theorem list10 {l : List Tree} (h : l.length = 10) : ∃ a b c d e f g i j k, l = [a, b, c, d, e, f, g, i, j, k] := by
  match l, h with
  | [a, b, c, d, e, f, g, i, j, k], _ => exact ⟨a, b, c, d, e, f, g, i, j, k, rfl⟩
theorem pos_of (cs : List Tree) (h0 : cs.length = posSh.length) (h : ∀ (j : Nat) (s : Sh) (c : Tree), posSh[j]? = some s → cs[j]? = some c → HasS s c) : ∃ x : Pos, .agg cs = posT x := by
  obtain ⟨a, b, c, d, e, rfl⟩ := list5 h0
  obtain ⟨a', rfl⟩ := (h 0 _ _ rfl rfl).str_inv
  obtain ⟨b', rfl⟩ := (h 1 _ _ rfl rfl).str_inv
  obtain ⟨c', rfl⟩ := (h 2 _ _ rfl rfl).int_inv
  obtain ⟨d', rfl⟩ := (h 3 _ _ rfl rfl).int_inv
  obtain ⟨e', rfl⟩ := (h 4 _ _ rfl rfl).int_inv
  exact ⟨⟨a', ⟨b', c', d'⟩, e'⟩, rfl⟩
theorem told_of (cs : List Tree) (h0 : cs.length = toldSh.length) (h : ∀ (j : Nat) (s : Sh) (c : Tree), toldSh[j]? = some s → cs[j]? = some c → HasS s c) : ∃ x : Told, .agg cs = toldT x := by
  obtain ⟨a, b, c, d, e, f, g, i, j, k, rfl⟩ := list10 h0
  obtain ⟨a', rfl⟩ := (h 0 _ _ rfl rfl).str_inv
  obtain ⟨b', rfl⟩ := (h 1 _ _ rfl rfl).int_inv
  obtain ⟨c', rfl⟩ := (h 2 _ _ rfl rfl).int_inv
  obtain ⟨d', rfl⟩ := (h 3 _ _ rfl rfl).int_inv
  obtain ⟨e', rfl⟩ := (h 4 _ _ rfl rfl).int_inv
  obtain ⟨f', rfl⟩ := (h 5 _ _ rfl rfl).int_inv
  obtain ⟨g', rfl⟩ := (h 6 _ _ rfl rfl).str_inv
  obtain ⟨i', rfl⟩ := (h 7 _ _ rfl rfl).str_inv
  obtain ⟨j', rfl⟩ := (h 8 _ _ rfl rfl).bool_inv
  obtain ⟨k', rfl⟩ := (h 9 _ _ rfl rfl).int_inv
  exact ⟨⟨⟨a', b', c'⟩, d', e', f', g', i', j', k'⟩, rfl⟩
section
variable {H : Type} {enc : TypeId × Value → H} {P : Program} {w : World} {base : Nat}
/-- A struct that comes in. -/
theorem open_struct {t : TypeId} {fs : Array Field} {shs : List Sh} {v : Value} {d : DataW H} {p : List MemPlace} (hu : P.underlying t = some (.struct fs)) (hsh : shOf P 20 t = some shs) (hv : Value.okWide P w .any base t v) (h : DataW.Trod enc P w 0 (fun _ => true) true t v d p) :
    ∃ ts : List Tree, ts.length = shs.length ∧ (∀ (i : Nat) (s : Sh) (c : Tree), shs[i]? = some s → ts[i]? = some c → HasS s c) ∧ Rep w (fun _ => False) v (.agg ts) := by
  obtain ⟨cs, rfl, _⟩ := okWide_struct hu hv
  obtain ⟨fuel, h⟩ := h
  have hr := open_cells 20 t shs hsh fuel _ _ h
  obtain ⟨ts, h1, h2, h3⟩ := hr
  have hcs : (Value.agg cs).cells.toList = cs.toList := rfl
  refine ⟨ts, h2, fun i s c hi hc => ?_, ?_⟩
  · obtain ⟨v, t', _, q2, _, _, q3⟩ := h3 i s hi
    rw [hc] at q2
    cases q2
    exact q3
  · have e : cs = cs.toList.toArray := by simp
    rw [e]
    have hl : cs.toList.length = ts.length := by rw [h2]; exact h1
    have each : ∀ (i : Nat) (v : Value) (t : Tree), cs.toList[i]? = some v → ts[i]? = some t → Rep w (fun _ => False) v t ∧ t.one = true := by
      intro i v t hv ht
      have hi : i < shs.length := by rw [← h2]; exact (List.getElem?_eq_some_iff.1 ht).1
      obtain ⟨v', t', q1, q2, q3, q4, _⟩ := h3 i _ (List.getElem?_eq_getElem hi)
      rw [ht] at q2
      cases q2
      have q1 : cs.toList[i]? = some v' := q1
      rw [hv] at q1
      cases q1
      exact ⟨q3, q4⟩
    refine .agg hl (fun t ht => ?_) fun i v t hv ht => (each i v t hv ht).1
    obtain ⟨i, hi, rfl⟩ := List.getElem_of_mem ht
    exact (each i _ _ (List.getElem?_eq_getElem (by omega)) (List.getElem?_eq_getElem hi)).2
set_option maxRecDepth 100000 in
theorem open_tp {v : Value} {d : DataW H} {p : List MemPlace} (hv : Value.okWide Tryz.prog w .any base 27 v) (h : DataW.Trod enc Tryz.prog w 0 (fun _ => true) true 27 v d p) : ∃ tp : Tp, Rep w (fun _ => False) v (tpT tp) := by
  obtain ⟨ts, h1, h2, h3⟩ := open_struct (P := Tryz.prog) (t := 27) (shs := tpSh) (base := base) (v := v) Tryz.underlying27 sh27 hv h
  obtain ⟨a, b, c, rfl⟩ := list3 h1
  obtain ⟨a', rfl⟩ := (h2 0 _ _ rfl rfl).str_inv
  obtain ⟨b', rfl⟩ := (h2 1 _ _ rfl rfl).int_inv
  obtain ⟨c', rfl⟩ := (h2 2 _ _ rfl rfl).int_inv
  exact ⟨⟨a', b', c'⟩, h3⟩
set_option maxRecDepth 100000 in
theorem open_reader {v : Value} {d : DataW H} {p : List MemPlace} (hv : Value.okWide Tryz.prog w .any base 25 v) (h : DataW.Trod enc Tryz.prog w 0 (fun _ => true) true 25 v d p) : ∃ g i reg gen, ∃ (l : List Pos) (l' : List Told), Rep w (fun _ => False) v (rdT g i reg gen (.sl 5 (l.map posT)) (.sl 10 (l'.map toldT))) := by
  obtain ⟨ts, h1, h2, h3⟩ := open_struct (P := Tryz.prog) (t := 25) (shs := [.str, .str, i64, i64, .sl true posSh, .sl true toldSh]) (base := base) (v := v) Tryz.underlying25 sh25 hv h
  obtain ⟨a, b, c, d, e, f, rfl⟩ := list6 h1
  obtain ⟨a', rfl⟩ := (h2 0 _ _ rfl rfl).str_inv
  obtain ⟨b', rfl⟩ := (h2 1 _ _ rfl rfl).str_inv
  obtain ⟨c', rfl⟩ := (h2 2 _ _ rfl rfl).int_inv
  obtain ⟨d', rfl⟩ := (h2 3 _ _ rfl rfl).int_inv
  obtain ⟨l, rfl⟩ := (h2 4 _ _ rfl rfl).sl_inv pos_of
  obtain ⟨l', rfl⟩ := (h2 5 _ _ rfl rfl).sl_inv told_of
  exact ⟨a', b', c', d', l, l', h3⟩
end
/-- A pure function, as its calls are told of. -/
theorem calls_of {P : Program} {f : FuncId} {ts : List Tree} {x : Tree} (h : Holds P f ts (.t x)) {w : World} {vs : List Value} (hl : vs.length = ts.length) (hv : ∀ (i : Nat) (v : Value) (t : Tree), vs[i]? = some v → ts[i]? = some t → Rep w (fun _ => False) v t) :
    Calls P f vs.toArray w fun e w' => ∃ v, e = .returned v ∧ Below w.heap.size w w' ∧ ∃ M, Rep w' M v x := by
  obtain ⟨_, h2⟩ := h
  let c : Ctx := ⟨w, fun _ => False, fun _ => False, 0, fun s => match s with | .glob g => ⟨g, 0, 0⟩ | _ => ⟨0, 0, 0⟩, some 0⟩
  have hM : ∀ b, ¬ Mut c c.pin (Ct.mk [] (ts.map .t) [] (.t x) [] []).env.slots b := by
    rintro b (⟨hb, _⟩ | ⟨s, r, hs, _⟩)
    · exact hb
    · cases s <;> simp [Ct.env, ctSlots] at hs
  refine (h2 c c.pin w vs rfl ⟨Nat.le_refl _, rfl, rfl, rfl, fun _ _ _ => rfl, fun b hb => hb.elim, fun s r hs => ?_, fun s s' r r' hs => ?_, fun s _ _ => rfl, fun g => rfl⟩ (by simpa using hl) (fun i v d hi hd => ?_)).mono fun e w' ⟨v, he, φ', E', h3, h4, h5⟩ => ⟨v, he, ⟨h4.os, h4.tape, h4.output, h4.size, fun b hb => h4.old b hb (fun hx => hx)⟩, _, h5.t_inv⟩
  · cases s <;> simp [Ct.env, ctSlots] at hs
  · cases s <;> simp [Ct.env, ctSlots] at hs
  · simp only [List.getElem?_map, Option.map_eq_some_iff] at hd
    obtain ⟨t, ht, rfl⟩ := hd
    exact .t ((hv i v t hi ht).mono (Nat.le_refl _) fun b _ _ => ⟨rfl, hM b⟩)
end Go.Wt
