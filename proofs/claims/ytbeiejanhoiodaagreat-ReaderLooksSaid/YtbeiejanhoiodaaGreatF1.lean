/- What comes in reads as trees of its type. -/
import Derived.Test.YtbeiejanhoiodaaGreatMA8
import Derived.Deep.Slices
import Derived.Deep.Fields
import Derived.ChangeSame
import Derived.ProofKit
import Derived.SizedLaws
namespace Go.Wt
open Go.RowKit Go.ChangeShapes Go.WideShapes Go.Deep
/-- Shapes of cells. -/
inductive Sh where
  | int (k : IntKind)
  | str
  | bool
  | sl (agg : Bool) (l : List Sh)
def fieldsSh (f : TypeId → Option (List Sh)) : List Field → Nat → Option (List Sh)
  | [], _ => some []
  | fd :: fs, off => if fd.offset = off then match f fd.type with | some l => (fieldsSh f fs (off + l.length)).map (l ++ ·) | none => none else none
def shRaw (P : Program) (f : TypeId → Option (List Sh)) (t : TypeId) : Option (List Sh) := match P.underlying t with
  | some (.int k) => some [.int k]
  | some .string => some [.str]
  | some .bool => some [.bool]
  | some (.slice e) => match f e with | some l => if 0 < l.length ∧ (aggT P e = true ∨ l.length = 1) then some [.sl (aggT P e) l] else none | none => none
  | some (.struct fs) => fieldsSh f fs.toList 0
  | _ => none
def shOf (P : Program) : Nat → TypeId → Option (List Sh)
  | 0, _ => none
  | n + 1, t => match shRaw P (shOf P n) t with | some l => if P.cellsOf t = l.length then some l else none | none => none
inductive HasS : Sh → Tree → Prop where
  | int {k : IntKind} {n : Int} (h : (Lit.int k n).wf = true) : HasS (.int k) (.v (.int k n))
  | str {s : ByteArray} (h : s.size ≤ maxLen) : HasS .str (.v (.string s))
  | bool {b : Bool} : HasS .bool (.v (.bool b))
  | sl {agg : Bool} {l : List Sh} {ts : List Tree} (h0 : ∀ t ∈ ts, t.cells.length = l.length) (h1 : ∀ t ∈ ts, if agg = true then ∃ cs, t = .agg cs else t.one = true)
      (h : ∀ t ∈ ts, ∀ (j : Nat) (s : Sh) (c : Tree), l[j]? = some s → t.cells[j]? = some c → HasS s c) : HasS (.sl agg l) (.sl l.length ts)
def CellsRep (w : World) (cs : List Value) (shs : List Sh) : Prop := ∃ ts : List Tree, cs.length = shs.length ∧ ts.length = shs.length ∧
  ∀ (i : Nat) (s : Sh), shs[i]? = some s → ∃ v t, cs[i]? = some v ∧ ts[i]? = some t ∧ Rep w (fun _ => False) v t ∧ t.one = true ∧ HasS s t
theorem CellsRep.app {w : World} {a b : List Value} {s1 s2 : List Sh} (h1 : CellsRep w a s1) (h2 : CellsRep w b s2) : CellsRep w (a ++ b) (s1 ++ s2) := by
  obtain ⟨t1, a1, b1, c1⟩ := h1
  obtain ⟨t2, a2, b2, c2⟩ := h2
  refine ⟨t1 ++ t2, by simp [a1, a2], by simp [b1, b2], fun i s hi => ?_⟩
  by_cases hlt : i < s1.length
  · rw [List.getElem?_append_left hlt] at hi
    obtain ⟨v, t, q1, q2, q3⟩ := c1 i s hi
    exact ⟨v, t, by rw [List.getElem?_append_left (by omega)]; exact q1, by rw [List.getElem?_append_left (by omega)]; exact q2, q3⟩
  · rw [List.getElem?_append_right (by omega)] at hi
    obtain ⟨v, t, q1, q2, q3⟩ := c2 _ s hi
    exact ⟨v, t, by rw [List.getElem?_append_right (by omega), a1]; exact q1, by rw [List.getElem?_append_right (by omega), b1]; exact q2, q3⟩
theorem CellsRep.single {w : World} {v : Value} {s : Sh} {t : Tree} (h1 : Rep w (fun _ => False) v t) (h2 : t.one = true) (h3 : HasS s t) : CellsRep w [v] [s] :=
  ⟨[t], rfl, rfl, fun i s' hi => by
    cases i with
    | zero => simp at hi; subst hi; exact ⟨v, t, rfl, rfl, h1, h2, h3⟩
    | succ i => simp at hi⟩
theorem fields_rep {w : World} {cs : List Value} {f : TypeId → Option (List Sh)} : ∀ (fs : List Field) (off : Nat) (l : List Sh), fieldsSh f fs off = some l → (∀ fd ∈ fs, ∀ l', f fd.type = some l' → CellsRep w ((cs.drop fd.offset).take l'.length) l') → CellsRep w ((cs.drop off).take l.length) l
  | [], off, l, h, _ => by
    simp only [fieldsSh, Option.some.injEq] at h
    subst h
    exact ⟨[], by simp, rfl, fun i s hi => by simp at hi⟩
  | fd :: fs, off, l, h, hall => by
    simp only [fieldsSh] at h
    split at h
    · rename_i ho
      split at h
      · rename_i l1 hl1
        obtain ⟨l2, hl2, rfl⟩ := Option.map_eq_some_iff.1 h
        have h1 := hall fd List.mem_cons_self l1 hl1
        have h2 := fields_rep fs (off + l1.length) l2 hl2 fun fd' hf => hall fd' (List.mem_cons_of_mem _ hf)
        rw [ho] at h1
        have := h1.app h2
        have e : (cs.drop off).take (l1 ++ l2).length = (cs.drop off).take l1.length ++ (cs.drop (off + l1.length)).take l2.length := by
          rw [List.length_append, List.take_add, List.drop_drop]
        rw [e]
        exact this
      · simp at h
    · simp at h
theorem addr_add (b o j : Nat) : (⟨b, o, none⟩ : Addr).add j = ⟨b, o + j, none⟩ := by
  simp only [Addr.add]; split <;> simp_all
theorem list_of {α : Type} {n : Nat} {R : Nat → α → Prop} (h : ∀ i, i < n → ∃ x, R i x) : ∃ l : List α, l.length = n ∧ ∀ i x, l[i]? = some x → R i x := by
  induction n with
  | zero => exact ⟨[], rfl, fun i x hx => by simp at hx⟩
  | succ n ih =>
    obtain ⟨l, hl, hr⟩ := ih fun i hi => h i (by omega)
    obtain ⟨x, hx⟩ := h n (by omega)
    refine ⟨l ++ [x], by simp [hl], fun i y hy => ?_⟩
    by_cases hi : i < n
    · rw [List.getElem?_append_left (by omega)] at hy; exact hr i y hy
    · rw [List.getElem?_append_right (by omega)] at hy
      have : i = n := by
        have := (List.getElem?_eq_some_iff.1 hy).1
        simp at this; omega
      subst this
      simp [hl] at hy
      subst hy; exact hx
section
variable {H : Type} {enc : TypeId × Value → H} {P : Program} {w : World} {base : Nat} {spare : Nat → Bool} {held : Bool}
theorem open_cells : ∀ (n : Nat) (t : TypeId) (shs : List Sh), shOf P n t = some shs → ∀ (fuel : Nat) (cs : List Value) (x : DataW H × List MemPlace), DataW.trod enc P w base spare held fuel t cs = some x → CellsRep w cs shs
  | 0, t, shs, h, _, _, _, _ => by simp [shOf] at h
  | n + 1, t, shs, h, fuel, cs, x, hx => by
    have ih := open_cells n
    have hcell : ∀ t' l', shOf P n t' = some l' → P.cellsOf t' = l'.length := by
      intro t' l' h'
      cases n with
      | zero => simp [shOf] at h'
      | succ n =>
        simp only [shOf] at h'
        split at h'
        · split at h'
          · rename_i hc; simp only [Option.some.injEq] at h'; subst h'; exact hc
          · simp at h'
        · simp at h'
    simp only [shOf] at h
    split at h
    · rename_i l hl
      split at h
      · rename_i hc
        simp only [Option.some.injEq] at h
        subst h
        unfold shRaw at hl
        split at hl
        · rename_i k hu
          simp only [Option.some.injEq] at hl
          subst hl
          obtain ⟨m, rfl, _, hw⟩ := DataW.trod_int hu hx
          exact .single (.v rfl) rfl (.int hw)
        · rename_i hu
          simp only [Option.some.injEq] at hl
          subst hl
          obtain ⟨s, rfl, _, hw⟩ := DataW.trod_string hu hx
          exact .single (.v rfl) rfl (.str hw)
        · rename_i hu
          simp only [Option.some.injEq] at hl
          subst hl
          obtain ⟨b, rfl, _⟩ := DataW.trod_bool hu hx
          exact .single (.v rfl) rfl .bool
        · rename_i e hu
          split at hl
          · rename_i le hle
            split at hl
            · rename_i hpos
              simp only [Option.some.injEq] at hl
              subst hl
              have hce := hcell e le hle
              rcases open_slice hu hx with ⟨rfl, _⟩ | ⟨a, len, cap, m, n', D, Pl, rfl, hb, hlc, hcm, hmm, _, hi⟩
              · exact .single (.sl0 (by simp [maxLen])) rfl (.sl (by simp) (by simp) (by simp))
              · have hlm : len ≤ m := by rw [hmm]; split <;> omega
                have each : ∀ i, i < len → ∃ tr : Tree, tr.cells.length = le.length ∧ (if aggT P e = true then ∃ cs, tr = .agg cs else tr.one = true) ∧ ∀ (j : Nat) (s : Sh), le[j]? = some s → ∃ v c, w.cell? ((a.add (i * le.length)).add j) = some v ∧ tr.cells[j]? = some c ∧ Rep w (fun _ => False) v c ∧ c.one = true ∧ HasS s c := by
                  intro i hil
                  obtain ⟨cs', h1, h2⟩ := hi i (by omega)
                  obtain ⟨ts, q1, q2, q3⟩ := ih e le hle n' cs' _ h2
                  obtain ⟨_, h3, h4⟩ := World.cells?_some h1
                  rw [hce] at h4
                  have hfin : ∀ (j : Nat) (s : Sh), le[j]? = some s → ∃ v c, w.cell? ((a.add (i * le.length)).add j) = some v ∧ ts[j]? = some c ∧ Rep w (fun _ => False) v c ∧ c.one = true ∧ HasS s c := by
                    intro j s hj
                    obtain ⟨v, c, r1, r2, r3⟩ := q3 j s hj
                    exact ⟨v, c, by rw [h4 j (List.getElem?_eq_some_iff.1 hj).1]; exact r1, r2, r3⟩
                  cases hag : aggT P e with
                  | true => exact ⟨.agg ts, q2, ⟨ts, rfl⟩, hfin⟩
                  | false =>
                    rcases hpos.2 with hp | hp
                    · rw [hag] at hp; cases hp
                    · obtain ⟨c, hcs⟩ := List.length_eq_one_iff.1 (q2.trans hp)
                      subst hcs
                      have h0 : ∃ s, le[0]? = some s := ⟨_, List.getElem?_eq_getElem (by omega)⟩
                      obtain ⟨s, hs⟩ := h0
                      obtain ⟨v, c', _, hc', _, ho, _⟩ := hfin 0 s hs
                      simp at hc'
                      subst hc'
                      have hcc : c.cells = [c] := by cases c <;> first | rfl | simp [Tree.one] at ho
                      exact ⟨c, by rw [hcc]; exact hp.symm, ho, by rw [hcc]; exact hfin⟩
                obtain ⟨ts, htl, hts⟩ := list_of each
                subst htl
                have hmem : ∀ t ∈ ts, ∃ i, ts[i]? = some t := fun t ht => List.mem_iff_getElem?.1 ht
                have hcells : ∀ (k : Nat) (t : Tree) (j : Nat) (c : Tree), ts[k]? = some t → t.cells[j]? = some c → ∃ v s, w.cell? ((a.add (k * le.length)).add j) = some v ∧ le[j]? = some s ∧ Rep w (fun _ => False) v c ∧ c.one = true ∧ HasS s c := by
                  intro k t j c hk hj
                  obtain ⟨h1, _, h3⟩ := hts k t hk
                  have hjl : j < le.length := by rw [← h1]; exact (List.getElem?_eq_some_iff.1 hj).1
                  obtain ⟨v, c', r1, r2, r3⟩ := h3 j _ (List.getElem?_eq_getElem hjl)
                  rw [hj] at r2
                  cases r2
                  exact ⟨v, _, r1, List.getElem?_eq_getElem hjl, r3⟩
                have hhas : HasS (.sl (aggT P e) le) (.sl le.length ts) := by
                  refine .sl (fun t ht => ?_) (fun t ht => ?_) (fun t ht j s c hj hc => ?_)
                  · obtain ⟨i, hi'⟩ := hmem t ht; exact (hts i t hi').1
                  · obtain ⟨i, hi'⟩ := hmem t ht; exact (hts i t hi').2.1
                  · obtain ⟨i, hi'⟩ := hmem t ht
                    obtain ⟨v, s', _, q1, _, _, q2⟩ := hcells i t j c hi' hc
                    rw [hj] at q1
                    cases q1
                    exact q2
                cases hcase : ts with
                | nil => subst hcase; exact .single (.sl0 hcm) rfl hhas
                | cons t0 ts0 =>
                  rw [← hcase]
                  have ht0 : ts[0]? = some t0 := by rw [hcase]; rfl
                  have hj0 : ∃ c0, t0.cells[0]? = some c0 := ⟨_, List.getElem?_eq_getElem (by rw [(hts 0 t0 ht0).1]; exact hpos.1)⟩
                  obtain ⟨c0, hc0⟩ := hj0
                  obtain ⟨v0, _, hv0, _⟩ := hcells 0 t0 0 c0 ht0 hc0
                  have hspot : a.spot = none := by
                    have := World.cell?_spot hv0
                    simpa [Addr.add] using this
                  obtain ⟨b, o, sp⟩ := a
                  simp only at hspot
                  subst hspot
                  have hadd : ∀ i j, ((⟨b, o, none⟩ : Addr).add i).add j = ⟨b, o + i + j, none⟩ := by intro i j; rw [addr_add, addr_add]
                  have hblt : b < w.heap.size := by
                    rw [hadd] at hv0
                    unfold World.cell? at hv0
                    cases hg : w.heap[b]? with
                    | none => rw [hg] at hv0; simp at hv0
                    | some ob => exact (Array.getElem?_eq_some_iff.1 hg).1
                  refine .single (.sl (fun k j => (w.cell? ⟨b, o + k * le.length + j, none⟩).getD undef) (fun h => h) hblt hlc hcm (fun t ht => ?_) (fun k t j c hk hj => ?_) (fun k t j c hk hj => ?_) (fun k t j c hk hj => ?_)) rfl hhas
                  · obtain ⟨i, hi'⟩ := hmem t ht; exact (hts i t hi').1
                  · obtain ⟨v, _, h1, _⟩ := hcells k t j c hk hj
                    rw [hadd] at h1
                    rw [h1]; rfl
                  · obtain ⟨v, _, _, _, _, h1, _⟩ := hcells k t j c hk hj
                    exact h1
                  · obtain ⟨v, _, h1, _, h2, _⟩ := hcells k t j c hk hj
                    rw [hadd] at h1
                    rw [h1]; exact h2
            · simp at hl
          · simp at hl
        · rename_i fs hu
          obtain ⟨xs, n', _, _, hlen, hxl, hf⟩ := DataW.trod_struct hu hx
          have := fields_rep (w := w) (cs := cs) fs.toList 0 l hl fun fd hfd l' hl' => by
            obtain ⟨i, hi⟩ := List.mem_iff_getElem?.1 hfd
            have hi : fs[i]? = some fd := by simpa using hi
            have h1 := hf i fd hi
            have hil : i < xs.length := by rw [hxl]; exact (Array.getElem?_eq_some_iff.1 hi).1
            rw [List.getElem?_eq_getElem hil, hcell _ _ hl'] at h1
            exact ih fd.type l' hl' n' _ _ h1
          rw [List.drop_zero, ← hc, ← hlen, List.take_length] at this
          exact this
        · simp at hl
      · simp at h
    · simp at h
end
end Go.Wt
