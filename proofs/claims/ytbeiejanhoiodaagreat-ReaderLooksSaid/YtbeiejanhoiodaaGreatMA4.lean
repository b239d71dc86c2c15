/- Parts of strings and slices, literals, bytes to a string. -/
import Derived.Test.YtbeiejanhoiodaaGreatMA3
set_option linter.unusedSimpArgs false
set_option linter.unusedVariables false
namespace Go.Wt
open Go.RowKit
variable {P : Program} {c : Ctx} {φ : Nm → Place} {E : Env} {a : Act} {w : World} {dst : Option Nat} {ty : TypeId} {pos : String} {after : Array Edge} {g : Option (Nat × Bool)} {r : Res}
theorem bnd_val (h : SimA c φ E a w) {d0 l : Int} {x : Operand} (hb : bnd d0 (some (E.ev x)) = some l) : ∃ κ, a.eval x = .int κ l := by
  have hx := h.ev x
  unfold bnd at hb
  split at hb
  · rename_i he; simp at he
  · rename_i κ i he
    simp only [Option.some.injEq] at he hb
    subst hb
    rw [he] at hx
    exact ⟨κ, hx.v_inv.1⟩
  · simp at hb
theorem run_bounds (h : SimA c φ E a w) {isS : Bool} {len cap : Nat} {lo hi : Option Operand} {l u : Int} (hlen : len ≤ cap) (hl : bnd 0 (lo.map E.ev) = some l) (hu : bnd len (hi.map E.ev) = some u) (h0 : 0 ≤ l) (h1 : l ≤ u) (h2 : u ≤ len) :
    (Instr.sliceBounds isS len cap (lo.map a.eval) (hi.map a.eval) none).run P w = .ok (l.toNat, u.toNat, cap) w := by
  have hsb : ∀ (x : Operand) (q : Int) (κ : IntKind) (y : Nat) (b : BoundsCode), a.eval x = .int κ q → 0 ≤ q → q ≤ y → (Instr.sliceBound (a.eval x) y b).run P w = .ok q.toNat w := by
    intro x q κ y b hv hq0 hq1
    simp only [Instr.sliceBound, hv, asIntOf, Sem.run_bind, Sem.run_pure, Result.andThen_ok]
    rw [if_pos ⟨hq0, hq1⟩]
    rfl
  unfold Instr.sliceBounds
  cases hi with
  | none =>
    simp only [Option.map_none, bnd, Option.some.injEq] at hu
    subst hu
    cases lo with
    | none =>
      simp only [Option.map_none, bnd, Option.some.injEq] at hl
      subst hl
      simp only [Option.map_none, Sem.run_bind, Sem.run_pure, Result.andThen_ok]
      rfl
    | some x =>
      obtain ⟨κ, hv⟩ := bnd_val h hl
      simp only [Option.map_none, Option.map_some, Sem.run_bind, Sem.run_pure, Result.andThen_ok]
      rw [hsb x l κ len _ hv h0 (by omega)]
      rfl
  | some y =>
    obtain ⟨κ', hv'⟩ := bnd_val h hu
    cases lo with
    | none =>
      simp only [Option.map_none, bnd, Option.some.injEq] at hl
      subst hl
      simp only [Option.map_none, Option.map_some, Sem.run_bind, Sem.run_pure, Result.andThen_ok]
      rw [hsb y u κ' cap _ hv' (by omega) (by omega)]
      rfl
    | some x =>
      obtain ⟨κ, hv⟩ := bnd_val h hl
      simp only [Option.map_some, Sem.run_bind, Sem.run_pure, Result.andThen_ok]
      rw [hsb y u κ' cap _ hv' (by omega) (by omega)]
      simp only [Sem.run_bind, Result.andThen_ok]
      rw [hsb x l κ u.toNat _ hv h0 (by omega)]
      rfl
section ops
variable (h : SimA c φ E a w) (hd : dst.all (· < c.n) = true)
include h hd
theorem s_sstr {t : TypeId} {x : Operand} {lo hi : Option Operand} (ht : P.underlying t = some .string) (hr : (SOp.sstr x lo hi).den P E dst = some r) : Sound P c E a w ⟨dst, .slice t x lo hi none, ty, pos, after, g⟩ r := by
  have hx := h.ev x
  simp only [SOp.den] at hr
  unfold dSstr at hr
  split at hr
  · rename_i s he
    rw [he] at hx
    split at hr
    · rename_i l u hl hu
      split at hr
      · rename_i hc
        simp only [val, Option.some.injEq] at hr
        subst hr
        have hb := run_bounds (P := P) h (isS := false) (len := s.size) (cap := s.size) (Nat.le_refl _) hl hu hc.1 hc.2.1 hc.2.2
        refine sound_val h hd (v := .string (s.extract l.toNat u.toNat)) ?_ (.t (.v rfl))
        simp only [execOp, Instr.sliceAt, Instr.slice, hx.v_inv.1, Sem.run_bind, run_underlying ht, Result.andThen_ok, Option.isSome_none, Bool.false_eq_true, if_false, Sem.run_pure, Option.map_none, hb]
      · simp at hr
    · simp at hr
  · simp at hr
/-- What a slice expression makes of a slice value. -/
theorem run_ssl {t e : TypeId} {m : Nat} {x : Operand} {lo hi : Option Operand} {ad : Option Addr} {len cap : Nat} {l u : Int} (ht : P.underlying t = some (.slice e)) (hm : szT P e = some m) (hv : a.eval x = .slice ad len cap) (hlen : len ≤ cap)
    (hl : bnd 0 (lo.map E.ev) = some l) (hu : bnd len (hi.map E.ev) = some u) (h0 : 0 ≤ l) (h1 : l ≤ u) (h2 : u ≤ len) :
    (execOp a.eval ⟨dst, .slice t x lo hi none, ty, pos, after, g⟩).run P w = .ok (.value (.slice (if cap = l.toNat then ad else ad.map (·.add (l.toNat * m))) (u.toNat - l.toNat) (cap - l.toNat))) w := by
  have _ := hd
  have hb := run_bounds (P := P) h (isS := true) (len := len) (cap := cap) hlen hl hu h0 h1 h2
  simp only [execOp, Instr.sliceAt, Instr.slice, hv, Sem.run_bind, run_underlying ht, Result.andThen_ok, Sem.run_pure, Option.map_none, hb, run_sizeOf' hm]
theorem s_ssl {t e : TypeId} {m : Nat} {x : Operand} {lo hi : Option Operand} (ht : P.underlying t = some (.slice e)) (hm : szT P e = some m) (hr : (SOp.ssl x lo hi m).den P E dst = some r) : Sound P c E a w ⟨dst, .slice t x lo hi none, ty, pos, after, g⟩ r := by
  have hx := h.ev x
  simp only [SOp.den] at hr
  have htree : ∀ {b o cap : Nat} {l : List Tree} {l1 u1 : Int} {M : Nat → Prop} {n : Nat} (u : Nat → Nat → Value), ¬ M b → b < w.heap.size → n ≤ l.length → n ≤ cap → cap ≤ maxLen → (∀ t ∈ l, t.cells.length = m) →
      (∀ (k : Nat) (t : Tree) (j : Nat) (cc : Tree), l[k]? = some t → t.cells[j]? = some cc → w.cell? ⟨b, o + k * m + j, none⟩ = some (u k j)) →
      (∀ (k : Nat) (t : Tree) (j : Nat) (cc : Tree), l[k]? = some t → t.cells[j]? = some cc → cc.one = true) →
      (∀ (k : Nat) (t : Tree) (j : Nat) (cc : Tree), l[k]? = some t → t.cells[j]? = some cc → Rep w M (u k j) cc) → 0 ≤ l1 → l1 ≤ u1 → u1 ≤ n →
      Rep w M (.slice (if cap = l1.toNat then some ⟨b, o, none⟩ else (some (⟨b, o, none⟩ : Addr)).map (·.add (l1.toNat * m))) (u1.toNat - l1.toNat) (cap - l1.toNat)) (.sl m ((l.take u1.toNat).drop l1.toNat)) := by
    intro b o cap l l1 u1 M n u hM hb hnl hncap hcap hmm hu h1 h2 hl0 hl1 hl2
    have hlen : ((l.take u1.toNat).drop l1.toNat).length = u1.toNat - l1.toNat := by simp; omega
    by_cases hz : u1.toNat - l1.toNat = 0
    · have : (l.take u1.toNat).drop l1.toNat = [] := List.eq_nil_of_length_eq_zero (by omega)
      rw [this, hz]
      exact .sl0 (by omega)
    · rw [if_neg (by omega), ← hlen]
      simp only [Option.map_some, addr_add']
      have hget : ∀ k t, ((l.take u1.toNat).drop l1.toNat)[k]? = some t → l[l1.toNat + k]? = some t := by
        intro k t hk
        rw [List.getElem?_drop, List.getElem?_take] at hk
        split at hk
        · exact hk
        · simp at hk
      refine .sl (fun k j => u (l1.toNat + k) j) hM hb (by omega) (by omega) (fun t ht => hmm t (List.mem_of_mem_take (List.mem_of_mem_drop ht))) (fun k t j cc hk hj => ?_) (fun k t j cc hk hj => h1 _ t j cc (hget k t hk) hj) (fun k t j cc hk hj => h2 _ t j cc (hget k t hk) hj)
      have := hu (l1.toNat + k) t j cc (hget k t hk) hj
      rw [Nat.add_mul, ← Nat.add_assoc] at this
      exact this
  unfold dSsl at hr
  split at hr
  · rename_i m' l he
    rw [he] at hx
    split at hr
    · rename_i l1 u1 hl hu
      split at hr
      · rename_i hc
        obtain ⟨h0, h1, h2, rfl⟩ := hc
        simp only [val, Option.some.injEq] at hr
        subst hr
        generalize hv : a.eval x = v at hx
        cases hx.t_inv with
        | sl0 hcap =>
          have hrun := run_ssl (P := P) (ty := ty) (pos := pos) (after := after) (g := g) h hd ht hm hv (Nat.zero_le _) hl hu h0 h1 h2
          refine sound_val h hd hrun ?_
          have e1 : l1.toNat = 0 := by simp at h2; omega
          have e2 : u1.toNat = 0 := by simp at h2; omega
          simp only [List.take_nil, List.drop_nil, e1, e2]
          exact .t (.sl0 (by omega))
        | sl u hM hb hn hcap hmm hu' h1' h2' =>
          have hrun := run_ssl (P := P) (ty := ty) (pos := pos) (after := after) (g := g) h hd ht hm hv hn hl hu h0 h1 h2
          exact sound_val h hd hrun (.t (htree (n := l.length) u hM hb (Nat.le_refl _) hn hcap hmm hu' h1' h2' h0 h1 h2))
      · simp at hr
    · simp at hr
  · rename_i he
    rw [he] at hx
    obtain ⟨ad, hv⟩ := hx.e0_inv
    split at hr
    · rename_i l1 u1 hl hu
      split at hr
      · rename_i hc
        obtain ⟨rfl, rfl⟩ := hc
        simp only [val, Option.some.injEq] at hr
        subst hr
        have hrun := run_ssl (P := P) (ty := ty) (pos := pos) (after := after) (g := g) h hd ht hm hv (Nat.le_refl _) hl hu (Int.le_refl _) (Int.le_refl _) (Int.le_refl _)
        exact sound_val h hd hrun (.t .e0)
      · simp at hr
    · simp at hr
  · rename_i s n he
    rw [he] at hx
    obtain ⟨ad, hv, hus, hncap, had⟩ := hx.osl_inv
    split at hr
    · rename_i e' m' l fz hsl
      split at hr
      · rename_i l1 u1 hl hu
        split at hr
        · rename_i hc
          obtain ⟨h0, h1, h2, h3, rfl⟩ := hc
          have hrun := run_ssl (P := P) (ty := ty) (pos := pos) (after := after) (g := g) h hd ht hm hv hncap hl hu h0 h1 h2
          split at hr
          · rename_i hz
            subst hz
            simp only [Option.some.injEq] at hr
            subst hr
            refine sound_val h hd hrun ?_
            have e0 : (0 : Int).toNat = 0 := rfl
            simp only [e0, Nat.zero_mul, Nat.sub_zero]
            have ea : (if (φ s).cap = 0 then ad else ad.map (·.add 0)) = ad := by cases ad <;> simp [Addr.add]
            rw [ea]
            exact .osl hus (by omega) had
          · rename_i hz
            simp only [Option.some.injEq] at hr
            subst hr
            have hcap : 0 < (φ s).cap := by omega
            obtain ⟨hpm, h00, hB⟩ := own_cells h hsl
            rcases hB with ⟨hc0, _⟩ | ⟨cs, _, hg, hcs, hlc, hcm, hR⟩
            · omega
            have hreal : Row.real (.rows e' m' l fz) (φ s) = true := by simpa [Row.real] using hcap
            have hlt : (φ s).blk < w.heap.size := (Array.getElem?_eq_some_iff.1 hg).1
            -- the state in which the row is not written any more
            have hE : ∃ E', E.upd (if fz = true then [] else [(s, some (.rows e' m' l true))]) = E' ∧ SimA c φ E' a w ∧ E'.slots s = some (.rows e' m' l true) := by
              cases fz with
              | true => exact ⟨_, rfl, h, hsl⟩
              | false =>
                refine ⟨_, rfl, h.set (w' := w) hsl rfl hreal rfl rfl rfl rfl (fun _ _ => rfl) (fun M' hM' => ?_), ?_⟩
                · have hR' := hR.mono (M' := M') (Nat.le_refl _) (fun b hb hM => ⟨rfl, hM' b hb hM⟩)
                  exact .inr ⟨cs, hcap, hg, hpm, h00, hcs, hlc, hcm, hR'.1, hR'.2⟩
                · show (E.upd [(s, some (.rows e' m' l true))]).slots s = _
                  rw [upd_slots, lookup1]; simp
            obtain ⟨E', hE1, hE2, hE3⟩ := hE
            obtain ⟨_, _, hB'⟩ := own_cells hE2 hE3
            rcases hB' with ⟨hc0, _⟩ | ⟨cs', _, hg', _, _, _, hR'⟩
            · omega
            have hnm : ¬ Mut c φ E'.slots (φ s).blk := by
              rintro (⟨hm0, hx0⟩ | ⟨s2, r2, h5, h6, h7, h8⟩)
              · rcases ((hE2.row s _ hE3).2.2 (by simpa [Row.real] using hcap)).2 with h9 | h9
                · exact hx0 h9
                · exact h9 hm0
              · have := hE2.inj s2 s r2 _ h5 hE3 h6 h7 (by simpa [Row.real] using hcap) h8
                subst this
                rw [hE3] at h5
                cases h5
                simp [Row.mut] at h6
            refine ⟨_, w, .inl hrun, φ, ?_⟩
            show SimA c φ ((E.upd (if fz = true then [] else [(s, some (.rows e' m' l true))])).putO dst _) _ w
            rw [hE1]
            refine hE2.put hd (.t ?_)
            rw [had hcap]
            refine htree (n := n) (fun k j => cs'.getD (k * m' + j) undef) hnm hlt h3 hncap hcm hR'.1 (fun k t j cc hk hj => ?_) (fun k t j cc hk hj => (hR'.2 k t j cc hk hj).1) (fun k t j cc hk hj => ?_) h0 h1 h2
            · obtain ⟨_, v, h5, _⟩ := hR'.2 k t j cc hk hj
              rw [cell_of_heap hg', Nat.zero_add, h5]
              simp [List.getD, h5]
            · obtain ⟨_, v, h5, h6⟩ := hR'.2 k t j cc hk hj
              simpa [List.getD, h5] using h6
        · simp at hr
      · simp at hr
    · simp at hr
  · simp at hr
end ops
end Go.Wt
/- Structs, arrays and literals that are built; bytes to a string. -/
namespace Go.Wt
open Go.RowKit
variable {P : Program} {c : Ctx} {φ : Nm → Place} {E : Env} {a : Act} {w : World} {dst : Option Nat} {ty : TypeId} {pos : String} {after : Array Edge} {g : Option (Nat × Bool)} {r : Res}
theorem foldl_set (off : Nat) : ∀ (us : List Value) (j0 : Nat) (cs : Array Value), off + j0 + us.length ≤ cs.size →
    ((us.zipIdx j0).foldl (fun cs (p : Value × Nat) => cs.setIfInBounds (off + p.2) p.1) cs) = (setCells cs.toList (off + j0) us).toArray
  | [], j0, cs, h => by
    simp [setCells, List.take_append_drop]
  | u :: us, j0, cs, h => by
    simp only [List.length_cons] at h
    rw [List.zipIdx_cons, List.foldl_cons, foldl_set off us (j0 + 1) _ (by simp; omega)]
    congr 1
    apply List.ext_getElem?
    intro i
    rw [get_setCells (by simp; omega), get_setCells (by simp; omega)]
    simp only [List.length_cons, Array.toList_setIfInBounds, List.getElem?_set]
    by_cases h1 : i = off + j0
    · subst h1
      rw [if_neg (by omega), if_pos rfl, if_pos (by simp; omega), if_pos (by omega)]
      simp
    · by_cases h2 : off + (j0 + 1) ≤ i ∧ i < off + (j0 + 1) + us.length
      · rw [if_pos h2, if_pos (by omega)]
        have : i - (off + j0) = (i - (off + (j0 + 1))) + 1 := by omega
        rw [this, List.getElem?_cons_succ]
      · rw [if_neg h2, if_neg (Ne.symm h1), if_neg (by omega)]
theorem fill_step (cs : List Value) (off : Nat) (v : Value) (h : off + v.cells.size ≤ cs.length) :
    (v.cells.zipIdx.foldl (fun cs (p : Value × Nat) => cs.setIfInBounds (off + p.2) p.1) cs.toArray) = (setCells cs off v.cells.toList).toArray := by
  rw [← Array.foldl_toList]
  have := foldl_set off v.cells.toList 0 cs.toArray (by simp; omega)
  simp only [Array.toList_zipIdx, Nat.add_zero] at this ⊢
  exact this
theorem isAgg_setPart {d y d' : DV} {off : Nat} (hd : d.isAgg = true) (hy : y.ok1 = true) (h : d.setPart off y = some d') : d'.isAgg = true := by
  have hone : d.one = false := by
    cases d with
    | t x => cases x <;> first | rfl | simp [DV.isAgg] at hd
    | agg l => rfl
    | _ => simp [DV.isAgg] at hd
  unfold DV.setPart at h
  split at h
  · split at h
    · rename_i h0
      simp at h
      subst h
      have : y.one = false := by rw [← h0.2.2]; exact hone
      cases y with
      | t x => cases x <;> first | rfl | simp [DV.one, Tree.one] at this
      | agg l => rfl
      | _ => simp_all [DV.one, DV.ok1]
    · rw [hone] at h
      simp at h
      subst h
      rfl
  · simp at h
/-- Parts that are filled in. -/
theorem fill_sound (h : SimA c φ E a w) (place : Nat → Option (Nat × Nat)) : ∀ (ps : List (Nat × Nat × Nat × Operand)) (cs : List Value) (d d' : DV), (∀ p ∈ ps, place p.1 = some (p.2.1, p.2.2.1)) → d.isAgg = true →
    cs.length = d.cells.length → (∀ v ∈ cs, one1 v = true) → (∀ (i : Nat) (u : Value) (x : DV), cs[i]? = some u → d.cells[i]? = some x → RepV φ E.used w (Mut c φ E.slots) u x) →
    fillD d (ps.map fun p => (p.2.1, p.2.2.1, E.ev p.2.2.2)) = some d' →
    ∃ cs' : List Value, Instr.fill place cs.toArray (ps.map fun p => (p.1, a.eval p.2.2.2)) = some cs'.toArray ∧ d'.isAgg = true ∧ cs'.length = d'.cells.length ∧ d'.cells.length = d.cells.length ∧ (∀ v ∈ cs', one1 v = true) ∧
      ∀ (i : Nat) (u : Value) (x : DV), cs'[i]? = some u → d'.cells[i]? = some x → RepV φ E.used w (Mut c φ E.slots) u x
  | [], cs, d, d', _, hag, hl, h1, hp, hf => by
    simp only [List.map_nil, fillD, Option.some.injEq] at hf
    subst hf
    exact ⟨cs, rfl, hag, hl, rfl, h1, hp⟩
  | p :: ps, cs, d, d', hpl, hag, hl, h1, hp, hf => by
    simp only [List.map_cons, fillD] at hf
    split at hf
    · rename_i hc
      obtain ⟨hcn, hok⟩ := hc
      split at hf
      · rename_i d1 hd1
        obtain ⟨hul, hu1, hup⟩ := (h.ev p.2.2.2).cells_inv hok
        obtain ⟨hle, hcells⟩ := setPart_cells hd1
        obtain ⟨h3, h4⟩ := rep_setCells hle hl hul hp hup
        have hlen1 : d1.cells.length = d.cells.length := by rw [hcells, len_setCells hle]
        obtain ⟨cs', h5, h6, h7, h8, h9, h10⟩ := fill_sound h place ps (setCells cs p.2.1 (a.eval p.2.2.2).cells.toList) d1 d' (fun q hq => hpl q (List.mem_cons_of_mem _ hq)) (isAgg_setPart hag hok hd1) (by rw [hcells]; exact h3)
          (fun v hv => (mem_setCells hv).elim (h1 v) (hu1 v)) (fun i u x hu hx => h4 i u x hu (by rw [← hcells]; exact hx)) hf
        refine ⟨cs', ?_, h6, h7, h8.trans hlen1, h9, h10⟩
        have hsz : (a.eval p.2.2.2).cells.size = p.2.2.1 := by
          have : (a.eval p.2.2.2).cells.toList.length = p.2.2.1 := hul.trans hcn
          simpa using this
        simp only [List.map_cons, Instr.fill, hpl p List.mem_cons_self]
        have hcond : ((a.eval p.2.2.2).cells.size ≠ p.2.2.1 || p.2.1 + (a.eval p.2.2.2).cells.size > cs.toArray.size) = false := by
          simp [hsz]
          omega
        rw [hcond]
        simp only [Bool.false_eq_true, if_false]
        have := fill_step cs p.2.1 (a.eval p.2.2.2) (by rw [hsz]; omega)
        rw [this]
        exact h5
      · simp at hf
    · simp at hf
theorem zero_cells {M : Nat → Prop} {U : Nm → Bool} {t : TypeId} {z : Tree} (hz : zeroT P t = some z) : ∃ i v, P.info? t = some i ∧ i.zero = some v ∧ Rep w M v z ∧ RepV φ U w M v (.t z) := by
  unfold zeroT at hz
  obtain ⟨v, hv, hz⟩ := Option.bind_eq_some_iff.1 hz
  obtain ⟨i, hi, hv⟩ := Option.bind_eq_some_iff.1 hv
  exact ⟨i, v, hi, hv, rep_ofVal hz, .t (rep_ofVal hz)⟩
section ops
variable (h : SimA c φ E a w) (hd : dst.all (· < c.n) = true)
include h hd
theorem s_build {t : TypeId} {parts : Array (Nat × Operand)} {zl : List Tree} {ps : List (Nat × Nat × Operand)} (hz : zeroT P t = some (.agg zl)) (hps : cparts P t parts.toList = some ps) (hr : (SOp.build zl ps).den P E dst = some r) :
    Sound P c E a w ⟨dst, .build t parts, ty, pos, after, g⟩ r := by
  simp only [SOp.den] at hr
  obtain ⟨d', hd', rfl⟩ := sound_opt hr
  obtain ⟨it, z, hit, hzv, _, hrep⟩ := zero_cells (φ := φ) (U := E.used) (M := Mut c φ E.slots) (w := w) hz
  obtain ⟨vs, rfl, hl, h1, hp⟩ := hrep.agg_inv rfl
  -- the places of the parts
  have hplaces : ∃ (place : Nat → Option (Nat × Nat)) (qs : List (Nat × Nat × Nat × Operand)), (∀ q ∈ qs, place q.1 = some (q.2.1, q.2.2.1)) ∧ qs.map (fun q => (q.2.1, q.2.2.1, q.2.2.2)) = ps ∧ qs.map (fun q => (q.1, q.2.2.2)) = parts.toList ∧
      ∀ pv, P.built t pv = Instr.fill place vs.toArray pv := by
    unfold cparts at hps
    split at hps
    · rename_i fs hfs
      split at hps
      · rename_i places hpl
        obtain ⟨hlen, hget⟩ := mapM_some hps
        refine ⟨(places[·]?), (parts.toList.zip ps).map fun q => (q.1.1, q.2), ?_, ?_, ?_, fun pv => ?_⟩
        · intro q hq
          simp only [List.mem_map] at hq
          obtain ⟨⟨q1, q2⟩, hq, rfl⟩ := hq
          obtain ⟨i, hi, he⟩ := List.getElem_of_mem hq
          simp only [List.length_zip] at hi
          rw [List.getElem_zip] at he
          simp only [Prod.mk.injEq] at he
          have := hget i _ _ (List.getElem?_eq_getElem (by omega)) (List.getElem?_eq_getElem (by omega))
          rw [he.1, he.2] at this
          simp only [Option.map_eq_some_iff] at this
          obtain ⟨pq, h5, rfl⟩ := this
          simpa using h5
        · rw [List.map_map]
          have : ((fun q : Nat × Nat × Nat × Operand => (q.2.1, q.2.2.1, q.2.2.2)) ∘ fun q : (Nat × Operand) × (Nat × Nat × Operand) => (q.1.1, q.2)) = Prod.snd := by funext q; rfl
          rw [this, List.map_snd_zip (by omega)]
        · rw [List.map_map]
          have hsz : parts.size = ps.length := by simpa using hlen
          apply List.ext_getElem (by simp [hsz])
          intro i hi hi'
          simp only [List.getElem_map, Function.comp, List.getElem_zip]
          have hi2 : i < ps.length := by simp at hi; omega
          have := hget i _ _ (List.getElem?_eq_getElem hi') (List.getElem?_eq_getElem hi2)
          simp only [Option.map_eq_some_iff] at this
          obtain ⟨pq, h5, h6⟩ := this
          rw [← h6]
        · unfold Program.built
          simp [hit, hfs, hzv, hpl, Value.cells]
      · simp at hps
    · rename_i n e hfs
      split at hps
      · rename_i ie hie
        simp only [Option.some.injEq] at hps
        subst hps
        refine ⟨fun i => some (i * ie.size, ie.size), parts.toList.map fun p => (p.1, p.1 * ie.size, ie.size, p.2), ?_, by simp [Function.comp_def], by simp [Function.comp_def], fun pv => ?_⟩
        · intro q hq
          simp only [List.mem_map] at hq
          obtain ⟨p, _, rfl⟩ := hq
          rfl
        · unfold Program.built
          simp [hit, hfs, hzv, hie, Value.cells]
      · simp at hps
    · simp at hps
  obtain ⟨place, qs, hq1, rfl, hq3, hq4⟩ := hplaces
  rw [List.map_map] at hd'
  obtain ⟨cs', h5, h6, h7, h8, h9, h10⟩ := fill_sound h place qs vs (.t (.agg zl)) d' hq1 rfl hl h1 hp hd'
  refine sound_val h hd (v := .agg cs'.toArray) ?_ (.of_cells h6 h7 h9 h10)
  have hb : P.built t (parts.map fun p => (p.1, a.eval p.2)).toList = some cs'.toArray := by
    rw [hq4, ← h5]
    congr 1
    simp only [Array.toList_map, ← hq3, List.map_map]
    rfl
  simp [execOp, run_build w t _ _ hb]
theorem s_b2s {src d e : TypeId} {x : Operand} (hs : P.underlying src = some (.slice e)) (hd' : P.underlying d = some .string) (he : P.underlying e = some (.int .u8)) (hr : (SOp.b2s x).den P E dst = some r) :
    Sound P c E a w ⟨dst, .convert src d x, ty, pos, after, g⟩ r := by
  have hx := h.ev x
  simp only [SOp.den] at hr
  unfold dB2s at hr
  split at hr
  · simp at hr
  · rename_i hnv
    split at hr
    · rename_i l rd hmore
      split at hr
      · rename_i bs hbs
        simp only [Option.some.injEq] at hr
        subst hr
        obtain ⟨news, h1, h2, h3, h4, h5⟩ := more_sound (P := P) h (by omega : 0 < 1) hx hmore
        -- it is a slice
        have hsl : ∃ ad n cap, a.eval x = .slice ad n cap := by
          generalize a.eval x = v at *
          generalize E.ev x = dd at *
          have h1w := h1 w
          cases v <;> first | exact ⟨_, _, _, rfl⟩ | (simp [Builtin.lenOf] at h1w; done) | skip
          rename_i s
          cases dd with
          | t y => cases hx.t_inv; rename_i hp; exact absurd rfl (hnv _)
          | _ => cases hx <;> simp [Env.more, Env.view, Env.view1] at hmore
        obtain ⟨ad, n, cap, hv⟩ := hsl
        rw [hv] at h1 h2
        have hn : n = l.length := by have := h1 w; simpa [Builtin.lenOf] using this
        subst hn
        obtain ⟨hbl, hbg⟩ := mapM_some hbs
        -- the cells' numbers
        have hns : ∃ ns : List Int, news = ns.map (Value.int .u8) ∧ bs = ns.map fun n => UInt8.ofNat n.toNat := by
          have hall : ∀ i (hi : i < news.length), ∃ n : Int, news[i] = .int .u8 n ∧ bs[i]? = some (UInt8.ofNat n.toNat) := by
            intro i hi
            have hil : i < l.length := by omega
            have hib : i < bs.length := by omega
            have hb := hbg i _ _ (List.getElem?_eq_getElem hil) (List.getElem?_eq_getElem hib)
            generalize htl : l[i] = tt at hb
            unfold Tree.byte? at hb
            split at hb
            · rename_i n
              obtain ⟨_, v, h6, h7⟩ := h5.2 i (.v (.int .u8 n)) 0 (.v (.int .u8 n)) (by rw [List.getElem?_eq_getElem hil, htl]) rfl
              cases h7
              simp only [Nat.mul_one, Nat.add_zero] at h6
              refine ⟨n, (List.getElem?_eq_some_iff.1 h6).2, ?_⟩
              rw [List.getElem?_eq_getElem hib]
              simpa using hb.symm
            · simp at hb
          refine ⟨(List.range news.length).map fun i => if hi : i < news.length then (hall i hi).choose else 0, ?_, ?_⟩
          · apply List.ext_getElem (by simp)
            intro i hi hi'
            simp only [List.getElem_map, List.getElem_range, hi, dif_pos]
            exact (hall i hi).choose_spec.1
          · apply List.ext_getElem (by simp; omega)
            intro i hi hi'
            have hin : i < news.length := by omega
            simp only [List.getElem_map, List.getElem_range, hin, dif_pos]
            exact Option.some.inj ((List.getElem?_eq_getElem hi).symm.trans (hall i hin).choose_spec.2)
        obtain ⟨ns, rfl, rfl⟩ := hns
        have hfold : ∀ (ns : List Int) (s : ByteArray), ns.foldl (fun r n => r.push (UInt8.ofNat n.toNat)) s = ⟨(s.data.toList ++ ns.map fun n => UInt8.ofNat n.toNat).toArray⟩ := by
          intro ns
          induction ns with
          | nil => intro s; cases s; simp
          | cons n ns ih => intro s; rw [List.foldl_cons, ih]; simp [ByteArray.push]
        refine sound_val h hd (v := .string ⟨(ns.map fun n => UInt8.ofNat n.toNat).toArray⟩) ?_ (.t (.v rfl))
        have hconv := run_convert_bytes_string (P := P) w src d e ad l.length cap hs he hd'
        have hb : (Conv.bytesToString (.slice ad l.length cap)).run P w = .ok (.string ⟨(ns.map fun n => UInt8.ofNat n.toNat).toArray⟩) w := by
          cases ad with
          | none =>
            have h6 := h2 w rfl
            simp only [Builtin.firstCells, Sem.run_pure, Result.ok.injEq] at h6
            have : ns = [] := by
              have := congrArg Array.size h6.1
              simp at this
              exact List.eq_nil_of_length_eq_zero this.symm
            subst this
            simp [Conv.bytesToString]
            rfl
          | some ad =>
            have h6 := h2 w rfl
            simp only [Builtin.firstCells, Nat.mul_one] at h6
            rw [run_bytesToString w ad l.length cap ns h6, hfold]
            rfl
        simp only [execOp, hv, Sem.run_bind, hconv, hb, Result.andThen_ok, Sem.run_pure]
      · simp at hr
    · simp at hr
end ops
end Go.Wt
/- Slices that are written out; all operations together. -/
namespace Go.Wt
open Go.RowKit
variable {P : Program} {c : Ctx} {φ : Nm → Place} {E : Env} {a : Act} {w : World} {dst : Option Nat} {ty : TypeId} {pos : String} {after : Array Edge} {g : Option (Nat × Bool)} {r : Res}
theorem chunks_spec (agg : Bool) (m : Nat) (hm : 0 < m) (hagg : agg = true ∨ m = 1) : ∀ (n : Nat) (l : List Tree), l.length = n * m → (∀ t ∈ l, t.one = true) → (chunks agg m n l).length = n ∧
    ∀ (k : Nat) (t : Tree), (chunks agg m n l)[k]? = some t → t.cells.length = m ∧ ∀ j cc, t.cells[j]? = some cc → l[k * m + j]? = some cc
  | 0, l, _, _ => ⟨rfl, fun k t hk => by simp [chunks] at hk⟩
  | n + 1, l, hl, h1 => by
    rw [Nat.succ_mul] at hl
    obtain ⟨h2, h3⟩ := chunks_spec agg m hm hagg n (l.drop m) (by simp; omega) (fun t ht => h1 t (List.mem_of_mem_drop ht))
    refine ⟨by simp [chunks, h2], fun k t hk => ?_⟩
    cases k with
    | zero =>
      simp only [chunks, List.getElem?_cons_zero, Option.some.injEq] at hk
      by_cases ha : agg = true
      · rw [if_pos ha] at hk
        subst hk
        refine ⟨by simp [Tree.cells]; omega, fun j cc hj => ?_⟩
        simp only [Tree.cells, List.getElem?_take] at hj
        split at hj
        · simpa using hj
        · simp at hj
      · rw [if_neg ha] at hk
        have hm1 : m = 1 := hagg.resolve_left ha
        subst hm1
        cases l with
        | nil => simp at hl
        | cons x l =>
          simp only [List.take_succ_cons, List.take_zero, List.headD_cons] at hk
          subst hk
          have hx := h1 x List.mem_cons_self
          have hc : x.cells = [x] := by cases x <;> first | rfl | simp [Tree.one] at hx
          rw [hc]
          refine ⟨rfl, fun j cc hj => ?_⟩
          cases j with
          | zero => simpa using hj
          | succ j => simp at hj
    | succ k =>
      simp only [chunks, List.getElem?_cons_succ] at hk
      obtain ⟨h4, h5⟩ := h3 k t hk
      refine ⟨h4, fun j cc hj => ?_⟩
      have := h5 j cc hj
      rw [List.getElem?_drop] at this
      rw [Nat.succ_mul, show k * m + m + j = m + (k * m + j) by omega]
      exact this
section ops
variable (h : SimA c φ E a w) (hd : dst.all (· < c.n) = true)
include h
theorem SimA.alloc (o : Obj) : SimA c φ E a (w.alloc o) := by
  have := h.upd (φ' := φ) (w' := w.alloc o) (ups := []) (by simp) rfl rfl rfl (fun b hb => .inl (heap_alloc_old w _ hb)) (fun _ _ => rfl) (fun s r hl => by simp [List.lookup] at hl) (fun s s' r r' h1 h2 => h.inj s s' r r' h1 h2) (fun b _ hM => hM) (fun g _ hg => by simp [List.lookup] at hg)
  exact this
theorem not_mut_new : ¬ Mut c φ E.slots w.heap.size := by
  rintro (⟨h1, _⟩ | ⟨s, r, h1, h2, h3, h4⟩)
  · have := h.m0 _ h1; have := h.size; omega
  · have := (h.row s r h1).2.1.lt h3; omega
include hd
theorem s_lits {t e : TypeId} {m len : Nat} {z : Tree} {parts : Array (Nat × Operand)} (ht : P.underlying t = some (.slice e)) (hm : szT P e = some m) (hz : zeroT P e = some z) (h0 : m ≠ 0) (hzl : z.cells.length = m) (h24 : len * m ≤ 2 ^ 24) (hp0 : len = 0 → parts = #[])
    (hr : (SOp.lits (aggT P e) m len z.cells (parts.toList.map fun p => (p.1 * m, m, p.2))).den P E dst = some r) : Sound P c E a w ⟨dst, .buildSlice t len parts, ty, pos, after, g⟩ r := by
  simp only [SOp.den] at hr
  unfold dLits at hr
  obtain ⟨i, zv, hi, hzv, hzR, hzrep⟩ := zero_cells (φ := φ) (U := E.used) (M := Mut c φ E.slots) (w := w) hz
  obtain ⟨i', _, hi', hsz, _⟩ := szT_spec hm
  rw [hi] at hi'
  cases hi'
  obtain ⟨hzc, hz1, hzp⟩ := hzrep.cells_inv rfl
  have hzcl : (DV.t z).cells = z.cells.map .t := by cases z <;> rfl
  rw [hzcl, List.length_map, hzl] at hzc
  have hzs : zv.cells.size = m := by simpa using hzc
  have hbuild : ∀ (cells : Array Value), Instr.fill (fun i => some (i * m, m)) ((Array.range (len * m)).map (fun x => zv.cells[x % zv.cells.size]!)) (parts.toList.map fun p => (p.1, a.eval p.2)) = some cells → 0 < len →
      (execOp a.eval ⟨dst, .buildSlice t len parts, ty, pos, after, g⟩).run P w = .ok (.value (.slice (some ⟨w.heap.size, 0, none⟩) len len)) (w.alloc (.cells cells e)) := by
    intro cells hf hlen
    have h1 : ¬ (2 ^ 24 < len * m) := by omega
    have h2 : ¬ (len * m = 0) := by
      intro hh
      rcases Nat.mul_eq_zero.1 hh with h | h <;> omega
    simp only [Nat.reducePow] at h1
    simp [execOp, Instr.buildSlice, run_underlying ht, run_sizeOf' hm, h1, h2, zeroValue, typeInfo, hi, hzv, newRow, newObj, hf, Sem.run]
  by_cases hlen : len = 0
  · rw [if_pos hlen] at hr
    simp only [val, Option.some.injEq] at hr
    subst hr
    subst hlen
    have hpe := hp0 rfl
    subst hpe
    have halloc := SimA.alloc h (.cells #[] e)
    refine ⟨.slice (some ⟨w.heap.size, 0, none⟩) 0 0, _, .inl ?_, φ, SimA.put halloc hd (.t .e0)⟩
    simp [execOp, Instr.buildSlice, run_underlying ht, run_sizeOf' hm, newRow, newObj, Instr.fill, Sem.run]
    have e0 : (Array.map (fun _ : Nat => (default : Value)) (Array.range 0)) = #[] := by apply Array.ext'; simp
    rw [e0]
  · rw [if_neg hlen] at hr
    split at hr
    · rename_i hc
      obtain ⟨_, hm0, hagg⟩ := hc
      split at hr
      · rename_i l hl
        split at hr
        · rename_i hll
          simp only [val, Option.some.injEq] at hr
          subst hr
          obtain ⟨d', hd', htree⟩ := Option.bind_eq_some_iff.1 hl
          have hflat : ∀ (n q : Nat), (List.replicate n z.cells).flatten[q]? = if q < n * m then z.cells[q % m]? else none := by
            intro n
            induction n with
            | zero => intro q; simp
            | succ n ih =>
              intro q
              rw [List.replicate_succ, List.flatten_cons, List.getElem?_append, hzl]
              by_cases hq : q < m
              · rw [if_pos hq, Nat.mod_eq_of_lt hq, if_pos (by rw [Nat.succ_mul]; omega)]
              · rw [if_neg hq, ih (q - m)]
                have e1 : (q - m) % m = q % m := by
                  have : q = (q - m) + m := by omega
                  conv => rhs; rw [this, Nat.add_mod_right]
                rw [e1]
                by_cases hq2 : q - m < n * m
                · rw [if_pos hq2, if_pos (by rw [Nat.succ_mul]; omega)]
                · rw [if_neg hq2, if_neg (by rw [Nat.succ_mul]; omega)]
          have hflen : (List.replicate len z.cells).flatten.length = len * m := by simp [hzl]
          -- the zero cells
          have hcs0 : ((Array.range (len * m)).map (fun x => zv.cells[x % zv.cells.size]!)) = ((List.range (len * m)).map fun x => zv.cells[x % zv.cells.size]!).toArray := by
            apply Array.ext'; simp
          have hget0 : ∀ (i : Nat) (u : Value), ((List.range (len * m)).map fun x => zv.cells[x % zv.cells.size]!)[i]? = some u → i < len * m ∧ zv.cells.toList[i % m]? = some u := by
            intro i u hu
            simp only [List.getElem?_map, Option.map_eq_some_iff] at hu
            obtain ⟨i', h1, rfl⟩ := hu
            obtain ⟨h2, h3⟩ := List.getElem?_eq_some_iff.1 h1
            simp at h2 h3
            subst h3
            refine ⟨h2, ?_⟩
            have hlt : i % m < zv.cells.size := by rw [hzs]; exact Nat.mod_lt _ hm0
            rw [hzs, getElem!_pos zv.cells (i % m) hlt]
            simp [hlt]
          obtain ⟨cs', h5, h6, h7, h8, h9, h10⟩ := fill_sound h (fun i => some (i * m, m)) (parts.toList.map fun p => (p.1, p.1 * m, m, p.2)) ((List.range (len * m)).map fun x => zv.cells[x % zv.cells.size]!) (.t (.agg (List.replicate len z.cells).flatten)) d' (by
              intro p hp
              simp only [List.mem_map] at hp
              obtain ⟨q, _, rfl⟩ := hp
              rfl) rfl (by simp [DV.cells, hzl]) (fun v hv => by
              obtain ⟨i, hi, rfl⟩ := List.getElem_of_mem hv
              exact hz1 _ (List.mem_of_getElem? (hget0 i _ (List.getElem?_eq_getElem hi)).2)) (fun i u x hu hx => by
              obtain ⟨h11, h12⟩ := hget0 i u hu
              simp only [DV.cells, List.getElem?_map, hflat, if_pos h11, Option.map_eq_some_iff] at hx
              obtain ⟨zc, h13, rfl⟩ := hx
              exact hzp (i % m) u _ h12 (by rw [hzcl, List.getElem?_map, h13]; rfl)) (by
              rw [← hd']
              congr 1
              simp [Function.comp_def])
          have hlc : d'.cells = l.map .t := tree?_cells htree
          have hb := hbuild cs'.toArray (by
            rw [hcs0, ← h5]
            congr 1
            simp [Function.comp_def]) (by omega)
          have hR : ∀ (i : Nat) (cc : Tree), l[i]? = some cc → ∃ u, cs'[i]? = some u ∧ Rep w (Mut c φ E.slots) u cc := by
            intro i cc hcc
            have hil : i < cs'.length := by rw [h7, hlc, List.length_map]; exact (List.getElem?_eq_some_iff.1 hcc).1
            refine ⟨_, List.getElem?_eq_getElem hil, ?_⟩
            exact (h10 i _ (.t cc) (List.getElem?_eq_getElem hil) (by rw [hlc, List.getElem?_map, hcc]; rfl)).t_inv
          have hone : ∀ t ∈ l, t.one = true := by
            intro t ht
            obtain ⟨i, hi, rfl⟩ := List.getElem_of_mem ht
            obtain ⟨u, h11, h12⟩ := hR i _ (List.getElem?_eq_getElem hi)
            rw [← h12.one]
            exact h9 u (List.mem_of_getElem? h11)
          obtain ⟨hcl, hck⟩ := chunks_spec (aggT P e) m hm0 hagg len l hll hone
          have halloc := SimA.alloc h (.cells cs'.toArray e)
          have hnew : (w.alloc (.cells cs'.toArray e)).heap[w.heap.size]? = some (.cells cs'.toArray e) := heap_alloc_new w _
          refine ⟨_, _, .inl hb, φ, SimA.put halloc hd (.t ?_)⟩
          have hlen4 : len ≤ 2 ^ 24 := Nat.le_trans (Nat.le_mul_of_pos_right len hm0) h24
          have hfin : Rep (w.alloc (.cells cs'.toArray e)) (Mut c φ E.slots) (.slice (some ⟨w.heap.size, 0, none⟩) (chunks (aggT P e) m len l).length len) (.sl m (chunks (aggT P e) m len l)) := by
            refine .sl (fun k j => cs'.getD (k * m + j) undef) (not_mut_new h) (by simp) (by omega) (by simp only [maxLen]; omega) (fun t ht => ?_) (fun k t j cc hk hj => ?_) (fun k t j cc hk hj => ?_) (fun k t j cc hk hj => ?_)
            · obtain ⟨k, hk, rfl⟩ := List.getElem_of_mem ht
              exact (hck k _ (List.getElem?_eq_getElem hk)).1
            · obtain ⟨u, h11, _⟩ := hR _ _ ((hck k t hk).2 j cc hj)
              rw [cell_of_heap hnew, Nat.zero_add, h11]
              simp [List.getD, h11]
            · exact hone cc (List.mem_of_getElem? ((hck k t hk).2 j cc hj))
            · obtain ⟨u, h11, h12⟩ := hR _ _ ((hck k t hk).2 j cc hj)
              simp only [List.getD, h11, Option.getD_some]
              exact h12.mono (by simp) (fun b hb hM => ⟨heap_alloc_old w _ hb, hM⟩)
          rw [hcl] at hfin
          exact hfin
        · simp at hr
      · simp at hr
    · simp at hr
end ops
end Go.Wt
/- Maps, iterations over texts, slices that are made, copies: what the model does, told of trees. -/
namespace Go.Wt
open Go.RowKit
variable {P : Program} {c : Ctx} {φ : Nm → Place} {E : Env} {a : Act} {w : World} {dst : Option Nat} {ty : TypeId} {pos : String} {after : Array Edge} {g : Option (Nat × Bool)} {r : Res}
theorem pureRun_bind {α β : Type} (s : Sem α) (f : α → Sem β) : pureRun P (s >>= f) = (pureRun P s).bind fun x => pureRun P (f x) := by
  show pureRun P (s.bind f) = _
  induction s with
  | pure x => rfl
  | program k ih => simp only [Sem.bind, pureRun]; exact ih _
  | mark m k ih => simp only [Sem.bind, pureRun]; exact ih
  | _ => rfl
theorem runG {r : Nat} {es : Array MapEntry} {cl : Nat} (hb : w.heap[r]? = some (.map es cl)) : (getObj r).run P w = .ok (.map es cl) w := by simp [getObj, Sem.run, hb]
theorem runSet {r : Nat} {es : Array MapEntry} {cl : Nat} (o : Obj) (hb : w.heap[r]? = some (.map es cl)) : (setObj r o).run P w = .ok () { w with heap := w.heap.setIfInBounds r o } := by simp [setObj, Sem.run, hb]
def dum (e : MapEntry) : MapEntry := { key := e.key, val := undef, born := 0 }
/-- What is found is found at the same place, whatever the values are. -/
def SameAt (i : Nat) (es : List MapEntry) : Option (Nat × Value) → Option (Nat × Value) → Prop
  | none, x => x = none
  | some (j, _), x => i ≤ j ∧ ∃ e, es[j - i]? = some e ∧ x = some (j, e.val)
theorem SameAt.cons {i : Nat} {e0 : MapEntry} {es : List MapEntry} {r' r : Option (Nat × Value)} (h : SameAt (i + 1) es r' r) : SameAt i (e0 :: es) r' r := by
  cases r' with
  | none => exact h
  | some p =>
    obtain ⟨j, v⟩ := p
    obtain ⟨h1, e, h2, h3⟩ := h
    refine ⟨by omega, e, ?_, h3⟩
    have : j - i = (j - (i + 1)) + 1 := by omega
    rw [this]; simpa using h2
theorem findNow_same (kind : TypeDesc) (k : Value) : ∀ (es : List MapEntry) (i : Nat), match Instr.findNow kind k (es.map dum) i with
    | some r' => ∃ r, Instr.findNow kind k es i = some r ∧ SameAt i es r' r
    | none => Instr.findNow kind k es i = none
  | [], i => ⟨none, rfl, rfl⟩
  | e :: es, i => by
    simp only [List.map_cons, Instr.findNow, dum]
    cases Instr.sameNow kind k e.key with
    | none => rfl
    | some b =>
      cases b with
      | true => exact ⟨_, rfl, Nat.le_refl _, e, by simp, rfl⟩
      | false =>
        have := findNow_same kind k es (i + 1)
        simp only
        split at this
        · rename_i r' hr'
          obtain ⟨r, h1, h2⟩ := this
          exact ⟨r, h1, h2.cons⟩
        · rename_i hr'
          exact this
theorem findAsking_same {kt : TypeId} {k : Value} : ∀ (es : List MapEntry) (i : Nat) (r' : Option (Nat × Value)) (w : World), pureRun P (Instr.findAsking kt k (es.map dum) i) = some r' →
    ∃ r, (Instr.findAsking kt k es i).run P w = .ok r w ∧ SameAt i es r' r
  | [], i, r', w, h => by
    simp only [List.map_nil, Instr.findAsking] at h
    have h : (some none : Option (Option (Nat × Value))) = some r' := h
    simp at h
    subst h
    exact ⟨none, rfl, rfl⟩
  | e :: es, i, r', w, h => by
    simp only [List.map_cons, Instr.findAsking, dum, pureRun_bind] at h
    obtain ⟨b, h1, h2⟩ := Option.bind_eq_some_iff.1 h
    simp only [Instr.findAsking, Sem.run_bind, pureRun_run h1, Result.andThen_ok]
    cases b with
    | true =>
      have h2 : (some (some (i, undef)) : Option (Option (Nat × Value))) = some r' := h2
      simp at h2
      subst h2
      exact ⟨_, rfl, Nat.le_refl _, e, by simp, rfl⟩
    | false =>
      obtain ⟨r, h3, h4⟩ := findAsking_same es (i + 1) r' w h2
      exact ⟨r, h3, h4.cons⟩
theorem findM_run {kt : TypeId} {k : Value} {es : List MapEntry} {x : Option Nat} (h : findM P kt k (es.map (·.key)) = some x) (w : World) :
    (x = none ∧ (Instr.findKey kt k es).run P w = .ok none w) ∨ ∃ i e, x = some i ∧ es[i]? = some e ∧ (Instr.findKey kt k es).run P w = .ok (some (i, e.val)) w := by
  unfold findM at h
  obtain ⟨r', h1, rfl⟩ := Option.map_eq_some_iff.1 h
  have he : (es.map (·.key)).map (fun x => ({ key := x, val := undef, born := 0 } : MapEntry)) = es.map dum := by rw [List.map_map]; rfl
  rw [he] at h1
  simp only [Instr.findKey, pureRun_bind] at h1
  obtain ⟨d, h2, h3⟩ := Option.bind_eq_some_iff.1 h1
  have hrun : ∃ r, (Instr.findKey kt k es).run P w = .ok r w ∧ SameAt 0 es r' r := by
    simp only [Instr.findKey, Sem.run_bind, pureRun_run h2, Result.andThen_ok]
    have hn := findNow_same d k es 0
    split at hn
    · rename_i q hq
      obtain ⟨r, h4, h5⟩ := hn
      rw [hq] at h3
      have h3 : some q = some r' := h3
      simp at h3
      subst h3
      rw [h4]
      exact ⟨r, rfl, h5⟩
    · rename_i hq
      rw [hq] at h3
      rw [hn]
      exact findAsking_same es 0 r' w h3
  obtain ⟨r, h4, h5⟩ := hrun
  cases r' with
  | none =>
    have h5 : r = none := h5
    subst h5
    exact .inl ⟨rfl, h4⟩
  | some p =>
    obtain ⟨j, v⟩ := p
    obtain ⟨_, e, h6, rfl⟩ := h5
    exact .inr ⟨j, e, rfl, by simpa using h6, h4⟩
theorem keyOk_run {b : Bool} {kt : TypeId} {k : Value} (h : keyOk P b kt k = true) (w : World) : (Instr.checkKey b 10000 kt k).run P w = .ok () w := by
  unfold keyOk at h
  obtain ⟨x, hx⟩ := Option.isSome_iff_exists.1 h
  exact pureRun_run hx w
theorem zeroT_run {e : TypeId} {z : Tree} (hz : zeroT P e = some z) (w : World) : ∃ v, (zeroValue e).run P w = .ok v w ∧ ∀ M, Rep w M v z := by
  unfold zeroT at hz
  obtain ⟨v, hv, hz⟩ := Option.bind_eq_some_iff.1 hz
  obtain ⟨i, hi, hv⟩ := Option.bind_eq_some_iff.1 hv
  exact ⟨v, by simp [zeroValue, typeInfo, hi, hv], fun M => rep_ofVal hz⟩
theorem zeroT_all {e : TypeId} {z : Tree} (hz : zeroT P e = some z) : ∃ v, (∀ w, (zeroValue e).run P w = .ok v w) ∧ ∀ w M, Rep w M v z := by
  unfold zeroT at hz
  obtain ⟨v, hv, hz⟩ := Option.bind_eq_some_iff.1 hz
  obtain ⟨i, hi, hv⟩ := Option.bind_eq_some_iff.1 hv
  exact ⟨v, fun w => by simp [zeroValue, typeInfo, hi, hv], fun w M => rep_ofVal hz⟩
/-- What is known of a map's block. -/
theorem map_block (h : SimA c φ E a w) {s : Nm} {es : List (Value × DV × Nat)} {cl : Nat} {fz : Bool} (hsl : E.slots s = some (.obj (.mp es cl) fz)) :
    ∃ ents : Array MapEntry, w.heap[(φ s).blk]? = some (.map ents cl) ∧ ents.size = es.length ∧ ents.toList.map (·.key) = es.map (·.1) ∧ ents.isEmpty = es.isEmpty ∧
      ∀ (i : Nat) (e : MapEntry) (x : Value × DV × Nat), ents[i]? = some e → es[i]? = some x → e.key = x.1 ∧ e.born = x.2.2 ∧ RepV φ E.used w (Mut c φ E.slots) e.val x.2.1 := by
  obtain ⟨_, ⟨ents, h1, h2, h3⟩, _⟩ := h.row s _ hsl
  refine ⟨ents, h1, h2, ?_, ?_, h3⟩
  · refine List.ext_getElem (by simp [h2]) fun i h4 h5 => ?_
    have hi : i < ents.size := by simpa using h4
    have := (h3 i ents[i] es[i] (Array.getElem?_eq_getElem hi) (List.getElem?_eq_getElem (by omega))).1
    simpa using this
  · cases es with
    | nil => simpa [Array.isEmpty_iff_size_eq_zero] using h2
    | cons x es =>
      have : ents ≠ #[] := fun he => by rw [he] at h2; simp at h2
      simp [this]
/-- A map's block is set anew. -/
theorem SimA.setMap (h : SimA c φ E a w) {s : Nm} {es es' : List (Value × DV × Nat)} {cl cl' : Nat} (hsl : E.slots s = some (.obj (.mp es cl) false)) {ents ents' : Array MapEntry} (hg : w.heap[(φ s).blk]? = some (.map ents cl))
    (hsz : ents'.size = es'.length) (hrep : ∀ (i : Nat) (e : MapEntry) (x : Value × DV × Nat), ents'[i]? = some e → es'[i]? = some x → e.key = x.1 ∧ e.born = x.2.2 ∧ RepV φ E.used w (Mut c φ E.slots) e.val x.2.1) :
    SimA c φ (E.upd [(s, some (.obj (.mp es' cl') false))]) a { w with heap := w.heap.setIfInBounds (φ s).blk (.map ents' cl') } := by
  have hlt := (Array.getElem?_eq_some_iff.1 hg).1
  have hoth : ∀ b, b ≠ (φ s).blk → (w.heap.setIfInBounds (φ s).blk (.map ents' cl'))[b]? = w.heap[b]? := by
    intro b hb
    rw [Array.getElem?_setIfInBounds]
    simp [Ne.symm hb]
  refine h.set (w' := { w with heap := w.heap.setIfInBounds (φ s).blk (.map ents' cl') }) hsl rfl rfl (by simp) rfl rfl rfl hoth ?_
  intro M' hM'
  refine ⟨ents', by simp [Array.getElem?_setIfInBounds, hlt], hsz, fun i e x he hx => ?_⟩
  obtain ⟨h1, h2, h3⟩ := hrep i e x he hx
  exact ⟨h1, h2, h3.mono (by simp) (fun b hb hM => ⟨hoth b (fun e => hM (.inr ⟨s, _, hsl, rfl, rfl, e.symm⟩)), hM' b hb hM⟩) (fun _ hu => ⟨hu, rfl⟩)⟩
theorem RepV.mp_inv {U : Nm → Bool} {M : Nat → Prop} {v : Value} {s : Nm} (h : RepV φ U w M v (.mp s)) : v = .map (some (φ s).blk) := by cases h; rfl
theorem putO_upd (ups : List (Nm × Option Row)) (d : DV) (rd : List Nm) : (Res.mk d rd ups).apply dst E = (E.upd ups).putO dst d := rfl
section ops
variable (h : SimA c φ E a w) (hd : dst.all (· < c.n) = true)
include h hd
theorem s_mkfnb {f : FuncId} {first caps : Array Operand} (hr : (SOp.mkfnb f first.toList caps.toList).den P E dst = some r) : Sound P c E a w ⟨dst, .makeFunc (.func f) first caps, ty, pos, after, g⟩ r := by
  simp only [SOp.den, val, Option.some.injEq] at hr
  subst hr
  have key : ∀ (l : List Operand) (i : Nat) (v : Value) (d : DV), (l.map a.eval)[i]? = some v → (l.map E.ev)[i]? = some d → RepV φ E.used w (Mut c φ E.slots) v d := by
    intro l i v d hv hd
    simp only [List.getElem?_map, Option.map_eq_some_iff] at hv hd
    obtain ⟨x, h1, rfl⟩ := hv
    obtain ⟨y, h2, rfl⟩ := hd
    rw [h1] at h2
    cases h2
    exact h.ev x
  refine sound_val h hd (v := .func (.func f) (first.toList.map a.eval).toArray (caps.toList.map a.eval).toArray) ?_ (.mfn (by simp) (by simp) (key _) (key _))
  have e : ∀ (l : Array Operand), l.map a.eval = (l.toList.map a.eval).toArray := by intro l; apply Array.ext'; simp
  simp [execOp, Instr.makeFunc, e]
theorem s_mkmap {t : TypeId} {rr : Option Operand} (ht : rr = none ∨ ∃ k e, P.underlying t = some (.map k e)) (hr : (SOp.mkmap rr).den P E dst = some r) : Sound P c E a w ⟨dst, .makeMap t rr, ty, pos, after, g⟩ r := by
  simp only [SOp.den] at hr
  unfold dMkmap at hr
  split at hr
  · rename_i hf
    obtain ⟨hf, hok⟩ := hf
    simp only [Option.some.injEq] at hr
    subst hr
    have hu : E.used (nmOf dst) = false := by simpa [Env.fresh] using hf
    have hrun : (execOp a.eval ⟨dst, .makeMap t rr, ty, pos, after, g⟩).run P w = .ok (.value (.map (some w.heap.size))) (w.alloc (.map #[] 0)) := by
      cases rr with
      | none => simp [execOp, Instr.makeMap, newObj, Sem.run]
      | some x =>
        rcases ht with ht | ⟨k, e, ht⟩
        · cases ht
        · have hx := h.ev x
          simp only [Option.map_some] at hok
          unfold isIntO at hok
          split at hok
          · rename_i h1; simp at h1
          · rename_i k n h1
            simp only [Option.some.injEq] at h1
            rw [h1] at hx
            simp [execOp, Instr.makeMap, run_underlying ht, (hx.v_inv).1, asInt, asIntOf, newObj, Sem.run]
          · simp at hok
    have hnew : (w.alloc (.map #[] 0)).heap[w.heap.size]? = some (.map #[] 0) := heap_alloc_new w _
    have hold : ∀ b, b < w.heap.size → (w.alloc (.map #[] 0)).heap[b]? = w.heap[b]? := fun b hb => heap_alloc_old w _ hb
    obtain ⟨φ', h2, h3, h4⟩ := h.new (w' := w.alloc (.map #[] 0)) (s := nmOf dst) (r := .obj (.mp [] 0) false) (pl := ⟨w.heap.size, 0, 0⟩) hu (nmOf_fix dst) (by simp) rfl rfl rfl hold (fun _ => Nat.le_refl _) (by
      intro φ' U' M' hU hM
      exact ⟨#[], hnew, rfl, fun i e x he => by simp at he⟩)
    refine ⟨_, _, .inl hrun, φ', h4.put hd ?_⟩
    have := RepV.mp (φ := φ') (U := (E.upd [(nmOf dst, some (.obj (.mp [] 0) false))]).used) (w := w.alloc (.map #[] 0)) (M := Mut c φ' (E.upd [(nmOf dst, some (.obj (.mp [] 0) false))]).slots) (s := nmOf dst) (by
      rw [upd_used]; simp [List.lookup])
    rw [h3] at this
    exact this
  · simp at hr
theorem s_mlen {t tt kt e : TypeId} {x : Operand} (ht : P.underlying t = some (.map kt e)) (hr : (SOp.mlen x).den P E dst = some r) : Sound P c E a w ⟨dst, .call ⟨.builtin .len, #[x], #[t]⟩, tt, pos, after, g⟩ r := by
  have hx := h.ev x
  simp only [SOp.den] at hr
  unfold dMlen at hr
  split at hr
  · rename_i he
    simp only [val, Option.some.injEq] at hr
    subst hr
    rw [he] at hx
    refine sound_val h hd (v := .int .i64 0) ?_ (.t (.v rfl))
    simp [execOp, resolve, invoke, builtin, Builtin.len_, run_underlying ht, (hx.v_inv).1, goInt]
  · rename_i s he
    rw [he] at hx
    split at hr
    · rename_i es cl fz hsl
      simp only [Option.some.injEq] at hr
      subst hr
      obtain ⟨ents, hg, hsz, _⟩ := map_block h hsl
      refine sound_val h hd (v := .int .i64 es.length) ?_ (.t (.v rfl))
      simp [execOp, resolve, invoke, builtin, Builtin.len_, run_underlying ht, hx.mp_inv, runG hg, hsz, goInt]
    · simp at hr
  · simp at hr
theorem rep_mres {ok b : Bool} {v : Value} {d : DV} {M : Nat → Prop} {U : Nm → Bool} (hv : RepV φ U w M v d) : RepV φ U w M (if ok = true then .tuple #[v, .bool b] else v) (mres ok d b) := by
  have _ := h; have _ := hd
  unfold mres
  cases ok with
  | false => exact hv
  | true =>
    refine .tup (vs := [v, .bool b]) rfl fun i u x hu hx => ?_
    match i with
    | 0 => simp at hu hx; subst hu hx; exact hv
    | 1 => simp at hu hx; subst hu hx; exact .t (.v rfl)
    | n + 2 => simp at hu
theorem s_mget {t kt e : TypeId} {z : Tree} {x k : Operand} {ok : Bool} (ht : P.underlying t = some (.map kt e)) (hz : zeroT P e = some z) (hr : (SOp.mget kt z x k ok).den P E dst = some r) : Sound P c E a w ⟨dst, .lookup t x k ok, ty, pos, after, g⟩ r := by
  have hx := h.ev x
  have hk := h.ev k
  simp only [SOp.den] at hr
  unfold dMget at hr
  obtain ⟨zv, hzr, hzrep⟩ := zeroT_run hz w
  split at hr
  · simp at hr
  · rename_i kv hkv
    have hkv := hk.flat_inv hkv
    split at hr
    · rename_i he
      rw [he] at hx
      split at hr
      · rename_i hc
        obtain ⟨hc1, hc2⟩ := hc
        simp only [val, Option.some.injEq] at hr
        subst hr
        have hf := findM_run (es := []) hc2 w
        rcases hf with ⟨_, hf⟩ | ⟨i, e', hf, _⟩
        · refine sound_val h hd (v := if ok = true then .tuple #[zv, .bool false] else zv) ?_ (rep_mres h hd (.t (hzrep _)))
          have hck := keyOk_run hc1 w
          simp only [execOp, Instr.lookup, Sem.run_bind, run_underlying ht, (hx.v_inv).1, hkv, Sem.run_pure, Result.andThen_ok, Array.isEmpty_empty, hck, hf, hzr]
        · cases hf
      · simp at hr
    · rename_i s he
      rw [he] at hx
      split at hr
      · rename_i es cl fz hsl
        obtain ⟨ents, hg, hsz, hkeys, hemp, hrep⟩ := map_block h hsl
        split at hr
        · rename_i hck
          have hck := keyOk_run hck w
          rw [← hemp] at hck
          rw [← hkeys] at hr
          split at hr
          · rename_i hf
            simp only [Option.some.injEq] at hr
            subst hr
            rcases findM_run hf w with ⟨_, hf⟩ | ⟨i, e', hf, _⟩
            · refine sound_val h hd (v := if ok = true then .tuple #[zv, .bool false] else zv) ?_ (rep_mres h hd (.t (hzrep _)))
              simp only [execOp, Instr.lookup, Sem.run_bind, run_underlying ht, hx.mp_inv, hkv, runG hg, Sem.run_pure, Result.andThen_ok, hck, hf, hzr]
            · cases hf
          · rename_i i hf
            split at hr
            · rename_i x' hx'
              simp only [Option.some.injEq] at hr
              subst hr
              rcases findM_run hf w with ⟨hf, _⟩ | ⟨i', e', hf, he', hrun⟩
              · cases hf
              · simp only [Option.some.injEq] at hf
                subst hf
                have hrv := (hrep i e' x' (by simpa using he') hx').2.2
                refine sound_val h hd (v := if ok = true then .tuple #[e'.val, .bool true] else e'.val) ?_ (rep_mres h hd hrv)
                simp only [execOp, Instr.lookup, Sem.run_bind, run_underlying ht, hx.mp_inv, hkv, runG hg, Sem.run_pure, Result.andThen_ok, hck, hrun]
            · simp at hr
          · simp at hr
        · simp at hr
      · simp at hr
    · simp at hr
theorem keepKey_run {old new k' : Value} (hk : keepKey P old new = some k') (w : World) : (Instr.keyThatStays old new).run P w = .ok k' w := by
  have _ := h; have _ := hd
  exact pureRun_run hk w
theorem s_mset {t kt e : TypeId} {x k y : Operand} {op : Op} (hop : op = .mapUpdate t x k y ∨ op = .insert t x k y) (ht : P.underlying t = some (.map kt e)) (hr : (SOp.mset kt x k y).den P E dst = some r) : Sound P c E a w ⟨dst, op, ty, pos, after, g⟩ r := by
  have hx := h.ev x
  have hk := h.ev k
  have hy := h.ev y
  simp only [SOp.den] at hr
  unfold dMset at hr
  split at hr
  · rename_i kv s hkv hes
    have hkv := hk.flat_inv hkv
    rw [hes] at hx
    split at hr
    · rename_i es cl hsl
      obtain ⟨ents, hg, hsz, hkeys, hemp, hrep⟩ := map_block h hsl
      split at hr
      · rename_i hck
        have hck := keyOk_run hck w
        rw [← hkeys] at hr
        have hfin : ∀ (w' : World) (es' : List (Value × DV × Nat)) (cl' : Nat), (Instr.mapUpdate t (a.eval x) (a.eval k) (a.eval y)).run P w = .ok () w' → SimA c φ (E.upd [(s, some (.obj (.mp es' cl') false))]) a w' →
            Sound P c E a w ⟨dst, op, ty, pos, after, g⟩ ⟨.junk, [s], [(s, some (.obj (.mp es' cl') false))]⟩ := by
          intro w' es' cl' hrun hs
          refine ⟨undef, w', .inr ⟨?_, rfl⟩, φ, hs.put hd .junk⟩
          rcases hop with rfl | rfl <;> simp [execOp, hrun]
        split at hr
        · rename_i hf
          simp only [Option.some.injEq] at hr
          subst hr
          rcases findM_run hf w with ⟨_, hf⟩ | ⟨i, e', hf, _⟩
          · refine hfin _ _ _ ?_ (h.setMap hsl hg (ents' := ents.push { key := kv, val := a.eval y, born := cl }) (by simp [hsz]) ?_)
            · simp only [Instr.mapUpdate, Sem.run_bind, run_underlying ht, hx.mp_inv, hkv, runG hg, Result.andThen_ok, hck, hf, runSet _ hg]
            · intro i e' x' he' hx'
              rw [Array.getElem?_push] at he'
              rw [List.getElem?_append] at hx'
              by_cases hi : i < es.length
              · rw [if_neg (by omega)] at he'
                rw [if_pos hi] at hx'
                exact hrep i e' x' he' hx'
              · rw [if_neg hi] at hx'
                have hi2 : i - es.length = 0 := by
                  have := (List.getElem?_eq_some_iff.1 hx').1
                  simp at this; omega
                rw [if_pos (by omega)] at he'
                simp [hi2] at hx'
                simp at he'
                subst he' hx'
                exact ⟨rfl, rfl, hy⟩
          · cases hf
        · rename_i i hf
          split at hr
          · rename_i x' hx'
            split at hr
            · rename_i k' hk'
              simp only [Option.some.injEq] at hr
              subst hr
              rcases findM_run hf w with ⟨hf, _⟩ | ⟨i', e', hf, he', hrun⟩
              · cases hf
              · simp only [Option.some.injEq] at hf
                subst hf
                have he2 : ents[i]? = some e' := by simpa using he'
                obtain ⟨hkey, hborn, hval⟩ := hrep i e' x' he2 hx'
                rw [← hkey] at hk'
                have hil : i < ents.size := (Array.getElem?_eq_some_iff.1 he2).1
                refine hfin _ _ _ ?_ (h.setMap hsl hg (ents' := ents.modify i fun e => { e with key := k', val := a.eval y }) (by simp [hsz]) ?_)
                · have hkr := keepKey_run h hd hk' w
                  have hget : ((ents[i]?).map (·.key)).getD kv = e'.key := by rw [he2]; rfl
                  simp only [Instr.mapUpdate, Sem.run_bind, run_underlying ht, hx.mp_inv, hkv, runG hg, Result.andThen_ok, hck, hrun, hget, hkr, runSet _ hg]
                · intro j e2 x2 he3 hx2
                  rw [Array.getElem?_modify] at he3
                  rw [List.getElem?_set] at hx2
                  by_cases hj : i = j
                  · subst hj
                    rw [if_pos rfl, he2] at he3
                    rw [if_pos rfl, if_pos (by omega)] at hx2
                    simp at he3 hx2
                    subst he3 hx2
                    exact ⟨rfl, hborn, hy⟩
                  · rw [if_neg hj] at he3 hx2
                    exact hrep j e2 x2 he3 hx2
            · simp at hr
          · simp at hr
        · simp at hr
      · simp at hr
    · simp at hr
  · simp at hr
theorem s_ment {t kt e : TypeId} {z : Tree} {x k : Operand} (ht : P.underlying t = some (.map kt e)) (hz : zeroT P e = some z) (hr : (SOp.ment kt z x k).den P E dst = some r) : Sound P c E a w ⟨dst, .mapEntry t x k, ty, pos, after, g⟩ r := by
  have hx := h.ev x
  have hk := h.ev k
  simp only [SOp.den] at hr
  unfold dMent at hr
  obtain ⟨zv, hzr, hzrep⟩ := zeroT_run hz w
  split at hr
  · rename_i kv s hkv hes
    have hkv := hk.flat_inv hkv
    rw [hes] at hx
    split at hr
    · rename_i es cl hsl
      obtain ⟨ents, hg, hsz, hkeys, hemp, hrep⟩ := map_block h hsl
      split at hr
      · rename_i hck
        have hck := keyOk_run hck w
        rw [← hkeys] at hr
        have hfin : ∀ (w' : World) (es' : List (Value × DV × Nat)) (cl' : Nat) (v : Value) (d : DV) (n : Nat), (Instr.mapEntry t (a.eval x) (a.eval k)).run P w = .ok (.tuple #[v, goInt n]) w' → SimA c φ (E.upd [(s, some (.obj (.mp es' cl') false))]) a w' →
            (∀ E', E' = E.upd [(s, some (.obj (.mp es' cl') false))] → RepV φ E'.used w' (Mut c φ E'.slots) v d) → Sound P c E a w ⟨dst, .mapEntry t x k, ty, pos, after, g⟩ ⟨.tup [d, .t (.v (.int .i64 n))], [s], [(s, some (.obj (.mp es' cl') false))]⟩ := by
          intro w' es' cl' v d n hrun hs hv
          refine ⟨.tuple #[v, goInt n], w', .inl (by simp [execOp, hrun]), φ, hs.put hd ?_⟩
          refine .tup (vs := [v, goInt n]) rfl fun i u x hu hx => ?_
          match i with
          | 0 => simp at hu hx; subst hu hx; exact hv _ rfl
          | 1 => simp at hu hx; subst hu hx; exact .t (.v rfl)
          | n + 2 => simp at hu
        split at hr
        · rename_i hf
          simp only [Option.some.injEq] at hr
          subst hr
          rcases findM_run hf w with ⟨_, hf⟩ | ⟨i, e', hf, _⟩
          · refine hfin _ _ _ zv _ cl ?_ (h.setMap hsl hg (ents' := ents.push { key := kv, val := zv, born := cl }) (by simp [hsz]) ?_) (fun E' _ => .t ?_)
            · simp only [Instr.mapEntry, Sem.run_bind, run_underlying ht, hx.mp_inv, hkv, runG hg, Result.andThen_ok, hck, hf, hzr, runSet _ hg, Sem.run_pure]
            · intro i e' x' he' hx'
              rw [Array.getElem?_push] at he'
              rw [List.getElem?_append] at hx'
              by_cases hi : i < es.length
              · rw [if_neg (by omega)] at he'
                rw [if_pos hi] at hx'
                exact hrep i e' x' he' hx'
              · rw [if_neg hi] at hx'
                have hi2 : i - es.length = 0 := by
                  have := (List.getElem?_eq_some_iff.1 hx').1
                  simp at this; omega
                rw [if_pos (by omega)] at he'
                simp [hi2] at hx'
                simp at he'
                subst he' hx'
                exact ⟨rfl, rfl, .t (hzrep _)⟩
            · obtain ⟨v2, hv2, hrep2⟩ := zeroT_run (w := { w with heap := w.heap.setIfInBounds (φ s).blk (.map (ents.push { key := kv, val := zv, born := cl }) (cl + 1)) }) hz
              obtain ⟨v3, hv3, hrep3⟩ := zeroT_all hz
              have : zv = v3 := by rw [hv3 w] at hzr; simpa using hzr.symm
              rw [this]
              exact hrep3 _ _
          · cases hf
        · rename_i i hf
          split at hr
          · rename_i x' hx'
            split at hr
            · rename_i k' hk'
              simp only [Option.some.injEq] at hr
              subst hr
              rcases findM_run hf w with ⟨hf, _⟩ | ⟨i', e', hf, he', hrun⟩
              · cases hf
              · simp only [Option.some.injEq] at hf
                subst hf
                have he2 : ents[i]? = some e' := by simpa using he'
                obtain ⟨hkey, hborn, hval⟩ := hrep i e' x' he2 hx'
                rw [← hkey] at hk'
                have hil : i < ents.size := (Array.getElem?_eq_some_iff.1 he2).1
                have hs := h.setMap (cl' := cl) hsl hg (ents' := ents.modify i fun e => { e with key := k' }) (es' := es.set i (k', x'.2.1, x'.2.2)) (by simp [hsz]) (by
                  intro j e2 x2 he3 hx2
                  rw [Array.getElem?_modify] at he3
                  rw [List.getElem?_set] at hx2
                  by_cases hj : i = j
                  · subst hj
                    rw [if_pos rfl, he2] at he3
                    rw [if_pos rfl, if_pos (by omega)] at hx2
                    simp at he3 hx2
                    subst he3 hx2
                    exact ⟨rfl, hborn, hval⟩
                  · rw [if_neg hj] at he3 hx2
                    exact hrep j e2 x2 he3 hx2)
                have hrow := hs.row s (.obj (.mp (es.set i (k', x'.2.1, x'.2.2)) cl) false) (by rw [upd_slots]; simp [List.lookup])
                have hval2 : ∀ E', E' = E.upd [(s, some (.obj (.mp (es.set i (k', x'.2.1, x'.2.2)) cl) false))] → RepV φ E'.used { w with heap := w.heap.setIfInBounds (φ s).blk (.map (ents.modify i fun e => { e with key := k' }) cl) } (Mut c φ E'.slots) e'.val x'.2.1 := by
                  rintro E' rfl
                  obtain ⟨_, ⟨ents2, hg2, _, hrep2⟩, _⟩ := hrow
                  have hlt := (Array.getElem?_eq_some_iff.1 hg).1
                  have hg2 : (w.heap.setIfInBounds (φ s).blk (.map (ents.modify i fun e => { e with key := k' }) cl))[(φ s).blk]? = some (.map ents2 cl) := hg2
                  rw [Array.getElem?_setIfInBounds, if_pos rfl, if_pos hlt] at hg2
                  simp only [Option.some.injEq, Obj.map.injEq, and_true] at hg2
                  subst hg2
                  exact (hrep2 i { e' with key := k' } (k', x'.2.1, x'.2.2) (by rw [Array.getElem?_modify, if_pos rfl, he2]; rfl) (by rw [List.getElem?_set, if_pos rfl, if_pos (by omega)])).2.2
                refine hfin _ _ _ e'.val _ x'.2.2 ?_ hs hval2
                have hkr := keepKey_run h hd hk' w
                have hget : ((ents[i]?).map (·.key)).getD kv = e'.key := by rw [he2]; rfl
                have hgetb : (Option.map (fun x : MapEntry => (x.born : Int)) ents[i]?).getD 0 = (x'.2.2 : Int) := by rw [he2]; simp [hborn]
                simp only [Instr.mapEntry, Sem.run_bind, run_underlying ht, hx.mp_inv, hkv, runG hg, Result.andThen_ok, hck, hrun, hget, hkr, runSet _ hg, Sem.run_pure, hgetb]
            · simp at hr
          · simp at hr
        · simp at hr
      · simp at hr
    · simp at hr
  · simp at hr
theorem s_mst {t : TypeId} {x st y : Operand} (hr : (SOp.mst x st y).den P E dst = some r) : Sound P c E a w ⟨dst, .entryStore t x st y, ty, pos, after, g⟩ r := by
  have hx := h.ev x
  have hs := h.ev st
  have hy := h.ev y
  simp only [SOp.den] at hr
  unfold dMst at hr
  split at hr
  · rename_i s κ n hes hst
    rw [hes] at hx
    rw [hst] at hs
    split at hr
    · rename_i es cl hsl
      obtain ⟨ents, hg, hsz, hkeys, hemp, hrep⟩ := map_block h hsl
      split at hr
      · rename_i i hf
        split at hr
        · rename_i x' hx'
          simp only [Option.some.injEq] at hr
          subst hr
          have hfi : ents.findIdx? (fun e => (e.born : Int) == n) = some i := by
            rw [List.findIdx?_eq_some_iff_getElem] at hf
            obtain ⟨hi, h1, h2⟩ := hf
            rw [Array.findIdx?_eq_some_iff_getElem]
            refine ⟨by omega, ?_, fun j hj => ?_⟩
            · have := (hrep i ents[i] es[i] (Array.getElem?_eq_getElem (by omega)) (List.getElem?_eq_getElem hi)).2.1
              rw [this]; exact h1
            · have := (hrep j ents[j] es[j] (Array.getElem?_eq_getElem (by omega)) (List.getElem?_eq_getElem (by omega))).2.1
              rw [this]; exact h2 j hj
          have hil : i < ents.size := by
            have := (List.getElem?_eq_some_iff.1 hx').1
            omega
          refine ⟨undef, _, .inr ⟨?_, rfl⟩, φ, (h.setMap (cl' := cl) hsl hg (ents' := ents.modify i fun e => { e with val := a.eval y }) (es' := es.set i (x'.1, E.ev y, x'.2.2)) (by simp [hsz]) ?_).put hd .junk⟩
          · simp [execOp, Instr.entryStore, hx.mp_inv, runG hg, (hs.v_inv).1, asInt, asIntOf, hfi, runSet _ hg]
          · intro j e2 x2 he3 hx2
            rw [Array.getElem?_modify] at he3
            rw [List.getElem?_set] at hx2
            by_cases hj : i = j
            · subst hj
              have he2 := Array.getElem?_eq_getElem hil
              obtain ⟨hkey, hborn, hval⟩ := hrep i ents[i] x' he2 hx'
              rw [if_pos rfl, he2] at he3
              rw [if_pos rfl, if_pos (by omega)] at hx2
              simp at he3 hx2
              subst he3 hx2
              exact ⟨hkey, hborn, hy⟩
            · rw [if_neg hj] at he3 hx2
              exact hrep j e2 x2 he3 hx2
        · simp at hr
      · simp at hr
    · simp at hr
  · simp at hr
end ops
end Go.Wt
/- Slices that are made, copies, iterations over texts. -/
namespace Go.Wt
open Go.RowKit
variable {P : Program} {c : Ctx} {φ : Nm → Place} {E : Env} {a : Act} {w : World} {dst : Option Nat} {ty : TypeId} {pos : String} {after : Array Edge} {g : Option (Nat × Bool)} {r : Res}
theorem wrap_small {n : Int} (h0 : 0 ≤ n) (h : n ≤ LIM) : IntKind.i64.wrap n = n := by
  have hl : (LIM : Int) = 100000000 := rfl
  have e64 : (2 : Int) ^ IntKind.i64.bits = 18446744073709551616 := by decide
  have e63 : (2 : Int) ^ (IntKind.i64.bits - 1) = 9223372036854775808 := by decide
  have e : n % 2 ^ IntKind.i64.bits = n := Int.emod_eq_of_lt h0 (by rw [e64]; omega)
  unfold IntKind.wrap
  simp only [e]
  rw [if_neg]
  rw [e63]
  simp only [Bool.and_eq_true, decide_eq_true_eq, not_and]
  intro _
  omega
/-- The cells of equal elements. -/
theorem repl_rep {M : Nat → Prop} {m n cap : Nat} {z : Tree} {zv : Value} (hzl : z.cells.length = m) (h0 : 0 < m) (hz : Rep w M zv z) (hle : n ≤ cap) :
    RowRep w M m ((List.range (cap * m)).map fun q => zv.cells[q % zv.cells.size]!) (List.replicate n z) := by
  obtain ⟨hzc, hz1, hzp⟩ := (RepV.t (φ := fun _ => ⟨0, 0, 0⟩) (U := fun _ => false) hz).cells_inv rfl
  have hzcl : (DV.t z).cells = z.cells.map .t := by cases z <;> rfl
  rw [hzcl, List.length_map, hzl] at hzc
  have hzs : zv.cells.size = m := by simpa using hzc
  refine ⟨fun t ht => ?_, fun k t j cc hk hj => ?_⟩
  · rw [List.eq_of_mem_replicate ht]; exact hzl
  · have hkn : k < n := by have := (List.getElem?_eq_some_iff.1 hk).1; simpa using this
    have ht : t = z := List.eq_of_mem_replicate (List.mem_of_getElem? hk)
    subst ht
    have hjm : j < m := by have := (List.getElem?_eq_some_iff.1 hj).1; omega
    have hlt : k * m + j < cap * m := by
      have : (k + 1) * m ≤ cap * m := Nat.mul_le_mul_right _ (by omega)
      rw [Nat.add_mul] at this
      omega
    have hmod : (k * m + j) % m = j := by rw [Nat.add_comm, Nat.add_mul_mod_self_right, Nat.mod_eq_of_lt hjm]
    have hjs : j < zv.cells.size := by omega
    have hget : zv.cells.toList[j]? = some zv.cells[j] := by simp [hjs]
    have hrep := hzp j _ (.t cc) hget (by rw [hzcl, List.getElem?_map, hj]; rfl)
    have hone := hrep.t_inv.one
    have h1 := hz1 _ (List.mem_of_getElem? hget)
    refine ⟨by rw [← hone]; exact h1, zv.cells[j], ?_, hrep.t_inv⟩
    rw [List.getElem?_map, List.getElem?_range hlt]
    simp [hzs, hmod, hjm]
section ops
variable (h : SimA c φ E a w) (hd : dst.all (· < c.n) = true)
include h hd
theorem s_mksl {t e : TypeId} {m : Nat} {z : Tree} {i : TypeInfo} {l cp : Operand} (ht : P.underlying t = some (.slice e)) (hm : szT P e = some m) (hi : P.info? e = some i) (hz : zeroT P e = some z) (h0 : m ≠ 0) (hzl : z.cells.length = m) (hby : i.bytes ≤ 1000)
    (hr : (SOp.mksl e i.bytes m z l cp).den P E dst = some r) : Sound P c E a w ⟨dst, .makeSlice t l cp, ty, pos, after, g⟩ r := by
  have hl := h.ev l
  have hc := h.ev cp
  simp only [SOp.den] at hr
  unfold dMksl at hr
  split at hr
  · rename_i κ ln κ' cn hel hec
    rw [hel] at hl
    rw [hec] at hc
    split at hr
    · rename_i hcond
      obtain ⟨hf, hl0, hlc, hlim, hm0⟩ := hcond
      simp only [Option.some.injEq] at hr
      subst hr
      have hf : E.used (nmOf dst) = false := by simpa [Env.fresh] using hf
      obtain ⟨i', zv, hi', hzv, hzR, _⟩ := zero_cells (φ := φ) (U := E.used) (M := Mut c φ E.slots) (w := w) hz
      rw [hi] at hi'
      cases hi'
      have hLIM : (LIM : Int) = 100000000 := rfl
      have hw1 := wrap_small hl0 (by omega : ln ≤ LIM)
      have hw2 := wrap_small (by omega : 0 ≤ cn) hlim
      have hroom : ∀ (k : Nat) (w : World), (askRoom k).run P w = .ok () w := by
        intro k w
        unfold askRoom
        split <;> simp [mark, Sem.run]
      have hb : (i.bytes : Int) * cn ≤ 100000000000 := by
        have h2 : (i.bytes : Int) ≤ 1000 := by omega
        have h3 : cn ≤ 100000000 := by omega
        have h4 : (i.bytes : Int) * cn ≤ 1000 * cn := Int.mul_le_mul_of_nonneg_right h2 (by omega)
        omega
      have hb1 : (i.bytes : Int) * ln ≤ 100000000000 := by
        have h2 : (i.bytes : Int) ≤ 1000 := by omega
        have h4 : (i.bytes : Int) * ln ≤ 1000 * ln := Int.mul_le_mul_of_nonneg_right h2 (by omega)
        omega
      have hrun : (execOp a.eval ⟨dst, .makeSlice t l cp, ty, pos, after, g⟩).run P w = .ok (.value (.slice (some ⟨w.heap.size, 0, none⟩) ln.toNat cn.toNat)) (w.alloc (.cells ((List.range (cn.toNat * m)).map fun q => zv.cells[q % zv.cells.size]!).toArray e)) := by
        have e1 : ¬ (cn < 0) := by omega
        have e2 : ¬ (281474976710656 < (i.bytes : Int) * cn) := by omega
        have e3 : ¬ (ln < 0) := by omega
        have e4 : ¬ (cn < ln) := by omega
        by_cases hn : cn.toNat * m = 0
        · simp [execOp, Instr.makeSlice, run_underlying ht, (hl.v_inv).1, (hc.v_inv).1, asInt, asIntOf, typeInfo, hi, hw1, hw2, e1, e2, e3, e4, hroom, run_sizeOf' hm, hn, newRow, newObj, Sem.run]
          rw [show Array.map (fun _ : Nat => (default : Value)) (Array.range 0) = #[] by apply Array.ext'; simp]
        · simp [execOp, Instr.makeSlice, run_underlying ht, (hl.v_inv).1, (hc.v_inv).1, asInt, asIntOf, typeInfo, hi, hw1, hw2, e1, e2, e3, e4, hroom, run_sizeOf' hm, hn, zeroValue, hzv, newRow, newObj, Sem.run]
          have earr : Array.map (fun x => zv.cells[x % zv.cells.size]!) (Array.range (cn.toNat * m)) = (List.map (fun x => zv.cells[x % zv.cells.size]!) (List.range (cn.toNat * m))).toArray := by apply Array.ext'; simp
          rw [earr]
      by_cases hc0 : cn = 0
      · subst hc0
        have hl0' : ln = 0 := by omega
        subst hl0'
        have halloc := SimA.alloc h (.cells ((List.range ((0 : Int).toNat * m)).map fun q => zv.cells[q % zv.cells.size]!).toArray e)
        obtain ⟨φ', hφ⟩ := SimA.newNil halloc hd (e := e) (m := m) (s' := nmOf dst) (ad := some ⟨w.heap.size, 0, none⟩) hf (nmOf_fix dst) hm0
        exact ⟨_, _, .inl hrun, φ', hφ⟩
      · obtain ⟨φ', hφ⟩ := SimA.newRow h hd (e := e) (m := m) (l := List.replicate ln.toNat z) (n := ln.toNat) (cap := cn.toNat) (cs := (List.range (cn.toNat * m)).map fun q => zv.cells[q % zv.cells.size]!) (s' := nmOf dst) (w1 := w) hf (nmOf_fix dst) rfl rfl rfl rfl hm0 (by simp) (by omega) (by omega) (by simp only [maxLen]; omega) (by simp) (repl_rep hzl hm0 hzR (by omega))
        exact ⟨_, _, .inl hrun, φ', hφ⟩
    · simp at hr
  · simp at hr
theorem s_copy {t e tt : TypeId} {us : List TypeId} {m : Nat} {x y : Operand} {ts : Array TypeId} (hts : ts = (t :: us).toArray) (ht : P.underlying t = some (.slice e)) (hm : ∃ i, P.info? e = some i ∧ i.size = m) (h0 : m ≠ 0)
    (hr : (SOp.copy m x y).den P E dst = some r) : Sound P c E a w ⟨dst, .call ⟨.builtin .copy, #[x, y], ts⟩, tt, pos, after, g⟩ r := by
  subst hts
  have hx := h.ev x
  have hy := h.ev y
  have h0 : 0 < m := by omega
  obtain ⟨i, hi, him⟩ := hm
  simp only [SOp.den] at hr
  unfold dCopy at hr
  split at hr
  · rename_i s n he
    rw [he] at hx
    obtain ⟨ad, hv, hU, hncap, had⟩ := hx.osl_inv
    split at hr
    · rename_i e' m' l0 l rd hsl hmore
      split at hr
      · rename_i hcond
        obtain ⟨hmm, hnl, hsrd, hln⟩ := hcond
        simp only [Option.some.injEq] at hr
        subst hr hmm
        obtain ⟨news, h1, h2, h3, h4, h5⟩ := more_sound (P := P) h h0 hy hmore
        obtain ⟨hUs, hB, _⟩ := h.row s _ hsl
        have hmin : Nat.min l.length n = l.length := Nat.min_eq_left hln
        rcases hB with ⟨hc0, hl0, hpm, _⟩ | ⟨cs, hcap, hg, hpm, _, hcs, hlc, hcm, hmz, hR⟩
        · have hn0 : n = 0 := by omega
          subst hn0
          have hl : l = [] := List.eq_nil_of_length_eq_zero (by omega)
          subst hl hl0
          have hnews : news = [] := List.eq_nil_of_length_eq_zero (by rw [h3]; simp)
          subst hnews
          have hup : E.upd [(s, some (.rows e' m' ([] ++ List.drop ([] : List Tree).length []) false))] = E := by
            refine Env.ext' rfl (funext fun z => ?_) (funext fun z => ?_)
            · rw [upd_slots, lookup1]
              by_cases hz : z = s
              · subst hz; simp [hsl]
              · simp [hz]
            · rw [upd_used, lookup1]
              by_cases hz : z = s
              · subst hz; simp [hU]
              · simp [hz]
          refine ⟨.int .i64 0, w, .inl ?_, φ, ?_⟩
          · have hfc := h2 w rfl
            simp only [List.length_nil] at hfc h1
            cases ad <;> simp [execOp, resolve, invoke, builtin, Builtin.copy_, run_underlying ht, hv, h1, sizeOf, typeInfo, hi, him, hfc, storeCells, goInt]
          · unfold Res.apply
            rw [hup]
            exact h.put hd (.t (.v rfl))
        · have hadd := had hcap
          subst hadd
          have hfit : 0 + 0 + news.length ≤ cs.toArray.size := by
            simp only [List.size_toArray, hcs, h3, Nat.zero_add]
            exact Nat.mul_le_mul_right _ (by omega)
          have hst := run_storeCells_at P (φ s).blk 0 e' news 0 cs.toArray w hg hfit (fun v hv => by rw [← one1_cell]; exact h4 v hv)
          simp only [Nat.add_zero, List.take_zero, List.nil_append, Nat.zero_add] at hst
          have hrow2 : RowRep w (Mut c φ E.slots) m' (news ++ cs.drop news.length) (l ++ l0.drop l.length) := by
            refine ⟨fun t ht => ?_, fun k t j cc hk hj => ?_⟩
            · rcases List.mem_append.1 ht with ht | ht
              · exact h5.1 t ht
              · exact hmz t (List.mem_of_mem_drop ht)
            · rw [List.getElem?_append] at hk
              by_cases hkl : k < l.length
              · rw [if_pos hkl] at hk
                obtain ⟨h6, v, h7, h8⟩ := h5.2 k t j cc hk hj
                refine ⟨h6, v, ?_, h8⟩
                rw [List.getElem?_append_left (List.getElem?_eq_some_iff.1 h7).1]
                exact h7
              · rw [if_neg hkl, List.getElem?_drop] at hk
                have e1 : l.length + (k - l.length) = k := by omega
                rw [e1] at hk
                obtain ⟨h6, v, h7, h8⟩ := hR k t j cc hk hj
                refine ⟨h6, v, ?_, h8⟩
                have hge : l.length * m' ≤ k * m' := Nat.mul_le_mul_right _ (by omega)
                rw [List.getElem?_append_right (by omega), List.getElem?_drop]
                have e2 : news.length + (k * m' + j - news.length) = k * m' + j := by omega
                rw [e2]; exact h7
          refine ⟨.int .i64 l.length, w.setRow (φ s).blk (news ++ cs.drop news.length).toArray, .inl ?_, φ, ?_⟩
          · have hfc := h2 w rfl
            simp [execOp, resolve, invoke, builtin, Builtin.copy_, run_underlying ht, hv, h1, sizeOf, typeInfo, hi, him, hmin, hfc, hst, goInt]
          · refine SimA.put ?_ hd (.t (.v rfl))
            refine h.set (w' := w.setRow (φ s).blk (news ++ cs.drop news.length).toArray) hsl rfl (by simpa [Row.real] using hcap) (by simp) rfl rfl rfl (fun b hb => setRow_other w _ b _ hb) ?_
            intro M' hM'
            have hg' := setRow_heap w (φ s).blk _ (news ++ cs.drop news.length).toArray e' _ hg
            have hR' := hrow2.mono (w' := w.setRow (φ s).blk (news ++ cs.drop news.length).toArray) (M' := M') (by simp) (fun b hlt hM => ⟨setRow_other w _ b _ (fun e => hM (.inr ⟨s, _, hsl, rfl, by simpa [Row.real] using hcap, e.symm⟩)), hM' b hlt hM⟩)
            refine .inr ⟨_, hcap, hg', hpm, h0, ?_, ?_, hcm, hR'.1, hR'.2⟩
            · have : news.length ≤ cs.length := by simpa using hfit
              simp only [List.length_append, List.length_drop]
              omega
            · simp only [List.length_append, List.length_drop]; omega
      · simp at hr
    · simp at hr
  · simp at hr
theorem s_rng {t : TypeId} {x : Operand} (ht : P.underlying t = some .string) (hr : (SOp.rng x).den P E dst = some r) : Sound P c E a w ⟨dst, .range t x, ty, pos, after, g⟩ r := by
  have hx := h.ev x
  simp only [SOp.den] at hr
  unfold dRng at hr
  split at hr
  · rename_i str he
    rw [he] at hx
    split at hr
    · rename_i hf
      simp only [Option.some.injEq] at hr
      subst hr
      have hu : E.used (nmOf dst) = false := by simpa [Env.fresh] using hf
      have hrun : (execOp a.eval ⟨dst, .range t x, ty, pos, after, g⟩).run P w = .ok (.value (.pointer (some ⟨w.heap.size, 0, none⟩))) (w.alloc (.stringIter str 0)) := by
        simp [execOp, Instr.range, run_underlying ht, (hx.v_inv).1, newObj, Sem.run]
      have hnew : (w.alloc (.stringIter str 0)).heap[w.heap.size]? = some (.stringIter str 0) := heap_alloc_new w _
      have hold : ∀ b, b < w.heap.size → (w.alloc (.stringIter str 0)).heap[b]? = w.heap[b]? := fun b hb => heap_alloc_old w _ hb
      obtain ⟨φ', h2, h3, h4⟩ := h.new (w' := w.alloc (.stringIter str 0)) (s := nmOf dst) (r := .obj (.it str 0) false) (pl := ⟨w.heap.size, 0, 0⟩) hu (nmOf_fix dst) (by simp) rfl rfl rfl hold (fun _ => Nat.le_refl _) (by
        intro φ' U' M' hU hM
        exact hnew)
      refine ⟨_, _, .inl hrun, φ', h4.put hd ?_⟩
      have := RepV.ptr (φ := φ') (U := (E.upd [(nmOf dst, some (.obj (.it str 0) false))]).used) (w := w.alloc (.stringIter str 0)) (M := Mut c φ' (E.upd [(nmOf dst, some (.obj (.it str 0) false))]).slots) (s := nmOf dst) (k := 0) (j := 0) (by
        rw [upd_used]; simp [List.lookup])
      rw [h3] at this
      simpa using this
    · simp at hr
  · simp at hr
theorem s_nxt {x : Operand} (hr : (SOp.nxt x).den P E dst = some r) : Sound P c E a w ⟨dst, .next x true, ty, pos, after, g⟩ r := by
  have hx := h.ev x
  simp only [SOp.den] at hr
  unfold dNxt at hr
  split at hr
  · rename_i s he
    rw [he] at hx
    obtain ⟨hv, _⟩ := hx.ptr_inv
    simp only [Nat.zero_mul, Nat.zero_add] at hv
    split at hr
    · rename_i str p hsl
      have hg : w.heap[(φ s).blk]? = some (.stringIter str p) := (h.row s _ hsl).2.1
      have hgo : (getObj (φ s).blk).run P w = .ok (.stringIter str p) w := by simp [getObj, Sem.run, hg]
      have hlt := (Array.getElem?_eq_some_iff.1 hg).1
      split at hr
      · rename_i hp
        simp only [Option.some.injEq] at hr
        subst hr
        have hso : ∀ o, (setObj (φ s).blk o).run P w = .ok () { w with heap := w.heap.setIfInBounds (φ s).blk o } := by intro o; simp [setObj, Sem.run, hg]
        have hoth : ∀ o b, b ≠ (φ s).blk → (w.heap.setIfInBounds (φ s).blk o)[b]? = w.heap[b]? := by
          intro o b hb
          rw [Array.getElem?_setIfInBounds]
          simp [Ne.symm hb]
        refine ⟨.tuple #[.bool true, goInt p, .int .i32 (Utf8.decode str p).1], { w with heap := w.heap.setIfInBounds (φ s).blk (.stringIter str (p + (Utf8.decode str p).2)) }, .inl ?_, φ, SimA.put ?_ hd ?_⟩
        · simp [execOp, Instr.next, hv, hgo, hp, hso]
        · refine h.set (w' := { w with heap := w.heap.setIfInBounds (φ s).blk (.stringIter str (p + (Utf8.decode str p).2)) }) hsl rfl rfl (by simp) rfl rfl rfl (hoth _) ?_
          intro M' hM'
          show (w.heap.setIfInBounds (φ s).blk _)[(φ s).blk]? = _
          simp [Array.getElem?_setIfInBounds, hlt]
        · refine .tup (vs := [.bool true, goInt p, .int .i32 (Utf8.decode str p).1]) rfl fun i u x hu hx => ?_
          match i with
          | 0 => simp at hu hx; subst hu hx; exact .t (.v rfl)
          | 1 => simp at hu hx; subst hu hx; exact .t (.v rfl)
          | 2 => simp at hu hx; subst hu hx; exact .t (.v rfl)
          | n + 3 => simp at hu
      · rename_i hp
        simp only [Option.some.injEq] at hr
        subst hr
        refine sound_val h hd (v := .tuple #[.bool false]) ?_ (.tup (vs := [.bool false]) rfl fun i u x hu hx => ?_)
        · simp [execOp, Instr.next, hv, hgo, hp]
        · match i with
          | 0 => simp at hu hx; subst hu hx; exact .t (.v rfl)
          | n + 1 => simp at hu
    · simp at hr
  · simp at hr
end ops
end Go.Wt
