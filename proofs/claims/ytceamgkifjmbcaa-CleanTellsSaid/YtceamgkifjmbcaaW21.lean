/- Walks of the program: a map's keys, sorted; the last record's offset of each key. -/
import Derived.Test.YtceamgkifjmbcaaPMap2
import Derived.Test.YtceamgkifjmbcaaIter
import Derived.Test.YtceamgkifjmbcaaMath6

namespace Go.Proofs.Ytceamgkifjmbcaa
open Go.RowKit Go.Wm Go.Maps
theorem mem_strKeys {w : World} {b n : Nat} {D : DataW Unit} (hown : w.ownsMap Try.prog 9 placeR b n D) : (strKeys D).Nodup ∧ ∀ x, x ∈ strKeys D ↔ has D (.string x) = true := by
  obtain ⟨es, hD, hpw, _⟩ := hown.entries klaw
  obtain ⟨es', hD', hko⟩ := hown.keysOf
  obtain rfl : es = es' := by rw [hD] at hD'; simpa using hD'
  subst hD
  have hk : ∀ p ∈ es, ∃ x, p.1 = .string x := fun p hp => by obtain ⟨v, hv⟩ := hko p hp; obtain ⟨x, _, hx, _⟩ := Maps.keyOf_str Try.underlying9 hv; exact ⟨x, hx⟩
  constructor
  · show (es.map fun p => strOf p.1).Nodup
    refine List.pairwise_map.2 (hpw.imp_of_mem fun {p q} hp' hq' hne e => hne ?_)
    obtain ⟨a, ha⟩ := hk p hp'
    obtain ⟨b, hb⟩ := hk q hq'
    rw [ha, hb] at e ⊢
    exact congrArg _ e
  · intro x
    rw [has_eq, List.any_eq_true]
    show x ∈ (es.map fun p => strOf p.1) ↔ _
    rw [List.mem_map]
    constructor
    · rintro ⟨p, hp', rfl⟩
      obtain ⟨a, ha⟩ := hk p hp'
      exact ⟨p, hp', by rw [ha]; simp [Lit.sameKey, strOf]⟩
    · rintro ⟨p, hp', hs⟩
      obtain ⟨a, ha⟩ := hk p hp'
      rw [ha] at hs
      exact ⟨p, hp', by rw [ha]; simpa [Lit.sameKey, strOf] using hs⟩
def bytesOfL (x : List UInt8) : ByteArray := ⟨x.toArray⟩
theorem bytesOfL_data (k : ByteArray) : bytesOfL k.data.toList = k := by simp [bytesOfL]
theorem data_bytesOfL (x : List UInt8) : (bytesOfL x).data.toList = x := by simp [bytesOfL]
theorem bytesOfL_inj {x y : List UInt8} (h : bytesOfL x = bytesOfL y) : x = y := by rw [← data_bytesOfL x, ← data_bytesOfL y, h]
/-- The keys of which F tells something, each once, in their order. -/
structure KeysAre (F : ByteArray → Option (Int × Int)) (ks : List ByteArray) : Prop where
  rising : ks.Pairwise (fun a b => a.data.toList ≤ b.data.toList)
  once : ks.Nodup
  mem : ∀ k, k ∈ ks ↔ (F k).isSome = true
  small : ∀ k ∈ ks, k.size ≤ maxLen
def OwnStrs (w : World) (base : Nat) (v : Value) (ks : List ByteArray) : Prop := w.ownsRow base 9 1 v ks.length (ks.map (Value.string ·))
theorem OwnStrs.below {w w' : World} {base : Nat} {v : Value} {ks : List ByteArray} (h : OwnStrs w base v ks) (hb : Below w.heap.size w w') : OwnStrs w' base v ks := ownsRow_below h hb
theorem OwnStrs.shape {w : World} {base : Nat} {v : Value} {ks : List ByteArray} (h : OwnStrs w base v ks) : (v = .slice none 0 0 ∧ ks = []) ∨ ∃ g cap, v = .slice (some ⟨g, 0, none⟩) ks.length cap ∧ ∀ k (hk : k < ks.length), w.cell? ⟨g, k, none⟩ = some (.string ks[k]) := by
  rcases h.2 with ⟨h1, h2⟩ | ⟨g', cap, cur, rfl, _⟩
  · exact .inl ⟨h1, List.eq_nil_of_length_eq_zero h2⟩
  · refine .inr ⟨g', cap, rfl, fun k hk => ?_⟩
    have := World.ownsRow.cells (v := .slice (some ⟨g', 0, none⟩) ks.length cap) h rfl k (.string ks[k]) (by simp [hk])
    have e : (⟨g', 0, none⟩ : Addr).add k = ⟨g', k, none⟩ := by simp only [Addr.add]; split <;> simp_all
    rwa [e] at this
theorem mapsKeys_any (m : Nat) (w : World) : Calls Try.prog 35 #[.map (some m)] w fun e w' => e = .returned (.func (.func 57) #[] #[.pointer (some ⟨w.heap.size, 0, none⟩)]) ∧ w' = w.alloc (.cells #[.map (some m)] 68) :=
  callsIn_wide.1 (Try.maps_Keys_35 (some m) w)
theorem sortedKeys_any (m n : Nat) (F : ByteArray → Option (Int × Int)) (w : World) (h : PlaceMap2 w m n F) (hn : n ≤ 1000000000000) :
    Calls Try.prog 34 #[.func (.func 57) #[] #[.pointer (some ⟨w.heap.size, 0, none⟩)]] (w.alloc (.cells #[.map (some m)] 68)) fun e w' => ∃ v ks, e = .returned v ∧ KeysAre F ks ∧ OwnStrs w' w.heap.size v ks ∧ ks.length ≤ n ∧
      Below (w.alloc (.cells #[.map (some m)] 68)).heap.size (w.alloc (.cells #[.map (some m)] 68)) w' := by
  obtain ⟨D, h1, h2, h3⟩ := h
  have hsz := h1.size_le
  refine (callsIn_wide.1 (Try.slices_Sorted_keys_34_35 m n D placeR w h1 (by simp only [maxLen]; omega) (by omega))).mono ?_
  rintro e w' ⟨v, ss, rfl, hp, hrow, _, hb⟩
  obtain ⟨hnd, hmem⟩ := mem_strKeys h1
  have hperm : (ss.mergeSort (fun x y => decide (x ≤ y))).Perm (strKeys D) := (List.mergeSort_perm ss _).trans hp
  refine ⟨v, (ss.mergeSort (fun x y => decide (x ≤ y))).map bytesOfL, rfl, ⟨?_, ?_, ?_, ?_⟩, ?_, ?_, hb⟩
  · rw [List.pairwise_map]
    have tr : ∀ a b c : List UInt8, (decide (a ≤ b)) = true → (decide (b ≤ c)) = true → (decide (a ≤ c)) = true := fun a b c h1 h2 => by simp only [decide_eq_true_eq] at *; exact List.le_trans h1 h2
    have to : ∀ a b : List UInt8, (decide (a ≤ b) || decide (b ≤ a)) = true := fun a b => by simp only [Bool.or_eq_true, decide_eq_true_eq]; exact List.le_total a b
    refine (List.pairwise_mergeSort tr to ss).imp fun {a b} h => ?_
    rw [data_bytesOfL, data_bytesOfL]
    simpa using h
  · rw [List.nodup_iff_pairwise_ne, List.pairwise_map]
    exact (List.nodup_iff_pairwise_ne.1 (hperm.nodup_iff.2 hnd)).imp (fun {a b} h e => h (bytesOfL_inj e))
  · intro k
    rw [List.mem_map]
    constructor
    · rintro ⟨x, hx, rfl⟩
      rw [← h3, data_bytesOfL]
      exact (hmem x).1 (hperm.mem_iff.1 hx)
    · intro hk
      refine ⟨k.data.toList, hperm.mem_iff.2 ((hmem _).2 ?_), bytesOfL_data k⟩
      rw [h3]; exact hk
  · intro k hk
    obtain ⟨x, hx, rfl⟩ := List.mem_map.1 hk
    have := strKeys_le h1 Try.underlying9 x (hperm.mem_iff.1 hx)
    simpa [bytesOfL, ByteArray.size] using this
  · have hl : ((ss.mergeSort (fun x y => decide (x ≤ y))).map bytesOfL).length = ss.length := by simp
    unfold OwnStrs
    rw [hl, List.map_map]
    exact ownsRow_mono hrow (by simp)
  · have : (ss.mergeSort (fun x y => decide (x ≤ y))).length = ss.length := by simp
    rw [List.length_map, this, hp.length_eq]
    have e : (strKeys D).length = Maps.size D := by
      obtain ⟨es, rfl⟩ := h1.isMap
      simp [strKeys, Maps.size]
    rw [e]; exact hsz
/-- A mark: a key, and its last record's offset. -/
structure Mark where
  key : ByteArray
  off : Int
  deriving DecidableEq
def Mark.cells (m : Mark) : List Value := [.string m.key, .int .i64 0, .int .i64 0, .int .i64 m.off]
def OwnMarks (w : World) (base : Nat) (v : Value) (ms : List Mark) : Prop := w.ownsRow base 41 4 v ms.length (ms.flatMap Mark.cells)
theorem OwnMarks.nil (w : World) (base : Nat) : OwnMarks w base (.slice none 0 0) [] := World.ownsRow_nil w base 41 4
theorem OwnMarks.below {w w' : World} {base : Nat} {v : Value} {ms : List Mark} (h : OwnMarks w base v ms) (hb : Below w.heap.size w w') : OwnMarks w' base v ms := ownsRow_below h hb
structure MarkAt (w : World) (b o : Nat) (m : Mark) : Prop where
  c0 : w.cell? ⟨b, o, none⟩ = some (.string m.key)
  c1 : w.cell? ⟨b, o + 1, none⟩ = some (.int .i64 0)
  c2 : w.cell? ⟨b, o + 2, none⟩ = some (.int .i64 0)
  c3 : w.cell? ⟨b, o + 3, none⟩ = some (.int .i64 m.off)
theorem Try.inf41 : (Try.prog.info? 41).map (fun i => (i.zero, i.size, i.bytes)) = some (some (.agg #[.string ⟨#[]⟩, .int .i64 0, .int .i64 0, .int .i64 0]), 4, 40) := by kernel_rfl
/-- 'append(out, m)' of one mark. -/
theorem wpList_append_mark {w : World} {ops : Array Oper} {rest : List Oper} {o : Oper} {a : Act} {Q : Exit → Act → World → Prop} (hgd : o.guard = none) (s x : Operand)
    (ho : o.op = .call { callee := .builtin .append, args := #[s, x], argTypes := #[36, 36] })
    (base : Nat) (v : Value) (ms : List Mark) (m : Mark) (hs : a.eval s = v) (hown : OwnMarks w base v ms)
    (g : Nat) (hx : a.eval x = .slice (some ⟨g, 0, none⟩) 1 1) (hr : MarkAt w g 0 m)
    (hn : ms.length ≤ 100000000) (hbase : base ≤ w.heap.size)
    (h : ∀ v' w', OwnMarks w' base v' (ms ++ [m]) → Below base w w' → w.grownBy w' v.ownBlock → wpList Try.prog ops Q rest (a.put o.dst v') w') : wpList Try.prog ops Q (o :: rest) a w := by
  obtain ⟨r0, r1, r2, r3⟩ := hr
  refine wpList_append1 hgd s x 36 ho base 41 _ 4 40 Try.underlying36 Try.inf41 rfl (by decide) v ms.length (ms.flatMap Mark.cells) hs hown g m.cells hx rfl ?_ ?_ hn (by decide) hbase ?_
  · intro j u hj
    match j, hj with
    | 0, hj => simp [Mark.cells] at hj; subst hj; exact r0
    | 1, hj => simp [Mark.cells] at hj; subst hj; exact r1
    | 2, hj => simp [Mark.cells] at hj; subst hj; exact r2
    | 3, hj => simp [Mark.cells] at hj; subst hj; exact r3
    | j + 4, hj => simp [Mark.cells] at hj
  · intro u hu
    simp [Mark.cells] at hu
    rcases hu with rfl | rfl | rfl <;> rfl
  · intro v' w' ho' hb hg
    refine h v' w' ?_ hb hg
    unfold OwnMarks
    simpa using ho'
theorem step_append_mark {w : World} {ops : Array Oper} {o : Oper} {a : Act} {K : Act → World → Prop} {Q : Exit → Act → World → Prop} {E : Prop} (hgd : o.guard = none) (s x : Operand)
    (ho : o.op = .call { callee := .builtin .append, args := #[s, x], argTypes := #[36, 36] })
    (base : Nat) (v : Value) (ms : List Mark) (m : Mark) (hs : a.eval s = v) (hown : OwnMarks w base v ms)
    (g : Nat) (hx : a.eval x = .slice (some ⟨g, 0, none⟩) 1 1) (hr : MarkAt w g 0 m)
    (hn : ms.length ≤ 100000000) (hbase : base ≤ w.heap.size)
    (h : ∀ v' w', OwnMarks w' base v' (ms ++ [m]) → Below base w w' → w.grownBy w' v.ownBlock → K (a.put o.dst v') w') :
    if Region.wanted o (yielded ops a.tmps) = true then Oper.wp Try.prog o a w K Q else E := by
  have hw : Region.wanted o (yielded ops a.tmps) = true := by simp [Region.wanted, hgd]
  rw [if_pos hw]
  obtain ⟨r0, r1, r2, r3⟩ := hr
  obtain ⟨i', hi', hz, hsize, hby⟩ := info_parts Try.inf41
  obtain ⟨v', w', hr', h2, h3, _⟩ := run_append_own (P := Try.prog) w base 36 o.type 41 i' _ 4 40 Try.underlying36 hi' hz hsize hby rfl (by decide) v ms.length (ms.flatMap Mark.cells) hown ⟨g, 0, none⟩ 1 1 m.cells rfl (by
    intro j u hj
    have e : (⟨g, 0, none⟩ : Addr).add j = ⟨g, j, none⟩ := by simp only [Addr.add]; split <;> simp_all
    rw [e]
    match j, hj with
    | 0, hj => simp [Mark.cells] at hj; subst hj; exact r0
    | 1, hj => simp [Mark.cells] at hj; subst hj; exact r1
    | 2, hj => simp [Mark.cells] at hj; subst hj; exact r2
    | 3, hj => simp [Mark.cells] at hj; subst hj; exact r3
    | j + 4, hj => simp [Mark.cells] at hj) (by
    intro u hu
    simp [Mark.cells] at hu
    rcases hu with rfl | rfl | rfl <;> rfl) (by simp only [maxLen]; omega) (by omega) hbase
  unfold Oper.wp execOp
  simp only [ho, resolve, invoke, builtin, Sem.run_bind, Sem.run_pure, Result.andThen_ok, List.map_toArray, List.map_cons, List.map_nil, hs, hx, hr']
  refine h v' w' ?_ (below_grown h3 hbase fun k hk => (hown.lt k hk).1) h3
  unfold OwnMarks
  simpa using h2
/-- The record at a place. -/
def recAt (bs : List Batch) (p : Int × Int) : Option Rec := (bs[p.1.toNat]?).bind fun x => x.recs[p.2.toNat]?
def offAt (bs : List Batch) (p : Int × Int) : Int := match recAt bs p with | some r => r.off | none => 0
def markOf (bs : List Batch) (l : List Gone) (to : Int) (k : ByteArray) : Mark := ⟨k, offAt bs (lookF bs l to k)⟩
/-- Where a key's last record is, there is a record with that key, in a batch that counts. -/
def InPlace (bs : List Batch) (l : List Gone) (to : Int) (key : ByteArray) (p : Int × Int) : Prop :=
  ∃ (i j : Nat) (x : Batch) (r : Rec), p = ((i : Int), (j : Int)) ∧ bs[i]? = some x ∧ x.recs[j]? = some r ∧ r.key = key ∧ countsB l to x = true
theorem lastInTo_place (bs : List Batch) (l : List Gone) (to : Int) (key : ByteArray) (i : Nat) (x : Batch) (hi : bs[i]? = some x) (hc : countsB l to x = true) (s : Int × Int) (hs : s = (-1, -1) ∨ InPlace bs l to key s) :
    ∀ k, k ≤ x.recs.length → lastInTo key i x.recs s k = (-1, -1) ∨ InPlace bs l to key (lastInTo key i x.recs s k)
  | 0, _ => hs
  | k + 1, h => by
    have ih := lastInTo_place bs l to key i x hi hc s hs k (by omega)
    rw [lastInTo_succ key i x.recs s k (by omega)]
    split
    · rename_i hk
      exact .inr ⟨i, k, x, _, rfl, hi, List.getElem?_eq_getElem (by omega), hk, hc⟩
    · exact ih
theorem lastTo_place (bs : List Batch) (l : List Gone) (to : Int) (key : ByteArray) : ∀ n, n ≤ bs.length → lastTo bs l to key n = (-1, -1) ∨ InPlace bs l to key (lastTo bs l to key n)
  | 0, _ => .inl rfl
  | n + 1, h => by
    have ih := lastTo_place bs l to key n (by omega)
    have hn : bs[n]? = some bs[n] := List.getElem?_eq_getElem (by omega)
    rw [lastTo_succ' bs l to key n _ hn]
    split
    · rename_i hc
      exact lastInTo_place bs l to key n _ hn hc _ ih _ (Nat.le_refl _)
    · exact ih
theorem lookO_some {bs : List Batch} {l : List Gone} {to : Int} {k : ByteArray} (h : (lookO bs l to k).isSome = true) : k ≠ ⟨#[]⟩ ∧ lookF bs l to k = lastG bs l to k ∧ lookO bs l to k = some (lastG bs l to k) ∧ InPlace bs l to k (lastG bs l to k) := by
  unfold lookO at h
  split at h
  · simp at h
  · rename_i hne
    unfold oOf at h
    split at h
    · simp at h
    · rename_i h1
      refine ⟨hne, ?_, ?_, (lastTo_place bs l to k bs.length (Nat.le_refl _)).resolve_left h1⟩
      · unfold lookF zOf; rw [if_neg hne, if_neg h1]
      · unfold lookO oOf; rw [if_neg hne, if_neg h1]
end Go.Proofs.Ytceamgkifjmbcaa
