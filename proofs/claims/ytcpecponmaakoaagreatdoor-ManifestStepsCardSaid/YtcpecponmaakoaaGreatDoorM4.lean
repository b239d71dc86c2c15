/- Walk: the reference's put. -/
import Derived.Test.YtcpecponmaakoaaGreatDoorH4
import Derived.Test.YtcpecponmaakoaaGreatDoorN1
import Derived.Sort.Walk0
namespace Go.Proofs.YtcpecponmaakoaaGreatDoor
open Go.RowKit Go.Wm Go.Sort
def lessT (x s : ByteArray) : Bool := Op.bytesLess x.toList s.toList
theorem lessT_iff (x s : ByteArray) : lessT x s = true ↔ bsOf x < bsOf s := by
  unfold lessT bsOf
  rw [bytesLess_eq, ByteArray.toList_eq, ByteArray.toList_eq]
  simp
def putT (l : List ByteArray) (s : ByteArray) : List ByteArray := (putB (l.map bsOf) (bsOf s)).map txOf
theorem bsOf_inj {x y : ByteArray} (h : bsOf x = bsOf y) : x = y := by rw [← txOf_bsOf x, ← txOf_bsOf y, h]
theorem map_tx (l : List ByteArray) : (l.map bsOf).map txOf = l := by
  rw [List.map_map]
  conv => rhs; rw [← List.map_id l]
  exact List.map_congr_left fun s _ => txOf_bsOf s
theorem putT_nil (s : ByteArray) : putT [] s = [s] := by
  show [txOf (bsOf s)] = [s]
  rw [txOf_bsOf]
theorem putT_cons (x : ByteArray) (l : List ByteArray) (s : ByteArray) : putT (x :: l) s = if lessT x s = true then x :: putT l s else if x = s then x :: l else s :: x :: l := by
  unfold putT
  rw [List.map_cons, putB]
  by_cases h : bsOf x < bsOf s
  · rw [if_pos h, if_pos ((lessT_iff x s).2 h), List.map_cons, txOf_bsOf]
  · rw [if_neg h, if_neg (fun h' => h ((lessT_iff x s).1 h'))]
    by_cases he : x = s
    · rw [if_pos (by rw [he]), if_pos he, List.map_cons, txOf_bsOf, map_tx]
    · rw [if_neg (fun h' => he (bsOf_inj h')), if_neg he, List.map_cons, List.map_cons, txOf_bsOf, txOf_bsOf, map_tx]
theorem putT_at (s : ByteArray) : ∀ (l : List ByteArray) (k : Nat) (_ : k ≤ l.length), (∀ j (h : j < l.length), j < k → lessT l[j] s = true) → (∀ h : k < l.length, lessT l[k] s = false) →
    putT l s = if (∃ h : k < l.length, l[k] = s) then l else l.take k ++ s :: l.drop k
  | [], k, hk, _, _ => by
    have : k = 0 := by simpa using hk
    subst this
    rw [putT_nil, if_neg (by simp)]
    rfl
  | x :: l, 0, _, _, h => by
    have h0 : lessT x s = false := h (by simp)
    rw [putT_cons, if_neg (by rw [h0]; simp)]
    by_cases he : x = s
    · rw [if_pos he, if_pos ⟨by simp, he⟩]
    · rw [if_neg he, if_neg (by rintro ⟨_, h'⟩; exact he h')]
      rfl
  | x :: l, k + 1, hk, hj, h => by
    have h0 : lessT x s = true := hj 0 (by simp) (by omega)
    rw [putT_cons, if_pos h0]
    have ih := putT_at s l k (by simpa using hk) (fun j hjl hjk => hj (j + 1) (by simp; omega) (by omega)) (fun hkl => h (by simp; omega))
    rw [ih]
    by_cases he : ∃ h : k < l.length, l[k] = s
    · rw [if_pos he, if_pos (by obtain ⟨h1, h2⟩ := he; exact ⟨by simp; omega, h2⟩)]
    · rw [if_neg he, if_neg (by rintro ⟨h1, h2⟩; exact he ⟨by simpa using h1, h2⟩)]
      rfl
theorem putT_length (l : List ByteArray) (s : ByteArray) : (putT l s).length ≤ l.length + 1 := by
  induction l with
  | nil => rw [putT_nil]; simp
  | cons x l ih =>
    rw [putT_cons]
    split
    · simp; exact ih
    · split
      · simp
      · simp
theorem txCells_one (l : List ByteArray) : ∀ u ∈ txCells l, u.oneCell' = true := by
  intro u hu
  simp [txCells] at hu
  obtain ⟨s, _, rfl⟩ := hu
  rfl
theorem txCells_length (l : List ByteArray) : (txCells l).length = l.length := by simp [txCells]
theorem TextsAt.cells {w : World} {a : Option Addr} {cap : Nat} {l : List ByteArray} (h : TextsAt w (.slice a l.length cap) l) : l = [] ∨ ∃ b o, a = some ⟨b, o, none⟩ ∧ ∀ j u, (txCells l)[j]? = some u → w.cell? ⟨b, o + j, none⟩ = some u := by
  obtain ⟨a', cap', e, hn, hs⟩ := h
  cases e
  by_cases h0 : l.length = 0
  · exact .inl (List.eq_nil_of_length_eq_zero h0)
  · right
    rcases hs.shape with ⟨b, o, rfl, hx⟩ | hz
    · refine ⟨b, o, rfl, fun j u hj => ?_⟩
      have hjl : j < l.length := by
        have := (List.getElem?_eq_some_iff.1 hj).1
        rwa [txCells_length] at this
      have := hx j hjl l[j] (List.getElem?_eq_getElem hjl)
      rw [Nat.mul_one] at this
      rw [this]
      simp only [txCells, List.getElem?_map, List.getElem?_eq_getElem hjl, Option.map_some] at hj
      exact hj
    · exact absurd hz h0
/-- 'append(s, l...)' of texts, onto a row of the call's own. -/
theorem wpList_append_txs {P : Program} {w : World} {ops : Array Oper} {rest : List Oper} {o : Oper} {a : Act} {Q : Exit → Act → World → Prop} (hgd : o.guard = none) (s x : Operand)
    (ho : o.op = .call { callee := .builtin .append, args := #[s, x], argTypes := #[35, 35] })
    (ht : P.underlying 35 = some (.slice 9)) (hi : (P.info? 9).map (fun i => (i.zero, i.size, i.bytes)) = some (some (.string ⟨#[]⟩), 1, 16))
    (base : Nat) (v : Value) (n cx : Nat) (ax : Option Addr) (xs l : List ByteArray) (hs : a.eval s = v) (hown : OwnTexts w base v xs) (hx : a.eval x = .slice ax n cx) (hln : n = l.length) (hl : TextsAt w (.slice ax n cx) l)
    (hn : xs.length ≤ 1000000) (hbase : base ≤ w.heap.size)
    (h : ∀ v' w', OwnTexts w' base v' (xs ++ l) → Below base w w' → w.grownBy w' v.ownBlock → wpList P ops Q rest (a.put o.dst v') w') : wpList P ops Q (o :: rest) a w := by
  subst hln
  have hl' := hl
  obtain ⟨_, _, e, hm, _⟩ := hl
  obtain ⟨i, hi', hz, hsize, hby⟩ := info_parts hi
  rcases ax with _ | ⟨b0, o0, s0⟩
  · rcases TextsAt.cells hl' with h0 | ⟨b, o', ha, _⟩
    · subst h0
      refine wpList_append_nothing hgd s x 35 ho base 9 i 1 ht hi' v xs.length cx (txCells xs) hs hown hx ?_
      exact h v w (by simpa using hown) (Below.refl _ _) (grownBy_below (Below.refl _ _))
    · cases ha
  · have hc : ∀ j u, (txCells l)[j]? = some u → w.cell? ((⟨b0, o0, s0⟩ : Addr).add j) = some u := by
      rcases TextsAt.cells hl' with h0 | ⟨b, o', ha, hc⟩
      · subst h0; intro j u hj; simp [txCells] at hj
      · cases ha; intro j u hj; rw [addr_add]; exact hc j u hj
    refine wpList_append_own w hgd s x 35 ho base 9 i _ 1 16 ht hi' hz hsize hby rfl (by decide) v xs.length (txCells xs) hs hown ⟨b0, o0, s0⟩ l.length cx (txCells l) hx (by rw [txCells_length, Nat.mul_one]) ?_ (txCells_one l) (by simp only [maxLen]; omega) ?_ hbase ?_
    · exact hc
    · omega
    · intro v' w' ho' hg _
      refine h v' w' ?_ (below_grown hg hbase fun k hk => (hown.lt k hk).1) hg
      unfold OwnTexts
      rw [List.length_append]
      simpa [txCells] using ho'
theorem TextsAt.take {w : World} {a : Option Addr} {n cap : Nat} {l : List ByteArray} (h : TextsAt w (.slice a n cap) l) (k : Nat) (hk : k ≤ l.length) (cap' : Nat) : TextsAt w (.slice a k cap') (l.take k) := by
  obtain ⟨a', cap0, e, hn, hs⟩ := h
  cases e
  have hl : (l.take k).length = k := by rw [List.length_take]; omega
  refine ⟨a, cap', by rw [hl], by rw [hl]; omega, fun j hj => ?_⟩
  rw [hl] at hj
  obtain ⟨b, o, ha, h⟩ := hs j (by omega)
  refine ⟨b, o, ha, fun s hs => h s ?_⟩
  rw [List.getElem?_take, if_pos hj] at hs
  exact hs
theorem TextsAt.drop {w : World} {b o : Nat} {n cap : Nat} {l : List ByteArray} (h : TextsAt w (.slice (some ⟨b, o, none⟩) n cap) l) (k : Nat) (hk : k ≤ l.length) (m : Nat) (hm : m = l.length - k) (cap' : Nat) : TextsAt w (.slice (some ⟨b, o + k, none⟩) m cap') (l.drop k) := by
  obtain ⟨a', cap0, e, hn, hs⟩ := h
  cases e
  have hl : (l.drop k).length = m := by rw [List.length_drop]; omega
  refine ⟨_, cap', by rw [hl], by rw [hl]; omega, fun j hj => ?_⟩
  rw [hl] at hj
  obtain ⟨b', o', ha, h⟩ := hs (k + j) (by omega)
  cases ha
  refine ⟨b, o + k, rfl, fun s hs => ?_⟩
  rw [List.getElem?_drop] at hs
  have := h s hs
  rw [Nat.mul_one] at this ⊢
  rw [← this]
  congr 2
  omega
theorem TextsAt.empty (w : World) (a : Option Addr) (cap : Nat) : TextsAt w (.slice a 0 cap) [] := ⟨a, cap, rfl, by simp, fun k hk => by simp at hk⟩
theorem TextsAt.shape1 {w : World} {b o n cap : Nat} {l : List ByteArray} (h : TextsAt w (.slice (some ⟨b, o, none⟩) n cap) l) : Hid (∀ k (hk : k < l.length), w.cell? ⟨b, o + k, none⟩ = some (.string l[k])) := by
  obtain ⟨a', cap0, e, hn, hs⟩ := h
  cases e
  refine hid fun k hk => ?_
  obtain ⟨b', o', ha, h⟩ := hs k hk
  cases ha
  have := h l[k] (List.getElem?_eq_getElem hk)
  rw [Nat.mul_one] at this
  exact this
/-- What lies in an older block lies there still. -/
theorem TextsAt.mono' {w w' : World} {B b o n cap : Nat} {l : List ByteArray} (hb : Below B w w') (_ : B ≤ w.heap.size) (hB : b < B) (h : TextsAt w (.slice (some ⟨b, o, none⟩) n cap) l) : TextsAt w' (.slice (some ⟨b, o, none⟩) n cap) l := by
  obtain ⟨_, _, e, h1, h3⟩ := h
  cases e
  refine ⟨_, _, rfl, h1, fun k hk => ?_⟩
  obtain ⟨b', o', ha, h⟩ := h3 k hk
  cases ha
  refine ⟨b, o, rfl, fun r hr => ?_⟩
  have := h r hr
  rw [hb.cell (p := ⟨b, o + k * 1, none⟩) hB]
  exact this
set_option maxHeartbeats 2000000 in
set_option maxRecDepth 100000 in
theorem put_any (l : List ByteArray) (s : ByteArray) (v : Value) (base : Nat) (w : World) (hv : OwnTexts w base v l) (hbase : base ≤ w.heap.size) (hl : l.length ≤ 100000) :
    Calls Tryz.prog 50 #[v, .string s] w fun e w' => ∃ u, e = .returned u ∧ OwnTexts w' base u (putT l s) ∧ Below w.heap.size w w' := by
  have hrow := hv
  rcases hrow.2 with ⟨rfl, h0⟩ | ⟨g, cap, cur, rfl, hbg, hb, hc1, hc2, hc3, hc4⟩
  · have : l = [] := List.eq_nil_of_length_eq_zero h0
    subst this
    rw [putT_nil]
    clear hv hrow h0
    go_enter Tryz.func50, Tryz.ntmps50
    go_wp2
    go_loopw [5] (fun i wr => i = .int .i64 0 ∧ Below w.heap.size w wr) (fun i _ => 0)
    case atStart => exact ⟨rfl, Below.refl _ _⟩
    case round =>
      obtain ⟨rfl, hwr⟩ := hrel
      have hsz := hwr.size
      go_wp2_with (first
        | (at_builtin; refine wpList_append_txs rfl (.tmp 34) (.tmp 37) rfl Tryz.underlying35 Tryz.inf9 w.heap.size (.slice none 0 0) 0 0 none [] [] rfl (OwnTexts.nil _ _) rfl rfl (TextsAt.empty _ _ _) (by simp) hsz ?_; intro v1 w1 ho1 hb1 hg1)
        | (at_builtin; refine wpList_append_tx rfl (.tmp 39) (.tmp 41) rfl Tryz.underlying35 Tryz.inf9 w.heap.size v1 [] s rfl (OwnTexts.below ho1 (below_alloc _ _)) w1.heap.size rfl (by simp) (by simp) (Nat.le_trans (Nat.le_trans hsz hb1.size) (below_alloc _ _).size) ?_; intro v2 w2 ho2 hb2 hg2)
        | (at_builtin; refine wpList_append_txs rfl (.tmp 43) (.tmp 46) rfl Tryz.underlying35 Tryz.inf9 w.heap.size v2 0 0 none [s] [] rfl ho2 rfl rfl (TextsAt.empty _ _ _) (by simp) (Nat.le_trans (Nat.le_trans (Nat.le_trans hsz hb1.size) (below_alloc _ _).size) hb2.size) ?_; intro v3 w3 ho3 hb3 hg3))
      go_ret
      exact ⟨_, rfl, ownsRow_mono ho3 hbase, ((hwr.trans hb1).trans ((Below.refl _ _).alloc (by have := hb1.size; omega) _)).trans (hb2.trans hb3)⟩
  · have hlt : g < w.heap.size := (Array.getElem?_eq_some_iff.1 hb).1
    have HA := hid (OwnTexts.at hv (by omega))
    have HV := hid hv
    have HAT := hid (putT_at s l)
    clear hrow hc2 hc3 hc4 hb hv
    have hss := TextsAt.shape1 HA.out
    go_enter Tryz.func50, Tryz.ntmps50
    go_wp2
    go_loopw [5] (fun i wr => ∃ k : Nat, i = .int .i64 k ∧ k ≤ l.length ∧ (∀ j (h : j < l.length), j < k → lessT l[j] s = true) ∧ Below w.heap.size w wr) (fun i _ => l.length - (intOf i).toNat)
    case atStart => exact ⟨0, rfl, by omega, fun _ _ h => by omega, Below.refl _ _⟩
    case round =>
      obtain ⟨k, rfl, hk, hall, hwr⟩ := hrel
      have Hall := hid hall
      clear hall
      have hsz := hwr.size
      by_cases hkl : k < l.length
      · have e0 := cell_below hwr (show w.cell? ⟨g, k, none⟩ = some (.string l[k]) from by have := hss.out k hkl; rwa [Nat.zero_add] at this)
        obtain ⟨x, hx⟩ : ∃ x, x = l[k] := ⟨_, rfl⟩
        rw [← hx] at e0
        have Hx := hid hx
        clear hx
        cases hls : lessT x s
        · have Hls := hid hls
          have hl1 : Op.bytesLess x.toList s.toList = false := hls
          clear hls
          by_cases hxs : x = s
          · have Hm := hid (show putT l s = l by rw [HAT.out k hk Hall.out (fun _ => by rw [← Hx.out]; exact Hls.out), if_pos ⟨hkl, by rw [← Hx.out]; exact hxs⟩])
            have hq : (x.toList == s.toList) = true := by rw [run_eq_bytes]; simpa using hxs
            clear hxs
            go_wp2
            go_ret
            exact ⟨_, rfl, by rw [Hm.out]; exact OwnTexts.below HV.out hwr, hwr⟩
          · have Hm := hid (show putT l s = l.take k ++ s :: l.drop k by rw [HAT.out k hk Hall.out (fun _ => by rw [← Hx.out]; exact Hls.out), if_neg (by rintro ⟨h1, h2⟩; exact hxs (by rw [Hx.out]; exact h2))])
            have hq : (x.toList == s.toList) = false := by rw [run_eq_bytes]; simpa using hxs
            clear hxs
            have hck : ¬ (cap = k) := by omega
            have hkc : (k : Int) ≤ (cap : Int) := by omega
            have hT := TextsAt.mono hwr HA.out
            have hT1 := TextsAt.take hT k hk cap
            have hT2 := TextsAt.drop hT k hk (l.length - k) rfl (cap - k)
            rw [Nat.zero_add] at hT2
            have ht1 : (l.take k).length = k := by rw [List.length_take]; omega
            have ht2 : (l.drop k).length = l.length - k := List.length_drop ..
            have hx1 : ([] ++ l.take k).length ≤ 1000000 := by rw [List.nil_append, ht1]; omega
            have hx2 : (([] ++ l.take k) ++ [s]).length ≤ 1000000 := by rw [List.nil_append, List.length_append, ht1]; simp; omega
            clear hT
            go_wp2_with (first
              | (at_builtin; refine wpList_append_txs rfl (.tmp 34) (.tmp 37) rfl Tryz.underlying35 Tryz.inf9 w.heap.size (.slice none 0 0) k cap _ [] (l.take k) rfl (OwnTexts.nil _ _) rfl ht1.symm hT1 (by simp) hsz ?_; intro v1 w1 ho1 hb1 hg1)
              | (at_builtin; refine wpList_append_tx rfl (.tmp 39) (.tmp 41) rfl Tryz.underlying35 Tryz.inf9 w.heap.size v1 _ s rfl (OwnTexts.below ho1 (below_alloc _ _)) w1.heap.size rfl (by simp) hx1 (Nat.le_trans (Nat.le_trans hsz hb1.size) (below_alloc _ _).size) ?_; intro v2 w2 ho2 hb2 hg2)
              | (at_builtin; refine wpList_append_txs rfl (.tmp 43) (.tmp 46) rfl Tryz.underlying35 Tryz.inf9 w.heap.size v2 _ _ _ _ (l.drop k) rfl ho2 rfl ht2.symm (TextsAt.mono' (hb1.trans (((Below.refl _ _).alloc (Nat.le_trans hsz hb1.size) _).trans hb2)) hsz hlt hT2) hx2 (Nat.le_trans (Nat.le_trans (Nat.le_trans hsz hb1.size) (below_alloc _ _).size) hb2.size) ?_; intro v3 w3 ho3 hb3 hg3))
            go_ret
            exact ⟨_, rfl, ownsRow_mono (show OwnTexts w3 w.heap.size v3 (putT l s) by rw [Hm.out]; simpa using ho3) hbase, ((hwr.trans hb1).trans ((Below.refl _ _).alloc (by have := hb1.size; omega) _)).trans (hb2.trans hb3)⟩
        · have hl1 : Op.bytesLess x.toList s.toList = true := hls
          have Hls := hid hls
          clear hls
          go_wp2
          go_roundw
          case rel =>
            refine ⟨k + 1, by go_num, by omega, ?_, hwr⟩
            intro j hj hjk
            by_cases hjk' : j = k
            · subst hjk'; rw [← Hx.out]; exact Hls.out
            · exact Hall.out j hj (by omega)
          case measure => simp [intOf]; omega
      · have Hm := hid (show putT l s = l.take k ++ s :: l.drop k by rw [HAT.out k hk Hall.out (fun h => absurd h hkl), if_neg (by rintro ⟨h1, h2⟩; exact hkl h1)])
        by_cases hcap : cap = k
        · have hke : k = l.length := by omega
          have hd0 : l.drop k = [] := by rw [hke, List.drop_length]
          rw [hd0] at Hm
          have hT1 := TextsAt.take (TextsAt.mono hwr HA.out) k hk cap
          have ht1 : (l.take k).length = k := by rw [List.length_take]; omega
          have hx1 : ([] ++ l.take k).length ≤ 1000000 := by rw [List.nil_append, ht1]; omega
          have hx2 : (([] ++ l.take k) ++ [s]).length ≤ 1000000 := by rw [List.nil_append, List.length_append, ht1]; simp; omega
          have Hke := hid hke
          clear hke hd0
          subst hcap
          go_wp2_with (first
            | (at_builtin; refine wpList_append_txs rfl (.tmp 34) (.tmp 37) rfl Tryz.underlying35 Tryz.inf9 w.heap.size (.slice none 0 0) cap cap _ [] (l.take cap) rfl (OwnTexts.nil _ _) rfl ht1.symm hT1 (by simp) hsz ?_; intro v1 w1 ho1 hb1 hg1)
            | (at_builtin; refine wpList_append_tx rfl (.tmp 39) (.tmp 41) rfl Tryz.underlying35 Tryz.inf9 w.heap.size v1 _ s rfl (OwnTexts.below ho1 (below_alloc _ _)) w1.heap.size rfl (by simp) hx1 (Nat.le_trans (Nat.le_trans hsz hb1.size) (below_alloc _ _).size) ?_; intro v2 w2 ho2 hb2 hg2)
            | (at_builtin; refine wpList_append_txs rfl (.tmp 43) (.tmp 46) rfl Tryz.underlying35 Tryz.inf9 w.heap.size v2 0 _ _ _ [] rfl ho2 rfl rfl (TextsAt.empty _ _ _) hx2 (Nat.le_trans (Nat.le_trans (Nat.le_trans hsz hb1.size) (below_alloc _ _).size) hb2.size) ?_; intro v3 w3 ho3 hb3 hg3))
          go_ret
          exact ⟨_, rfl, ownsRow_mono (show OwnTexts w3 w.heap.size v3 (putT l s) by rw [Hm.out]; simpa using ho3) hbase, ((hwr.trans hb1).trans ((Below.refl _ _).alloc (by have := hb1.size; omega) _)).trans (hb2.trans hb3)⟩
        · have hck : ¬ (cap = k) := by exact hcap
          have hkc : (k : Int) ≤ (cap : Int) := by omega
          have hT := TextsAt.mono hwr HA.out
          have hT1 := TextsAt.take hT k hk cap
          have hT2 := TextsAt.drop hT k hk (l.length - k) rfl (cap - k)
          rw [Nat.zero_add] at hT2
          have ht1 : (l.take k).length = k := by rw [List.length_take]; omega
          have ht2 : (l.drop k).length = l.length - k := List.length_drop ..
          have hx1 : ([] ++ l.take k).length ≤ 1000000 := by rw [List.nil_append, ht1]; omega
          have hx2 : (([] ++ l.take k) ++ [s]).length ≤ 1000000 := by rw [List.nil_append, List.length_append, ht1]; simp; omega
          clear hT
          go_wp2_with (first
            | (at_builtin; refine wpList_append_txs rfl (.tmp 34) (.tmp 37) rfl Tryz.underlying35 Tryz.inf9 w.heap.size (.slice none 0 0) k cap _ [] (l.take k) rfl (OwnTexts.nil _ _) rfl ht1.symm hT1 (by simp) hsz ?_; intro v1 w1 ho1 hb1 hg1)
            | (at_builtin; refine wpList_append_tx rfl (.tmp 39) (.tmp 41) rfl Tryz.underlying35 Tryz.inf9 w.heap.size v1 _ s rfl (OwnTexts.below ho1 (below_alloc _ _)) w1.heap.size rfl (by simp) hx1 (Nat.le_trans (Nat.le_trans hsz hb1.size) (below_alloc _ _).size) ?_; intro v2 w2 ho2 hb2 hg2)
            | (at_builtin; refine wpList_append_txs rfl (.tmp 43) (.tmp 46) rfl Tryz.underlying35 Tryz.inf9 w.heap.size v2 _ _ _ _ (l.drop k) rfl ho2 rfl ht2.symm (TextsAt.mono' (hb1.trans (((Below.refl _ _).alloc (Nat.le_trans hsz hb1.size) _).trans hb2)) hsz hlt hT2) hx2 (Nat.le_trans (Nat.le_trans (Nat.le_trans hsz hb1.size) (below_alloc _ _).size) hb2.size) ?_; intro v3 w3 ho3 hb3 hg3))
          go_ret
          exact ⟨_, rfl, ownsRow_mono (show OwnTexts w3 w.heap.size v3 (putT l s) by rw [Hm.out]; simpa using ho3) hbase, ((hwr.trans hb1).trans ((Below.refl _ _).alloc (by have := hb1.size; omega) _)).trans (hb2.trans hb3)⟩
end Go.Proofs.YtcpecponmaakoaaGreatDoor
