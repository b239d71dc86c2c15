/- Walks: bytes: copies, PutVar of a number that is not below 0 (the program's and the document's). -/
import Derived.Test.YtcpecponmaakoaaGreatDoorDefs
import Derived.Lib.SliceRun
import Derived.Lib.Varint
import Derived.Lib.VarintMem
import Derived.Lib.EndianBits
import Derived.Lib.Zigzag
import Derived.Laws.Bits64
namespace Go.Proofs.YtcpecponmaakoaaGreatDoor
open Go.RowKit Go.Wm Go.Lib
variable {P : Program}
theorem OwnBytes.form {w : World} {b : Nat} {v : Value} {l : List UInt8} (h : OwnBytes w b v l) : ∃ a cap, v = .slice a l.length cap := by
  rcases h.2 with ⟨rfl, h0⟩ | ⟨g, cap, cur, rfl, _⟩
  · exact ⟨none, 0, by rw [h0]⟩
  · exact ⟨_, cap, rfl⟩
theorem empty_bytes (w : World) (base : Nat) (h : base ≤ w.heap.size) : OwnBytes (w.alloc (.cells #[] 5)) base (.slice (some ⟨w.heap.size, 0, none⟩) 0 0) [] :=
  ⟨rfl, .inr ⟨w.heap.size, 0, #[], rfl, h, heap_alloc_new w _, by simp, by simp [maxLen], rfl, rfl⟩⟩
theorem byCells_one (l : List UInt8) : ∀ u ∈ byCells l, u.oneCell' = true := by
  intro u hu
  simp only [byCells, List.mem_map] at hu
  obtain ⟨x, _, rfl⟩ := hu
  rfl
theorem byCells_append (l m : List UInt8) : byCells (l ++ m) = byCells l ++ byCells m := by simp [byCells]
theorem BytesAt.cells {w : World} {a : Option Addr} {n cap : Nat} {l : List UInt8} (h : BytesAt w (.slice a n cap) l) : l = [] ∨ ∃ b o, a = some ⟨b, o, none⟩ ∧ ∀ j u, (byCells l)[j]? = some u → w.cell? ⟨b, o + j, none⟩ = some u := by
  obtain ⟨a', cap', hv, _, hs⟩ := h
  injection hv with h1 h2 h3
  subst h1 h3
  rcases hs.shape with ⟨b, o, ha, hx⟩ | h0
  · refine .inr ⟨b, o, ha, fun j u hj => ?_⟩
    have hjl : j < l.length := by have := (List.getElem?_eq_some_iff.1 hj).1; simpa [byCells] using this
    have := hx j hjl _ (List.getElem?_eq_getElem hjl)
    simp [byCells, List.getElem?_eq_getElem hjl] at hj
    subst hj
    simpa using this
  · exact .inl (List.eq_nil_of_length_eq_zero h0)
theorem run_append_nothing {w : World} (base : Nat) (t ty e : TypeId) (i : TypeInfo) (size : Nat) (ht : P.underlying t = some (.slice e)) (hi : P.info? e = some i)
    (v : Value) (n c : Nat) (xs : List Value) (hown : w.ownsRow base e size v n xs) :
    (Builtin.append_ #[t, t] ty #[v, .slice none 0 c]).run P w = .ok v w := by
  rcases hown.2 with ⟨rfl, rfl⟩ | ⟨g, cap, cur, rfl, _, _, hnc, _⟩
  · simp [Builtin.append_, run_underlying ht, sizeOf, typeInfo, hi, Builtin.lenOf, Builtin.firstCells]
  · simp [Builtin.append_, run_underlying ht, sizeOf, typeInfo, hi, Builtin.lenOf, Builtin.firstCells, hnc, storeCells]
theorem wpList_append_nothing {w : World} {ops : Array Oper} {rest : List Oper} {o : Oper} {a : Act} {Q : Exit → Act → World → Prop} (hgd : o.guard = none) (s x : Operand) (t : TypeId)
    (ho : o.op = .call { callee := .builtin .append, args := #[s, x], argTypes := #[t, t] })
    (base : Nat) (e : TypeId) (i : TypeInfo) (size : Nat) (ht : P.underlying t = some (.slice e)) (hi : P.info? e = some i)
    (v : Value) (n c : Nat) (xs : List Value) (hs : a.eval s = v) (hown : w.ownsRow base e size v n xs) (hx : a.eval x = .slice none 0 c)
    (h : wpList P ops Q rest (a.put o.dst v) w) : wpList P ops Q (o :: rest) a w := by
  refine wpList_plain hgd fun K hK => ?_
  have hrun := run_append_nothing (P := P) (w := w) base t o.type e i size ht hi v n c xs hown
  unfold Oper.wp
  simp [execOp, ho, resolve, invoke, builtin, hs, hx, hrun, Result.andThen]
  exact hK _ _ h
/-- 'append(s, l...)' of bytes, onto a row of the call's own. -/
theorem wpList_append_bytes {w : World} {ops : Array Oper} {rest : List Oper} {o : Oper} {a : Act} {Q : Exit → Act → World → Prop} (hgd : o.guard = none) (s x : Operand)
    (ho : o.op = .call { callee := .builtin .append, args := #[s, x], argTypes := #[43, 43] })
    (ht : P.underlying 43 = some (.slice 5)) (hi : (P.info? 5).map (fun i => (i.zero, i.size, i.bytes)) = some (some (.int .u8 0), 1, 1))
    (base : Nat) (v u : Value) (xs l : List UInt8) (hs : a.eval s = v) (hown : OwnBytes w base v xs) (hx : a.eval x = u) (hl : BytesAt w u l)
    (hn : xs.length ≤ 1000000) (hbase : base ≤ w.heap.size)
    (h : ∀ v' w', OwnBytes w' base v' (xs ++ l) → Below base w w' → w.grownBy w' v.ownBlock → wpList P ops Q rest (a.put o.dst v') w') : wpList P ops Q (o :: rest) a w := by
  have hl' := hl
  obtain ⟨ax, cx, rfl, hm, _⟩ := hl
  obtain ⟨i, hi', hz, hsize, hby⟩ := info_parts hi
  rcases ax with _ | ⟨b0, o0, s0⟩
  · rcases BytesAt.cells hl' with h0 | ⟨b, o', ha, _⟩
    · subst h0
      refine wpList_append_nothing hgd s x 43 ho base 5 i 1 ht hi' v xs.length cx (byCells xs) hs hown hx ?_
      exact h v w (by simpa using hown) (Below.refl _ _) ⟨rfl, rfl, rfl, Nat.le_refl _, fun _ _ _ => rfl⟩
    · cases ha
  · have hc : ∀ j u, (byCells l)[j]? = some u → w.cell? ((⟨b0, o0, s0⟩ : Addr).add j) = some u := by
      rcases BytesAt.cells hl' with h0 | ⟨b, o', ha, hc⟩
      · subst h0; intro j u hj; simp [byCells] at hj
      · cases ha; intro j u hj; rw [addr_add]; exact hc j u hj
    refine wpList_append_own w hgd s x 43 ho base 5 i _ 1 1 ht hi' hz hsize hby rfl (by decide) v xs.length (byCells xs) hs hown ⟨b0, o0, s0⟩ l.length cx (byCells l) hx (by simp [byCells]) hc (byCells_one l) (by simp only [maxLen]; omega) (by omega) hbase ?_
    intro v' w' ho' hg _
    refine h v' w' ?_ (below_grown hg hbase fun k hk => (hown.lt k hk).1) hg
    unfold OwnBytes
    rw [byCells_append, List.length_append]
    exact ho'
/-- 'append(s, b)' of one byte. -/
theorem wpList_append_u8 {w : World} {ops : Array Oper} {rest : List Oper} {o : Oper} {a : Act} {Q : Exit → Act → World → Prop} (hgd : o.guard = none) (s x : Operand)
    (ho : o.op = .call { callee := .builtin .append, args := #[s, x], argTypes := #[43, 43] })
    (ht : P.underlying 43 = some (.slice 5)) (hi : (P.info? 5).map (fun i => (i.zero, i.size, i.bytes)) = some (some (.int .u8 0), 1, 1))
    (base : Nat) (v : Value) (xs : List UInt8) (b : UInt8) (hs : a.eval s = v) (hown : OwnBytes w base v xs) (g : Nat) (hx : a.eval x = .slice (some ⟨g, 0, none⟩) 1 1) (hg : w.cell? ⟨g, 0, none⟩ = some (.int .u8 (b.toNat : Int)))
    (hn : xs.length ≤ 1000000) (hbase : base ≤ w.heap.size)
    (h : ∀ v' w', OwnBytes w' base v' (xs ++ [b]) → Below base w w' → w.grownBy w' v.ownBlock → wpList P ops Q rest (a.put o.dst v') w') : wpList P ops Q (o :: rest) a w :=
  wpList_append_bytes hgd s x ho ht hi base v _ xs [b] hs hown hx ⟨_, 1, rfl, by simp, fun k hk => ⟨g, 0, rfl, fun s' hs' => by
    have : k = 0 := by simpa using hk
    subst this
    simp at hs'
    subst hs'
    simpa using hg⟩⟩ hn hbase h
set_option maxHeartbeats 1000000 in
theorem cloneB_any (l : List UInt8) (v : Value) (w : World) (hv : BytesAt w v l) :
    Calls Tryz.prog 83 #[v] w fun e w' => ∃ u, e = .returned u ∧ OwnBytes w' w.heap.size u l ∧ Below w.heap.size w w' := by
  have hvw := hv
  obtain ⟨a, cap, rfl, hn, hs⟩ := hv
  have E := fun w : World => Lib.run_eql_slice_nil w 43 5 a l.length cap 0 0 Tryz.underlying43
  cases a with
  | none =>
    have h0 : l = [] := by
      rcases hs.shape with ⟨b, o, h, _⟩ | h
      · cases h
      · exact List.eq_nil_of_length_eq_zero h
    subst h0
    simp only [List.length_nil, Option.isNone_none] at E ⊢
    clear hvw hs hn
    go_enter Tryz.func83, Tryz.ntmps83
    go_wp2
    go_ret
    exact ⟨_, rfl, OwnBytes.nil _ _, Below.refl _ _⟩
  | some A =>
    simp only [Option.isNone_some] at E
    go_enter Tryz.func83, Tryz.ntmps83
    go_wp2_with (at_builtin; refine wpList_append_bytes rfl (.tmp 5) (.tmp 6) rfl Tryz.underlying43 Tryz.inf5 w.heap.size _ _ [] l rfl (empty_bytes w w.heap.size (Nat.le_refl _)) rfl (hvw.mono (below_alloc _ _)) (by simp) (by simp) ?_)
    intro v' w' hown hb _
    go_wp2
    go_ret
    exact ⟨_, rfl, hown, (below_alloc _ _).trans hb⟩
theorem copyB_any (l : List UInt8) (v : Value) (w : World) (hv : BytesAt w v l) :
    Calls Tryz.prog 85 #[v] w fun e w' => ∃ u, e = .returned u ∧ OwnBytes w' w.heap.size u l ∧ Below w.heap.size w w' := by
  have hvw := hv
  obtain ⟨a, cap, rfl, hn⟩ := hv.form
  go_enter Tryz.func85, Tryz.ntmps85
  go_wp2_with (at_builtin; refine wpList_append_bytes rfl (.const (.slice none 0 0)) (.tmp 3) rfl Tryz.underlying43 Tryz.inf5 w.heap.size _ _ [] l rfl (OwnBytes.nil _ _) rfl hvw (by simp) (Nat.le_refl _) ?_)
  intro v' w' hown hb _
  go_wp2
  go_ret
  exact ⟨_, rfl, hown, hb⟩
theorem xor_zero_u64 (n : Nat) (h : n < 18446744073709551616) : bits .xor .u64 (n : Int) 0 = n := by
  have := bits_xor_u64_nat n 0 h (by omega)
  simpa using this
theorem u8n (m : Nat) (h : m < 256) : ((m.toUInt8).toNat : Int) = m := by rw [toUInt8_toNat h]
set_option maxHeartbeats 2000000 in
set_option maxRecDepth 100000 in
theorem putVar_any (l : List UInt8) (n : Nat) (v : Value) (w : World) (hv : BytesAt w v l) (hn : n ≤ 1099511627776) (hl : l.length ≤ 900000) :
    Calls Tryz.prog 54 #[v, .int .i64 n] w fun e w' => ∃ u, e = .returned u ∧ OwnBytes w' w.heap.size u (l ++ uvarint (2 * n)) ∧ Below w.heap.size w w' := by
  have C := hid (cloneB_any l v w hv)
  obtain ⟨a, cap, rfl, hn'⟩ := hv.form
  have hd : (n : Int) / 9223372036854775808 = 0 := by omega
  have hx0 : bits .xor .u64 ((n : Int) * 2) 0 = (n : Int) * 2 := by
    have := xor_zero_u64 (2 * n) (by omega)
    rw [show (n : Int) * 2 = ((2 * n : Nat) : Int) by omega]; exact this
  clear hv
  go_enter Tryz.func54, Tryz.ntmps54
  go_wp2_with fail
  refine C.out.mono ?_
  rintro e w1 ⟨u, rfl, hu, hb1⟩
  obtain ⟨a1, cap1, rfl⟩ := OwnBytes.form hu
  clear C hd hx0
  go_wp2_with fail
  go_loopw [5, 6] (fun z o wr => ∃ (m : Nat) (acc : List UInt8), z = .int .u64 m ∧ m ≤ 2199023255552 ∧ OwnBytes wr w.heap.size o (l ++ acc) ∧ acc ++ uvarint m = uvarint (2 * n) ∧ Below w.heap.size w wr) (fun z _ _ => (intOf z).toNat)
  case atStart => exact ⟨2 * n, [], by simp; omega, by omega, by simpa using hu, by simp, hb1⟩
  case round =>
    obtain ⟨m, acc, rfl, hm, hO, hacc, hwr⟩ := hrel
    have Hacc := hid hacc
    have HO := hid hO
    have hal : acc.length ≤ 10 := by
      have h1 := uvarint_length64 (x := 2 * n) (by omega)
      rw [← hacc, List.length_append] at h1
      omega
    obtain ⟨ao, co, rfl⟩ := OwnBytes.form hO
    clear hacc hO
    by_cases h128 : 128 ≤ m
    · have hor := u8_or128_any ((m : Int) % 256) (by omega) (by omega)
      have hmm : ((m : Int) % 256) % 128 + 128 = ((m % 128 + 128 : Nat) : Int) := by omega
      rw [hmm] at hor
      have Hbig := hid (uvarint_big h128)
      clear hmm
      obtain ⟨wo, rfl⟩ : ∃ wo : World, wo = wr := ⟨_, rfl⟩
      go_wp2_with (at_builtin; refine wpList_append_u8 rfl (.tmp 20) (.tmp 24) rfl Tryz.underlying43 Tryz.inf5 w.heap.size _ (l ++ acc) (m % 128 + 128).toUInt8 rfl (HO.out.below (below_alloc wo _)) wo.heap.size rfl (by rw [u8n _ (by omega)]; simp) (by simp; omega) (by have := hwr.size; simp; omega) ?_)
      intro v' w' hO' hb' _
      have hbw := hwr.trans ((below_alloc wo _).mono hwr.size |>.trans hb')
      go_wp2
      go_roundw
      case rel => exact ⟨m / 128, acc ++ [(m % 128 + 128).toUInt8], by simp, by omega, by simpa using hO', by rw [List.append_assoc, List.singleton_append, ← Hbig.out]; exact Hacc.out, hbw⟩
      case measure => simp [intOf]; omega
    · have Hsm := hid (uvarint_small (show m < 128 by omega))
      have hm256 : (m : Int) % 256 = m := by omega
      obtain ⟨wo, rfl⟩ : ∃ wo : World, wo = wr := ⟨_, rfl⟩
      go_wp2_with (at_builtin; refine wpList_append_u8 rfl (.tmp 26) (.tmp 29) rfl Tryz.underlying43 Tryz.inf5 w.heap.size _ (l ++ acc) m.toUInt8 rfl (HO.out.below (below_alloc wo _)) wo.heap.size rfl (by rw [u8n _ (by omega)]; simp) (by simp; omega) (by have := hwr.size; simp; omega) ?_)
      intro v' w' hO' hb' _
      have hbw := hwr.trans ((below_alloc wo _).mono hwr.size |>.trans hb')
      go_wp2
      go_ret
      refine ⟨_, rfl, ?_, hbw⟩
      rw [← Hacc.out, Hsm.out]
      simpa using hO'
set_option maxHeartbeats 2000000 in
set_option maxRecDepth 100000 in
theorem refPutVar_any (l : List UInt8) (n : Nat) (v : Value) (w : World) (hv : BytesAt w v l) (hn : n ≤ 1099511627776) (hl : l.length ≤ 900000) :
    Calls Tryz.prog 57 #[v, .int .i64 n] w fun e w' => ∃ u, e = .returned u ∧ OwnBytes w' w.heap.size u (l ++ uvarint (2 * n)) ∧ Below w.heap.size w w' := by
  have C := hid (copyB_any l v w hv)
  obtain ⟨a, cap, rfl, hn'⟩ := hv.form
  clear hv
  go_enter Tryz.func57, Tryz.ntmps57
  go_wp2_with fail
  refine C.out.mono ?_
  rintro e w1 ⟨u, rfl, hu, hb1⟩
  obtain ⟨a1, cap1, rfl⟩ := OwnBytes.form hu
  clear C
  go_wp2_with fail
  go_loopw [5, 6] (fun z o wr => ∃ (m : Nat) (acc : List UInt8), z = .int .u64 m ∧ m ≤ 2199023255552 ∧ OwnBytes wr w.heap.size o (l ++ acc) ∧ acc ++ uvarint m = uvarint (2 * n) ∧ Below w.heap.size w wr) (fun z _ _ => (intOf z).toNat)
  case atStart => exact ⟨2 * n, [], by simp, by omega, by simpa using hu, by simp, hb1⟩
  case round =>
    obtain ⟨m, acc, rfl, hm, hO, hacc, hwr⟩ := hrel
    have Hacc := hid hacc
    have HO := hid hO
    have hal : acc.length ≤ 10 := by
      have h1 := uvarint_length64 (x := 2 * n) (by omega)
      rw [← hacc, List.length_append] at h1
      omega
    obtain ⟨ao, co, rfl⟩ := OwnBytes.form hO
    clear hacc hO
    by_cases h128 : 128 ≤ m
    · have hmm : ((128 : Int) + (m : Int) % 128) % 256 = ((m % 128 + 128 : Nat) : Int) := by omega
      have Hbig := hid (uvarint_big h128)
      obtain ⟨wo, rfl⟩ : ∃ wo : World, wo = wr := ⟨_, rfl⟩
      go_wp2_with (at_builtin; refine wpList_append_u8 rfl (.tmp 22) (.tmp 27) rfl Tryz.underlying43 Tryz.inf5 w.heap.size _ (l ++ acc) (m % 128 + 128).toUInt8 rfl (HO.out.below (below_alloc wo _)) wo.heap.size rfl (by rw [u8n _ (by omega)]; simp; try omega) (by simp; omega) (by have := hwr.size; simp; omega) ?_)
      intro v' w' hO' hb' _
      have hbw := hwr.trans ((below_alloc wo _).mono hwr.size |>.trans hb')
      go_wp2
      go_roundw
      case rel => exact ⟨m / 128, acc ++ [(m % 128 + 128).toUInt8], by simp, by omega, by simpa using hO', by rw [List.append_assoc, List.singleton_append, ← Hbig.out]; exact Hacc.out, hbw⟩
      case measure => simp [intOf]; omega
    · have Hsm := hid (uvarint_small (show m < 128 by omega))
      have hm256 : (m : Int) % 256 = m := by omega
      obtain ⟨wo, rfl⟩ : ∃ wo : World, wo = wr := ⟨_, rfl⟩
      go_wp2_with (at_builtin; refine wpList_append_u8 rfl (.tmp 31) (.tmp 34) rfl Tryz.underlying43 Tryz.inf5 w.heap.size _ (l ++ acc) m.toUInt8 rfl (HO.out.below (below_alloc wo _)) wo.heap.size rfl (by rw [u8n _ (by omega)]; simp) (by simp; omega) (by have := hwr.size; simp; omega) ?_)
      intro v' w' hO' hb' _
      have hbw := hwr.trans ((below_alloc wo _).mono hwr.size |>.trans hb')
      go_wp2
      go_ret
      refine ⟨_, rfl, ?_, hbw⟩
      rw [← Hacc.out, Hsm.out]
      simpa using hO'
end Go.Proofs.YtcpecponmaakoaaGreatDoor
