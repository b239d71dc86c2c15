/- Walks: a piece's name; a number out of digits (over the library's contracts); the closures that look for an id. -/
import Derived.Test.YtcpecponmaakoaaGreatDoorW5
import Derived.Test.YtcpecponmaakoaaGreatDoorLay
import Derived.Lib.SmallJoins
import Derived.Lib.AtoiErrMem
import Derived.Lib.ItoaLen
import Derived.Lib.AppendIntMem
namespace Go.Proofs.YtcpecponmaakoaaGreatDoor
open Go.RowKit Go.Wm
/-- What start-up laid, as far as the library's contracts ask it. -/
structure Laid (w : World) : Prop where
  tab : Lib.TabIs Tryz.prog w "internal/strconv.uint64pow10" .u64 Lib.pow10Tab
  syn : ∃ tp p, w.var? Tryz.prog "strconv.ErrSyntax" = some #[.iface tp p]
  rng : ∃ tp p, w.var? Tryz.prog "strconv.ErrRange" = some #[.iface tp p]
theorem var_lt {P : Program} {w : World} {n : String} {g : Nat} {cs : Array Value} (hg : P.globalNamed n = some g) (h : w.var? P n = some cs) : g < w.heap.size := by
  unfold World.var? at h
  simp only [hg, Option.bind_some] at h
  rcases Nat.lt_or_ge g w.heap.size with h1 | h1
  · exact h1
  · rw [Array.getElem?_eq_none h1] at h; cases h
theorem var_below {P : Program} {w w' : World} {n : String} {g : Nat} {cs : Array Value} (hg : P.globalNamed n = some g) (h : w.var? P n = some cs) (hb : Below w.heap.size w w') : w'.var? P n = some cs := by
  have hlt := var_lt hg h
  unfold World.var? at h ⊢
  simp only [hg, Option.bind_some] at h ⊢
  rw [hb.block g hlt]
  exact h
theorem named_pow : ∃ g, Tryz.prog.globalNamed "internal/strconv.uint64pow10" = some g := ⟨3, by kernel_rfl⟩
theorem named_syn : ∃ g, Tryz.prog.globalNamed "strconv.ErrSyntax" = some g := ⟨1, by kernel_rfl⟩
theorem named_rng : ∃ g, Tryz.prog.globalNamed "strconv.ErrRange" = some g := ⟨2, by kernel_rfl⟩
theorem Laid.below {w w' : World} (h : Laid w) (hb : Below w.heap.size w w') : Laid w' := by
  obtain ⟨g1, h1⟩ := named_pow
  obtain ⟨g2, h2⟩ := named_syn
  obtain ⟨g3, h3⟩ := named_rng
  obtain ⟨tp2, p2, s2⟩ := h.syn
  obtain ⟨tp3, p3, s3⟩ := h.rng
  exact ⟨var_below h1 h.tab hb, ⟨tp2, p2, var_below h2 s2 hb⟩, ⟨tp3, p3, var_below h3 s3 hb⟩⟩
/-- A piece's name. -/
def nameM (pre : ByteArray) (id : Int) : ByteArray := (pre ++ ⟨#[45]⟩) ++ ⟨(Lib.itoa id).toArray⟩
theorem name_any (pre : ByteArray) (id : Int) (w : World) (hL : Laid w) (h0 : -9223372036854775808 ≤ id) (h1 : id ≤ 9223372036854775807) (hp : pre.size ≤ 1000) :
    Calls Tryz.prog 21 #[.string pre, .int .i64 id] w fun e w' => e = .returned (.string (nameM pre id)) ∧ Below w.heap.size w w' := by
  have C := hid (Tryz.strconv_Itoa id h0 h1 w hL.tab)
  have hi := Lib.itoa_length_le id h0 h1
  have hs1 : (pre ++ (⟨#[45]⟩ : ByteArray)).size = pre.size + 1 := by simp [ByteArray.size_append]; rfl
  go_enter Tryz.func21, Tryz.ntmps21
  go_wp2_with (go_at_call 51; refine C.out.mono ?_; rintro e w1 ⟨rfl, k, os, hw1⟩)
  go_ret
  exact ⟨rfl, Lib.below_grow _ w (Nat.le_refl _) k os⟩
/-- A number out of digits: the number, and no error; or some error. -/
theorem atoi_any (s : ByteArray) (hs : s.size ≤ 281474976710656) (w : World) (hL : Laid w) :
    Calls Tryz.prog 42 #[.string s] w fun e w' => ∃ v err, e = .returned (.tuple #[.int .i64 v, err]) ∧ ((∃ x, Lib.atoiAll s.data.toList = .ok x ∧ v = x ∧ err = .nilIface) ∨ ((∀ x, Lib.atoiAll s.data.toList ≠ .ok x) ∧ ∃ N, err = .iface 119 (.pointer (some ⟨N, 0, none⟩)))) ∧ Below w.heap.size w w' := by
  cases ha : Lib.atoiAll s.data.toList with
  | ok x =>
    refine (Tryz.strconv_Atoi_ok s (by omega) x ha w).mono ?_
    rintro e w' ⟨rfl, hw⟩
    refine ⟨x, _, rfl, .inl ⟨x, rfl, rfl, rfl⟩, ?_⟩
    rcases hw with rfl | ⟨t, rfl⟩
    · exact Below.refl _ _
    · exact Lib.bytesWorld_below _ _ _
  | range =>
    obtain ⟨tp, p, hp⟩ := hL.rng
    refine (Tryz.strconv_Atoi_range_var s hs ha tp p w hp).mono ?_
    rintro e w' ⟨N, rfl, _, _, hb⟩
    exact ⟨_, _, rfl, .inr ⟨fun x h => (by cases h), N, rfl⟩, hb⟩
  | _ =>
    obtain ⟨tp, p, hp⟩ := hL.syn
    have C : Calls Tryz.prog 42 #[.string s] w fun e w' => ∃ N, e = .returned (.tuple #[.int .i64 0, .iface 119 (.pointer (some ⟨N, 0, none⟩))]) ∧ w.heap.size ≤ N ∧ w'.heap[N]? = some (.cells #[.string ⟨#[65, 116, 111, 105]⟩, .string s, .iface tp p] 141 (0, 0)) ∧ Below w.heap.size w w' := Any.strconv_Atoi_syntax_var Tryz.laysC172 s hs ha tp p w hp
    refine C.mono ?_
    rintro e w' ⟨N, rfl, _, _, hb⟩
    exact ⟨_, _, rfl, .inr ⟨fun x h => (by cases h), N, rfl⟩, hb⟩
def idIs (n : Int) (p : Piece) : Bool := decide (p.id = n)
theorem step1_any (n : Int) (B : Nat) (p : Piece) (w : World) (h : w.cell? ⟨B, 0, none⟩ = some (.int .i64 n)) :
    Calls Tryz.prog 92 #[pieceV p, .pointer (some ⟨B, 0, none⟩)] w fun e w' => e = .returned (.bool (idIs n p)) ∧ Below w.heap.size w w' := by
  have h := fun X => cell_alloc_old X h
  go_enter Tryz.func92, Tryz.ntmps92
  go_wp2
  go_ret
  exact ⟨ret_bool (by simp [idIs, Bool.beq_eq_decide_eq]), below_alloc _ _⟩
theorem heal1_any (n : Int) (B : Nat) (p : Piece) (w : World) (h : w.cell? ⟨B, 0, none⟩ = some (.int .i64 n)) :
    Calls Tryz.prog 45 #[pieceV p, .pointer (some ⟨B, 0, none⟩)] w fun e w' => e = .returned (.bool (idIs n p)) ∧ Below w.heap.size w w' := by
  have h := fun X => cell_alloc_old X h
  go_enter Tryz.func45, Tryz.ntmps45
  go_wp2
  go_ret
  exact ⟨ret_bool (by simp [idIs, Bool.beq_eq_decide_eq]), below_alloc _ _⟩
set_option maxHeartbeats 1000000 in
theorem index92_any (pred : Piece → Bool) (ps : List Piece) (B : Nat) (v : Value) (w : World) (hv : PcsAt w v ps)
    (C : ∀ W, Below w.heap.size w W → ∀ p ∈ ps, Calls Tryz.prog 92 #[pieceV p, .pointer (some ⟨B, 0, none⟩)] W fun e w' => e = .returned (.bool (pred p)) ∧ Below W.heap.size W w') :
    Calls Tryz.prog 38 #[v, .func (.func 92) #[] #[.pointer (some ⟨B, 0, none⟩)]] w fun e w' => e = .returned (.int .i64 (idxOf pred ps)) ∧ Below w.heap.size w w' := by
  obtain ⟨a, cap, rfl, hn, hs⟩ := hv
  have HS := hid hs
  have C := hid C
  clear hs
  go_enter Tryz.func38, Tryz.ntmps38
  go_wp2
  go_loopw [8] (fun i wr => ∃ k : Nat, k ≤ ps.length ∧ i = .int .i64 k ∧ (∀ j (h : j < ps.length), j < k → pred ps[j] = false) ∧ Below w.heap.size w wr) (fun i _ => ps.length - (intOf i).toNat)
  case atStart => exact ⟨0, by omega, rfl, fun _ _ h => by omega, Below.refl _ _⟩
  case round =>
    obtain ⟨k, hk, rfl, hall, hwr⟩ := hrel
    have Hall := hid hall; clear hall
    by_cases hlt : k < ps.length
    · obtain ⟨b, o, rfl, hx⟩ := HS.out k hlt
      obtain ⟨e0, e1, e2, e3, e4, e5⟩ := (hx _ (List.getElem?_eq_getElem hlt)).mono hwr
      have D := hid (C.out wr hwr ps[k] (List.getElem_mem hlt))
      clear hx
      obtain ⟨p, hp⟩ : ∃ p, p = ps[k] := ⟨_, rfl⟩
      rw [← hp] at e0 e1 e2 e3 e4 e5 D
      have Hp := hid hp; clear hp
      cases hf : pred p
      · have Hf := hid hf
        rw [hf] at D; clear hf
        go_wp2_with (go_at_call 92; refine D.out.mono ?_; rintro e w1 ⟨rfl, hb1⟩)
        go_roundw
        case rel =>
          refine ⟨k + 1, by omega, by go_num, ?_, hwr.step hb1⟩
          intro j hj hjk
          by_cases hjk' : j = k
          · subst hjk'; rw [← Hp.out]; exact Hf.out
          · exact Hall.out j hj (by omega)
        case measure => simp [intOf]; omega
      · have Hf := hid hf
        rw [hf] at D; clear hf
        go_wp2_with (go_at_call 92; refine D.out.mono ?_; rintro e w1 ⟨rfl, hb1⟩)
        go_ret
        exact ⟨ret_int (idxOf_found hlt (by rw [← Hp.out]; exact Hf.out) Hall.out).symm, hwr.step hb1⟩
    · have hke : k = ps.length := by omega
      have Hk := hid hke; clear hke
      go_wp2
      go_ret
      exact ⟨ret_int (idxOf_none (fun j hj => Hall.out j hj (by have := Hk.out; omega))).symm, hwr⟩
set_option maxHeartbeats 1000000 in
theorem index45_any (pred : Piece → Bool) (ps : List Piece) (B : Nat) (v : Value) (w : World) (hv : PcsAt w v ps)
    (C : ∀ W, Below w.heap.size w W → ∀ p ∈ ps, Calls Tryz.prog 45 #[pieceV p, .pointer (some ⟨B, 0, none⟩)] W fun e w' => e = .returned (.bool (pred p)) ∧ Below W.heap.size W w') :
    Calls Tryz.prog 38 #[v, .func (.func 45) #[] #[.pointer (some ⟨B, 0, none⟩)]] w fun e w' => e = .returned (.int .i64 (idxOf pred ps)) ∧ Below w.heap.size w w' := by
  obtain ⟨a, cap, rfl, hn, hs⟩ := hv
  have HS := hid hs
  have C := hid C
  clear hs
  go_enter Tryz.func38, Tryz.ntmps38
  go_wp2
  go_loopw [8] (fun i wr => ∃ k : Nat, k ≤ ps.length ∧ i = .int .i64 k ∧ (∀ j (h : j < ps.length), j < k → pred ps[j] = false) ∧ Below w.heap.size w wr) (fun i _ => ps.length - (intOf i).toNat)
  case atStart => exact ⟨0, by omega, rfl, fun _ _ h => by omega, Below.refl _ _⟩
  case round =>
    obtain ⟨k, hk, rfl, hall, hwr⟩ := hrel
    have Hall := hid hall; clear hall
    by_cases hlt : k < ps.length
    · obtain ⟨b, o, rfl, hx⟩ := HS.out k hlt
      obtain ⟨e0, e1, e2, e3, e4, e5⟩ := (hx _ (List.getElem?_eq_getElem hlt)).mono hwr
      have D := hid (C.out wr hwr ps[k] (List.getElem_mem hlt))
      clear hx
      obtain ⟨p, hp⟩ : ∃ p, p = ps[k] := ⟨_, rfl⟩
      rw [← hp] at e0 e1 e2 e3 e4 e5 D
      have Hp := hid hp; clear hp
      cases hf : pred p
      · have Hf := hid hf
        rw [hf] at D; clear hf
        go_wp2_with (go_at_call 45; refine D.out.mono ?_; rintro e w1 ⟨rfl, hb1⟩)
        go_roundw
        case rel =>
          refine ⟨k + 1, by omega, by go_num, ?_, hwr.step hb1⟩
          intro j hj hjk
          by_cases hjk' : j = k
          · subst hjk'; rw [← Hp.out]; exact Hf.out
          · exact Hall.out j hj (by omega)
        case measure => simp [intOf]; omega
      · have Hf := hid hf
        rw [hf] at D; clear hf
        go_wp2_with (go_at_call 45; refine D.out.mono ?_; rintro e w1 ⟨rfl, hb1⟩)
        go_ret
        exact ⟨ret_int (idxOf_found hlt (by rw [← Hp.out]; exact Hf.out) Hall.out).symm, hwr.step hb1⟩
    · have hke : k = ps.length := by omega
      have Hk := hid hke; clear hke
      go_wp2
      go_ret
      exact ⟨ret_int (idxOf_none (fun j hj => Hall.out j hj (by have := Hk.out; omega))).symm, hwr⟩
set_option maxHeartbeats 1000000 in
theorem contains45_any (pred : Piece → Bool) (ps : List Piece) (B : Nat) (v : Value) (w : World) (hv : PcsAt w v ps)
    (C : ∀ W, Below w.heap.size w W → ∀ p ∈ ps, Calls Tryz.prog 45 #[pieceV p, .pointer (some ⟨B, 0, none⟩)] W fun e w' => e = .returned (.bool (pred p)) ∧ Below W.heap.size W w') :
    Calls Tryz.prog 44 #[v, .func (.func 45) #[] #[.pointer (some ⟨B, 0, none⟩)]] w fun e w' => e = .returned (.bool (ps.any pred)) ∧ Below w.heap.size w w' := by
  have D := hid (index45_any pred ps B v w hv C)
  rw [← idxOf_nonneg]
  clear hv C
  go_enter Tryz.func44, Tryz.ntmps44
  go_wp2_with (go_at_call 38; refine D.out.mono ?_; rintro e w1 ⟨rfl, hb1⟩)
  go_ret
  exact ⟨ret_bool (by simp), hb1⟩
end Go.Proofs.YtcpecponmaakoaaGreatDoor
