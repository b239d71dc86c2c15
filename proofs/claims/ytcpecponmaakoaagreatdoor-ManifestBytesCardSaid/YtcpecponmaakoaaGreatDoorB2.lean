/- Walks: bytes: Put and Get of four bytes, the rest of bytes from a place on (the program's). -/
import Derived.Test.YtcpecponmaakoaaGreatDoorB1
namespace Go.Proofs.YtcpecponmaakoaaGreatDoor
open Go.RowKit Go.Wm Go.Lib
/-- A number's four bytes, the greatest first. -/
def be4 (n : Nat) : List UInt8 := [(n / 16777216 % 256).toUInt8, (n / 65536 % 256).toUInt8, (n / 256 % 256).toUInt8, (n % 256).toUInt8]
theorem be4_length (n : Nat) : (be4 n).length = 4 := rfl
set_option maxHeartbeats 2000000 in
set_option maxRecDepth 100000 in
theorem put4_any (l : List UInt8) (n : Nat) (v : Value) (w : World) (hv : BytesAt w v l) (hn : n < 4294967296) (hl : l.length ≤ 900000) :
    Calls Tryz.prog 55 #[v, .int .u64 n, .int .i64 4] w fun e w' => ∃ u, e = .returned u ∧ OwnBytes w' w.heap.size u (l ++ be4 n) ∧ Below w.heap.size w w' := by
  have C := hid (cloneB_any l v w hv)
  obtain ⟨a, cap, rfl, hn'⟩ := hv.form
  clear hv
  go_enter Tryz.func55, Tryz.ntmps55
  go_wp2_with fail
  refine C.out.mono ?_
  rintro e w1 ⟨u, rfl, hu, hb1⟩
  obtain ⟨a1, cap1, rfl⟩ := OwnBytes.form hu
  clear C
  go_wp2_with fail
  go_loopw [7, 8] (fun o s wr => ∃ j : Nat, j ≤ 4 ∧ s = .int .i64 (24 - 8 * j) ∧ OwnBytes wr w.heap.size o (l ++ (be4 n).take j) ∧ Below w.heap.size w wr) (fun _ s _ => (intOf s + 8).toNat)
  case atStart => exact ⟨0, by omega, rfl, by simpa using hu, hb1⟩
  case round =>
    obtain ⟨j, hj, rfl, hO, hwr⟩ := hrel
    obtain ⟨ao, co, rfl⟩ := OwnBytes.form hO
    have HO := hid hO
    clear hO
    obtain ⟨wo, rfl⟩ : ∃ wo : World, wo = wr := ⟨_, rfl⟩
    have hj5 : j = 0 ∨ j = 1 ∨ j = 2 ∨ j = 3 ∨ j = 4 := by omega
    rcases hj5 with rfl | rfl | rfl | rfl | rfl
    · go_wp2_with (at_builtin; refine wpList_append_u8 rfl (.tmp 25) (.tmp 30) rfl Tryz.underlying43 Tryz.inf5 w.heap.size _ _ (n / 16777216 % 256).toUInt8 rfl (HO.out.below (below_alloc wo _)) wo.heap.size rfl (by rw [u8n _ (by omega)]; simp; try omega) (by simp; omega) (by have := hwr.size; simp; omega) ?_)
      intro v' w' hO' hb' _
      have hbw := hwr.trans ((below_alloc wo _).mono hwr.size |>.trans hb')
      go_wp2
      go_roundw
      case rel => exact ⟨1, by omega, by go_num, by simpa [be4] using hO', hbw⟩
      case measure => simp [intOf]
    · go_wp2_with (at_builtin; refine wpList_append_u8 rfl (.tmp 25) (.tmp 30) rfl Tryz.underlying43 Tryz.inf5 w.heap.size _ _ (n / 65536 % 256).toUInt8 rfl (HO.out.below (below_alloc wo _)) wo.heap.size rfl (by rw [u8n _ (by omega)]; simp; try omega) (by simp; omega) (by have := hwr.size; simp; omega) ?_)
      intro v' w' hO' hb' _
      have hbw := hwr.trans ((below_alloc wo _).mono hwr.size |>.trans hb')
      go_wp2
      go_roundw
      case rel => exact ⟨2, by omega, by go_num, by simpa [be4] using hO', hbw⟩
      case measure => simp [intOf]
    · go_wp2_with (at_builtin; refine wpList_append_u8 rfl (.tmp 25) (.tmp 30) rfl Tryz.underlying43 Tryz.inf5 w.heap.size _ _ (n / 256 % 256).toUInt8 rfl (HO.out.below (below_alloc wo _)) wo.heap.size rfl (by rw [u8n _ (by omega)]; simp; try omega) (by simp; omega) (by have := hwr.size; simp; omega) ?_)
      intro v' w' hO' hb' _
      have hbw := hwr.trans ((below_alloc wo _).mono hwr.size |>.trans hb')
      go_wp2
      go_roundw
      case rel => exact ⟨3, by omega, by go_num, by simpa [be4] using hO', hbw⟩
      case measure => simp [intOf]
    · go_wp2_with (at_builtin; refine wpList_append_u8 rfl (.tmp 25) (.tmp 30) rfl Tryz.underlying43 Tryz.inf5 w.heap.size _ _ (n % 256).toUInt8 rfl (HO.out.below (below_alloc wo _)) wo.heap.size rfl (by rw [u8n _ (by omega)]; simp; try omega) (by simp; omega) (by have := hwr.size; simp; omega) ?_)
      intro v' w' hO' hb' _
      have hbw := hwr.trans ((below_alloc wo _).mono hwr.size |>.trans hb')
      go_wp2
      go_roundw
      case rel => exact ⟨4, by omega, by go_num, by simpa [be4] using hO', hbw⟩
      case measure => simp [intOf]
    · go_wp2
      go_ret
      exact ⟨_, rfl, by simpa [be4] using HO.out, hwr⟩
/-- Bytes from a place on. -/
theorem BytesAt.drop {w : World} {a : Option Addr} {cap : Nat} {l : List UInt8} (h : BytesAt w (.slice a l.length cap) l) (k : Nat) (hk : k ≤ l.length) (a' : Option Addr) (cap' : Nat) (ha : ∀ b o, k < l.length → a = some ⟨b, o, none⟩ → a' = some ⟨b, o + k, none⟩) :
    BytesAt w (.slice a' (l.length - k) cap') (l.drop k) := by
  obtain ⟨a0, cap0, hv, hn, hs⟩ := h
  injection hv with h1 h2 h3
  subst h1 h3
  refine ⟨a', cap', by rw [List.length_drop], by rw [List.length_drop]; omega, fun j hj => ?_⟩
  rw [List.length_drop] at hj
  obtain ⟨b, o, hab, hx⟩ := hs (k + j) (by omega)
  refine ⟨b, o + k, ha b o (by omega) hab, fun s hs' => ?_⟩
  rw [List.getElem?_drop] at hs'
  have := hx s hs'
  rw [show o + k + j * 1 = o + (k + j) * 1 by omega]
  exact this
/-- A slice's capacity is no less than its length. -/
def capOk (v : Value) : Prop := ∀ a n c, v = .slice a n c → n ≤ c
theorem OwnBytes.capOk {w : World} {b : Nat} {v : Value} {l : List UInt8} (h : OwnBytes w b v l) : capOk v := by
  intro a n c hv
  rcases h.2 with ⟨rfl, h0⟩ | ⟨g, cap, cur, rfl, _, _, hc, _⟩
  · cases hv; exact Nat.le_refl _
  · cases hv; exact hc
theorem from_any (l : List UInt8) (at' : Nat) (v : Value) (w : World) (hv : BytesAt w v l) (hat : at' ≤ 1000000000) (hc : capOk v) :
    Calls Tryz.prog 88 #[v, .int .i64 at'] w fun e w' => ∃ u, e = .returned u ∧ BytesAt w u (l.drop at') ∧ capOk u ∧ w' = w := by
  have hvw := hv
  obtain ⟨a, cap, rfl, hn⟩ := hv.form
  have hlc := hc _ _ _ rfl
  clear hv hc
  rcases Nat.lt_or_ge at' l.length with h | h
  · go_enter Tryz.func88, Tryz.ntmps88
    go_wp2
    go_ret
    refine ⟨_, rfl, BytesAt.drop hvw at' (by omega) _ _ (fun b o _ hab => by subst hab; simp [Addr.add]), ?_, rfl⟩
    intro a n c hv
    injection hv with h1 h2 h3
    omega
  · have Hd := hid (show l.drop at' = [] from List.drop_eq_nil_of_le h)
    have hmin : min (at' : Int) (l.length : Int) = l.length := by omega
    go_enter Tryz.func88, Tryz.ntmps88
    go_wp2
    all_goals (go_ret; exact ⟨_, rfl, by rw [Hd.out]; exact ⟨_, _, rfl, by simp, fun k hk => by simp at hk⟩, fun a n c hv => by injection hv; omega, rfl⟩)
theorem or_comm_u64 (a b : Int) : bits .or .u64 a b = bits .or .u64 b a := by
  show IntKind.u64.wrap ((BitVec.ofInt 64 a ||| BitVec.ofInt 64 b).toNat : Int) = IntKind.u64.wrap ((BitVec.ofInt 64 b ||| BitVec.ofInt 64 a).toNat : Int)
  rw [BitVec.or_comm]
/-- Four bytes as a number. -/
def beVal (l : List UInt8) : Nat := l.foldl (fun a b => a * 256 + b.toNat) 0
theorem beVal_snoc (l : List UInt8) (b : UInt8) : beVal (l ++ [b]) = beVal l * 256 + b.toNat := by simp [beVal]
theorem beVal_lt (l : List UInt8) : beVal l < 256 ^ l.length := by
  rw [← List.reverse_reverse l]
  induction l.reverse with
  | nil => simp [beVal]
  | cons b t ih =>
    have hb := b.toNat_lt
    rw [List.reverse_cons, beVal_snoc, List.length_append, List.length_singleton, Nat.pow_succ]
    omega
/-- Four bytes at a place: the number and the error. -/
def get4 (l : List UInt8) (at' : Nat) : Nat × Int := if (l.drop at').length < 4 then (0, 10) else (beVal ((l.drop at').take 4), 0)
set_option maxHeartbeats 2000000 in
set_option maxRecDepth 100000 in
theorem get4_any (l : List UInt8) (at' : Nat) (v : Value) (w : World) (hv : BytesAt w v l) (hat : at' ≤ 1000000000) (hc : capOk v) :
    Calls Tryz.prog 63 #[v, .int .i64 at', .int .i64 4] w fun e w' => e = .returned (.tuple #[.int .u64 (get4 l at').1, .int .i64 (get4 l at').2]) ∧ w' = w := by
  have C := hid (from_any l at' v w hv hat hc)
  have Hg := hid (show get4 l at' = if (l.drop at').length < 4 then (0, 10) else (beVal ((l.drop at').take 4), 0) from rfl)
  obtain ⟨a, cap, rfl, hn⟩ := hv.form
  clear hv hc
  generalize l.drop at' = m at *
  go_enter Tryz.func63, Tryz.ntmps63
  go_wp2_with fail
  refine C.out.mono ?_
  rintro e w1 ⟨u, rfl, hu, hcu, rfl⟩
  clear C
  have huw := hu
  obtain ⟨a2, c2, rfl, hn2, hs⟩ := hu
  have hcc := hcu _ _ _ rfl
  clear hcu
  by_cases h4 : m.length < 4
  · rw [if_pos h4] at Hg
    go_wp2
    exact bodyPost_ret (v := .tuple #[.int .u64 0, .int .i64 10]) (by simp [results, Tryz.results63, go_sem]) rfl ⟨by rw [Hg.out]; rfl, rfl⟩
  · rw [if_neg h4] at Hg
    have h5 : 4 ≤ m.length := by omega
    have hcap : 4 ≤ c2 := by omega
    go_wp2
    go_loopw [9, 33] (fun n i wr => ∃ j : Nat, j ≤ 4 ∧ i = .int .i64 j ∧ n = .int .u64 (beVal (m.take j)) ∧ wr = w1) (fun _ i _ => (4 - intOf i).toNat)
    case atStart => exact ⟨0, by omega, rfl, rfl, rfl⟩
    case round =>
      obtain ⟨j, hj, rfl, rfl, rfl⟩ := hrel
      by_cases hj4 : j < 4
      · obtain ⟨b, o, rfl, hx⟩ := hs j (by omega)
        have e0 := hx _ (List.getElem?_eq_getElem (by omega))
        have hlt2 : beVal (m.take j) < 16777216 := by
          have := beVal_lt (m.take j)
          have h6 : 256 ^ (m.take j).length ≤ 256 ^ 3 := Nat.pow_le_pow_right (by omega) (by rw [List.length_take]; omega)
          omega
        have Hs := hid (show beVal (m.take (j + 1)) = beVal (m.take j) * 256 + (m[j]'(by omega)).toNat by
          rw [List.take_add_one, List.getElem?_eq_getElem (by omega)]; exact beVal_snoc _ _)
        rw [Nat.mul_one] at e0
        clear hx hs
        generalize m[j]'(by omega) = x at *
        have hx := x.toNat_lt
        generalize hy : x.toNat = y at *
        generalize beVal (m.take j) = z at *
        have hor : bits .or .u64 ((z : Int) * 256) (y : Int) = ((z * 256 + y : Nat) : Int) := by
          rw [or_comm_u64, u64_or8 _ _ (by omega) (by omega) (by omega) (by omega) (by omega)]
          omega
        go_wp2
        go_roundw
        case rel => exact ⟨j + 1, by omega, by go_num, by rw [Hs.out]; simp, trivial⟩
        case measure => simp [intOf]; omega
      · have hj' : j = 4 := by omega
        subst hj'
        go_wp2
        exact bodyPost_ret (v := .tuple #[.int .u64 (beVal (m.take 4)), .int .i64 0]) (by simp [results, Tryz.results63, go_sem]) rfl ⟨by rw [Hg.out], rfl⟩
end Go.Proofs.YtcpecponmaakoaaGreatDoor
