/- Walks: bytes: four bytes put behind (the document's). -/
import Derived.Test.YtcpecponmaakoaaGreatDoorR1
namespace Go.Proofs.YtcpecponmaakoaaGreatDoor
open Go.RowKit Go.Wm Go.Lib
theorem be4_take (n i : Nat) (h : i < 4) : (be4 n).take (i + 1) = (be4 n).take i ++ [(n / 256 ^ (3 - i) % 256).toUInt8] := by
  have : i = 0 ∨ i = 1 ∨ i = 2 ∨ i = 3 := by omega
  rcases this with rfl | rfl | rfl | rfl <;> simp [be4]
theorem div256 (n t : Nat) : n / 256 ^ (t + 1) = n / 256 ^ t / 256 := by rw [Nat.pow_succ, Nat.div_div_eq_div_mul]
set_option maxHeartbeats 2000000 in
set_option maxRecDepth 100000 in
theorem refPut4_any (l : List UInt8) (n : Nat) (v : Value) (w : World) (hv : BytesAt w v l) (hn : n < 4294967296) (hl : l.length ≤ 900000) :
    Calls Tryz.prog 58 #[v, .int .u64 n, .int .i64 4] w fun e w' => ∃ u, e = .returned u ∧ OwnBytes w' w.heap.size u (l ++ be4 n) ∧ Below w.heap.size w w' := by
  have C := hid (copyB_any l v w hv)
  obtain ⟨a, cap, rfl, hn'⟩ := hv.form
  clear hv
  go_enter Tryz.func58, Tryz.ntmps58
  go_wp2_with fail
  refine C.out.mono ?_
  rintro e w1 ⟨u, rfl, hu, hb1⟩
  obtain ⟨a1, cap1, rfl⟩ := OwnBytes.form hu
  clear C
  go_wp2_with fail
  go_loopw [7, 20] (fun o i wr => ∃ j : Nat, j ≤ 4 ∧ i = .int .i64 j ∧ OwnBytes wr w.heap.size o (l ++ (be4 n).take j) ∧ Below w.heap.size w wr) (fun _ i _ => (4 - intOf i).toNat)
  case atStart => exact ⟨0, by omega, rfl, by simpa using hu, hb1⟩
  case round =>
    obtain ⟨j, hj, rfl, hO, hwr⟩ := hrel
    obtain ⟨ao, co, rfl⟩ := OwnBytes.form hO
    have HO := hid hO
    clear hO hu hb1
    obtain ⟨wo, rfl⟩ : ∃ wo : World, wo = wr := ⟨_, rfl⟩
    by_cases hlt : j < 4
    · have Hnx := hid (be4_take n j hlt)
      go_wp2_with fail
      go_loopw [9, 28] (fun x t wr => ∃ k : Nat, k + j ≤ 3 ∧ t = .int .i64 k ∧ x = .int .u64 (n / 256 ^ k : Nat) ∧ wr = wo) (fun _ t _ => (3 - intOf t).toNat)
      case atStart => exact ⟨0, by omega, rfl, by simp, rfl⟩
      case round =>
        obtain ⟨k, hk, rfl, rfl, rfl⟩ := hrel
        have Hd := hid (div256 n k)
        have hle : n / 256 ^ k < 4294967296 := Nat.lt_of_le_of_lt (Nat.div_le_self _ _) hn
        by_cases hk3 : k + j < 3
        · generalize n / 256 ^ k = m at *
          go_wp2_with fail
          go_roundw
          case rel => exact ⟨k + 1, by omega, by go_num, by rw [Hd.out]; simp, trivial⟩
          case measure => simp [intOf]; omega
        · have hk' : 3 - j = k := by omega
          rw [hk'] at Hnx
          clear hk' Hd
          generalize n / 256 ^ k = m at *
          obtain ⟨wo, rfl⟩ : ∃ wo : World, wo = wr := ⟨_, rfl⟩
          go_wp2_with (at_builtin; refine wpList_append_u8 rfl (.tmp 33) (.tmp 37) rfl Tryz.underlying43 Tryz.inf5 w.heap.size _ _ (m % 256).toUInt8 rfl (HO.out.below (below_alloc wo _)) wo.heap.size rfl (by rw [u8n _ (by omega)]; simp) (by simp [be4]; omega) (by have := hwr.size; simp; omega) ?_)
          intro v' w' hO' hb' _
          have hbw := hwr.trans ((below_alloc wo _).mono hwr.size |>.trans hb')
          go_wp2
          go_roundw
          case rel => exact ⟨j + 1, by omega, by go_num, by rw [Hnx.out]; simpa using hO', hbw⟩
          case measure => simp [intOf]; omega
    · have hj' : j = 4 := by omega
      subst hj'
      go_wp2
      go_ret
      exact ⟨_, rfl, by simpa [be4] using HO.out, hwr⟩
end Go.Proofs.YtcpecponmaakoaaGreatDoor
