/- Walks: the sum of bytes (the program's): half, the table, a byte's step, Sum. -/
import Derived.Test.YtcpecponmaakoaaGreatDoorB1
import Derived.Test.YtcpecponmaakoaaGreatDoorCrc
namespace Go.Proofs.YtcpecponmaakoaaGreatDoor
open Go.RowKit Go.Wm Go.Lib
theorem bits_xor_u32_nat (a b : Nat) (ha : a < 4294967296) (hb : b < 4294967296) : bits .xor .u32 (a : Int) (b : Int) = ((a ^^^ b : Nat) : Int) := by
  have hx : a ^^^ b < 2 ^ 32 := Nat.xor_lt_two_pow (by omega) (by omega)
  have h1 : (BitVec.ofInt 32 (a : Int)).toNat = a := by
    rw [BitVec.ofInt_natCast, BitVec.toNat_ofNat]; exact Nat.mod_eq_of_lt (by omega)
  have h2 : (BitVec.ofInt 32 (b : Int)).toNat = b := by
    rw [BitVec.ofInt_natCast, BitVec.toNat_ofNat]; exact Nat.mod_eq_of_lt (by omega)
  show IntKind.u32.wrap ((BitVec.ofInt 32 (a : Int) ^^^ BitVec.ofInt 32 (b : Int)).toNat : Int) = _
  rw [BitVec.toNat_xor, h1, h2]
  exact wraps_u32 _ (by omega) (by omega)
theorem bits_and_u32_nat (a b : Nat) (ha : a < 4294967296) (hb : b < 4294967296) : bits .and .u32 (a : Int) (b : Int) = ((a &&& b : Nat) : Int) := by
  have hx : a &&& b < 2 ^ 32 := Nat.and_lt_two_pow _ (by omega)
  have h1 : (BitVec.ofInt 32 (a : Int)).toNat = a := by
    rw [BitVec.ofInt_natCast, BitVec.toNat_ofNat]; exact Nat.mod_eq_of_lt (by omega)
  have h2 : (BitVec.ofInt 32 (b : Int)).toNat = b := by
    rw [BitVec.ofInt_natCast, BitVec.toNat_ofNat]; exact Nat.mod_eq_of_lt (by omega)
  show IntKind.u32.wrap ((BitVec.ofInt 32 (a : Int) &&& BitVec.ofInt 32 (b : Int)).toNat : Int) = _
  rw [BitVec.toNat_and, h1, h2]
  exact wraps_u32 _ (by omega) (by omega)
set_option maxHeartbeats 1000000 in
theorem half_any (v : Nat) (w : World) (hv : v < 4294967296) : Calls Tryz.prog 130 #[.int .u32 v] w fun e w' => e = .returned (.int .u32 (csteps 4 v)) ∧ w' = w := by
  go_enter Tryz.func130, Tryz.ntmps130
  go_wp2
  go_loopw [0, 3] (fun x i wr => ∃ j : Nat, j ≤ 4 ∧ i = .int .i64 j ∧ x = .int .u32 (csteps j v) ∧ wr = w) (fun _ i _ => (4 - intOf i).toNat)
  case atStart => exact ⟨0, by omega, rfl, rfl, rfl⟩
  case round =>
    obtain ⟨j, hj, rfl, rfl, rfl⟩ := hrel
    have Hs := hid (csteps_succ j v)
    have hlt := csteps_lt j v hv
    by_cases hj4 : j < 4
    · generalize csteps j v = x at *
      have h1 : bits .and .u32 (x : Int) 1 = ((x % 2 : Nat) : Int) := by
        have := bits_and_u32_nat x 1 hlt (by omega)
        rw [Nat.and_one_is_mod] at this
        exact this
      rcases Nat.mod_two_eq_zero_or_one x with h2 | h2
      · rw [h2] at h1
        have h3 : bits .and .u32 3988292384 0 = 0 := bits_and_u32_nat 3988292384 0 (by omega) (by omega)
        have h4 : bits .xor .u32 ((x : Int) / 2) 0 = ((x / 2 : Nat) : Int) := by
          have := bits_xor_u32_nat (x / 2) 0 (by omega) (by omega)
          simpa using this
        have Hc := hid (show cstep x = x / 2 by unfold cstep; rw [if_neg (by omega)])
        clear h2
        go_wp2
        go_roundw
        case rel => exact ⟨j + 1, by omega, by go_num, by rw [Hs.out, Hc.out]; try simp, trivial⟩
        case measure => simp [intOf]; omega
      · rw [h2] at h1
        have h3 : bits .and .u32 3988292384 4294967295 = 3988292384 := by decide
        have h4 : bits .xor .u32 ((x : Int) / 2) 3988292384 = ((x / 2 ^^^ poly : Nat) : Int) := by
          have := bits_xor_u32_nat (x / 2) poly (by omega) (by unfold poly; omega)
          simpa [poly] using this
        have Hc := hid (show cstep x = x / 2 ^^^ poly by unfold cstep; rw [if_pos h2])
        clear h2
        go_wp2
        go_roundw
        case rel => exact ⟨j + 1, by omega, by go_num, by rw [Hs.out, Hc.out]; try simp, trivial⟩
        case measure => simp [intOf]; omega
    · have hj' : j = 4 := by omega
      subst hj'
      go_wp2
      go_ret
      exact ⟨rfl, rfl⟩
end Go.Proofs.YtcpecponmaakoaaGreatDoor
