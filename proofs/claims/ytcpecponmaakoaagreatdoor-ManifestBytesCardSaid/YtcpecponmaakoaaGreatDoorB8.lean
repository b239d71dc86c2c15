/- Walks: a number read (the program's GetVar). -/
import Derived.Test.YtcpecponmaakoaaGreatDoorB2
import Derived.Lib.VarintBits
import Derived.Lib.Zigzag
namespace Go.Proofs.YtcpecponmaakoaaGreatDoor
open Go.RowKit Go.Wm Go.Lib
def unzig (z : Nat) : Int := if z % 2 = 0 then ((z / 2 : Nat) : Int) else -((z / 2 : Nat) : Int) - 1
def gv (a : Int) : Nat → Nat → List UInt8 → Int × Int × Int
  | _, _, [] => (0, 0, 10)
  | i, z, x :: l =>
    if (i = 9 ∧ 1 < x.toNat) ∨ (0 < i ∧ x.toNat = 0) then (0, 0, 11)
    else if x.toNat < 128 then (unzig (z + 128 ^ i * (x.toNat % 128)), a + i + 1, 0)
    else gv a (i + 1) (z + 128 ^ i * (x.toNat % 128)) l
def getVarM (l : List UInt8) (a : Nat) : Int × Int × Int := gv a 0 0 (l.drop a)
theorem xor_comm_i64 (a b : Int) : bits .xor .i64 a b = bits .xor .i64 b a := by
  show IntKind.i64.wrap ((BitVec.ofInt 64 a ^^^ BitVec.ofInt 64 b).toNat : Int) = IntKind.i64.wrap ((BitVec.ofInt 64 b ^^^ BitVec.ofInt 64 a).toNat : Int)
  rw [BitVec.xor_comm]
theorem xor_zero_i64 (x : Nat) (h : x < 9223372036854775808) : bits .xor .i64 (x : Int) 0 = x := by
  show IntKind.i64.wrap ((BitVec.ofInt 64 (x : Int) ^^^ BitVec.ofInt 64 0).toNat : Int) = _
  have h2 : (BitVec.ofInt 64 (x : Int)).toNat = x := by
    rw [BitVec.ofInt_natCast, BitVec.toNat_ofNat]; exact Nat.mod_eq_of_lt (by omega)
  rw [show BitVec.ofInt 64 0 = 0#64 from rfl, BitVec.xor_zero, h2]
  simp [IntKind.wrap, IntKind.bits, IntKind.signed]
  omega
theorem unzig_run (z : Nat) (hz : z < 18446744073709551616) : bits .xor .i64 ((z : Int) / 2) (wrap64 (-wrap64 (bits .and .u64 (z : Int) 1))) = unzig z := by
  rw [u64_and1 (z : Int) (by omega) (by omega)]
  rcases Nat.mod_two_eq_zero_or_one z with h | h
  · have e : (z : Int) % 2 = 0 := by omega
    rw [e, unzig, if_pos h]
    have h1 : wrap64 (-wrap64 0) = 0 := by simp [wrap64]
    rw [h1]
    rw [show (z : Int) / 2 = ((z / 2 : Nat) : Int) by omega, xor_zero_i64 _ (by omega)]
  · have e : (z : Int) % 2 = 1 := by omega
    rw [e, unzig, if_neg (by omega)]
    have h1 : wrap64 (-wrap64 1) = -1 := by simp [wrap64]
    rw [h1]
    have := i64_not (z / 2) (by omega)
    rw [xor_comm_i64, show (z : Int) / 2 = ((z / 2 : Nat) : Int) by omega, this]
set_option maxHeartbeats 1000000 in
set_option maxRecDepth 100000 in
theorem getVar_any (l : List UInt8) (at' : Nat) (v : Value) (w : World) (hv : BytesAt w v l) (hat : at' ≤ 1000000000) (hc : capOk v) :
    Calls Tryz.prog 62 #[v, .int .i64 at'] w fun e w' => e = .returned (.tuple #[.int .i64 (getVarM l at').1, .int .i64 (getVarM l at').2.1, .int .i64 (getVarM l at').2.2]) ∧ w' = w := by
  have C := hid (from_any l at' v w hv hat hc)
  have Hg := hid (show getVarM l at' = gv at' 0 0 (l.drop at') from rfl)
  obtain ⟨a, cap, rfl, hn⟩ := hv.form
  clear hv hc
  generalize l.drop at' = m at *
  have hneg : decide ((at' : Int) < 0) = false := decide_eq_false (by omega)
  go_enter Tryz.func62, Tryz.ntmps62
  go_wp2_with fail
  refine C.out.mono ?_
  rintro e w1 ⟨u, rfl, hu, _, rfl⟩
  clear C
  obtain ⟨a2, c2, rfl, hn2, hs⟩ := hu
  have HS := hid hs
  clear hs hneg
  go_wp2_with fail
  go_loopw [7, 16] (fun z i wr => ∃ k zn : Nat, k ≤ m.length ∧ k ≤ 9 ∧ i = .int .i64 k ∧ z = .int .u64 zn ∧ zn < 128 ^ k ∧ gv at' 0 0 m = gv at' k zn (m.drop k) ∧ wr = w1) (fun _ i _ => m.length - (intOf i).toNat)
  case atStart => exact ⟨0, 0, by omega, by omega, rfl, rfl, by decide, rfl, rfl⟩
  case round =>
    obtain ⟨k, zn, hk, hk9, rfl, rfl, hz, hgv, rfl⟩ := hrel
    have Hgv := hid (Hg.out.trans hgv)
    clear hgv
    by_cases hlt : k < m.length
    · obtain ⟨b, o, rfl, hx⟩ := HS.out k hlt
      have e0 := hx _ (List.getElem?_eq_getElem hlt)
      rw [Nat.mul_one] at e0
      have Hg2 := hid (show getVarM l at' = gv at' k zn (m[k] :: m.drop (k + 1)) by rw [Hgv.out, List.drop_eq_getElem_cons hlt])
      clear hx Hgv
      obtain ⟨x, hxm⟩ : ∃ x, x = m[k] := ⟨_, rfl⟩
      rw [← hxm] at e0 Hg2
      clear hxm
      have Hg3 := hid (show getVarM l at' = _ from Hg2.out.trans (by rw [gv]))
      clear Hg2
      have hc := x.toNat_lt
      obtain ⟨c, hcx⟩ : ∃ c, c = x.toNat := ⟨_, rfl⟩
      rw [← hcx] at e0 hc Hg3
      clear hcx
      have hk10 : k = 0 ∨ k = 1 ∨ k = 2 ∨ k = 3 ∨ k = 4 ∨ k = 5 ∨ k = 6 ∨ k = 7 ∨ k = 8 ∨ k = 9 := by omega
      rcases hk10 with rfl | rfl | rfl | rfl | rfl | rfl | rfl | rfl | rfl | rfl
      · have hz' : zn < 1 := hz
        simp only [Nat.add_zero] at e0
        have Hm := hid (Hg3.out.trans (if_neg (by omega)))
        have hand := u8_and127 (c : Int) (by omega) (by omega)
        have hor : bits .or .u64 (zn : Int) ((c : Int) % 128) = ((zn + (c % 128) : Nat) : Int) := by
          rw [u64_orv0 _ _ (by omega) (by omega) (by omega) (by omega) (by omega)]; omega
        have hun := unzig_run (zn + (c % 128)) (by omega)
        rw [show (((zn + (c % 128) : Nat)) : Int) = (zn : Int) + ((c : Int) % 128) by omega] at hun
        clear hz Hg3
        by_cases h128 : c < 128
        · go_wp2
          exact bodyPost_ret (v := .tuple #[.int .i64 (unzig (zn + (c % 128))), .int .i64 (at' + 0 + 1), .int .i64 0]) (by simp [results, Tryz.results62, go_sem]) rfl ⟨by rw [Hm.out, if_pos h128]; simp, rfl⟩
        · go_wp2
          go_roundw
          case rel => exact ⟨0 + 1, zn + (c % 128), by omega, by omega, by go_num, by simp, show zn + (c % 128) < 128 by omega, by rw [← Hg.out, Hm.out, if_neg h128]; simp, trivial⟩
          case measure => simp [intOf]; omega
        
      · by_cases hc0 : c = 0
        · have Hm := hid (show getVarM l at' = (0, 0, 11) by rw [Hg3.out, if_pos (by omega)])
          clear Hg3
          go_wp2
          exact bodyPost_ret (v := .tuple #[.int .i64 0, .int .i64 0, .int .i64 11]) (by simp [results, Tryz.results62, go_sem]) rfl ⟨by rw [Hm.out], rfl⟩
        · have hz' : zn < 128 := hz
          have Hm := hid (Hg3.out.trans (if_neg (by omega)))
          have hand := u8_and127 (c : Int) (by omega) (by omega)
          have hor : bits .or .u64 (zn : Int) ((c : Int) % 128 * 128) = ((zn + 128 * (c % 128) : Nat) : Int) := by
            rw [u64_orv7 _ _ (by omega) (by omega) (by omega) (by omega) (by omega)]; omega
          have hun := unzig_run (zn + 128 * (c % 128)) (by omega)
          rw [show (((zn + 128 * (c % 128) : Nat)) : Int) = (zn : Int) + 128 * ((c : Int) % 128) by omega] at hun
          clear hz Hg3
          by_cases h128 : c < 128
          · go_wp2
            exact bodyPost_ret (v := .tuple #[.int .i64 (unzig (zn + 128 * (c % 128))), .int .i64 (at' + 1 + 1), .int .i64 0]) (by simp [results, Tryz.results62, go_sem]) rfl ⟨by rw [Hm.out, if_pos h128]; rfl, rfl⟩
          · go_wp2
            go_roundw
            case rel => exact ⟨1 + 1, zn + 128 * (c % 128), by omega, by omega, by go_num, by simp, show zn + 128 * (c % 128) < 16384 by omega, Hg.out.symm.trans (Hm.out.trans (if_neg h128)), trivial⟩
            case measure => simp [intOf]; omega
          
      · by_cases hc0 : c = 0
        · have Hm := hid (show getVarM l at' = (0, 0, 11) by rw [Hg3.out, if_pos (by omega)])
          clear Hg3
          go_wp2
          exact bodyPost_ret (v := .tuple #[.int .i64 0, .int .i64 0, .int .i64 11]) (by simp [results, Tryz.results62, go_sem]) rfl ⟨by rw [Hm.out], rfl⟩
        · have hz' : zn < 16384 := hz
          have Hm := hid (Hg3.out.trans (if_neg (by omega)))
          have hand := u8_and127 (c : Int) (by omega) (by omega)
          have hor : bits .or .u64 (zn : Int) ((c : Int) % 128 * 16384) = ((zn + 16384 * (c % 128) : Nat) : Int) := by
            rw [u64_orv14 _ _ (by omega) (by omega) (by omega) (by omega) (by omega)]; omega
          have hun := unzig_run (zn + 16384 * (c % 128)) (by omega)
          rw [show (((zn + 16384 * (c % 128) : Nat)) : Int) = (zn : Int) + 16384 * ((c : Int) % 128) by omega] at hun
          clear hz Hg3
          by_cases h128 : c < 128
          · go_wp2
            exact bodyPost_ret (v := .tuple #[.int .i64 (unzig (zn + 16384 * (c % 128))), .int .i64 (at' + 2 + 1), .int .i64 0]) (by simp [results, Tryz.results62, go_sem]) rfl ⟨by rw [Hm.out, if_pos h128]; rfl, rfl⟩
          · go_wp2
            go_roundw
            case rel => exact ⟨2 + 1, zn + 16384 * (c % 128), by omega, by omega, by go_num, by simp, show zn + 16384 * (c % 128) < 2097152 by omega, Hg.out.symm.trans (Hm.out.trans (if_neg h128)), trivial⟩
            case measure => simp [intOf]; omega
          
      · by_cases hc0 : c = 0
        · have Hm := hid (show getVarM l at' = (0, 0, 11) by rw [Hg3.out, if_pos (by omega)])
          clear Hg3
          go_wp2
          exact bodyPost_ret (v := .tuple #[.int .i64 0, .int .i64 0, .int .i64 11]) (by simp [results, Tryz.results62, go_sem]) rfl ⟨by rw [Hm.out], rfl⟩
        · have hz' : zn < 2097152 := hz
          have Hm := hid (Hg3.out.trans (if_neg (by omega)))
          have hand := u8_and127 (c : Int) (by omega) (by omega)
          have hor : bits .or .u64 (zn : Int) ((c : Int) % 128 * 2097152) = ((zn + 2097152 * (c % 128) : Nat) : Int) := by
            rw [u64_orv21 _ _ (by omega) (by omega) (by omega) (by omega) (by omega)]; omega
          have hun := unzig_run (zn + 2097152 * (c % 128)) (by omega)
          rw [show (((zn + 2097152 * (c % 128) : Nat)) : Int) = (zn : Int) + 2097152 * ((c : Int) % 128) by omega] at hun
          clear hz Hg3
          by_cases h128 : c < 128
          · go_wp2
            exact bodyPost_ret (v := .tuple #[.int .i64 (unzig (zn + 2097152 * (c % 128))), .int .i64 (at' + 3 + 1), .int .i64 0]) (by simp [results, Tryz.results62, go_sem]) rfl ⟨by rw [Hm.out, if_pos h128]; rfl, rfl⟩
          · go_wp2
            go_roundw
            case rel => exact ⟨3 + 1, zn + 2097152 * (c % 128), by omega, by omega, by go_num, by simp, show zn + 2097152 * (c % 128) < 268435456 by omega, Hg.out.symm.trans (Hm.out.trans (if_neg h128)), trivial⟩
            case measure => simp [intOf]; omega
          
      · by_cases hc0 : c = 0
        · have Hm := hid (show getVarM l at' = (0, 0, 11) by rw [Hg3.out, if_pos (by omega)])
          clear Hg3
          go_wp2
          exact bodyPost_ret (v := .tuple #[.int .i64 0, .int .i64 0, .int .i64 11]) (by simp [results, Tryz.results62, go_sem]) rfl ⟨by rw [Hm.out], rfl⟩
        · have hz' : zn < 268435456 := hz
          have Hm := hid (Hg3.out.trans (if_neg (by omega)))
          have hand := u8_and127 (c : Int) (by omega) (by omega)
          have hor : bits .or .u64 (zn : Int) ((c : Int) % 128 * 268435456) = ((zn + 268435456 * (c % 128) : Nat) : Int) := by
            rw [u64_orv28 _ _ (by omega) (by omega) (by omega) (by omega) (by omega)]; omega
          have hun := unzig_run (zn + 268435456 * (c % 128)) (by omega)
          rw [show (((zn + 268435456 * (c % 128) : Nat)) : Int) = (zn : Int) + 268435456 * ((c : Int) % 128) by omega] at hun
          clear hz Hg3
          by_cases h128 : c < 128
          · go_wp2
            exact bodyPost_ret (v := .tuple #[.int .i64 (unzig (zn + 268435456 * (c % 128))), .int .i64 (at' + 4 + 1), .int .i64 0]) (by simp [results, Tryz.results62, go_sem]) rfl ⟨by rw [Hm.out, if_pos h128]; rfl, rfl⟩
          · go_wp2
            go_roundw
            case rel => exact ⟨4 + 1, zn + 268435456 * (c % 128), by omega, by omega, by go_num, by simp, show zn + 268435456 * (c % 128) < 34359738368 by omega, Hg.out.symm.trans (Hm.out.trans (if_neg h128)), trivial⟩
            case measure => simp [intOf]; omega
          
      · by_cases hc0 : c = 0
        · have Hm := hid (show getVarM l at' = (0, 0, 11) by rw [Hg3.out, if_pos (by omega)])
          clear Hg3
          go_wp2
          exact bodyPost_ret (v := .tuple #[.int .i64 0, .int .i64 0, .int .i64 11]) (by simp [results, Tryz.results62, go_sem]) rfl ⟨by rw [Hm.out], rfl⟩
        · have hz' : zn < 34359738368 := hz
          have Hm := hid (Hg3.out.trans (if_neg (by omega)))
          have hand := u8_and127 (c : Int) (by omega) (by omega)
          have hor : bits .or .u64 (zn : Int) ((c : Int) % 128 * 34359738368) = ((zn + 34359738368 * (c % 128) : Nat) : Int) := by
            rw [u64_orv35 _ _ (by omega) (by omega) (by omega) (by omega) (by omega)]; omega
          have hun := unzig_run (zn + 34359738368 * (c % 128)) (by omega)
          rw [show (((zn + 34359738368 * (c % 128) : Nat)) : Int) = (zn : Int) + 34359738368 * ((c : Int) % 128) by omega] at hun
          clear hz Hg3
          by_cases h128 : c < 128
          · go_wp2
            exact bodyPost_ret (v := .tuple #[.int .i64 (unzig (zn + 34359738368 * (c % 128))), .int .i64 (at' + 5 + 1), .int .i64 0]) (by simp [results, Tryz.results62, go_sem]) rfl ⟨by rw [Hm.out, if_pos h128]; rfl, rfl⟩
          · go_wp2
            go_roundw
            case rel => exact ⟨5 + 1, zn + 34359738368 * (c % 128), by omega, by omega, by go_num, by simp, show zn + 34359738368 * (c % 128) < 4398046511104 by omega, Hg.out.symm.trans (Hm.out.trans (if_neg h128)), trivial⟩
            case measure => simp [intOf]; omega
          
      · by_cases hc0 : c = 0
        · have Hm := hid (show getVarM l at' = (0, 0, 11) by rw [Hg3.out, if_pos (by omega)])
          clear Hg3
          go_wp2
          exact bodyPost_ret (v := .tuple #[.int .i64 0, .int .i64 0, .int .i64 11]) (by simp [results, Tryz.results62, go_sem]) rfl ⟨by rw [Hm.out], rfl⟩
        · have hz' : zn < 4398046511104 := hz
          have Hm := hid (Hg3.out.trans (if_neg (by omega)))
          have hand := u8_and127 (c : Int) (by omega) (by omega)
          have hor : bits .or .u64 (zn : Int) ((c : Int) % 128 * 4398046511104) = ((zn + 4398046511104 * (c % 128) : Nat) : Int) := by
            rw [u64_orv42 _ _ (by omega) (by omega) (by omega) (by omega) (by omega)]; omega
          have hun := unzig_run (zn + 4398046511104 * (c % 128)) (by omega)
          rw [show (((zn + 4398046511104 * (c % 128) : Nat)) : Int) = (zn : Int) + 4398046511104 * ((c : Int) % 128) by omega] at hun
          clear hz Hg3
          by_cases h128 : c < 128
          · go_wp2
            exact bodyPost_ret (v := .tuple #[.int .i64 (unzig (zn + 4398046511104 * (c % 128))), .int .i64 (at' + 6 + 1), .int .i64 0]) (by simp [results, Tryz.results62, go_sem]) rfl ⟨by rw [Hm.out, if_pos h128]; rfl, rfl⟩
          · go_wp2
            go_roundw
            case rel => exact ⟨6 + 1, zn + 4398046511104 * (c % 128), by omega, by omega, by go_num, by simp, show zn + 4398046511104 * (c % 128) < 562949953421312 by omega, Hg.out.symm.trans (Hm.out.trans (if_neg h128)), trivial⟩
            case measure => simp [intOf]; omega
          
      · by_cases hc0 : c = 0
        · have Hm := hid (show getVarM l at' = (0, 0, 11) by rw [Hg3.out, if_pos (by omega)])
          clear Hg3
          go_wp2
          exact bodyPost_ret (v := .tuple #[.int .i64 0, .int .i64 0, .int .i64 11]) (by simp [results, Tryz.results62, go_sem]) rfl ⟨by rw [Hm.out], rfl⟩
        · have hz' : zn < 562949953421312 := hz
          have Hm := hid (Hg3.out.trans (if_neg (by omega)))
          have hand := u8_and127 (c : Int) (by omega) (by omega)
          have hor : bits .or .u64 (zn : Int) ((c : Int) % 128 * 562949953421312) = ((zn + 562949953421312 * (c % 128) : Nat) : Int) := by
            rw [u64_orv49 _ _ (by omega) (by omega) (by omega) (by omega) (by omega)]; omega
          have hun := unzig_run (zn + 562949953421312 * (c % 128)) (by omega)
          rw [show (((zn + 562949953421312 * (c % 128) : Nat)) : Int) = (zn : Int) + 562949953421312 * ((c : Int) % 128) by omega] at hun
          clear hz Hg3
          by_cases h128 : c < 128
          · go_wp2
            exact bodyPost_ret (v := .tuple #[.int .i64 (unzig (zn + 562949953421312 * (c % 128))), .int .i64 (at' + 7 + 1), .int .i64 0]) (by simp [results, Tryz.results62, go_sem]) rfl ⟨by rw [Hm.out, if_pos h128]; rfl, rfl⟩
          · go_wp2
            go_roundw
            case rel => exact ⟨7 + 1, zn + 562949953421312 * (c % 128), by omega, by omega, by go_num, by simp, show zn + 562949953421312 * (c % 128) < 72057594037927936 by omega, Hg.out.symm.trans (Hm.out.trans (if_neg h128)), trivial⟩
            case measure => simp [intOf]; omega
          
      · by_cases hc0 : c = 0
        · have Hm := hid (show getVarM l at' = (0, 0, 11) by rw [Hg3.out, if_pos (by omega)])
          clear Hg3
          go_wp2
          exact bodyPost_ret (v := .tuple #[.int .i64 0, .int .i64 0, .int .i64 11]) (by simp [results, Tryz.results62, go_sem]) rfl ⟨by rw [Hm.out], rfl⟩
        · have hz' : zn < 72057594037927936 := hz
          have Hm := hid (Hg3.out.trans (if_neg (by omega)))
          have hand := u8_and127 (c : Int) (by omega) (by omega)
          have hor : bits .or .u64 (zn : Int) ((c : Int) % 128 * 72057594037927936) = ((zn + 72057594037927936 * (c % 128) : Nat) : Int) := by
            rw [u64_orv56 _ _ (by omega) (by omega) (by omega) (by omega) (by omega)]; omega
          have hun := unzig_run (zn + 72057594037927936 * (c % 128)) (by omega)
          rw [show (((zn + 72057594037927936 * (c % 128) : Nat)) : Int) = (zn : Int) + 72057594037927936 * ((c : Int) % 128) by omega] at hun
          clear hz Hg3
          by_cases h128 : c < 128
          · go_wp2
            exact bodyPost_ret (v := .tuple #[.int .i64 (unzig (zn + 72057594037927936 * (c % 128))), .int .i64 (at' + 8 + 1), .int .i64 0]) (by simp [results, Tryz.results62, go_sem]) rfl ⟨by rw [Hm.out, if_pos h128]; rfl, rfl⟩
          · go_wp2
            go_roundw
            case rel => exact ⟨8 + 1, zn + 72057594037927936 * (c % 128), by omega, by omega, by go_num, by simp, show zn + 72057594037927936 * (c % 128) < 9223372036854775808 by omega, Hg.out.symm.trans (Hm.out.trans (if_neg h128)), trivial⟩
            case measure => simp [intOf]; omega
          
      · by_cases hc0 : c = 0
        · have Hm := hid (show getVarM l at' = (0, 0, 11) by rw [Hg3.out, if_pos (by omega)])
          clear Hg3
          go_wp2
          exact bodyPost_ret (v := .tuple #[.int .i64 0, .int .i64 0, .int .i64 11]) (by simp [results, Tryz.results62, go_sem]) rfl ⟨by rw [Hm.out], rfl⟩
        · by_cases hc1 : 1 < c
          · have Hm := hid (show getVarM l at' = (0, 0, 11) by rw [Hg3.out, if_pos (by omega)])
            clear Hg3
            go_wp2
            exact bodyPost_ret (v := .tuple #[.int .i64 0, .int .i64 0, .int .i64 11]) (by simp [results, Tryz.results62, go_sem]) rfl ⟨by rw [Hm.out], rfl⟩
          · have hz' : zn < 9223372036854775808 := hz
            have Hm := hid (Hg3.out.trans (if_neg (by omega)))
            have hand := u8_and127 (c : Int) (by omega) (by omega)
            have hor : bits .or .u64 (zn : Int) ((c : Int) % 128 * 9223372036854775808) = ((zn + 9223372036854775808 * (c % 128) : Nat) : Int) := by
              rw [u64_orv63 _ _ (by omega) (by omega) (by omega) (by omega) (by omega)]; omega
            have hun := unzig_run (zn + 9223372036854775808 * (c % 128)) (by omega)
            rw [show (((zn + 9223372036854775808 * (c % 128) : Nat)) : Int) = (zn : Int) + 9223372036854775808 * ((c : Int) % 128) by omega] at hun
            clear hz Hg3
            have h128 : c < 128 := by omega
            have hd1 : decide (1 < (c : Int)) = false := decide_eq_false (by omega)
            have hd0 : ((c : Int) == 0) = false := by simp; omega
            go_wp2
            exact bodyPost_ret (v := .tuple #[.int .i64 (unzig (zn + 9223372036854775808 * (c % 128))), .int .i64 (at' + 9 + 1), .int .i64 0]) (by simp [results, Tryz.results62, go_sem]) rfl ⟨by rw [Hm.out, if_pos h128]; rfl, rfl⟩
            
    · have hke : k = m.length := by omega
      have Hm := hid (show getVarM l at' = (0, 0, 10) by rw [Hgv.out, hke, List.drop_length]; rfl)
      clear hke Hgv
      go_wp2
      exact bodyPost_ret (v := .tuple #[.int .i64 0, .int .i64 0, .int .i64 10]) (by simp [results, Tryz.results62, go_sem]) rfl ⟨by rw [Hm.out], rfl⟩
end Go.Proofs.YtcpecponmaakoaaGreatDoor
