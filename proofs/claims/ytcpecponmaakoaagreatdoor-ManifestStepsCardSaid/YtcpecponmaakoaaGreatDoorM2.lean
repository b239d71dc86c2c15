/- Walks: the reference's figures, Name, number. -/
import Derived.Test.YtcpecponmaakoaaGreatDoorH1
import Derived.Test.YtcpecponmaakoaaGreatDoorN1
namespace Go.Proofs.YtcpecponmaakoaaGreatDoor
open Go.RowKit Go.Wm
theorem decDigits_len20 (n : Nat) (h : n < 18446744073709551616) : (Lib.decDigits n).length ≤ 20 := by
  rw [Lib.decDigits_length]
  rcases Nat.lt_or_ge 20 (Lib.nDigits n) with h1 | h1
  · exfalso
    have key : ∀ k u, k + 1 ≤ Lib.nDigits u → 0 < u → 10 ^ k ≤ u := by
      intro k
      induction k with
      | zero => intro u _ h0; rw [Nat.pow_zero]; omega
      | succ k ih =>
        intro u hu h0
        by_cases h : u < 10
        · rw [Lib.nDigits_small h] at hu; omega
        · rw [Lib.nDigits_big h] at hu
          have := ih (u / 10) (by omega) (by omega)
          rw [Nat.pow_succ]; omega
    by_cases h0 : 0 < n
    · have := key 20 n h1 h0
      omega
    · have : n = 0 := by omega
      subst this
      rw [Lib.nDigits_small (by decide)] at h1; omega
  · exact h1
theorem conv1 (w : World) (n : Nat) (z : Int) (hz : z = n) (hn : n < 256) (d : ByteArray) (hd : d = ⟨[UInt8.ofNat n].toArray⟩) :
    (convert 43 9 (.slice (some ⟨w.heap.size, 0, none⟩) 1 1)).run Tryz.prog (w.alloc (.cells #[.int .u8 z] 5)) = .ok (.string d) (w.alloc (.cells #[.int .u8 z] 5)) := by
  subst hd
  exact run_convert_bytes_back (w.alloc (.cells #[.int .u8 z] 5)) 43 9 5 ⟨w.heap.size, 0, none⟩ 1 [UInt8.ofNat n] Tryz.underlying43 Tryz.underlying5 Tryz.underlying9 (fun j hj => by
    have : j = 0 := by simpa using hj
    subst this
    have e : (UInt8.ofNat n).toNat = n := by rw [UInt8.toNat_ofNat']; omega
    show (w.alloc (.cells #[.int .u8 z] 5)).cell? ⟨w.heap.size, 0, none⟩ = some (.int .u8 ((UInt8.ofNat n).toNat : Int))
    rw [e, hz]
    exact cell_new rfl rfl)
theorem ret_str {a b : ByteArray} (h : a = b) : Ending.returned (.string a) = .returned (.string b) := by rw [h]
theorem decDigits_step (k : Nat) (h : 10 ≤ k) : Lib.decDigits k = Lib.decDigits (k / 10) ++ [UInt8.ofNat (48 + k % 10)] := by
  rw [Lib.decDigits, dif_neg (by omega)]
theorem bytes_cons (c : UInt8) (x d : ByteArray) (hd : d = ⟨[c].toArray⟩) : (d ++ x).data.toList = c :: x.data.toList := by
  subst hd
  simp [ByteArray.data_append]
set_option maxHeartbeats 1000000 in
set_option maxRecDepth 100000 in
theorem figures_any (n : Nat) (w : World) (hn : n < 18446744073709551616) :
    Calls Tryz.prog 52 #[.int .u64 (n : Int)] w fun e w' => e = .returned (.string ⟨(Lib.decDigits n).toArray⟩) ∧ Below w.heap.size w w' := by
  have hlen := decDigits_len20 n hn
  go_enter Tryz.func52, Tryz.ntmps52
  go_wp2
  go_loopw [0, 3] (fun t s wr => ∃ (k : Nat) (x : ByteArray), t = .int .u64 (k : Int) ∧ k ≤ n ∧ s = .string x ∧ Lib.decDigits n = Lib.decDigits k ++ x.data.toList ∧ Below w.heap.size w wr) (fun t _ _ => (intOf t).toNat)
  case atStart => exact ⟨n, ⟨#[]⟩, rfl, by omega, rfl, by simp, Below.refl _ _⟩
  case round =>
    obtain ⟨k, x, rfl, hk, rfl, hx, hwr⟩ := hrel
    have hxs : x.size ≤ 20 := by
      have := congrArg List.length hx
      rw [List.length_append] at this
      have e : x.data.toList.length = x.size := Array.length_toList
      omega
    have Hx := hid hx
    clear hx
    by_cases h10 : 10 ≤ k
    · obtain ⟨d, hd⟩ : ∃ d : ByteArray, d = ⟨[UInt8.ofNat (48 + k % 10)].toArray⟩ := ⟨_, rfl⟩
      have hds : d.size = 1 := by rw [hd]; rfl
      have HC := conv1 wr (48 + k % 10) (48 + (k : Int) % 10) (by omega) (by omega) d hd
      have Hn := hid (show Lib.decDigits n = Lib.decDigits (k / 10) ++ (d ++ x).data.toList by
        rw [Hx.out, decDigits_step k h10, bytes_cons _ x d hd, List.append_assoc]
        rfl)
      clear hd
      go_wp2
      go_roundw
      case rel => exact ⟨k / 10, d ++ x, by go_num, by omega, rfl, Hn.out, hwr.step (below_alloc _ _)⟩
      case measure => simp [intOf]; omega
    · obtain ⟨d, hd⟩ : ∃ d : ByteArray, d = ⟨[UInt8.ofNat (48 + k)].toArray⟩ := ⟨_, rfl⟩
      have hds : d.size = 1 := by rw [hd]; rfl
      have HC := conv1 wr (48 + k) (48 + (k : Int)) (by omega) (by omega) d hd
      have Hn := hid (show (⟨(Lib.decDigits n).toArray⟩ : ByteArray) = d ++ x by
        rw [Hx.out, Lib.decDigits_one (by omega)]
        apply ByteArray.ext
        apply Array.ext'
        rw [bytes_cons _ x d hd]
        simp)
      clear hd
      go_wp2
      go_ret
      exact ⟨ret_str Hn.out.symm, hwr.step (below_alloc _ _)⟩
set_option maxHeartbeats 1000000 in
set_option maxRecDepth 100000 in
theorem refName_any (pre : ByteArray) (id : Int) (w : World) (h0 : -9223372036854775808 ≤ id) (h1 : id ≤ 9223372036854775807) (hp : pre.size ≤ 1000) :
    Calls Tryz.prog 22 #[.string pre, .int .i64 id] w fun e w' => e = .returned (.string (nameM pre id)) ∧ Below w.heap.size w w' := by
  have hl := decDigits_len20 id.natAbs (by omega)
  by_cases hneg : id < 0
  · have hs1 : (pre ++ (⟨#[45, 45]⟩ : ByteArray)).size = pre.size + 2 := by simp [ByteArray.size_append]; rfl
    have F := figures_any id.natAbs w (by omega)
    rw [show ((id.natAbs : Nat) : Int) = -(id + 1) + 1 by omega] at F
    have F := hid F
    obtain ⟨d, hd⟩ : ∃ d : ByteArray, d = ⟨(Lib.decDigits id.natAbs).toArray⟩ := ⟨_, rfl⟩
    rw [← hd] at F
    have hds : d.size ≤ 20 := by rw [hd]; show (Lib.decDigits id.natAbs).toArray.size ≤ 20; rw [List.size_toArray]; exact hl
    have Hn := hid (show nameM pre id = (pre ++ ⟨#[45, 45]⟩) ++ d by
      unfold nameM Lib.itoa
      rw [if_pos hneg, hd]
      apply ByteArray.ext
      apply Array.ext'
      simp [ByteArray.data_append])
    clear hd hl
    go_enter Tryz.func22, Tryz.ntmps22
    go_wp2_with fail
    refine F.out.mono ?_
    rintro e w1 ⟨rfl, hb1⟩
    go_wp2_with fail
    go_ret
    exact ⟨ret_str Hn.out.symm, hb1⟩
  · have hs1 : (pre ++ (⟨#[45]⟩ : ByteArray)).size = pre.size + 1 := by simp [ByteArray.size_append]; rfl
    have F := figures_any id.natAbs w (by omega)
    rw [show ((id.natAbs : Nat) : Int) = id by omega] at F
    have F := hid F
    obtain ⟨d, hd⟩ : ∃ d : ByteArray, d = ⟨(Lib.decDigits id.natAbs).toArray⟩ := ⟨_, rfl⟩
    rw [← hd] at F
    have hds : d.size ≤ 20 := by rw [hd]; show (Lib.decDigits id.natAbs).toArray.size ≤ 20; rw [List.size_toArray]; exact hl
    have Hn := hid (show nameM pre id = (pre ++ ⟨#[45]⟩) ++ d by
      unfold nameM Lib.itoa
      rw [if_neg hneg, hd, show id.toNat = id.natAbs by omega])
    clear hd hl
    go_enter Tryz.func22, Tryz.ntmps22
    go_wp2_with fail
    refine F.out.mono ?_
    rintro e w1 ⟨rfl, hb1⟩
    go_wp2_with fail
    go_ret
    exact ⟨ret_str Hn.out.symm, hb1⟩
end Go.Proofs.YtcpecponmaakoaaGreatDoor
