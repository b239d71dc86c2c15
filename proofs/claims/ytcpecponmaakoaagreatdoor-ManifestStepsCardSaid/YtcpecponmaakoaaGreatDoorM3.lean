/- The reference's number: what it tells of a name. -/
import Derived.Test.YtcpecponmaakoaaGreatDoorH4
import Derived.Test.YtcpecponmaakoaaGreatDoorM2
import Derived.IntWalk
namespace Go.Proofs.YtcpecponmaakoaaGreatDoor
open Go.RowKit Go.Wm
def preB (pre : ByteArray) : List UInt8 := (pre ++ ⟨#[45]⟩ : ByteArray).data.toList
theorem preB_length (pre : ByteArray) : (preB pre).length = pre.size + 1 := by
  unfold preB
  rw [Array.length_toList]
  show (pre ++ ⟨#[45]⟩ : ByteArray).size = _
  simp [ByteArray.size_append]
  rfl
theorem nameM_bytes (pre : ByteArray) (x : Int) : (nameM pre x).data.toList = preB pre ++ Lib.itoa x := by
  unfold nameM preB
  simp [ByteArray.data_append]
theorem beyond_in {x : Int} (h0 : 0 ≤ x) (h1 : x ≤ 1099511627776) : beyond x = false := by
  unfold beyond
  simp
  omega
theorem hasPrefix_append (l m : List UInt8) : Lib.hasPrefix (l ++ m) l = true := by
  unfold Lib.hasPrefix
  rw [List.isPrefixOf_iff_prefix]
  exact List.prefix_append l m
theorem trimPrefix_append (l m : List UInt8) : Lib.trimPrefix (l ++ m) l = m := by
  unfold Lib.trimPrefix
  rw [if_pos (hasPrefix_append l m), List.drop_left]
theorem idOf_name {pre : ByteArray} {x : Int} (h0 : 0 ≤ x) (h1 : x ≤ 1099511627776) : idOf pre (nameM pre x) = some x := by
  unfold idOf
  rw [show (pre ++ ⟨#[45]⟩ : ByteArray).data.toList = preB pre from rfl, nameM_bytes, if_pos (hasPrefix_append _ _), trimPrefix_append, atoiAll_itoa x h0 h1]
  simp only
  rw [if_neg]
  rw [beyond_in h0 h1]
  simp
theorem idOf_some {pre s : ByteArray} {x : Int} (h : idOf pre s = some x) : 0 ≤ x ∧ x ≤ 1099511627776 ∧ s = nameM pre x := by
  unfold idOf at h
  split at h
  · split at h
    · next y hy =>
      split at h
      · cases h
      · next hn =>
        cases h
        rw [not_or, Decidable.not_not] at hn
        have hb : beyond x = false := by simpa using hn.1
        have := beyond_false hb
        exact ⟨this.1, this.2, hn.2.symm⟩
    · cases h
  · cases h
def numM (pre s : ByteArray) : Int := match idOf pre s with | some x => x | none => -1
theorem numM_none {pre s : ByteArray} (h : ∀ x : Int, 0 ≤ x → x ≤ 1099511627776 → s ≠ nameM pre x) : numM pre s = -1 := by
  unfold numM
  cases hi : idOf pre s with
  | none => rfl
  | some x =>
    obtain ⟨h0, h1, h2⟩ := idOf_some hi
    exact absurd h2 (h x h0 h1)
theorem numM_some {pre s : ByteArray} {x : Int} (h0 : 0 ≤ x) (h1 : x ≤ 1099511627776) (h : s = nameM pre x) : numM pre s = x := by
  unfold numM
  rw [h, idOf_name h0 h1]
/-- What a name of ours is, byte by byte. -/
theorem name_form {pre s : ByteArray} {x : Int} (h0 : 0 ≤ x) (h1 : x ≤ 1099511627776) (h : s = nameM pre x) :
    s.data.toList = preB pre ++ Lib.decDigits x.toNat ∧ s.size = pre.size + 1 + (Lib.decDigits x.toNat).length ∧ 1 ≤ (Lib.decDigits x.toNat).length ∧ (Lib.decDigits x.toNat).length ≤ 13 := by
  have e : s.data.toList = preB pre ++ Lib.decDigits x.toNat := by rw [h, nameM_bytes, itoa_nat x h0]
  refine ⟨e, ?_, ?_, ?_⟩
  · have := congrArg List.length e
    rw [List.length_append, preB_length, Array.length_toList] at this
    exact this
  · rw [Lib.decDigits_length]; exact Lib.nDigits_pos _
  · rw [Lib.decDigits_length]; exact nDigits_13 _ (by omega)
theorem extract_bytes (s : ByteArray) (n : Nat) : (s.extract 0 n).data.toList = s.data.toList.take n := by
  simp [ByteArray.data_extract]
theorem decFrom_step (R : List UInt8) (k n : Nat) (c : UInt8) (h : Lib.decFrom 0 (R.take k) = some n) (hc : R[k]? = some c) (h1 : 48 ≤ c.toNat) (h2 : c.toNat ≤ 57) : Lib.decFrom 0 (R.take (k + 1)) = some (n * 10 + (c.toNat - 48)) :=
  Lib.decFrom_take R k 0 n c (c.toNat - 48) h hc (by unfold Lib.digitVal; rw [if_pos ⟨h1, h2⟩])
theorem list_bytes {s t : ByteArray} (h : s.data.toList = t.data.toList) : s = t := ByteArray.ext (Array.ext' h)
set_option maxHeartbeats 2000000 in
set_option maxRecDepth 100000 in
theorem number_any (pre s : ByteArray) (w : World) (hp : pre.size ≤ 1000) (hs : s.size ≤ 1000) :
    Calls Tryz.prog 48 #[.string pre, .string s] w fun e w' => e = .returned (.int .i64 (numM pre s)) ∧ Below w.heap.size w w' := by
  have hs1 : (pre ++ (⟨#[45]⟩ : ByteArray)).size = pre.size + 1 := by simp [ByteArray.size_append]; rfl
  by_cases h1 : s.size ≤ pre.size + 1
  · have Hm := hid (show numM pre s = -1 from numM_none (fun x h0 h1' h => by have := name_form h0 h1' h; omega))
    go_enter Tryz.func48, Tryz.ntmps48
    go_wp2
    go_ret
    exact ⟨ret_int Hm.out.symm, Below.refl _ _⟩
  · by_cases h2 : pre.size + 14 < s.size
    · have Hm := hid (show numM pre s = -1 from numM_none (fun x h0 h1' h => by have := name_form h0 h1' h; omega))
      go_enter Tryz.func48, Tryz.ntmps48
      go_wp2
      go_ret
      exact ⟨ret_int Hm.out.symm, Below.refl _ _⟩
    · by_cases hpre : s.extract 0 (pre.size + 1) = pre ++ ⟨#[45]⟩
      · have hq : ((s.extract 0 (pre.size + 1)).toList == (pre ++ ⟨#[45]⟩ : ByteArray).toList) = true := by rw [run_eq_bytes]; simpa using hpre
        have htk := extract_bytes s (pre.size + 1)
        rw [hpre] at htk
        obtain ⟨R, hR⟩ : ∃ R, R = s.data.toList.drop (pre.size + 1) := ⟨_, rfl⟩
        have hsR : s.data.toList = preB pre ++ R := by
          rw [hR, preB, htk, List.take_append_drop]
        have hRl : s.size = pre.size + 1 + R.length := by
          have := congrArg List.length hsR
          rw [List.length_append, preB_length, Array.length_toList] at this
          exact this
        have HsR := hid hsR
        clear hsR hR htk hpre
        have hR1 : 1 ≤ R.length := by omega
        have hR13 : R.length ≤ 13 := by omega
        have NOT := hid (fun (h : ∀ x : Int, 0 ≤ x → x ≤ 1099511627776 → s = nameM pre x → R = Lib.decDigits x.toNat → False) => show numM pre s = -1 from numM_none (fun x h0 h1' hx => h x h0 h1' hx (by
          have e := (name_form h0 h1' hx).1
          rw [HsR.out] at e
          exact List.append_cancel_left e)))
        go_enter Tryz.func48, Tryz.ntmps48
        go_wp2
        go_loopw [6, 7] (fun nn i wr => ∃ (k n : Nat), i = .int .i64 ((pre.size + 1 + k : Nat) : Int) ∧ k ≤ R.length ∧ nn = .int .i64 (n : Int) ∧ n < 10 ^ k ∧ Lib.decFrom 0 (R.take k) = some n ∧ Below w.heap.size w wr) (fun _ i _ => s.size - (intOf i).toNat)
        case atStart => exact ⟨0, 0, by go_num, by omega, rfl, by omega, rfl, Below.refl _ _⟩
        case round =>
          obtain ⟨k, n, rfl, hk, rfl, hn, hdec, hwr⟩ := hrel
          have Hdec := hid hdec
          clear hdec
          by_cases hlt : k < R.length
          · have hin : (pre.size + 1 + k : Nat) < s.size := by omega
            obtain ⟨c, hc⟩ : ∃ c : UInt8, c = s[pre.size + 1 + k]'hin := ⟨_, rfl⟩
            have HC := fun (h : pre.size + 1 + k < s.size) => show s[pre.size + 1 + k]'h = c from hc.symm
            have hRk : R[k]? = some c := by
              have e : s.data.toList[pre.size + 1 + k]? = some c := by
                rw [hc, List.getElem?_eq_getElem (by rw [Array.length_toList]; exact hin)]
                rfl
              rw [HsR.out, List.getElem?_append_right (by rw [preB_length]; omega), preB_length] at e
              rw [← e]
              congr 1
              omega
            have HRk := hid hRk
            clear hc hRk
            have BAD := hid (fun (hb : ¬ (48 ≤ c.toNat ∧ c.toNat ≤ 57)) => NOT.out (fun x h0 h1' hx hRx => by
              rw [hRx] at HRk
              exact hb (decDigits_digit x.toNat c (List.mem_of_getElem? HRk.out))))
            have hn12 : n < 1000000000000 := Nat.lt_of_lt_of_le hn (Nat.le_trans (Nat.pow_le_pow_right (by decide) (show k ≤ 12 by omega)) (by decide))
            have Hn := hid hn
            clear hn
            by_cases hd1 : c.toNat < 48
            · have Hm := hid (BAD.out (by omega))
              go_wp2
              go_ret
              exact ⟨ret_int Hm.out.symm, hwr⟩
            · by_cases hd2 : 57 < c.toNat
              · have Hm := hid (BAD.out (by omega))
                go_wp2
                go_ret
                exact ⟨ret_int Hm.out.symm, hwr⟩
              · have w1 : wrap64 (10 * (n : Int)) = 10 * (n : Int) := IntWalk.wrap64_in _ (by omega)
                have w2 : wrap64 (10 * (n : Int) + (c.toNat : Int)) = 10 * (n : Int) + (c.toNat : Int) := IntWalk.wrap64_in _ (by omega)
                have w3 : wrap64 (10 * (n : Int) + (c.toNat : Int) - 48) = 10 * (n : Int) + (c.toNat : Int) - 48 := IntWalk.wrap64_in _ (by omega)
                have Hd := hid (decFrom_step R k n c Hdec.out HRk.out (by omega) (by omega))
                have Hp := hid (show n * 10 + (c.toNat - 48) < 10 ^ (k + 1) by have := Hn.out; rw [Nat.pow_succ]; omega)
                have Hk := hid (show k + 1 ≤ R.length by omega)
                have Hv := hid (show 10 * (n : Int) + (c.toNat : Int) - 48 = ((n * 10 + (c.toNat - 48) : Nat) : Int) by omega)
                go_wp2
                go_roundw
                case rel => exact ⟨k + 1, n * 10 + (c.toNat - 48), by go_num, Hk.out, by rw [Hv.out], Hp.out, Hd.out, hwr⟩
                case measure => simp [intOf]; omega
          · have hke : k = R.length := by omega
            have hdR : Lib.decFrom 0 R = some n := by
              have := Hdec.out
              rw [hke, List.take_length] at this
              exact this
            have hn13 : n < 10000000000000 := Nat.lt_of_lt_of_le hn (Nat.le_trans (Nat.pow_le_pow_right (by decide) (show k ≤ 13 by omega)) (by decide))
            have ISN := hid (fun (x : Int) (h0 : 0 ≤ x) (hRx : R = Lib.decDigits x.toNat) => show x = (n : Int) from by
              rw [hRx, decFrom_decDigits] at hdR
              have := Option.some.inj hdR
              omega)
            have Hkk := hid hke
            clear hdR hn hke
            by_cases hbig : 1099511627776 < n
            · have Hm := hid (NOT.out (fun x h0 h1' hx hRx => by have := ISN.out x h0 hRx; omega))
              go_wp2
              go_ret
              exact ⟨ret_int Hm.out.symm, hwr⟩
            · have NM := hid (refName_any pre (n : Int) wr (by omega) (by omega) hp)
              by_cases hne : nameM pre (n : Int) = s
              · have hq2 : ((nameM pre (n : Int)).toList == s.toList) = true := by rw [run_eq_bytes]; simpa using hne
                have Hm := hid (numM_some (x := (n : Int)) (by omega) (by omega) hne.symm)
                clear hne
                go_wp2_with fail
                refine NM.out.mono ?_
                rintro e w1 ⟨rfl, hb1⟩
                go_wp2_with fail
                go_ret
                exact ⟨ret_int Hm.out.symm, hwr.step hb1⟩
              · have hq2 : ((nameM pre (n : Int)).toList == s.toList) = false := by rw [run_eq_bytes]; simpa using hne
                have Hm := hid (NOT.out (fun x h0 h1' hx hRx => hne (by rw [← ISN.out x h0 hRx]; exact hx.symm)))
                clear hne
                go_wp2_with fail
                refine NM.out.mono ?_
                rintro e w1 ⟨rfl, hb1⟩
                go_wp2_with fail
                go_ret
                exact ⟨ret_int Hm.out.symm, hwr.step hb1⟩
      · have hq : ((s.extract 0 (pre.size + 1)).toList == (pre ++ ⟨#[45]⟩ : ByteArray).toList) = false := by rw [run_eq_bytes]; simpa using hpre
        have Hm := hid (show numM pre s = -1 from numM_none (fun x h0 h1' h => hpre (list_bytes (by
          rw [extract_bytes, (name_form h0 h1' h).1, List.take_left' (preB_length pre)]
          rfl))))
        clear hpre
        go_enter Tryz.func48, Tryz.ntmps48
        go_wp2
        go_ret
        exact ⟨ret_int Hm.out.symm, Below.refl _ _⟩
end Go.Proofs.YtcpecponmaakoaaGreatDoor
