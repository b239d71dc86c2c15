/- Walks: a number read (the document's GetVar). -/
import Derived.Test.YtcpecponmaakoaaGreatDoorR4
import Derived.Test.YtcpecponmaakoaaGreatDoorB8
namespace Go.Proofs.YtcpecponmaakoaaGreatDoor
open Go.RowKit Go.Wm Go.Lib
theorem unzig_even {z : Nat} (h : z % 2 = 0) : unzig z = (z : Int) / 2 := by unfold unzig; rw [if_pos h]; omega
theorem unzig_odd {z : Nat} (h : z % 2 ≠ 0) : unzig z = -((z : Int) / 2) - 1 := by unfold unzig; rw [if_neg h]; omega
set_option maxHeartbeats 2000000 in
set_option maxRecDepth 100000 in
theorem refGetVar_any (l : List UInt8) (at' : Nat) (v : Value) (w : World) (hv : BytesAt w v l) (hat : at' ≤ 1000000000) :
    Calls Tryz.prog 89 #[v, .int .i64 at'] w fun e w' => e = .returned (.tuple #[.int .i64 (getVarM l at').1, .int .i64 (getVarM l at').2.1, .int .i64 (getVarM l at').2.2]) ∧ w' = w := by
  have Hg := hid (show getVarM l at' = gv at' 0 0 (l.drop at') from rfl)
  have hvw := hv
  obtain ⟨a, cap, rfl, hn⟩ := hv.form
  clear hv
  have hml : (l.drop at').length = l.length - at' := List.length_drop
  have HS := hid (fun (k : Nat) (hk : at' + k < l.length) => show ∃ b o x, a = some ⟨b, o, none⟩ ∧ w.cell? ⟨b, o + (at' + k), none⟩ = some (.int .u8 (x : UInt8).toNat) ∧ (l.drop at').drop k = x :: (l.drop at').drop (k + 1) from
    let ⟨b, o, h1, h2⟩ := byteAt hvw (at' + k) hk
    ⟨b, o, _, h1, h2, by rw [List.drop_drop, List.drop_drop, List.drop_eq_getElem_cons hk]; rfl⟩)
  clear hvw
  generalize l.drop at' = m at *
  have hneg : decide ((at' : Int) < 0) = false := decide_eq_false (by omega)
  go_enter Tryz.func89, Tryz.ntmps89
  go_wp2_with fail
  clear hneg
  go_loopw [7, 8, 9] (fun z u i wr => ∃ k zn : Nat, k ≤ m.length ∧ k ≤ 9 ∧ i = .int .i64 k ∧ z = .int .u64 zn ∧ u = .int .u64 (128 ^ k : Nat) ∧ zn < 128 ^ k ∧ gv at' 0 0 m = gv at' k zn (m.drop k) ∧ wr = w) (fun _ _ i _ => m.length - (intOf i).toNat)
  case atStart => exact ⟨0, 0, by omega, by omega, rfl, rfl, rfl, by decide, rfl, rfl⟩
  case round =>
    obtain ⟨k, zn, hk, hk9, rfl, rfl, rfl, hz, hgv, rfl⟩ := hrel
    have Hgv := hid (Hg.out.trans hgv)
    clear hgv
    by_cases hlt : at' + k < l.length
    · obtain ⟨b, o, x, rfl, e0, hdk⟩ := HS.out k hlt
      have hkm : k < m.length := by omega
      have Hg2 := hid (show getVarM l at' = gv at' k zn (x :: m.drop (k + 1)) by rw [Hgv.out, hdk])
      clear hdk Hgv
      have Hg3 := hid (show getVarM l at' = _ from Hg2.out.trans (by rw [gv]))
      clear Hg2
      have hc := x.toNat_lt
      obtain ⟨c, hcx⟩ : ∃ c, c = x.toNat := ⟨_, rfl⟩
      rw [← hcx] at e0 hc Hg3
      clear hcx
      have hk10 : k = 0 ∨ k = 1 ∨ k = 2 ∨ k = 3 ∨ k = 4 ∨ k = 5 ∨ k = 6 ∨ k = 7 ∨ k = 8 ∨ k = 9 := by omega
      rcases hk10 with rfl | rfl | rfl | rfl | rfl | rfl | rfl | rfl | rfl | rfl
      · have hz' : zn < 1 := hz
        simp only [Nat.add_zero] at e0
        have Hm := hid (Hg3.out.trans (if_neg (by omega)))
        clear hz Hg3
        by_cases h128 : c < 128
        · by_cases hp : (zn + (c % 128)) % 2 = 0
          · have hun := hid (unzig_even hp)
            have hpb : (((zn : Int) + ((c : Int) % 128)) % 2 == 1) = false := by rw [beq_eq_false_iff_ne]; omega
            clear hp
            go_wp2
            exact bodyPost_ret (v := .tuple #[.int .i64 (((zn : Int) + ((c : Int) % 128)) / 2), .int .i64 (at' + 0 + 1), .int .i64 0]) (by simp [results, Tryz.results89, go_sem]) rfl ⟨by rw [Hm.out, if_pos h128]; rw [show zn + 128 ^ 0 * (c % 128) = zn + (c % 128) by omega]; simp only [hun.out]; simp, rfl⟩
          · have hun := hid (unzig_odd hp)
            have hpb : (((zn : Int) + ((c : Int) % 128)) % 2 == 1) = true := by rw [beq_iff_eq]; omega
            clear hp
            go_wp2
            exact bodyPost_ret (v := .tuple #[.int .i64 (-(((zn : Int) + ((c : Int) % 128)) / 2) - 1), .int .i64 (at' + 0 + 1), .int .i64 0]) (by simp [results, Tryz.results89, go_sem]) rfl ⟨by rw [Hm.out, if_pos h128]; rw [show zn + 128 ^ 0 * (c % 128) = zn + (c % 128) by omega]; simp only [hun.out]; simp, rfl⟩
        · go_wp2
          go_roundw
          case rel => exact ⟨0 + 1, zn + (c % 128), by omega, by omega, by go_num, by simp, by rfl, show zn + (c % 128) < 128 by omega, by rw [← Hg.out, Hm.out, if_neg h128]; simp, trivial⟩
          case measure => simp [intOf]; omega
      · by_cases hc0 : c = 0
        · have Hm := hid (show getVarM l at' = (0, 0, 11) by rw [Hg3.out, if_pos (by omega)])
          clear Hg3
          go_wp2
          exact bodyPost_ret (v := .tuple #[.int .i64 0, .int .i64 0, .int .i64 11]) (by simp [results, Tryz.results89, go_sem]) rfl ⟨by rw [Hm.out], rfl⟩
        · have hz' : zn < 128 := hz
          have Hm := hid (Hg3.out.trans (if_neg (by omega)))
          clear hz Hg3
          by_cases h128 : c < 128
          · by_cases hp : (zn + 128 * (c % 128)) % 2 = 0
            · have hun := hid (unzig_even hp)
              have hpb : (((zn : Int) + 128 * ((c : Int) % 128)) % 2 == 1) = false := by rw [beq_eq_false_iff_ne]; omega
              clear hp
              go_wp2
              exact bodyPost_ret (v := .tuple #[.int .i64 (((zn : Int) + 128 * ((c : Int) % 128)) / 2), .int .i64 (at' + 1 + 1), .int .i64 0]) (by simp [results, Tryz.results89, go_sem]) rfl ⟨by rw [Hm.out, if_pos h128]; simp only [hun.out]; simp, rfl⟩
            · have hun := hid (unzig_odd hp)
              have hpb : (((zn : Int) + 128 * ((c : Int) % 128)) % 2 == 1) = true := by rw [beq_iff_eq]; omega
              clear hp
              go_wp2
              exact bodyPost_ret (v := .tuple #[.int .i64 (-(((zn : Int) + 128 * ((c : Int) % 128)) / 2) - 1), .int .i64 (at' + 1 + 1), .int .i64 0]) (by simp [results, Tryz.results89, go_sem]) rfl ⟨by rw [Hm.out, if_pos h128]; simp only [hun.out]; simp, rfl⟩
          · go_wp2
            go_roundw
            case rel => exact ⟨1 + 1, zn + 128 * (c % 128), by omega, by omega, by go_num, by simp, by rfl, show zn + 128 * (c % 128) < 16384 by omega, Hg.out.symm.trans (Hm.out.trans (if_neg h128)), trivial⟩
            case measure => simp [intOf]; omega
      · by_cases hc0 : c = 0
        · have Hm := hid (show getVarM l at' = (0, 0, 11) by rw [Hg3.out, if_pos (by omega)])
          clear Hg3
          go_wp2
          exact bodyPost_ret (v := .tuple #[.int .i64 0, .int .i64 0, .int .i64 11]) (by simp [results, Tryz.results89, go_sem]) rfl ⟨by rw [Hm.out], rfl⟩
        · have hz' : zn < 16384 := hz
          have Hm := hid (Hg3.out.trans (if_neg (by omega)))
          clear hz Hg3
          by_cases h128 : c < 128
          · by_cases hp : (zn + 16384 * (c % 128)) % 2 = 0
            · have hun := hid (unzig_even hp)
              have hpb : (((zn : Int) + 16384 * ((c : Int) % 128)) % 2 == 1) = false := by rw [beq_eq_false_iff_ne]; omega
              clear hp
              go_wp2
              exact bodyPost_ret (v := .tuple #[.int .i64 (((zn : Int) + 16384 * ((c : Int) % 128)) / 2), .int .i64 (at' + 2 + 1), .int .i64 0]) (by simp [results, Tryz.results89, go_sem]) rfl ⟨by rw [Hm.out, if_pos h128]; simp only [hun.out]; simp, rfl⟩
            · have hun := hid (unzig_odd hp)
              have hpb : (((zn : Int) + 16384 * ((c : Int) % 128)) % 2 == 1) = true := by rw [beq_iff_eq]; omega
              clear hp
              go_wp2
              exact bodyPost_ret (v := .tuple #[.int .i64 (-(((zn : Int) + 16384 * ((c : Int) % 128)) / 2) - 1), .int .i64 (at' + 2 + 1), .int .i64 0]) (by simp [results, Tryz.results89, go_sem]) rfl ⟨by rw [Hm.out, if_pos h128]; simp only [hun.out]; simp, rfl⟩
          · go_wp2
            go_roundw
            case rel => exact ⟨2 + 1, zn + 16384 * (c % 128), by omega, by omega, by go_num, by simp, by rfl, show zn + 16384 * (c % 128) < 2097152 by omega, Hg.out.symm.trans (Hm.out.trans (if_neg h128)), trivial⟩
            case measure => simp [intOf]; omega
      · by_cases hc0 : c = 0
        · have Hm := hid (show getVarM l at' = (0, 0, 11) by rw [Hg3.out, if_pos (by omega)])
          clear Hg3
          go_wp2
          exact bodyPost_ret (v := .tuple #[.int .i64 0, .int .i64 0, .int .i64 11]) (by simp [results, Tryz.results89, go_sem]) rfl ⟨by rw [Hm.out], rfl⟩
        · have hz' : zn < 2097152 := hz
          have Hm := hid (Hg3.out.trans (if_neg (by omega)))
          clear hz Hg3
          by_cases h128 : c < 128
          · by_cases hp : (zn + 2097152 * (c % 128)) % 2 = 0
            · have hun := hid (unzig_even hp)
              have hpb : (((zn : Int) + 2097152 * ((c : Int) % 128)) % 2 == 1) = false := by rw [beq_eq_false_iff_ne]; omega
              clear hp
              go_wp2
              exact bodyPost_ret (v := .tuple #[.int .i64 (((zn : Int) + 2097152 * ((c : Int) % 128)) / 2), .int .i64 (at' + 3 + 1), .int .i64 0]) (by simp [results, Tryz.results89, go_sem]) rfl ⟨by rw [Hm.out, if_pos h128]; simp only [hun.out]; simp, rfl⟩
            · have hun := hid (unzig_odd hp)
              have hpb : (((zn : Int) + 2097152 * ((c : Int) % 128)) % 2 == 1) = true := by rw [beq_iff_eq]; omega
              clear hp
              go_wp2
              exact bodyPost_ret (v := .tuple #[.int .i64 (-(((zn : Int) + 2097152 * ((c : Int) % 128)) / 2) - 1), .int .i64 (at' + 3 + 1), .int .i64 0]) (by simp [results, Tryz.results89, go_sem]) rfl ⟨by rw [Hm.out, if_pos h128]; simp only [hun.out]; simp, rfl⟩
          · go_wp2
            go_roundw
            case rel => exact ⟨3 + 1, zn + 2097152 * (c % 128), by omega, by omega, by go_num, by simp, by rfl, show zn + 2097152 * (c % 128) < 268435456 by omega, Hg.out.symm.trans (Hm.out.trans (if_neg h128)), trivial⟩
            case measure => simp [intOf]; omega
      · by_cases hc0 : c = 0
        · have Hm := hid (show getVarM l at' = (0, 0, 11) by rw [Hg3.out, if_pos (by omega)])
          clear Hg3
          go_wp2
          exact bodyPost_ret (v := .tuple #[.int .i64 0, .int .i64 0, .int .i64 11]) (by simp [results, Tryz.results89, go_sem]) rfl ⟨by rw [Hm.out], rfl⟩
        · have hz' : zn < 268435456 := hz
          have Hm := hid (Hg3.out.trans (if_neg (by omega)))
          clear hz Hg3
          by_cases h128 : c < 128
          · by_cases hp : (zn + 268435456 * (c % 128)) % 2 = 0
            · have hun := hid (unzig_even hp)
              have hpb : (((zn : Int) + 268435456 * ((c : Int) % 128)) % 2 == 1) = false := by rw [beq_eq_false_iff_ne]; omega
              clear hp
              go_wp2
              exact bodyPost_ret (v := .tuple #[.int .i64 (((zn : Int) + 268435456 * ((c : Int) % 128)) / 2), .int .i64 (at' + 4 + 1), .int .i64 0]) (by simp [results, Tryz.results89, go_sem]) rfl ⟨by rw [Hm.out, if_pos h128]; simp only [hun.out]; simp, rfl⟩
            · have hun := hid (unzig_odd hp)
              have hpb : (((zn : Int) + 268435456 * ((c : Int) % 128)) % 2 == 1) = true := by rw [beq_iff_eq]; omega
              clear hp
              go_wp2
              exact bodyPost_ret (v := .tuple #[.int .i64 (-(((zn : Int) + 268435456 * ((c : Int) % 128)) / 2) - 1), .int .i64 (at' + 4 + 1), .int .i64 0]) (by simp [results, Tryz.results89, go_sem]) rfl ⟨by rw [Hm.out, if_pos h128]; simp only [hun.out]; simp, rfl⟩
          · go_wp2
            go_roundw
            case rel => exact ⟨4 + 1, zn + 268435456 * (c % 128), by omega, by omega, by go_num, by simp, by rfl, show zn + 268435456 * (c % 128) < 34359738368 by omega, Hg.out.symm.trans (Hm.out.trans (if_neg h128)), trivial⟩
            case measure => simp [intOf]; omega
      · by_cases hc0 : c = 0
        · have Hm := hid (show getVarM l at' = (0, 0, 11) by rw [Hg3.out, if_pos (by omega)])
          clear Hg3
          go_wp2
          exact bodyPost_ret (v := .tuple #[.int .i64 0, .int .i64 0, .int .i64 11]) (by simp [results, Tryz.results89, go_sem]) rfl ⟨by rw [Hm.out], rfl⟩
        · have hz' : zn < 34359738368 := hz
          have Hm := hid (Hg3.out.trans (if_neg (by omega)))
          clear hz Hg3
          by_cases h128 : c < 128
          · by_cases hp : (zn + 34359738368 * (c % 128)) % 2 = 0
            · have hun := hid (unzig_even hp)
              have hpb : (((zn : Int) + 34359738368 * ((c : Int) % 128)) % 2 == 1) = false := by rw [beq_eq_false_iff_ne]; omega
              clear hp
              go_wp2
              exact bodyPost_ret (v := .tuple #[.int .i64 (((zn : Int) + 34359738368 * ((c : Int) % 128)) / 2), .int .i64 (at' + 5 + 1), .int .i64 0]) (by simp [results, Tryz.results89, go_sem]) rfl ⟨by rw [Hm.out, if_pos h128]; simp only [hun.out]; simp, rfl⟩
            · have hun := hid (unzig_odd hp)
              have hpb : (((zn : Int) + 34359738368 * ((c : Int) % 128)) % 2 == 1) = true := by rw [beq_iff_eq]; omega
              clear hp
              go_wp2
              exact bodyPost_ret (v := .tuple #[.int .i64 (-(((zn : Int) + 34359738368 * ((c : Int) % 128)) / 2) - 1), .int .i64 (at' + 5 + 1), .int .i64 0]) (by simp [results, Tryz.results89, go_sem]) rfl ⟨by rw [Hm.out, if_pos h128]; simp only [hun.out]; simp, rfl⟩
          · go_wp2
            go_roundw
            case rel => exact ⟨5 + 1, zn + 34359738368 * (c % 128), by omega, by omega, by go_num, by simp, by rfl, show zn + 34359738368 * (c % 128) < 4398046511104 by omega, Hg.out.symm.trans (Hm.out.trans (if_neg h128)), trivial⟩
            case measure => simp [intOf]; omega
      · by_cases hc0 : c = 0
        · have Hm := hid (show getVarM l at' = (0, 0, 11) by rw [Hg3.out, if_pos (by omega)])
          clear Hg3
          go_wp2
          exact bodyPost_ret (v := .tuple #[.int .i64 0, .int .i64 0, .int .i64 11]) (by simp [results, Tryz.results89, go_sem]) rfl ⟨by rw [Hm.out], rfl⟩
        · have hz' : zn < 4398046511104 := hz
          have Hm := hid (Hg3.out.trans (if_neg (by omega)))
          clear hz Hg3
          by_cases h128 : c < 128
          · by_cases hp : (zn + 4398046511104 * (c % 128)) % 2 = 0
            · have hun := hid (unzig_even hp)
              have hpb : (((zn : Int) + 4398046511104 * ((c : Int) % 128)) % 2 == 1) = false := by rw [beq_eq_false_iff_ne]; omega
              clear hp
              go_wp2
              exact bodyPost_ret (v := .tuple #[.int .i64 (((zn : Int) + 4398046511104 * ((c : Int) % 128)) / 2), .int .i64 (at' + 6 + 1), .int .i64 0]) (by simp [results, Tryz.results89, go_sem]) rfl ⟨by rw [Hm.out, if_pos h128]; simp only [hun.out]; simp, rfl⟩
            · have hun := hid (unzig_odd hp)
              have hpb : (((zn : Int) + 4398046511104 * ((c : Int) % 128)) % 2 == 1) = true := by rw [beq_iff_eq]; omega
              clear hp
              go_wp2
              exact bodyPost_ret (v := .tuple #[.int .i64 (-(((zn : Int) + 4398046511104 * ((c : Int) % 128)) / 2) - 1), .int .i64 (at' + 6 + 1), .int .i64 0]) (by simp [results, Tryz.results89, go_sem]) rfl ⟨by rw [Hm.out, if_pos h128]; simp only [hun.out]; simp, rfl⟩
          · go_wp2
            go_roundw
            case rel => exact ⟨6 + 1, zn + 4398046511104 * (c % 128), by omega, by omega, by go_num, by simp, by rfl, show zn + 4398046511104 * (c % 128) < 562949953421312 by omega, Hg.out.symm.trans (Hm.out.trans (if_neg h128)), trivial⟩
            case measure => simp [intOf]; omega
      · by_cases hc0 : c = 0
        · have Hm := hid (show getVarM l at' = (0, 0, 11) by rw [Hg3.out, if_pos (by omega)])
          clear Hg3
          go_wp2
          exact bodyPost_ret (v := .tuple #[.int .i64 0, .int .i64 0, .int .i64 11]) (by simp [results, Tryz.results89, go_sem]) rfl ⟨by rw [Hm.out], rfl⟩
        · have hz' : zn < 562949953421312 := hz
          have Hm := hid (Hg3.out.trans (if_neg (by omega)))
          clear hz Hg3
          by_cases h128 : c < 128
          · by_cases hp : (zn + 562949953421312 * (c % 128)) % 2 = 0
            · have hun := hid (unzig_even hp)
              have hpb : (((zn : Int) + 562949953421312 * ((c : Int) % 128)) % 2 == 1) = false := by rw [beq_eq_false_iff_ne]; omega
              clear hp
              go_wp2
              exact bodyPost_ret (v := .tuple #[.int .i64 (((zn : Int) + 562949953421312 * ((c : Int) % 128)) / 2), .int .i64 (at' + 7 + 1), .int .i64 0]) (by simp [results, Tryz.results89, go_sem]) rfl ⟨by rw [Hm.out, if_pos h128]; simp only [hun.out]; simp, rfl⟩
            · have hun := hid (unzig_odd hp)
              have hpb : (((zn : Int) + 562949953421312 * ((c : Int) % 128)) % 2 == 1) = true := by rw [beq_iff_eq]; omega
              clear hp
              go_wp2
              exact bodyPost_ret (v := .tuple #[.int .i64 (-(((zn : Int) + 562949953421312 * ((c : Int) % 128)) / 2) - 1), .int .i64 (at' + 7 + 1), .int .i64 0]) (by simp [results, Tryz.results89, go_sem]) rfl ⟨by rw [Hm.out, if_pos h128]; simp only [hun.out]; simp, rfl⟩
          · go_wp2
            go_roundw
            case rel => exact ⟨7 + 1, zn + 562949953421312 * (c % 128), by omega, by omega, by go_num, by simp, by rfl, show zn + 562949953421312 * (c % 128) < 72057594037927936 by omega, Hg.out.symm.trans (Hm.out.trans (if_neg h128)), trivial⟩
            case measure => simp [intOf]; omega
      · by_cases hc0 : c = 0
        · have Hm := hid (show getVarM l at' = (0, 0, 11) by rw [Hg3.out, if_pos (by omega)])
          clear Hg3
          go_wp2
          exact bodyPost_ret (v := .tuple #[.int .i64 0, .int .i64 0, .int .i64 11]) (by simp [results, Tryz.results89, go_sem]) rfl ⟨by rw [Hm.out], rfl⟩
        · have hz' : zn < 72057594037927936 := hz
          have Hm := hid (Hg3.out.trans (if_neg (by omega)))
          clear hz Hg3
          by_cases h128 : c < 128
          · by_cases hp : (zn + 72057594037927936 * (c % 128)) % 2 = 0
            · have hun := hid (unzig_even hp)
              have hpb : (((zn : Int) + 72057594037927936 * ((c : Int) % 128)) % 2 == 1) = false := by rw [beq_eq_false_iff_ne]; omega
              clear hp
              go_wp2
              exact bodyPost_ret (v := .tuple #[.int .i64 (((zn : Int) + 72057594037927936 * ((c : Int) % 128)) / 2), .int .i64 (at' + 8 + 1), .int .i64 0]) (by simp [results, Tryz.results89, go_sem]) rfl ⟨by rw [Hm.out, if_pos h128]; simp only [hun.out]; simp, rfl⟩
            · have hun := hid (unzig_odd hp)
              have hpb : (((zn : Int) + 72057594037927936 * ((c : Int) % 128)) % 2 == 1) = true := by rw [beq_iff_eq]; omega
              clear hp
              go_wp2
              exact bodyPost_ret (v := .tuple #[.int .i64 (-(((zn : Int) + 72057594037927936 * ((c : Int) % 128)) / 2) - 1), .int .i64 (at' + 8 + 1), .int .i64 0]) (by simp [results, Tryz.results89, go_sem]) rfl ⟨by rw [Hm.out, if_pos h128]; simp only [hun.out]; simp, rfl⟩
          · go_wp2
            go_roundw
            case rel => exact ⟨8 + 1, zn + 72057594037927936 * (c % 128), by omega, by omega, by go_num, by simp, by rfl, show zn + 72057594037927936 * (c % 128) < 9223372036854775808 by omega, Hg.out.symm.trans (Hm.out.trans (if_neg h128)), trivial⟩
            case measure => simp [intOf]; omega
      · by_cases hc0 : c = 0
        · have Hm := hid (show getVarM l at' = (0, 0, 11) by rw [Hg3.out, if_pos (by omega)])
          clear Hg3
          go_wp2
          exact bodyPost_ret (v := .tuple #[.int .i64 0, .int .i64 0, .int .i64 11]) (by simp [results, Tryz.results89, go_sem]) rfl ⟨by rw [Hm.out], rfl⟩
        · by_cases hc1 : 1 < c
          · have Hm := hid (show getVarM l at' = (0, 0, 11) by rw [Hg3.out, if_pos (by omega)])
            clear Hg3
            go_wp2
            exact bodyPost_ret (v := .tuple #[.int .i64 0, .int .i64 0, .int .i64 11]) (by simp [results, Tryz.results89, go_sem]) rfl ⟨by rw [Hm.out], rfl⟩
          · have hz' : zn < 9223372036854775808 := hz
            have Hm := hid (Hg3.out.trans (if_neg (by omega)))
            clear hz Hg3
            have h128 : c < 128 := by omega
            have hd1 : decide (1 < (c : Int)) = false := decide_eq_false (by omega)
            have hd0 : ((c : Int) == 0) = false := by simp; omega
            by_cases hp : (zn + 9223372036854775808 * (c % 128)) % 2 = 0
            · have hun := hid (unzig_even hp)
              have hpb : (((zn : Int) + 9223372036854775808 * ((c : Int) % 128)) % 2 == 1) = false := by rw [beq_eq_false_iff_ne]; omega
              clear hp
              go_wp2
              exact bodyPost_ret (v := .tuple #[.int .i64 (((zn : Int) + 9223372036854775808 * ((c : Int) % 128)) / 2), .int .i64 (at' + 9 + 1), .int .i64 0]) (by simp [results, Tryz.results89, go_sem]) rfl ⟨by rw [Hm.out, if_pos h128]; simp only [hun.out]; simp, rfl⟩
            · have hun := hid (unzig_odd hp)
              have hpb : (((zn : Int) + 9223372036854775808 * ((c : Int) % 128)) % 2 == 1) = true := by rw [beq_iff_eq]; omega
              clear hp
              go_wp2
              exact bodyPost_ret (v := .tuple #[.int .i64 (-(((zn : Int) + 9223372036854775808 * ((c : Int) % 128)) / 2) - 1), .int .i64 (at' + 9 + 1), .int .i64 0]) (by simp [results, Tryz.results89, go_sem]) rfl ⟨by rw [Hm.out, if_pos h128]; simp only [hun.out]; simp, rfl⟩
    · have hke : k = m.length ∨ m.length = 0 := by omega
      have Hm := hid (show getVarM l at' = (0, 0, 10) by rw [Hgv.out, List.drop_eq_nil_of_le (by omega)]; rfl)
      have hle : decide ((l.length : Int) - at' ≤ k) = true := decide_eq_true (by omega)
      clear hke Hgv
      by_cases hq : l.length ≤ at'
      · go_wp2
        exact bodyPost_ret (v := .tuple #[.int .i64 0, .int .i64 0, .int .i64 10]) (by simp [results, Tryz.results89, go_sem]) rfl ⟨by rw [Hm.out], rfl⟩
      · go_wp2
        exact bodyPost_ret (v := .tuple #[.int .i64 0, .int .i64 0, .int .i64 10]) (by simp [results, Tryz.results89, go_sem]) rfl ⟨by rw [Hm.out], rfl⟩
end Go.Proofs.YtcpecponmaakoaaGreatDoor
