/- Walks: four bytes read (the document's Get). -/
import Derived.Test.YtcpecponmaakoaaGreatDoorR4
namespace Go.Proofs.YtcpecponmaakoaaGreatDoor
open Go.RowKit Go.Wm Go.Lib
set_option maxHeartbeats 2000000 in
set_option maxRecDepth 100000 in
theorem refGet4_any (l : List UInt8) (at' : Nat) (v : Value) (w : World) (hv : BytesAt w v l) (hat : at' ≤ 1000000000) :
    Calls Tryz.prog 90 #[v, .int .i64 at', .int .i64 4] w fun e w' => e = .returned (.tuple #[.int .u64 (get4 l at').1, .int .i64 (get4 l at').2]) ∧ w' = w := by
  have Hg := hid (show get4 l at' = if (l.drop at').length < 4 then (0, 10) else (beVal ((l.drop at').take 4), 0) from rfl)
  have hvw := hv
  obtain ⟨a, cap, rfl, hn⟩ := hv.form
  clear hv
  have hml : (l.drop at').length = l.length - at' := List.length_drop
  have HS := hid (fun (k : Nat) (hk : at' + k < l.length) => show ∃ b o x, a = some ⟨b, o, none⟩ ∧ w.cell? ⟨b, o + (at' + k), none⟩ = some (.int .u8 (x : UInt8).toNat) ∧ (l.drop at')[k]? = some x from
    let ⟨b, o, h1, h2⟩ := byteAt hvw (at' + k) hk
    ⟨b, o, _, h1, h2, by rw [List.getElem?_drop, List.getElem?_eq_getElem]⟩)
  clear hvw
  generalize l.drop at' = m at *
  by_cases h4 : m.length < 4
  · rw [if_pos h4] at Hg
    have hneg : decide ((at' : Int) < 0) = false := decide_eq_false (by omega)
    by_cases hq : l.length < at'
    · go_enter Tryz.func90, Tryz.ntmps90
      go_wp2
      exact bodyPost_ret (v := .tuple #[.int .u64 0, .int .i64 10]) (by simp [results, Tryz.results90, go_sem]) rfl ⟨by rw [Hg.out]; rfl, rfl⟩
    · have hlt : decide ((l.length : Int) - at' < 4) = true := decide_eq_true (by omega)
      go_enter Tryz.func90, Tryz.ntmps90
      go_wp2
      exact bodyPost_ret (v := .tuple #[.int .u64 0, .int .i64 10]) (by simp [results, Tryz.results90, go_sem]) rfl ⟨by rw [Hg.out]; rfl, rfl⟩
  · rw [if_neg h4] at Hg
    have h5 : 4 ≤ m.length := by omega
    have hneg : decide ((at' : Int) < 0) = false := decide_eq_false (by omega)
    have hlt : decide ((l.length : Int) - at' < 4) = false := decide_eq_false (by omega)
    have hq : ¬ l.length < at' := by omega
    go_enter Tryz.func90, Tryz.ntmps90
    go_wp2_with fail
    clear hneg hlt hq
    go_loopw [8, 33] (fun n i wr => ∃ j : Nat, j ≤ 4 ∧ i = .int .i64 j ∧ n = .int .u64 (beVal (m.take j)) ∧ wr = w) (fun _ i _ => (4 - intOf i).toNat)
    case atStart => exact ⟨0, by omega, rfl, rfl, rfl⟩
    case round =>
      obtain ⟨j, hj, rfl, rfl, rfl⟩ := hrel
      by_cases hj4 : j < 4
      · obtain ⟨b, o, x, rfl, e0, hx⟩ := HS.out j (by omega)
        have hlt2 : beVal (m.take j) < 16777216 := by
          have := beVal_lt (m.take j)
          have h6 : 256 ^ (m.take j).length ≤ 256 ^ 3 := Nat.pow_le_pow_right (by omega) (by rw [List.length_take]; omega)
          omega
        have Hs := hid (show beVal (m.take (j + 1)) = beVal (m.take j) * 256 + x.toNat by
          rw [List.take_add_one, hx]; exact beVal_snoc _ _)
        clear hx
        have hx := x.toNat_lt
        generalize hy : x.toNat = y at *
        generalize beVal (m.take j) = z at *
        go_wp2
        go_roundw
        case rel => exact ⟨j + 1, by omega, by go_num, by rw [Hs.out]; simp, trivial⟩
        case measure => simp [intOf]; omega
      · have hj' : j = 4 := by omega
        subst hj'
        go_wp2
        exact bodyPost_ret (v := .tuple #[.int .u64 (beVal (m.take 4)), .int .i64 0]) (by simp [results, Tryz.results90, go_sem]) rfl ⟨by rw [Hg.out], rfl⟩
end Go.Proofs.YtcpecponmaakoaaGreatDoor
