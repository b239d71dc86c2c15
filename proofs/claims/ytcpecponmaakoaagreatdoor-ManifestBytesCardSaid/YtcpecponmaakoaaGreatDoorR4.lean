/- Walks: sealed bytes opened (the document's). -/
import Derived.Test.YtcpecponmaakoaaGreatDoorR1
import Derived.Test.YtcpecponmaakoaaGreatDoorN2
namespace Go.Proofs.YtcpecponmaakoaaGreatDoor
open Go.RowKit Go.Wm Go.Lib
theorem openM_split {l : List UInt8} {n : Nat} (h : l.length = n + 4) : (l.drop n = be4 (crcOf (l.take n)) → openM l = (l.take n, 0)) ∧ (l.drop n ≠ be4 (crcOf (l.take n)) → openM l = ([], 20)) := by
  have hm : openM l = if beVal (l.drop n) ≠ crcOf (l.take n) then ([], 20) else (l.take n, 0) := by
    rw [openM, if_neg (by omega), show l.length - 4 = n by omega]
  have hv := be4_val _ (crcOf_lt (l.take n))
  refine ⟨fun e => ?_, fun e => ?_⟩
  · rw [hm, if_neg (by rw [e, hv]; simp)]
  · rw [hm, if_pos fun e2 => e (beVal_inj (by rw [List.length_drop, h, be4_length]; omega) (by rw [e2, hv]))]
theorem byteAt {w : World} {a : Option Addr} {n cap : Nat} {l : List UInt8} (h : BytesAt w (.slice a n cap) l) (k : Nat) (hk : k < l.length) : ∃ b o, a = some ⟨b, o, none⟩ ∧ w.cell? ⟨b, o + k, none⟩ = some (.int .u8 (l[k].toNat : Int)) := by
  obtain ⟨a0, cap0, hv, hn, hs⟩ := h
  injection hv with h1 h2 h3
  subst h1
  obtain ⟨b, o, ha, hx⟩ := hs k hk
  refine ⟨b, o, ha, ?_⟩
  have := hx _ (List.getElem?_eq_getElem hk)
  rw [Nat.mul_one] at this
  exact this
set_option maxHeartbeats 2000000 in
set_option maxRecDepth 100000 in
theorem refOpen_any (l : List UInt8) (v : Value) (w : World) (hv : BytesAt w v l) (hc : capOk v) :
    Calls Tryz.prog 64 #[v] w fun e w' => ∃ u, e = .returned (.tuple #[u, .int .i64 (openM l).2]) ∧ OwnBytes w' w.heap.size u (openM l).1 ∧ Below w.heap.size w w' := by
  have hvw := hv
  obtain ⟨a, cap, rfl, hn⟩ := hv.form
  have hlc := hc _ _ _ rfl
  clear hv hc
  by_cases h4 : l.length < 4
  · have Hm := hid (show openM l = ([], 10) by rw [openM, if_pos h4])
    have hneg : decide ((l.length : Int) - 4 < 0) = true := decide_eq_true (by omega)
    go_enter Tryz.func64, Tryz.ntmps64
    go_wp2
    exact bodyPost_ret (v := .tuple #[.slice none 0 0, .int .i64 10]) (by simp [results, Tryz.results64, go_sem]) rfl ⟨_, by rw [Hm.out], by rw [Hm.out]; exact OwnBytes.nil _ _, Below.refl _ _⟩
  · obtain ⟨n, hn4⟩ : ∃ n, l.length = n + 4 := ⟨l.length - 4, by omega⟩
    have S := hid (refSum_any (l.take n) _ w (BytesAt.take hvw n (by omega) cap))
    have HT := hid (BytesAt.take hvw n (by omega) cap)
    have HM := hid (openM_split hn4)
    have hy := crcOf_lt (l.take n)
    have F := hid (refFour_any _ w hy)
    have hdl : (l.drop n).length = 4 := by rw [List.length_drop]; omega
    have htl : (l.take n).length = n := by rw [List.length_take]; omega
    have HB := hid (fun (j : Nat) (hj : j < 4) => show ∃ b o x, a = some ⟨b, o, none⟩ ∧ w.cell? ⟨b, o + (n + j), none⟩ = some (.int .u8 (x : UInt8).toNat) ∧ (l.drop n)[j]? = some x from
      let ⟨b, o, h1, h2⟩ := byteAt hvw (n + j) (by omega)
      ⟨b, o, _, h1, h2, by rw [List.getElem?_drop, List.getElem?_eq_getElem]⟩)
    have hnl : ((n : Int) + 4) - 4 = n := by omega
    generalize hll : l.length = L at *
    subst hn4
    clear hvw
    have hlcn : n ≤ cap := by omega
    generalize hs : be4 (crcOf (l.take n)) = s at *
    have hsl : s.length = 4 := by rw [← hs]; rfl
    generalize crcOf (l.take n) = y at *
    generalize l.drop n = t at *
    generalize l.take n = p at *
    clear hs hll
    have HTL := hid htl
    clear htl
    go_enter Tryz.func64, Tryz.ntmps64
    go_wp2_with fail
    refine S.out.mono ?_
    rintro e w1 ⟨rfl, rfl⟩
    go_wp2_with fail
    refine F.out.mono ?_
    rintro e w2 ⟨u2, rfl, hu2, hb2⟩
    have HU := hid (hu2.at (by omega))
    obtain ⟨a2, c2, rfl⟩ := OwnBytes.form hu2
    rw [hsl]
    clear S F hu2
    go_wp2_with fail
    go_loopw [6] (fun i wr => ∃ j : Nat, j ≤ 4 ∧ i = .int .i64 j ∧ (∀ q, q < j → t[q]? = s[q]?) ∧ Below w2.heap.size w2 wr) (fun i _ => (4 - intOf i).toNat)
    case atStart => exact ⟨0, by omega, rfl, fun q hq => by omega, Below.refl _ _⟩
    case round =>
      obtain ⟨j, hj, rfl, hall, hwr⟩ := hrel
      have hbr := hb2.step hwr
      have Hall := hid hall
      clear hall
      by_cases hlt : j < 4
      · obtain ⟨b, o, x, rfl, hx, htj⟩ := HB.out j hlt
        obtain ⟨b', o', rfl, hx'⟩ := byteAt (HU.out.mono hwr) j (by omega)
        have hx := cell_below hbr hx
        have hjs : j < s.length := by omega
        have Hj := hid (show t[j]? = s[j]? ↔ x = s[j] by rw [htj, List.getElem?_eq_getElem hjs]; simp)
        clear htj
        generalize s[j] = x' at *
        by_cases hxx : x = x'
        · have HJ := hid (Hj.out.2 hxx)
          subst hxx
          go_wp2_with fail
          go_region
          go_wp2_with fail
          go_roundw
          case rel => exact ⟨j + 1, by omega, by go_num, fun q hq => by
            by_cases hqj : q = j
            · subst hqj; exact HJ.out
            · exact Hall.out q (by omega), by first | exact hwr.drew | exact hwr⟩
          case measure => simp [intOf]; omega
        · have HJ := hid (show t ≠ s from fun e => hxx (Hj.out.1 (by rw [e])))
          have hxn : ((x.toNat : Int) != (x'.toNat : Int)) = true := by
            simp only [bne_iff_ne, ne_eq]; intro e; exact hxx (UInt8.toNat_inj.1 (by omega))
          clear hxx
          have Hm := hid (HM.out.2 HJ.out)
          go_wp2_with fail
          go_region
          go_wp2_with fail
          exact bodyPost_ret (v := .tuple #[.slice none 0 0, .int .i64 20]) (by simp [results, Tryz.results64, go_sem]) rfl ⟨_, by rw [Hm.out], by rw [Hm.out]; exact OwnBytes.nil _ _, by first | exact hbr.drew | exact hbr⟩
      · have HJ := hid (show t = s from List.ext_getElem? fun q => by
          by_cases hq : q < 4
          · exact Hall.out q (by omega)
          · rw [List.getElem?_eq_none (by omega), List.getElem?_eq_none (by omega)])
        have Hm := hid (HM.out.1 HJ.out)
        clear Hall
        go_wp2_with (at_builtin; refine wpList_append_bytes rfl (.tmp 32) (.tmp 35) rfl Tryz.underlying43 Tryz.inf5 w1.heap.size _ _ [] p rfl (empty_bytes wr w1.heap.size hbr.size) rfl ((HT.out.mono hbr).mono (below_alloc wr (.cells #[] 5))) (by simp) (by have := hbr.size; rw [World.size_alloc]; omega) ?_)
        intro v' w' hO hb _
        obtain ⟨a', c', rfl⟩ := OwnBytes.form hO
        go_wp2_with fail
        exact bodyPost_ret (v := .tuple #[.slice a' ([] ++ p).length c', .int .i64 0]) (by simp [results, Tryz.results64, go_sem]) rfl ⟨_, by rw [Hm.out], by rw [Hm.out]; exact hO, (hbr.step (below_alloc _ _)).trans hb⟩
end Go.Proofs.YtcpecponmaakoaaGreatDoor
