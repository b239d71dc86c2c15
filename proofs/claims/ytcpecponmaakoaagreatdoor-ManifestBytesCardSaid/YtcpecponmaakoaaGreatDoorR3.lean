/- Walks: a manifest's bytes (the document's Save). -/
import Derived.Test.YtcpecponmaakoaaGreatDoorR2
import Derived.Test.YtcpecponmaakoaaGreatDoorL3
import Derived.Test.YtcpecponmaakoaaGreatDoorW9
import Derived.Test.YtcpecponmaakoaaGreatDoorW2
namespace Go.Proofs.YtcpecponmaakoaaGreatDoor
open Go.RowKit Go.Wm Go.Lib
set_option maxHeartbeats 2000000 in
set_option maxRecDepth 100000 in
theorem refSave_any (ver next : Int) (ps : List Piece) (v : Value) (w : World) (hv : PcsAt w v ps) (hsum : ∀ p ∈ ps, 0 ≤ p.sum ∧ p.sum < 4294967296) :
    Calls Tryz.prog 24 #[.agg #[.int .i64 ver, .int .i64 next, v]] w fun e w' => ∃ u, e = .returned (.tuple #[u, .int .i64 (saveM ver next ps).2]) ∧ OwnBytes w' w.heap.size u (saveM ver next ps).1 ∧ Below w.heap.size w w' := by
  have C := hid (refCheck_any ver next ps v _ (hv.mono (below_alloc w (.cells #[.int .i64 ver, .int .i64 next, v] 24))))
  obtain ⟨a, cap, rfl, hn, hs⟩ := hv
  by_cases hck : checkM ver next ps = 0
  · obtain ⟨⟨v0, v1⟩, ⟨n0, n1⟩, hlen, hok, _⟩ := checkM_ok hck
    have Hm := hid (show saveM ver next ps = (sealM (manBytes ver next ps), 0) by rw [saveM, if_pos hck])
    rw [hck] at C
    have Hok := hid hok
    obtain ⟨vn, rfl⟩ := Int.eq_ofNat_of_zero_le v0
    obtain ⟨nn, rfl⟩ := Int.eq_ofNat_of_zero_le n0
    have HS := hid hs
    have Hmb := hid (show manBytes vn nn ps = puts [vn, nn, ps.length] ++ ps.flatMap pieceBytes from rfl)
    clear hok hck hs
    go_enter Tryz.func24, Tryz.ntmps24
    go_wp2_with fail
    refine C.out.mono ?_
    rintro e w1 ⟨rfl, hb1⟩
    have m0 := cell_below hb1 (show (w.alloc (.cells #[.int .i64 vn, .int .i64 nn, .slice a ps.length cap] 24)).cell? ⟨w.heap.size, 0, none⟩ = some (.int .i64 vn) by simp)
    have m1 := cell_below hb1 (show (w.alloc (.cells #[.int .i64 vn, .int .i64 nn, .slice a ps.length cap] 24)).cell? ⟨w.heap.size, 1, none⟩ = some (.int .i64 nn) by simp)
    have m2 := cell_below hb1 (show (w.alloc (.cells #[.int .i64 vn, .int .i64 nn, .slice a ps.length cap] 24)).cell? ⟨w.heap.size, 2, none⟩ = some (.slice a ps.length cap) by simp)
    have hbw := (below_alloc w _).step hb1
    have hbb := hbw.size
    clear hb1 C
    go_wp2_with fail
    refine (refPutVar_any [] vn _ w1 (by simpa using (OwnBytes.nil w1 0).at (by simp)) (by omega) (by simp)).mono ?_
    rintro e y1 ⟨u1, rfl, o1, hy1⟩
    have o1 := o1.base (show w.heap.size ≤ w1.heap.size by omega)
    obtain ⟨c1, hc1⟩ : ∃ c, c = [] ++ uvarint (2 * vn) := ⟨_, rfl⟩
    have hl1 : c1.length ≤ 10 := by have := uvarint_length64 (x := 2 * vn) (by omega); rw [hc1, List.length_append]; simp; omega
    rw [← hc1] at o1
    have HC1 := hid hc1
    obtain ⟨a1, k1, rfl⟩ := OwnBytes.form o1
    have m0 := cell_below hy1 m0
    have m1 := cell_below hy1 m1
    have m2 := cell_below hy1 m2
    have hbw := hbw.step hy1
    have hbb := hbw.size
    clear hc1 hy1
    go_wp2_with fail
    refine (refPutVar_any c1 nn _ y1 (o1.at (by omega)) (by omega) (by omega)).mono ?_
    rintro e y2 ⟨u2, rfl, o2, hy2⟩
    have o2 := o2.base (show w.heap.size ≤ y1.heap.size by omega)
    obtain ⟨c2, hc2⟩ : ∃ c, c = c1 ++ uvarint (2 * nn) := ⟨_, rfl⟩
    have hl2 : c2.length ≤ 20 := by have := uvarint_length64 (x := 2 * nn) (by omega); rw [hc2, List.length_append]; omega
    rw [← hc2] at o2
    have HC2 := hid hc2
    obtain ⟨a2, k2, rfl⟩ := OwnBytes.form o2
    have m0 := cell_below hy2 m0
    have m1 := cell_below hy2 m1
    have m2 := cell_below hy2 m2
    have hbw := hbw.step hy2
    have hbb := hbw.size
    clear hc2 hy2
    go_wp2_with fail
    refine (refPutVar_any c2 _ _ y2 (o2.at (by omega)) (by omega) (by omega)).mono ?_
    rintro e y3 ⟨u3, rfl, o3, hy3⟩
    have o3 := o3.base (show w.heap.size ≤ y2.heap.size by omega)
    obtain ⟨c3, hc3⟩ : ∃ c, c = c2 ++ uvarint (2 * ps.length) := ⟨_, rfl⟩
    have hl3 : c3.length ≤ 30 := by have := uvarint_length64 (x := 2 * ps.length) (by omega); rw [hc3, List.length_append]; omega
    rw [← hc3] at o3
    have HC3 := hid hc3
    obtain ⟨a3, k3, rfl⟩ := OwnBytes.form o3
    have m0 := cell_below hy3 m0
    have m1 := cell_below hy3 m1
    have m2 := cell_below hy3 m2
    have hbw := hbw.step hy3
    have hbb := hbw.size
    clear hc3 hy3
    have HD := hid (show c3 = puts [vn, nn, ps.length] by rw [HC3.out, HC2.out, HC1.out]; simp [puts])
    clear HC1 HC2 HC3 m0 m1 hl1 hl2
    go_wp2_with fail
    go_loopw [5, 6] (fun x i wr => ∃ (k : Nat) (cur : List UInt8), k ≤ ps.length ∧ i = .int .i64 k ∧ cur = puts [vn, nn, ps.length] ++ (ps.take k).flatMap pieceBytes ∧ OwnBytes wr w.heap.size x cur ∧ Below y3.heap.size y3 wr) (fun _ i _ => ps.length - (intOf i).toNat)
    case atStart => exact ⟨0, c3, by omega, rfl, by simpa using HD.out, o3, Below.refl _ _⟩
    case round =>
      obtain ⟨k, cur, hk, rfl, hcur, hO, hwr⟩ := hrel
      have hla := puts_length [vn, nn, ps.length] (by intro n hn'; simp at hn'; rcases hn' with rfl | rfl | rfl <;> omega)
      have hlb := flat_length (ps.take k) (fun p hp => Hok.out p (List.mem_of_mem_take hp)) n1
      have hlc : (ps.take k).length ≤ 256 := by rw [List.length_take]; omega
      have hcl : cur.length ≤ 20000 := by rw [hcur, List.length_append]; simp at hla; omega
      have Hcur := hid hcur
      obtain ⟨ax, cx, rfl⟩ := OwnBytes.form hO
      have HO := hid hO
      have m2 := cell_below hwr m2
      have hB := hbw.step hwr
      have hzB := hB.size
      clear hcur hla hlb hlc hO o3 hl3 HD
      obtain ⟨wo, rfl⟩ : ∃ wo : World, wo = wr := ⟨_, rfl⟩
      by_cases hlt : k < ps.length
      · obtain ⟨b, o, rfl, hx⟩ := HS.out k hlt
        have hx := hx _ (List.getElem?_eq_getElem hlt)
        obtain ⟨e0, e1, e2, e3, e4, e5⟩ := hx.mono hB
        have hokp := Hok.out _ (List.getElem_mem hlt)
        have hsp := hsum _ (List.getElem_mem hlt)
        have Hnext := hid (show (ps.take (k + 1)).flatMap pieceBytes = (ps.take k).flatMap pieceBytes ++ pieceBytes ps[k] by
          rw [List.take_add_one, List.getElem?_eq_getElem hlt, List.flatMap_append]; simp)
        obtain ⟨p, hp⟩ : ∃ p, p = ps[k] := ⟨_, rfl⟩
        rw [← hp] at e0 e1 e2 e3 e4 e5 hokp hsp Hnext
        clear hp hx
        obtain ⟨pid, pb, pf, pz, pm, pt⟩ := p
        obtain ⟨k0, k1, k2, k3, k4, k5, k6, k7, _, k9⟩ := hokp
        obtain ⟨h8, h9⟩ := hsp
        simp only at e0 e1 e2 e3 e4 e5 k0 k1 k2 k3 k4 k5 k6 k7 k9 h8 h9
        obtain ⟨i1, rfl⟩ := Int.eq_ofNat_of_zero_le k0
        obtain ⟨i2, rfl⟩ := Int.eq_ofNat_of_zero_le k2
        obtain ⟨i3, rfl⟩ := Int.eq_ofNat_of_zero_le k4
        obtain ⟨i4, rfl⟩ := Int.eq_ofNat_of_zero_le k6
        obtain ⟨i5, rfl⟩ := Int.eq_ofNat_of_zero_le h8
        obtain ⟨i6, rfl⟩ := Int.eq_ofNat_of_zero_le (show 0 ≤ pt by omega)
        have Hpb := hid (show pieceBytes ⟨i1, i2, i3, i4, i5, i6⟩ = puts [i1, i2, i3, i4] ++ be4 i5 ++ puts [i6] from rfl)
        clear k0 k2 k4 k6 h8
        go_wp2_with fail
        obtain ⟨x0, hA⟩ : ∃ W, W = wo.alloc (.cells #[.int .i64 i1, .int .i64 i2, .int .i64 i3, .int .i64 i4, .int .u32 i5, .int .i64 i6] 29) := ⟨_, rfl⟩
        have hbx0 : Below wo.heap.size wo x0 := by rw [hA]; exact below_alloc _ _
        have hPA : x0.heap[wo.heap.size]? = some (.cells #[.int .i64 i1, .int .i64 i2, .int .i64 i3, .int .i64 i4, .int .u32 i5, .int .i64 i6] 29 (0, 0)) := by rw [hA]; exact heap_alloc_new wo _
        rw [← hA]
        clear hA e0 e1 e2 e3 e4 e5
        obtain ⟨q0, q1, q2, q3, q4, q5, _⟩ := row6 hPA
        have d0 := HO.out.below hbx0
        have hBr := hwr.step hbx0
        have hzr := hBr.size
        have hzy : w.heap.size ≤ y3.heap.size := hbw.size
        clear hbx0 hPA HO
        refine (refPutVar_any cur i1 _ x0 (d0.at (by omega)) (by omega) (by omega)).mono ?_
        rintro e x1 ⟨u1, rfl, d1, hx1⟩
        have d1 := d1.base (show w.heap.size ≤ x0.heap.size by omega)
        obtain ⟨f1, hf1⟩ : ∃ c, c = cur ++ uvarint (2 * i1) := ⟨_, rfl⟩
        have hg1 : f1.length ≤ 20010 := by have := uvarint_length64 (x := 2 * i1) (by omega); rw [hf1, List.length_append]; omega
        rw [← hf1] at d1
        have HF1 := hid hf1
        obtain ⟨b1, j1, rfl⟩ := OwnBytes.form d1
        have q1 := cell_below hx1 q1
        have q2 := cell_below hx1 q2
        have q3 := cell_below hx1 q3
        have q4 := cell_below hx1 q4
        have q5 := cell_below hx1 q5
        have hBr := hBr.step hx1
        have hzr := hBr.size
        clear hf1 hx1 d0 q0
        go_wp2_with fail
        refine (refPutVar_any f1 i2 _ x1 (d1.at (by omega)) (by omega) (by omega)).mono ?_
        rintro e x2 ⟨u2, rfl, d2, hx2⟩
        have d2 := d2.base (show w.heap.size ≤ x1.heap.size by omega)
        obtain ⟨f2, hf2⟩ : ∃ c, c = f1 ++ uvarint (2 * i2) := ⟨_, rfl⟩
        have hg2 : f2.length ≤ 20020 := by have := uvarint_length64 (x := 2 * i2) (by omega); rw [hf2, List.length_append]; omega
        rw [← hf2] at d2
        have HF2 := hid hf2
        obtain ⟨b2, j2, rfl⟩ := OwnBytes.form d2
        have q2 := cell_below hx2 q2
        have q3 := cell_below hx2 q3
        have q4 := cell_below hx2 q4
        have q5 := cell_below hx2 q5
        have hBr := hBr.step hx2
        have hzr := hBr.size
        clear hf2 hx2 d1 q1
        go_wp2_with fail
        refine (refPutVar_any f2 i3 _ x2 (d2.at (by omega)) (by omega) (by omega)).mono ?_
        rintro e x3 ⟨u3, rfl, d3, hx3⟩
        have d3 := d3.base (show w.heap.size ≤ x2.heap.size by omega)
        obtain ⟨f3, hf3⟩ : ∃ c, c = f2 ++ uvarint (2 * i3) := ⟨_, rfl⟩
        have hg3 : f3.length ≤ 20030 := by have := uvarint_length64 (x := 2 * i3) (by omega); rw [hf3, List.length_append]; omega
        rw [← hf3] at d3
        have HF3 := hid hf3
        obtain ⟨b3, j3, rfl⟩ := OwnBytes.form d3
        have q3 := cell_below hx3 q3
        have q4 := cell_below hx3 q4
        have q5 := cell_below hx3 q5
        have hBr := hBr.step hx3
        have hzr := hBr.size
        clear hf3 hx3 d2 q2
        go_wp2_with fail
        refine (refPutVar_any f3 i4 _ x3 (d3.at (by omega)) (by omega) (by omega)).mono ?_
        rintro e x4 ⟨u4, rfl, d4, hx4⟩
        have d4 := d4.base (show w.heap.size ≤ x3.heap.size by omega)
        obtain ⟨f4, hf4⟩ : ∃ c, c = f3 ++ uvarint (2 * i4) := ⟨_, rfl⟩
        have hg4 : f4.length ≤ 20040 := by have := uvarint_length64 (x := 2 * i4) (by omega); rw [hf4, List.length_append]; omega
        rw [← hf4] at d4
        have HF4 := hid hf4
        obtain ⟨b4, j4, rfl⟩ := OwnBytes.form d4
        have q4 := cell_below hx4 q4
        have q5 := cell_below hx4 q5
        have hBr := hBr.step hx4
        have hzr := hBr.size
        clear hf4 hx4 d3 q3
        go_wp2_with fail
        refine (refPut4_any f4 i5 _ x4 (d4.at (by omega)) (by omega) (by omega)).mono ?_
        rintro e x5 ⟨u5, rfl, d5, hx5⟩
        have d5 := d5.base (show w.heap.size ≤ x4.heap.size by omega)
        obtain ⟨f5, hf5⟩ : ∃ c, c = f4 ++ be4 i5 := ⟨_, rfl⟩
        have hg5 : f5.length ≤ 20050 := by rw [hf5, List.length_append, be4_length]; omega
        rw [← hf5] at d5
        have HF5 := hid hf5
        obtain ⟨b5, j5, rfl⟩ := OwnBytes.form d5
        have q5 := cell_below hx5 q5
        have hBr := hBr.step hx5
        have hzr := hBr.size
        clear hf5 hx5 d4 q4
        go_wp2_with fail
        refine (refPutVar_any f5 i6 _ x5 (d5.at (by omega)) (by omega) (by omega)).mono ?_
        rintro e x6 ⟨u6, rfl, d6, hx6⟩
        have d6 := d6.base (show w.heap.size ≤ x5.heap.size by omega)
        obtain ⟨f6, hf6⟩ : ∃ c, c = f5 ++ uvarint (2 * i6) := ⟨_, rfl⟩
        have hg6 : f6.length ≤ 20060 := by have := uvarint_length64 (x := 2 * i6) (by omega); rw [hf6, List.length_append]; omega
        rw [← hf6] at d6
        have HF6 := hid hf6
        obtain ⟨b6, j6, rfl⟩ := OwnBytes.form d6

        have hBr := hBr.step hx6
        have hzr := hBr.size
        clear hf6 hx6 d5 q5
        go_wp2_with fail
        have HG := hid (show f6 = puts [vn, nn, ps.length] ++ (ps.take (k + 1)).flatMap pieceBytes by
          rw [HF6.out, HF5.out, HF4.out, HF3.out, HF2.out, HF1.out, Hcur.out, Hnext.out, Hpb.out]; simp [puts, List.append_assoc])
        clear HF1 HF2 HF3 HF4 HF5 HF6
        go_roundw
        case rel => exact ⟨k + 1, f6, by omega, by go_num, HG.out, d6, hBr⟩
        case measure => simp [intOf]; omega
      · have hke : k = ps.length := by omega
        have HE := hid (show cur = manBytes vn nn ps by rw [Hcur.out, Hmb.out, hke, List.take_length])
        clear hke Hcur
        go_wp2_with fail
        refine (refSeal_any cur _ wo (HO.out.at (by omega))).mono ?_
        rintro e w3 ⟨u3, rfl, hu3, hb3⟩
        obtain ⟨a4, c4, rfl⟩ := OwnBytes.form hu3
        go_wp2_with fail
        exact bodyPost_ret (v := .tuple #[.slice a4 (sealM cur).length c4, .int .i64 0]) (by simp [results, Tryz.results24, go_sem]) rfl ⟨_, by rw [Hm.out], by rw [Hm.out, ← HE.out]; exact hu3.base (by omega), hB.step hb3⟩
  · have Hm := hid (show saveM ver next ps = ([], checkM ver next ps) by rw [saveM, if_neg hck])
    have hne : (checkM ver next ps != 0) = true := by simpa using hck
    generalize checkM ver next ps = e0 at *
    clear hck hs
    go_enter Tryz.func24, Tryz.ntmps24
    go_wp2_with fail
    refine C.out.mono ?_
    rintro e w1 ⟨rfl, hb1⟩
    go_wp2_with fail
    exact bodyPost_ret (v := .tuple #[.slice none 0 0, .int .i64 e0]) (by simp [results, Tryz.results24, go_sem]) rfl ⟨_, by rw [Hm.out], by rw [Hm.out]; exact OwnBytes.nil _ _, (below_alloc _ _).step hb1⟩
end Go.Proofs.YtcpecponmaakoaaGreatDoor
