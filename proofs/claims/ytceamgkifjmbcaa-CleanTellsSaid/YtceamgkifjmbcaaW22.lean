/- Walks of the program: Last. -/
import Derived.Test.YtceamgkifjmbcaaW21
import Derived.Deep.RegionHeld3
namespace Go.Proofs.Ytceamgkifjmbcaa
open Go.RowKit Go.Wm Go.Maps
set_option maxRecDepth 100000 in
set_option maxHeartbeats 2000000 in
theorem last18_any (bs : List Batch) (l : List Gone) (vb vl : Value) (to : Int) (w : World) (hb : BatchesAt w vb bs) (hl : GonesAt w vl l) (hfew : bs.length ≤ 100) :
    Calls Try.prog 18 #[vb, vl, .int .i64 to] w
      fun e w' => ∃ u ks, e = .returned u ∧ KeysAre (lookO bs l to) ks ∧ OwnMarks w' w.heap.size u (ks.map (markOf bs l to)) ∧ ks.length ≤ bs.length * 1000000 ∧ Below w.heap.size w w' := by
  have C := hid (look2_any bs l vb vl to 0 0 w hb hl)
  have hcap : bs.length * 1000000 ≤ 100000000 := Nat.mul_le_mul_right 1000000 hfew
  have HB := hid hb
  clear hb hl
  go_enter Try.func18, Try.ntmps18
  go_wp2_with fail
  refine C.out.mono ?_
  rintro e1 w1 ⟨R, m, n, rfl, hn, hr, hm, hb1⟩
  have r5 := hr.c5
  go_wp2_with fail
  refine (mapsKeys_any m w1).mono ?_
  rintro e2 w2 ⟨rfl, hw2⟩
  have hm1 := hid hm
  have Hw2 := hid hw2
  have hb2 : Below w1.heap.size w1 w2 := by rw [hw2]; exact below_alloc _ _
  clear hw2 hm
  go_wp2_with fail
  rw [Hw2.out]
  refine (sortedKeys_any m n (lookO bs l to) w1 hm1.out (Nat.le_trans (Nat.le_trans hn hcap) (by decide))).mono ?_
  rintro e3 w3 ⟨v, ks, rfl, hks, hst, hkl, hb3⟩
  rw [← Hw2.out] at hb3
  have hb13 : Below w1.heap.size w1 w3 := hb2.step hb3
  have HK := hid hks
  have hkn := Nat.le_trans hkl hn
  have hkb : ks.length ≤ 100000000 := Nat.le_trans hkn hcap
  clear hb3 hb2 Hw2 r5 hks
  have HR := hid hr
  clear hr
  rcases hst.shape with ⟨rfl, rfl⟩ | ⟨g, cap, rfl, hcell⟩
  · go_wp2
    refine wp_loop_once ?_
    go_wp2
    go_ret
    exact ⟨_, [], rfl, HK.out, OwnMarks.nil _ _, Nat.zero_le _, hb1.step hb13⟩
  · have Hcell := hid hcell
    clear hcell
    have HKN := hid hkn
    have hB3 := hb1.step hb13
    clear hkn hn hkl hcap
    go_wp2
    go_loopw [7, 23] (fun u q wr => ∃ i : Nat, i ≤ ks.length ∧ q = .int .i64 i ∧ OwnMarks wr w3.heap.size u ((ks.take i).map (markOf bs l to)) ∧ Below w3.heap.size w3 wr) (fun _ q _ => ks.length - (intOf q).toNat)
    case atStart => exact ⟨0, by omega, rfl, OwnMarks.nil _ _, Below.refl _ _⟩
    case round =>
      obtain ⟨i, hi, rfl, hown, hwr⟩ := hrel
      by_cases hlt : i < ks.length
      · have ck := cell_below hwr (Hcell.out i hlt)
        have T := hid (take_snoc ks i _ (List.getElem?_eq_getElem hlt))
        obtain ⟨key, hkey⟩ : ∃ key, key = ks[i] := ⟨_, rfl⟩
        have hmem : key ∈ ks := by rw [hkey]; exact List.getElem_mem hlt
        rw [← hkey] at ck T
        clear hkey
        have hsome := (HK.out.mem key).1 hmem
        have hksz := HK.out.small key hmem
        obtain ⟨_, hlF, _, ip, jp, x, r, hp, hx, hrj, _, _⟩ := lookO_some hsome
        have hM : markOf bs l to key = ⟨key, r.off⟩ := by
          unfold markOf offAt recAt
          rw [hlF, hp]
          simp [hx, hrj]
        have HM := hid hM
        have LK := ((hm1.out.one.below hb13).below hwr).look key hksz
        rw [lookO_lookF, hlF, hp] at LK
        have hlen : (ks.take i).length ≤ i := List.length_take_le _ _
        generalize ks.take i = L at *
        have hBr := hB3.step hwr
        have rc5 := ((HR.out.mono hb13).mono hwr).c5
        have hxl := (List.getElem?_eq_some_iff.1 hx).1
        have hrl := (List.getElem?_eq_some_iff.1 hrj).1
        obtain ⟨ab, capb, rfl, hnb, hsb⟩ := HB.out
        obtain ⟨b', o, rfl, hxa⟩ := hsb ip hxl
        obtain ⟨sv, hxa, hxr⟩ := hxa x hx
        obtain ⟨a2, cap2, rfl, hn2, _, hs2⟩ := hxr
        obtain ⟨b2, o2, rfl, hra⟩ := hs2 jp hrl
        have x9 := hxa.c9
        have ro := (hra r hrj).c0
        clear hxa hra hs2 hsb hx hrj hp hlF hM hsome hmem
        go_wp2
        refine wp_name fun W3 hW3 => ?_
        have hB4 : Below wr.heap.size wr W3 := by rw [hW3]; exact below_alloc _ _
        have hsz3 : wr.heap.size < W3.heap.size := by rw [hW3]; simp
        have k0 : W3.cell? ⟨wr.heap.size, 0, none⟩ = some (.int .i64 (ip : Int)) := by rw [hW3]; simp
        have k1 : W3.cell? ⟨wr.heap.size, 1, none⟩ = some (.int .i64 (jp : Int)) := by rw [hW3]; simp
        have k9 := cell_below (hBr.step hB4) x9
        have ko := cell_below (hBr.step hB4) ro
        have x9old := cell_below hB3 x9
        have roold := cell_below hB3 ro
        clear hW3 x9 ro ck LK rc5
        have HO3 := hid (fun X => ((hown.below hB4).below (below_alloc W3 X)).below (w' := (W3.alloc X).drew) ((Below.refl _ _).drew))
        have hszw := hwr.size
        have hlt1 := lt_of_cell k9
        have hlt2 := lt_of_cell ko
        have hB9 := lt_of_cell x9old
        have hB8 := lt_of_cell roold
        have own1 : ∀ k, u7.ownBlock = some k → w3.heap.size ≤ k ∧ k < wr.heap.size := fun k hk => hown.lt k hk
        have HS := hid (fun (X : Obj) (w4 : World) (hg : (W3.alloc X).drew.grownBy w4 u7.ownBlock) => show w4.cell? ⟨wr.heap.size, 0, none⟩ = some (.int .i64 (ip : Int)) ∧ w4.cell? ⟨wr.heap.size, 1, none⟩ = some (.int .i64 (jp : Int)) ∧ w4.cell? ⟨b', o + ip * 10 + 9, none⟩ = some (.slice (some ⟨b2, o2, none⟩) x.recs.length cap2) ∧ w4.cell? ⟨b2, o2 + jp * 5, none⟩ = some (.int .i64 r.off) from
          ⟨hg.cell (a := ⟨wr.heap.size, 0, none⟩) (cell_alloc_old X k0) (fun e => Nat.lt_irrefl _ (own1 _ e.symm).2), hg.cell (a := ⟨wr.heap.size, 1, none⟩) (cell_alloc_old X k1) (fun e => Nat.lt_irrefl _ (own1 _ e.symm).2),
           hg.cell (a := ⟨b', o + ip * 10 + 9, none⟩) (cell_alloc_old X k9) (fun e => Nat.not_lt.2 (own1 _ e.symm).1 hB9), hg.cell (a := ⟨b2, o2 + jp * 5, none⟩) (cell_alloc_old X ko) (fun e => Nat.not_lt.2 (own1 _ e.symm).1 hB8)⟩)
        clear own1 hB9 hB8 x9old roold
        go_region_held3 (fun w' => w'.cell? ⟨wr.heap.size, 0, none⟩ = some (.int .i64 (ip : Int)) ∧ w'.cell? ⟨wr.heap.size, 1, none⟩ = some (.int .i64 (jp : Int)) ∧ w'.cell? ⟨b', o + ip * 10 + 9, none⟩ = some (.slice (some ⟨b2, o2, none⟩) x.recs.length cap2) ∧ w'.cell? ⟨b2, o2 + jp * 5, none⟩ = some (.int .i64 r.off)) (first | assumption | go_keep)
          (first
            | (refine step_append_mark rfl (.tmp 33) (.tmp 48) rfl w3.heap.size _ (L.map (markOf bs l to)) ⟨key, r.off⟩ rfl (HO3.out _) W3.heap.size rfl ⟨by simp, by simp, by simp, by simp⟩ (by rw [List.length_map]; omega) (by simp; omega) ?_; intro v' w4 hown' hbel hgr; have HSS := HS.out _ _ hgr))
        all_goals
          have hbX : Below w3.heap.size w3 w4 := (((hwr.step hB4).step (below_alloc W3 _)).drew).trans hbel
          clear hgr HSS hbel hlt1 hlt2 k0 k1 k9 ko
          go_wp2
          go_roundw
          case rel => exact ⟨i + 1, by omega, by go_num, by rw [T.out, List.map_append, List.map_singleton, HM.out]; exact hown', hbX⟩
          case measure => simp [intOf]; omega
      · obtain rfl : i = ks.length := by omega
        go_wp2
        go_ret
        rw [List.take_length] at hown
        exact ⟨_, ks, rfl, HK.out, ownsRow_mono hown hB3.size, HKN.out, hB3.step hwr⟩
end Go.Proofs.Ytceamgkifjmbcaa
