/- Walk: Heal. -/
import Derived.Test.YtcpecponmaakoaaGreatDoorH3
import Derived.Test.YtcpecponmaakoaaGreatDoorS2
import Derived.Deep.RegionHeld3
import Derived.Deep.DeepCutAuto
namespace Go.Proofs.YtcpecponmaakoaaGreatDoor
open Go.RowKit Go.Wm
/-- The number in a name of ours. -/
def idOf (pre s : ByteArray) : Option Int :=
  if Lib.hasPrefix s.data.toList (pre ++ ⟨#[45]⟩ : ByteArray).data.toList = true then
    match Lib.atoiAll (Lib.trimPrefix s.data.toList (pre ++ ⟨#[45]⟩ : ByteArray).data.toList) with
    | .ok x => if beyond x = true ∨ nameM pre x ≠ s then none else some x
    | _ => none
  else none
/-- Is a name to go? -/
def delB (pre : ByteArray) (L : List Piece) (s : ByteArray) : Bool := match idOf pre s with | some x => !L.any (idIs x) | none => false
def healM (ver next : Int) (ps : List Piece) (pre : ByteArray) (names : List ByteArray) : (Int × Int × List Piece) × List ByteArray :=
  if checkM ver next ps ≠ 0 then ((0, 0, []), [])
  else ((if (ps.filter (stIs 2)).length < ps.length then (if ver = 1099511627776 then ver else ver + 1) else ver, next, ps.filter (stIs 2)), compT (sortT (names.filter (delB pre (ps.filter (stIs 2))))))
set_option maxRecDepth 100000 in
theorem row3_set {w : World} {R : Nat} {x y z x' y' z' : Value} {t : TypeId} (h : w.heap[R]? = some (.cells #[x, y, z] t (0, 0))) :
    (((w.setCell ⟨R, 0, none⟩ x').setCell ⟨R, 1, none⟩ y').setCell ⟨R, 2, none⟩ z').heap[R]? = some (.cells #[x', y', z'] t (0, 0)) := by
  have h1 := heap_setCell_same w R 0 _ t x' h
  have h2 := heap_setCell_same _ R 1 _ t y' h1
  have h3 := heap_setCell_same _ R 2 _ t z' h2
  simpa using h3
theorem row3_set0 {w : World} {R : Nat} {x y z x' : Value} {t : TypeId} (h : w.heap[R]? = some (.cells #[x, y, z] t (0, 0))) :
    (w.setCell ⟨R, 0, none⟩ x').heap[R]? = some (.cells #[x', y, z] t (0, 0)) := by
  have h1 := heap_setCell_same w R 0 _ t x' h
  simpa using h1
theorem heap_set3_other {w : World} {R C : Nat} {x y z : Value} (h : C ≠ R) : (((w.setCell ⟨R, 0, none⟩ x).setCell ⟨R, 1, none⟩ y).setCell ⟨R, 2, none⟩ z).heap[C]? = w.heap[C]? := by
  rw [heap_setCell_other _ _ C _ h, heap_setCell_other _ _ C _ h, heap_setCell_other _ _ C _ h]
theorem OwnPcs.setCell1 {w : World} {b R o : Nat} {v x : Value} {l : List Piece} (h : OwnPcs w b v l) (hR : R < b) : OwnPcs (w.setCell ⟨R, o, none⟩ x) b v l := by
  refine ownsRow_same h fun g hg => ?_
  have hne : g ≠ R := by have := (World.ownsRow.lt h g hg).1; omega
  rw [heap_setCell_other _ _ g _ hne]
theorem OwnTexts.setCell3 {w : World} {b R : Nat} {v x y z : Value} {l : List ByteArray} (h : OwnTexts w b v l) (hR : R < b) : OwnTexts (((w.setCell ⟨R, 0, none⟩ x).setCell ⟨R, 1, none⟩ y).setCell ⟨R, 2, none⟩ z) b v l := by
  refine ownsRow_same h fun g hg => ?_
  have hne : g ≠ R := by have := (World.ownsRow.lt h g hg).1; omega
  rw [heap_setCell_other _ _ g _ hne, heap_setCell_other _ _ g _ hne, heap_setCell_other _ _ g _ hne]
theorem delB_cut {pre s : ByteArray} (L : List Piece) (h : Lib.hasPrefix s.data.toList (pre ++ ⟨#[45]⟩ : ByteArray).data.toList = false) : delB pre L s = false := by
  simp only [delB, idOf, h, Bool.false_eq_true, if_false]
theorem delB_err {pre s : ByteArray} (L : List Piece) (h : ∀ x, Lib.atoiAll (Lib.trimPrefix s.data.toList (pre ++ ⟨#[45]⟩ : ByteArray).data.toList) ≠ .ok x) : delB pre L s = false := by
  unfold delB idOf
  split
  · next x hx =>
    split at hx
    · split at hx
      · next y hy => exact absurd hy (h y)
      · cases hx
    · cases hx
  · rfl
theorem delB_ok {pre s : ByteArray} (L : List Piece) {x : Int} (h : Lib.hasPrefix s.data.toList (pre ++ ⟨#[45]⟩ : ByteArray).data.toList = true) (ha : Lib.atoiAll (Lib.trimPrefix s.data.toList (pre ++ ⟨#[45]⟩ : ByteArray).data.toList) = .ok x) :
    delB pre L s = if beyond x = true ∨ nameM pre x ≠ s then false else !L.any (idIs x) := by
  unfold delB idOf
  rw [if_pos h, ha]
  simp only
  by_cases hc : beyond x = true ∨ nameM pre x ≠ s
  · rw [if_pos hc, if_pos hc]
  · rw [if_neg hc, if_neg hc]
theorem filter_step (p : ByteArray → Bool) (l : List ByteArray) (k : Nat) (h : k < l.length) : (l.take (k + 1)).filter p = (l.take k).filter p ++ if p l[k] = true then [l[k]] else [] := by
  rw [List.take_succ_eq_append_getElem h, List.filter_append]
  congr 1
  by_cases hp : p l[k] = true
  · simp [hp]
  · simp [hp]
theorem filter_skip {p : ByteArray → Bool} {l : List ByteArray} {k : Nat} (h : k < l.length) (hp : p l[k] = false) : (l.take (k + 1)).filter p = (l.take k).filter p := by
  rw [filter_step p l k h, hp]; simp
theorem trim_size (s p : ByteArray) (d : ByteArray) (h : d = ⟨(Lib.trimPrefix s.data.toList p.data.toList).toArray⟩) (hs : s.size ≤ 1000) : d.size ≤ 281474976710656 := by
  subst h
  show (Lib.trimPrefix s.data.toList p.data.toList).toArray.size ≤ _
  have h1 : (Lib.trimPrefix s.data.toList p.data.toList).length ≤ s.data.toList.length := by
    unfold Lib.trimPrefix
    split
    · simp
    · exact Nat.le_refl _
  have h2 : s.data.toList.length = s.size := Array.length_toList
  rw [List.size_toArray]
  omega
/-- 'append(out, s)' of one text. -/
theorem wpList_append_tx {P : Program} {w : World} {ops : Array Oper} {rest : List Oper} {o : Oper} {a : Act} {Q : Exit → Act → World → Prop} (hgd : o.guard = none) (s x : Operand)
    (ho : o.op = .call { callee := .builtin .append, args := #[s, x], argTypes := #[35, 35] })
    (ht : P.underlying 35 = some (.slice 9)) (hi : (P.info? 9).map (fun i => (i.zero, i.size, i.bytes)) = some (some (.string ⟨#[]⟩), 1, 16))
    (base : Nat) (v : Value) (l : List ByteArray) (i : ByteArray) (hs : a.eval s = v) (hown : OwnTexts w base v l)
    (g : Nat) (hx : a.eval x = .slice (some ⟨g, 0, none⟩) 1 1) (hr : w.cell? ⟨g, 0, none⟩ = some (.string i))
    (hn : l.length ≤ 1000000) (hbase : base ≤ w.heap.size)
    (h : ∀ v' w', OwnTexts w' base v' (l ++ [i]) → Below base w w' → w.grownBy w' v.ownBlock → wpList P ops Q rest (a.put o.dst v') w') : wpList P ops Q (o :: rest) a w := by
  refine wpList_append1 hgd s x 35 ho base 9 _ 1 16 ht hi rfl (by decide) v l.length (txCells l) hs hown g [.string i] hx rfl ?_ ?_ (by omega) (by decide) hbase ?_
  · intro j u hj
    match j, hj with
    | 0, hj => simp at hj; subst hj; exact hr
    | j + 1, hj => simp at hj
  · intro u hu
    simp at hu
    subst hu; rfl
  · intro v' w' ho' hb hg
    refine h v' w' ?_ hb hg
    unfold OwnTexts
    simpa [txCells] using ho'
set_option maxHeartbeats 4000000 in
set_option maxRecDepth 100000 in
theorem heal_any (ver next : Int) (ps : List Piece) (pre : ByteArray) (names : List ByteArray) (v nv : Value) (w : World) (hL : Laid w) (hv : PcsAt w v ps) (hnv : TextsAt w nv names) (hpre : pre.size ≤ 1000) (hns : ∀ s ∈ names, s.size ≤ 1000) :
    Calls Tryz.prog 17 #[.agg #[.int .i64 ver, .int .i64 next, v], .string pre, nv] w fun e w' => ∃ u d, e = .returned (.tuple #[.agg #[.int .i64 (healM ver next ps pre names).1.1, .int .i64 (healM ver next ps pre names).1.2.1, u], d]) ∧ OwnPcs w' w.heap.size u (healM ver next ps pre names).1.2.2 ∧ OwnTexts w' w.heap.size d (healM ver next ps pre names).2 ∧ Below w.heap.size w w' := by
  have K := hid (fun W (h : Below w.heap.size w W) => check_any ver next ps v W (hv.mono h))
  have ON := fun W (h : Below w.heap.size w W) => only_any ver next ps v W (hv.mono h)
  have HV := hid hv
  have HN := hid hnv
  have HL := hid hL
  obtain ⟨a, cap, rfl, hn⟩ := hv.form
  obtain ⟨na, ncap, rfl, hnn, hns'⟩ := hnv
  have HNS := hid hns'
  have HSZ := hid hns
  have hs1 : (pre ++ (⟨#[45]⟩ : ByteArray)).size = pre.size + 1 := by simp [ByteArray.size_append]; rfl
  have hb0 := (below_alloc w (.cells #[.int .i64 ver, .int .i64 next, .slice a ps.length cap] 24)).step (below_alloc _ (.cells #[.int .i64 0, .int .i64 0, .slice none 0 0] 24))
  clear hv hns' hns hL
  obtain ⟨L, hLd⟩ : ∃ L, L = ps.filter (stIs 2) := ⟨_, rfl⟩
  rw [← hLd] at ON
  have ON := hid ON
  have hLn : L.length ≤ ps.length := by rw [hLd]; exact List.length_filter_le _ _
  have HLn := hid hLn
  have HLd := hid hLd
  clear hLd hLn
  by_cases hck : checkM ver next ps = 0
  · have Hck := hid (checkM_ok hck)
    have Hm := hid (show healM ver next ps pre names = _ from by rw [healM, if_neg (by simp [hck])])
    rw [hck] at K
    clear hck
    go_enter Tryz.func17, Tryz.ntmps17
    go_wp2_with fail
    refine (K.out _ hb0).mono ?_
    rintro e w1 ⟨rfl, hb1⟩
    have hM1 : w1.heap[w.heap.size]? = some (.cells #[.int .i64 ver, .int .i64 next, .slice a ps.length cap] 24 (0, 0)) := blk_below (blk_below (heap_alloc_new w _) (below_alloc _ _)) hb1
    have hR1 : w1.heap[w.heap.size + 1]? = some (.cells #[.int .i64 0, .int .i64 0, .slice none 0 0] 24 (0, 0)) := blk_new hb1 (by simp)
    have hbw1 := hb0.step hb1
    have hs1 : w.heap.size + 2 ≤ w1.heap.size := by have := hb1.size; simpa using this
    obtain ⟨m0, m1, m2, mf⟩ := row3 hM1
    have HSS := hid (fun W (h : Below w1.heap.size w1 W) => show W.cell? ⟨w.heap.size, 0, none⟩ = some (.int .i64 ver) ∧ W.cell? ⟨w.heap.size, 1, none⟩ = some (.int .i64 next) ∧ W.cell? ⟨w.heap.size, 2, none⟩ = some (.slice a ps.length cap) from ⟨cell_below h m0, cell_below h m1, cell_below h m2⟩)
    have HR1 := hid hR1
    clear hb1 hb0 K hR1
    go_wp2_with fail
    go_region_held3 (fun W => W.cell? ⟨w.heap.size, 0, none⟩ = some (.int .i64 ver) ∧ W.cell? ⟨w.heap.size, 1, none⟩ = some (.int .i64 next) ∧ W.cell? ⟨w.heap.size, 2, none⟩ = some (.slice a ps.length cap)) (first | assumption | go_keep)
      ((go_at_call 40; refine (ON.out _ (hbw1.step (Below.refl _ _).drew)).mono ?_; rintro e w2 ⟨u, rfl, hu, hb2⟩; have hB2 : Below w1.heap.size w1 w2 := (Below.refl _ _).drew.step hb2; have HS2 := HSS.out _ hB2; have hR2 := blk_below HR1.out hB2; obtain ⟨r0, r1, r2, rf⟩ := row3 hR2; obtain ⟨a2, cap2, rfl⟩ := OwnPcs.form hu))
    obtain ⟨w3, hw3⟩ : ∃ w3 : World, w3 = (((w2.setCell ⟨w.heap.size + 1, 0, none⟩ (.int .i64 ver)).setCell ⟨w.heap.size + 1, 1, none⟩ (.int .i64 next)).setCell ⟨w.heap.size + 1, 2, none⟩ (.slice a2 L.length cap2)) := ⟨_, rfl⟩
    rw [← hw3]
    have hM3 : w3.heap[w.heap.size]? = some (.cells #[.int .i64 ver, .int .i64 next, .slice a ps.length cap] 24 (0, 0)) := by
      rw [hw3, heap_set3_other (by omega)]
      exact blk_below hM1 hB2
    have hR3 : w3.heap[w.heap.size + 1]? = some (.cells #[.int .i64 ver, .int .i64 next, .slice a2 L.length cap2] 24 (0, 0)) := by
      rw [hw3]
      exact row3_set hR2
    have hu3 : OwnPcs w3 w1.heap.size (.slice a2 L.length cap2) L := by
      rw [hw3]
      exact OwnPcs.setCell3 hu (by omega)
    have hbw3 : Below w.heap.size w w3 := by
      rw [hw3]
      exact below_setCell3 (hbw1.step hB2) (by omega) _ _ _
    have hs3 : w1.heap.size ≤ w3.heap.size := by
      rw [hw3]
      simpa using hB2.size
    clear hw3 hR2 hu hb2 hB2 HS2 r0 r1 r2 rf HSS HR1 ON hM1 hbw1 m0 m1 m2 mf
    obtain ⟨lL, hlL⟩ : ∃ lL, lL = L.length := ⟨_, rfl⟩
    rw [← hlL] at hR3 hu3 ⊢
    have HlL := hid hlL
    have hLn : lL ≤ ps.length := by rw [hlL]; exact HLn.out
    clear hlL
    obtain ⟨vL, hvL⟩ : ∃ vL : Int, vL = if lL < ps.length then (if ver = 1099511627776 then ver else ver + 1) else ver := ⟨_, rfl⟩
    obtain ⟨m0, m1, m2, mf⟩ := row3 hM3
    obtain ⟨r0, r1, r2, rf⟩ := row3 hR3
    go_upto_if 31 with fail
    go_cut [] (fun wx => wx.heap[w.heap.size + 1]? = some (.cells #[.int .i64 vL, .int .i64 next, .slice a2 lL cap2] 24 (0, 0)) ∧ OwnPcs wx w1.heap.size (.slice a2 lL cap2) L ∧ Below w.heap.size w wx ∧ w1.heap.size ≤ wx.heap.size)
    case first =>
      obtain ⟨⟨v0, v1⟩, _⟩ := Hck.out
      by_cases hlt : lL < ps.length
      · by_cases hv40 : ver = 1099511627776
        · rw [if_pos hlt, if_pos hv40] at hvL
          subst hv40
          subst hvL
          go_wp2_with fail
          go_meet
          exact ⟨row3_set0 hR3, OwnPcs.setCell1 hu3 (by omega), hbw3.setCell (p := ⟨w.heap.size + 1, 0, none⟩) (by show w.heap.size ≤ w.heap.size + 1; omega) _, by simpa using hs3⟩
        · rw [if_pos hlt, if_neg hv40] at hvL
          subst hvL
          have hmin : min (ver + 1) 1099511627776 = ver + 1 := by omega
          go_wp2_with fail
          go_meet
          exact ⟨row3_set0 hR3, OwnPcs.setCell1 hu3 (by omega), hbw3.setCell (p := ⟨w.heap.size + 1, 0, none⟩) (by show w.heap.size ≤ w.heap.size + 1; omega) _, by simpa using hs3⟩
      · rw [if_neg hlt] at hvL
        subst hvL
        go_wp2_with fail
        go_meet
        exact ⟨hR3, hu3, hbw3, hs3⟩
    case rest =>
      obtain ⟨hR4, hu4, hbw4, hs4⟩ := hcut
      have hz : w3.heap.size = w3.heap.size := rfl
      have HvL := hid hvL
      clear hz m0 m1 m2 mf r0 r1 r2 rf hM3 hR3 hu3 hbw3 hs3 hvL
      have HR4 := hid hR4
      have Hu4 := hid hu4
      clear hR4 hu4
      obtain ⟨r0, r1, r2, rf⟩ := row3 HR4.out
      have HR2 := hid r2
      clear r0 r1 r2 rf
      go_wp2_with fail
      go_loopw [7, 39] (fun d i wr => ∃ k : Nat, i = .int .i64 k ∧ k ≤ names.length ∧ OwnTexts wr wc.heap.size d ((names.take k).filter (delB pre L)) ∧ Below wc.heap.size wc wr) (fun d i _ => names.length - (intOf i).toNat)
      case atStart => exact ⟨0, rfl, by omega, by simpa using OwnTexts.nil _ _, Below.refl _ _⟩
      case round =>
        obtain ⟨k, rfl, hk, hdel, hwr⟩ := hrel
        have Hdel := hid hdel
        clear hdel
        by_cases hlt : k < names.length
        · obtain ⟨b, o, rfl, hx⟩ := HNS.out k hlt
          have e0 := cell_below (hbw4.step hwr) (hx _ (List.getElem?_eq_getElem hlt))
          rw [Nat.mul_one] at e0
          clear hx
          obtain ⟨s, hs⟩ : ∃ s, s = names[k] := ⟨_, rfl⟩
          rw [← hs] at e0
          have hss : s.size ≤ 1000 := by rw [hs]; exact HSZ.out _ (List.getElem_mem hlt)
          have Hs := hid hs
          clear hs
          have SKIP := hid (fun (hb : delB pre L s = false) => show (names.take (k + 1)).filter (delB pre L) = (names.take k).filter (delB pre L) from filter_skip hlt (by rw [← Hs.out]; exact hb))
          have hwB := hbw4.step hwr
          obtain ⟨dg, hdg⟩ : ∃ dg : ByteArray, dg = ⟨(Lib.trimPrefix s.data.toList (pre ++ ⟨#[45]⟩ : ByteArray).data.toList).toArray⟩ := ⟨_, rfl⟩
          obtain ⟨ours, hours⟩ : ∃ ours : Bool, ours = Lib.hasPrefix s.data.toList (pre ++ ⟨#[45]⟩ : ByteArray).data.toList := ⟨_, rfl⟩
          have hdz := trim_size s _ dg hdg hss
          have Hdg := hid (show dg.data.toList = Lib.trimPrefix s.data.toList (pre ++ ⟨#[45]⟩ : ByteArray).data.toList by rw [hdg])
          have CP := hid (Tryz.strings_CutPrefix s (pre ++ ⟨#[45]⟩) wr)
          rw [← hdg, ← hours] at CP
          have Hours := hid hours
          clear hdg hours
          go_wp2_with fail
          refine CP.out.mono ?_
          rintro e w5 ⟨rfl, hw5⟩
          subst w5
          clear CP
          have AT := hid (atoi_any dg hdz wr (HL.out.below hwB))
          go_wp2_with fail
          refine AT.out.mono ?_
          rintro e w6 ⟨x, err, rfl, hcase, hb6⟩
          clear AT
          rcases hcase with ⟨y, hy, rfl, rfl⟩ | ⟨hno, N, rfl⟩
          · cases ours
            · have hd := delB_cut (pre := pre) (s := s) L Hours.out.symm
              go_wp2_with fail
              go_roundw
              case rel => exact ⟨k + 1, by go_num, by omega, by rw [SKIP.out hd]; exact OwnTexts.below Hdel.out (hb6.step (below_alloc _ _)), hwr.step (hb6.step (below_alloc _ _))⟩
              case measure => simp [intOf]; omega
            · rcases Bool.eq_false_or_eq_true (beyond x) with hbx | hbx
              · have hd : delB pre L s = false := by rw [delB_ok L Hours.out.symm (by rw [← Hdg.out]; exact hy), if_pos (Or.inl hbx)]
                have Hbx := hid hbx
                clear hbx hy
                go_wp2_with fail
                refine (beyond_any _ _ _ Hbx.out).mono ?_
                rintro e w7 ⟨rfl, hw7⟩
                subst w7
                go_wp2_with fail
                go_roundw
                case rel => exact ⟨k + 1, by go_num, by omega, by rw [SKIP.out hd]; exact OwnTexts.below Hdel.out (hb6.step (below_alloc _ _)), hwr.step (hb6.step (below_alloc _ _))⟩
                case measure => simp [intOf]; omega
              · have Hbx := hid hbx
                have Hy := hid hy
                have hxr := beyond_false hbx
                obtain ⟨hx0, hx1⟩ := hxr
                clear hbx hy
                go_wp2_with fail
                refine (beyond_any _ _ _ Hbx.out).mono ?_
                rintro e w7 ⟨rfl, hw7⟩
                have hc7 : w7.cell? ⟨w6.heap.size, 0, none⟩ = some (.int .i64 x) := by rw [hw7]; simp
                have hb7 : Below w6.heap.size w6 w7 := by rw [hw7]; exact below_alloc _ _
                clear hw7
                have NM := hid (name_any pre x w7 (HL.out.below (hwB.step (hb6.step hb7))) (by omega) (by omega) hpre)
                go_wp2_with fail
                refine NM.out.mono ?_
                rintro e w8 ⟨rfl, hb8⟩
                have hc8 := cell_below hb8 hc7
                have hB8 := hb6.step (hb7.step hb8)
                clear hc7
                by_cases hne : nameM pre x = s
                · have hq : ((nameM pre x).toList == s.toList) = true := by rw [run_eq_bytes]; simpa using hne
                  have CO := hid (contains45_any (idIs x) L w6.heap.size (.slice a2 lL cap2) w8 (by rw [HlL.out] at Hu4 ⊢; exact (OwnPcs.below Hu4.out (hwr.step hB8)).at (by rw [← HlL.out]; omega)) (fun W' h' p _ => heal1_any x _ p W' (cell_below h' hc8)))
                  have hr8 := cell_below (hwr.step hB8) HR2.out
                  have Hne := hid hne
                  clear hne
                  have hnor : ¬ (beyond x = true ∨ nameM pre x ≠ s) := by rw [Hbx.out, Hne.out]; simp
                  have hde := delB_ok (pre := pre) (s := s) L Hours.out.symm (by rw [← Hdg.out]; exact Hy.out)
                  rw [if_neg hnor] at hde
                  clear hnor
                  rcases Bool.eq_false_or_eq_true (L.any (idIs x)) with han | han
                  · have hd : delB pre L s = false := by rw [hde, han]; rfl
                    rw [han] at CO
                    clear hde han
                    go_wp2_with fail
                    refine CO.out.mono ?_
                    rintro e w9 ⟨rfl, hb9⟩
                    have hB9 := hB8.step hb9
                    clear CO
                    go_wp2_with fail
                    go_roundw
                    case rel => exact ⟨k + 1, by go_num, by omega, by rw [SKIP.out hd]; exact OwnTexts.below Hdel.out hB9, hwr.step hB9⟩
                    case measure => simp [intOf]; omega
                  · have hd : delB pre L s = true := by rw [hde, han]; rfl
                    rw [han] at CO
                    clear hde han
                    go_wp2_with fail
                    refine CO.out.mono ?_
                    rintro e w9 ⟨rfl, hb9⟩
                    have hB9 := hB8.step hb9
                    have hlen : ((names.take k).filter (delB pre L)).length ≤ 1000000 := Nat.le_trans (List.length_filter_le _ _) (by rw [List.length_take]; omega)
                    have GROW := hid (show (names.take (k + 1)).filter (delB pre L) = (names.take k).filter (delB pre L) ++ [s] by rw [filter_step _ _ _ hlt, ← Hs.out, if_pos hd])
                    clear CO hd
                    go_wp2_with (at_builtin; refine wpList_append_tx rfl (.tmp 78) (.tmp 80) rfl Tryz.underlying35 Tryz.inf9 wc.heap.size _ _ s rfl (OwnTexts.below Hdel.out (hB9.step (below_alloc _ _))) w9.heap.size rfl (by simp) hlen (hwr.step (hB9.step (below_alloc _ _))).size ?_; intro v' w10 hown10 hb10 hg10)
                    go_roundw
                    case rel => exact ⟨k + 1, by go_num, by omega, by rw [GROW.out]; exact hown10, (hwr.step (hB9.step (below_alloc _ _))).trans hb10⟩
                    case measure => simp [intOf]; omega
                · have hd : delB pre L s = false := by rw [delB_ok L Hours.out.symm (by rw [← Hdg.out]; exact Hy.out), if_pos (Or.inr hne)]
                  have hq : ((nameM pre x).toList == s.toList) = false := by rw [run_eq_bytes]; simpa using hne
                  clear hne
                  go_wp2_with fail
                  go_roundw
                  case rel => exact ⟨k + 1, by go_num, by omega, by rw [SKIP.out hd]; exact OwnTexts.below Hdel.out hB8, hwr.step hB8⟩
                  case measure => simp [intOf]; omega
          · have hd : delB pre L s = false := delB_err L (by rw [← Hdg.out]; exact hno)
            clear hno
            cases ours
            · go_wp2_with fail
              go_roundw
              case rel => exact ⟨k + 1, by go_num, by omega, by rw [SKIP.out hd]; exact OwnTexts.below Hdel.out (hb6.step (below_alloc _ _)), hwr.step (hb6.step (below_alloc _ _))⟩
              case measure => simp [intOf]; omega
            · go_wp2_with fail
              go_roundw
              case rel => exact ⟨k + 1, by go_num, by omega, by rw [SKIP.out hd]; exact OwnTexts.below Hdel.out (hb6.step (below_alloc _ _)), hwr.step (hb6.step (below_alloc _ _))⟩
              case measure => simp [intOf]; omega
        · have hke : k = names.length := by omega
          obtain ⟨D, hDd⟩ : ∃ D, D = names.filter (delB pre L) := ⟨_, rfl⟩
          have hD : OwnTexts wr wc.heap.size u7 D := by
            have := Hdel.out
            rw [hke, List.take_length] at this
            rw [hDd]
            exact this
          have hDl : D.length ≤ 1000000 := by rw [hDd]; exact Nat.le_trans (List.length_filter_le _ _) hnn
          have HDd := hid hDd
          have Hke := hid hke
          clear hDd hke
          have SO := hid (sort_any D u7 wc.heap.size wr hD hDl)
          go_wp2_with fail
          refine SO.out.mono ?_
          rintro e w5 ⟨rfl, hs5, hg5⟩
          have hb5 : Below wc.heap.size wc w5 := hwr.trans (below_grown hg5 hwr.size (fun g hg => (World.ownsRow.lt hD g hg).1))
          have hR5 := blk_below HR4.out hb5
          obtain ⟨r0, r1, r2, rf⟩ := row3 hR5
          clear SO hg5
          go_wp2_with fail
          have hs5d := OwnTexts.below hs5 (Below.refl _ w5).drew
          have hsl : (sortT D).length ≤ 1000000 := by rw [sortT_length]; exact hDl
          have HRR := hid hR5
          have hB5z : wc.heap.size ≤ w5.heap.size := hb5.size
          clear hR5
          go_region_held3 (fun W => W.cell? ⟨w.heap.size + 1, 0, none⟩ = some (.int .i64 vL) ∧ W.cell? ⟨w.heap.size + 1, 1, none⟩ = some (.int .i64 next) ∧ W.cell? ⟨w.heap.size + 1, 2, none⟩ = some (.slice a2 lL cap2)) (first | assumption | exact ⟨by assumption, by assumption, by assumption⟩ | go_keep)
            ((go_at_call 47; refine (compact_any (sortT D) u7 wc.heap.size _ hs5d hsl).mono ?_; rintro e w6 ⟨d2, rfl, hd6, hg6, ho6⟩; have hb6 : Below wc.heap.size w5 w6 := (Below.refl _ _).drew.trans (below_grown hg6 hB5z (fun g hg => (World.ownsRow.lt hs5d g hg).1)); have hR6 : w6.heap[w.heap.size + 1]? = _ := blk_below HR4.out (hb5.trans hb6); have hR7 := row3_set (x' := .int .i64 vL) (y' := .int .i64 next) (z' := .slice a2 lL cap2) hR6; obtain ⟨p0, p1, p2, pf⟩ := row3 hR7; obtain ⟨q0, q1, q2, qf⟩ := row3 hR6))
          all_goals
            have hbw6 : Below w.heap.size w w6 := hbw4.step (hb5.trans hb6)
            have hHm : healM ver next ps pre names = ((vL, next, L), compT (sortT D)) := by
              rw [Hm.out, ← HLd.out, ← HlL.out, ← HDd.out, ← HvL.out]
            have hu6 := OwnPcs.below Hu4.out (hb5.trans hb6)
            have HB8 := hid (below_setCell3 hbw6 (R := w.heap.size + 1) (by omega) (.int .i64 vL) (.int .i64 next) (.slice a2 lL cap2))
            have HO8 := hid (OwnPcs.base (OwnPcs.setCell3 hu6 (R := w.heap.size + 1) (x := .int .i64 vL) (y := .int .i64 next) (z := .slice a2 lL cap2) (by omega)) (show w.heap.size ≤ w1.heap.size by omega))
            have HD8 := hid (OwnTexts.setCell3 hd6 (R := w.heap.size + 1) (x := .int .i64 vL) (y := .int .i64 next) (z := .slice a2 lL cap2) (by omega))
            go_wp2_with fail
            exact bodyPost_ret (v := .tuple #[.agg #[.int .i64 vL, .int .i64 next, .slice a2 lL cap2], d2]) (by simp [results, Tryz.results17, go_sem, p0, p1, p2]) rfl ⟨_, _, by rw [hHm], by rw [hHm]; exact HO8.out, by rw [hHm]; exact ownsRow_mono HD8.out (by omega), HB8.out⟩
  · have Hm := hid (show healM ver next ps pre names = ((0, 0, []), []) by rw [healM, if_pos hck])
    have hcb : (checkM ver next ps != 0) = true := by simpa using hck
    generalize checkM ver next ps = ce at *
    clear hck HV HN HL ON HNS HSZ
    go_enter Tryz.func17, Tryz.ntmps17
    go_wp2_with fail
    refine (K.out _ hb0).mono ?_
    rintro e w1 ⟨rfl, hb1⟩
    have hR : w1.heap[w.heap.size + 1]? = some (.cells #[.int .i64 0, .int .i64 0, .slice none 0 0] 24 (0, 0)) := blk_new hb1 (by simp)
    have hbw := hb0.step hb1
    obtain ⟨r0, r1, r2, rf⟩ := row3 hR
    clear hb1 hb0 K
    go_wp2_with fail
    exact bodyPost_ret (v := .tuple #[.agg #[.int .i64 0, .int .i64 0, .slice none 0 0], .slice none 0 0]) (by simp [results, Tryz.results17, go_sem, r0, r1, r2]) rfl ⟨_, _, by rw [Hm.out], by rw [Hm.out]; exact OwnPcs.nil _ _, by rw [Hm.out]; exact OwnTexts.nil _ _, below_setCell3 hbw (by omega) _ _ _⟩
end Go.Proofs.YtcpecponmaakoaaGreatDoor
