/- Walks of the statements: CleanKeeps. -/
import Derived.Test.YtceamgkifjmbcaaMath6
namespace Go.Proofs.Ytceamgkifjmbcaa
open Go.RowKit Go.Wm
theorem bareTo_leB (B : Nat) (to : Int) (q : Batch → Bool) (bs : List Batch) (h : ∀ x ∈ bs, x.recs.length ≤ B) : ∀ k, bareTo to q bs k ≤ k * B
  | 0 => by simp [bareTo]
  | k + 1 => by
    have ih := bareTo_leB B to q bs h k
    have e : (k + 1) * B = k * B + B := by rw [Nat.succ_mul]
    rw [bareTo, e]
    generalize k * B = K at *
    split
    · rename_i x hx
      have h1 := h x (List.mem_of_getElem? hx)
      have h2 := emptyTo_le x.recs x.recs.length
      repeat' split
      all_goals omega
    · omega
theorem bareTo_le (to : Int) (q : Batch → Bool) (bs : List Batch) (h : ∀ x ∈ bs, x.recs.length ≤ 1000000) (k : Nat) : bareTo to q bs k ≤ k * 1000000 := bareTo_leB 1000000 to q bs h k
theorem smallRow {w : World} {v : Value} {bs : List Batch} (h : BatchesAt w v bs) : ∀ x ∈ bs, x.recs.length ≤ 1000000 := fun x hx => by
  obtain ⟨i, hi⟩ := List.mem_iff_getElem?.1 hx
  exact (smallAt h i x hi).1
theorem leftG_le {bs : List Batch} {l : List Gone} {to now keep : Int} (h : ∀ x ∈ bs, x.recs.length ≤ 1000000) : ∀ i, ∀ y ∈ cleanTo bs l to now keep i, y.recs.length ≤ 1000000
  | 0 => by simp [cleanTo]
  | i + 1 => by
    have ih := leftG_le (l := l) (to := to) (now := now) (keep := keep) h i
    intro y hy
    rw [cleanTo] at hy
    split at hy
    · rename_i x hx
      have hxl := h x (List.mem_of_getElem? hx)
      split at hy
      · rcases List.mem_append.1 hy with hy | hy
        · exact ih y hy
        · simp at hy
          subst hy
          show (cleanedRecs bs l to now keep i x).length ≤ 1000000
          unfold cleanedRecs
          split
          · exact Nat.le_trans (leftTo_length _ _ _ _ _ _ _ _) hxl
          · exact hxl
      · exact ih y hy
    · exact ih y hy
theorem cast_mul (i : Nat) (h : i ≤ 1000000) : i * 1000000 ≤ 1000000000000 := Nat.mul_le_mul_right 1000000 h
/-- A count, as a slot holds it. -/
def cnt (n : Nat) : Value := .int .i64 (n : Int)
theorem cnt_eq (n : Nat) : cnt n = .int .i64 (n : Int) := rfl
set_option maxRecDepth 100000 in
set_option maxHeartbeats 8000000 in
theorem keeps_any (bs : List Batch) (l : List Gone) (vb vl : Value) (to now keep : Int) (w : World) (hb : BatchesBig w vb bs) (hl : GonesBig w vl l) (hp : ∀ x ∈ bs, (Lit.int .i64 x.pid).wf = true) :
    Calls Try.prog 4 #[vb, vl, .int .i64 to, .int .i64 now, .int .i64 keep] w fun e w' => e = .returned (.bool true) ∧ Below w.heap.size w w' := by
  cases hf : fewB bs l
  · have F := hid (fun W (h : Below w.heap.size w W) => few_big bs l vb vl W (hb.mono h) (hl.mono h))
    rw [hf] at F
    clear hb hl
    go_enter Try.func4, Try.ntmps4
    go_wp2_with fail
    refine (live_any _).mono ?_
    rintro e1 w1 ⟨rfl, hb1⟩
    go_wp2_with fail
    refine (F.out w1 hb1).mono ?_
    rintro e2 w2 ⟨rfl, hb2⟩
    go_wp2
    go_ret
    exact ⟨rfl, hb1.step hb2⟩
  · have hb' := hb.small (few_cut hf).1
    have hl' := hl.small (few_cut hf).2
    have F := hid (fun W (h : Below w.heap.size w W) => few_big bs l vb vl W (hb.mono h) (hl.mono h))
    rw [hf] at F
    have C := hid (fun W (h : Below w.heap.size w W) => clean_any bs l vb vl to now keep W (hb'.mono h) (hl'.mono h) hp)
    have K := hid (keeps_law bs l to now keep bs.length (Nat.le_refl _))
    have hclen := cleanTo_length bs l to now keep bs.length
    have HB1 := hid (bareTo_le to (isBare l) bs (smallRow hb'))
    have HB2 := hid (bareTo_le to isData (cleanG bs l to now keep) (leftG_le (smallRow hb') bs.length))
    have Bw := hid (fun W (h : Below w.heap.size w W) => hb'.mono h)
    have Lw := hid (fun W (h : Below w.heap.size w W) => hl'.mono h)
    have hlf := hl'.form
    obtain ⟨a, cap, rfl, hn, _⟩ := hb'
    obtain ⟨a3, cap3, rfl, hn3⟩ := hlf
    clear hb hl hf hl' hp
    go_enter Try.func4, Try.ntmps4
    go_wp2_with fail
    refine (live_any _).mono ?_
    rintro e1 w1 ⟨rfl, hb1⟩
    go_wp2_with fail
    refine (F.out w1 hb1).mono ?_
    rintro e2 w2 ⟨rfl, hb2⟩
    have hB2 := hb1.step hb2
    clear F
    go_wp2_with fail
    refine (C.out w2 hB2).mono ?_
    rintro e3 w3 ⟨ux, rfl, hux, hb3⟩
    have hB3 := hB2.step hb3
    have hX := hux.at (by unfold cleanG; omega)
    have hxn : (cleanG bs l to now keep).length ≤ 1000000 := by unfold cleanG; omega
    have K' : upTo to (cleanG bs l to now keep) (cleanG bs l to now keep).length = upTo to bs bs.length ∧ bareTo to isData (cleanG bs l to now keep) (cleanG bs l to now keep).length = bareTo to (isBare l) bs bs.length := K.out
    replace K' := hid K'
    clear hux hb2 hb3 hclen K
    generalize cleanG bs l to now keep = xs at *
    have hBs := Bw.out w3 hB3
    have HX := hid hX
    have HBs := hid hBs
    obtain ⟨ax, capx, rfl, _, hsx⟩ := hX
    obtain ⟨a', cap', hva, _, hs⟩ := hBs
    simp only [Value.slice.injEq, true_and] at hva
    obtain ⟨rfl, _⟩ := hva
    have Hsx := hid hsx
    have Hs := hid hs
    clear hsx hs Bw C
    go_wp2
    go_loopw [12, 14, 38] (fun u c q wr => ∃ i : Nat, i ≤ bs.length ∧ q = .int .i64 i ∧ c = .int .i64 ((bareTo to (isBare l) bs i : Nat) : Int) ∧ RowBats wr w3 u (upTo to bs i)) (fun _ _ q _ => bs.length - (intOf q).toNat)
    case atStart => exact ⟨0, by omega, rfl, rfl, RowBats.nil (Below.refl _ _)⟩
    case round =>
      obtain ⟨i, hi, rfl, rfl, hrow⟩ := hrel
      obtain ⟨wo, rfl⟩ : ∃ wo : World, wo = wr := ⟨_, rfl⟩
      by_cases hlt : i < bs.length
      · obtain ⟨x, hx⟩ : ∃ x, bs[i]? = some x := ⟨_, List.getElem?_eq_getElem hlt⟩
        obtain ⟨b', o, rfl, hxa⟩ := Hs.out i hlt
        obtain ⟨sv, hxa, hxr⟩ := hxa x hx
        obtain ⟨e0, e1, e2, e3, e4, e5, e6, e7, e8, e9⟩ := hxa.mono (hrow.1)
        have HXR := hid hxr
        have U := hid (upTo_succ to bs i x hx)
        have V := hid (bareTo_succ to (isBare l) bs i x hx)
        have hlen := upTo_le to bs i
        have hbd := Nat.le_trans (HB1.out i) (cast_mul i (by omega))
        obtain ⟨a2, cap2, rfl, hn2, _, hs2⟩ := hxr
        have Hs2 := hid hs2
        clear hs2 hx hxa
        generalize upTo to bs i = L at *
        generalize bareTo to (isBare l) bs i = M at *
        rcases Bool.eq_false_or_eq_true (decide (to ≤ x.last)) with h1 | h1
        · rw [h1] at U V
          simp only [if_true] at U V
          go_wp2_with (at_builtin; refine wpList_append_row rfl (.tmp 46) (.tmp 48) rfl Try.underlying22 Try.inf28 _ L x (.slice a2 x.recs.length cap2) rfl ((hrow.below (below_alloc _ _)).below (below_alloc _ _)) (wo.heap.size + 1) rfl ⟨by simp, by simp, by simp, by simp, by simp, by simp, by simp, by simp, by simp, by simp⟩ HXR.out (by omega) ?_)
          intro v' w' hrow' hbel hgr
          go_wp2
          go_roundw
          case rel => exact ⟨i + 1, by omega, by go_num, by rw [V.out], by rw [U.out]; exact hrow'⟩
          case measure => simp [intOf]; omega
        · rw [h1] at U V
          simp only [Bool.false_eq_true, if_false] at U V
          go_wp2
          refine wp_name fun W hW => ?_
          have hBW : Below wo.heap.size wo W := by rw [hW]; exact below_alloc _ _
          have hN : BatchAt W wo.heap.size 0 x (.slice a2 x.recs.length cap2) := by rw [hW]; exact ⟨by simp, by simp, by simp, by simp, by simp, by simp, by simp, by simp, by simp, by simp⟩
          have hrW := hrow.below hBW
          clear hW e0 e1 e2 e3 e4 e5 e6 e7 e8 e9
          go_loopw [14, 53] (fun c q wr => ∃ k : Nat, k ≤ x.recs.length ∧ q = .int .i64 k ∧ c = .int .i64 ((M + (if isBare l x = true then emptyTo x.recs k else 0) : Nat) : Int) ∧ RowBats wr w3 u12 L ∧ BatchAt wr wo.heap.size 0 x (.slice a2 x.recs.length cap2)) (fun _ q _ => x.recs.length - (intOf q).toNat)
          case atStart => exact ⟨0, by omega, rfl, by simp [emptyTo], hrW, hN⟩
          case round =>
            obtain ⟨k, hk, rfl, rfl, hr2, hN2⟩ := hrel
            by_cases hkt : k < x.recs.length
            · obtain ⟨r, hr⟩ : ∃ r, x.recs[k]? = some r := ⟨_, List.getElem?_eq_getElem hkt⟩
              obtain ⟨b2, o2, rfl, hra⟩ := Hs2.out k hkt
              obtain ⟨g0, g1, g2, g3, g4⟩ := (hra r hr).mono (hr2.1)
              have E := hid (emptyTo_succ x.recs k r hr)
              have hle := emptyTo_le x.recs k
              clear hr hra hN hrW
              generalize emptyTo x.recs k = m at *
              have HN := hid (fun X => hN2.mono (below_alloc wr X))
              have GC := hid (fun X => goneRef_any x l _ _ _ (HXR.out.mono (hr2.1.step (below_alloc wr X))) (Lw.out _ (hB3.step (hr2.1.step (below_alloc wr X)))))
              obtain ⟨n0, n1, n2, n3, n4, n5, n6, n7, n8, n9⟩ := hN2
              have n0 := fun X => cell_alloc_old X n0
              have n1 := fun X => cell_alloc_old X n1
              have n2 := fun X => cell_alloc_old X n2
              have n3 := fun X => cell_alloc_old X n3
              have n4 := fun X => cell_alloc_old X n4
              have n5 := fun X => cell_alloc_old X n5
              have n6 := fun X => cell_alloc_old X n6
              have n7 := fun X => cell_alloc_old X n7
              have n8 := fun X => cell_alloc_old X n8
              have n9 := fun X => cell_alloc_old X n9
              rcases Bool.eq_false_or_eq_true r.key.toList.isEmpty with h4 | h4
              · rw [h4] at E
                simp only [if_true] at E
                rcases Bool.eq_false_or_eq_true (x.ctl == 0) with h2 | h2
                · have H2 := hid h2
                  rcases Bool.eq_false_or_eq_true (l.any (goneR x)) with h3 | h3
                  · have Q := hid (show isBare l x = false by simp only [isBare, h3, Bool.not_true, Bool.and_false])
                    rw [Q.out]
                    rw [h3] at GC
                    simp only [Bool.false_eq_true, if_false, Nat.add_zero]
                    go_wp2_with fail
                    refine (GC.out _).mono ?_
                    rintro e4 w4 ⟨rfl, hb4⟩
                    have hb5 := (below_alloc wr _).step hb4
                    go_wp2
                    go_roundw
                    case rel => exact ⟨k + 1, by omega, by go_num, by first | rfl | (rw [Q.out]; simp), hr2.below hb5, (HN.out _).mono hb4⟩
                    case measure => simp [intOf]; omega
                  · have Q := hid (show isBare l x = true by simp only [isBare, h2, h3, Bool.not_false, Bool.and_self])
                    rw [Q.out]
                    rw [h3] at GC
                    simp only [if_true]
                    go_wp2_with fail
                    refine (GC.out _).mono ?_
                    rintro e4 w4 ⟨rfl, hb4⟩
                    have hb5 := (below_alloc wr _).step hb4
                    go_wp2
                    go_roundw
                    case rel => exact ⟨k + 1, by omega, by go_num, by first | (rw [E.out]; go_num) | (rw [Q.out, E.out]; simp only [if_true]; go_num), hr2.below hb5, (HN.out _).mono hb4⟩
                    case measure => simp [intOf]; omega
                · have Q := hid (show isBare l x = false by simp only [isBare, h2, Bool.false_and])
                  rw [Q.out]
                  simp only [Bool.false_eq_true, if_false, Nat.add_zero]
                  go_wp2
                  go_roundw
                  case rel => exact ⟨k + 1, by omega, by go_num, by first | rfl | (rw [Q.out]; simp), hr2.below (below_alloc _ _), HN.out _⟩
                  case measure => simp [intOf]; omega
              · rw [h4] at E
                simp only [Bool.false_eq_true, if_false] at E
                generalize hq : isBare l x = Q at *
                go_wp2
                go_roundw
                case rel => exact ⟨k + 1, by omega, by go_num, by rw [E.out]; simp, hr2.below (below_alloc _ _), HN.out _⟩
                case measure => simp [intOf]; omega
            · have hke : k = x.recs.length := by omega
              have Hk := hid hke
              clear hke hN hrW
              go_wp2
              go_roundw
              case rel => exact ⟨i + 1, by omega, by go_num, by rw [V.out, Hk.out], by rw [U.out]; exact hr2⟩
              case measure => simp [intOf]; omega
      · have hie : i = bs.length := by omega
        obtain ⟨wo1, rfl⟩ : ∃ wo1 : World, wo1 = wo := ⟨_, rfl⟩
        obtain rfl : i = bs.length := by omega
        have hup := hrow
        clear hrow
        go_wp2
        go_loopw [13, 15, 77] (fun u c q wr => ∃ i : Nat, i ≤ xs.length ∧ q = .int .i64 i ∧ c = .int .i64 ((bareTo to (isData) xs i : Nat) : Int) ∧ RowBats wr wo1 u (upTo to xs i)) (fun _ _ q _ => xs.length - (intOf q).toNat)
        case atStart => exact ⟨0, by omega, rfl, rfl, RowBats.nil (Below.refl _ _)⟩
        case round =>
          obtain ⟨i, hi, rfl, rfl, hrow⟩ := hrel
          obtain ⟨wo, rfl⟩ : ∃ wo : World, wo = wr := ⟨_, rfl⟩
          by_cases hlt : i < xs.length
          · obtain ⟨x, hx⟩ : ∃ x, xs[i]? = some x := ⟨_, List.getElem?_eq_getElem hlt⟩
            obtain ⟨b', o, rfl, hxa⟩ := Hsx.out i hlt
            obtain ⟨sv, hxa, hxr⟩ := hxa x hx
            obtain ⟨e0, e1, e2, e3, e4, e5, e6, e7, e8, e9⟩ := hxa.mono (hup.1.step hrow.1)
            have HXR := hid (hxr.mono hup.1)
            have U := hid (upTo_succ to xs i x hx)
            have V := hid (bareTo_succ to (isData) xs i x hx)
            have hlen := upTo_le to xs i
            have hbd := Nat.le_trans (HB2.out i) (cast_mul i (by omega))
            obtain ⟨a2, cap2, rfl, hn2, _, hs2⟩ := hxr
            have Hs2 := hid hs2
            clear hs2 hx hxa
            generalize upTo to xs i = L at *
            generalize bareTo to (isData) xs i = M at *
            rcases Bool.eq_false_or_eq_true (decide (to ≤ x.last)) with h1 | h1
            · rw [h1] at U V
              simp only [if_true] at U V
              go_wp2_with (at_builtin; refine wpList_append_row rfl (.tmp 85) (.tmp 87) rfl Try.underlying22 Try.inf28 _ L x (.slice a2 x.recs.length cap2) rfl ((hrow.below (below_alloc _ _)).below (below_alloc _ _)) (wo.heap.size + 1) rfl ⟨by simp, by simp, by simp, by simp, by simp, by simp, by simp, by simp, by simp, by simp⟩ HXR.out (by omega) ?_)
              intro v' w' hrow' hbel hgr
              go_wp2
              go_roundw
              case rel => exact ⟨i + 1, by omega, by go_num, by rw [V.out], by rw [U.out]; exact hrow'⟩
              case measure => simp [intOf]; omega
            · rw [h1] at U V
              simp only [Bool.false_eq_true, if_false] at U V
              go_wp2
              refine wp_name fun W hW => ?_
              have hBW : Below wo.heap.size wo W := by rw [hW]; exact below_alloc _ _
              have hN : BatchAt W wo.heap.size 0 x (.slice a2 x.recs.length cap2) := by rw [hW]; exact ⟨by simp, by simp, by simp, by simp, by simp, by simp, by simp, by simp, by simp, by simp⟩
              have hrW := hrow.below hBW
              clear hW e0 e1 e2 e3 e4 e5 e6 e7 e8 e9
              go_loopw [15, 92] (fun c q wr => ∃ k : Nat, k ≤ x.recs.length ∧ q = .int .i64 k ∧ c = .int .i64 ((M + (if isData x = true then emptyTo x.recs k else 0) : Nat) : Int) ∧ RowBats wr wo1 u13 L ∧ BatchAt wr wo.heap.size 0 x (.slice a2 x.recs.length cap2)) (fun _ q _ => x.recs.length - (intOf q).toNat)
              case atStart => exact ⟨0, by omega, rfl, by simp [emptyTo], hrW, hN⟩
              case round =>
                obtain ⟨k, hk, rfl, rfl, hr2, hN2⟩ := hrel
                by_cases hkt : k < x.recs.length
                · obtain ⟨r, hr⟩ : ∃ r, x.recs[k]? = some r := ⟨_, List.getElem?_eq_getElem hkt⟩
                  obtain ⟨b2, o2, rfl, hra⟩ := Hs2.out k hkt
                  obtain ⟨g0, g1, g2, g3, g4⟩ := (hra r hr).mono (hup.1.step hr2.1)
                  have E := hid (emptyTo_succ x.recs k r hr)
                  have hle := emptyTo_le x.recs k
                  clear hr hra hN hrW
                  generalize emptyTo x.recs k = m at *
                  have HN := hid (fun X => hN2.mono (below_alloc wr X))
                  
                  obtain ⟨n0, n1, n2, n3, n4, n5, n6, n7, n8, n9⟩ := hN2
                  have n0 := fun X => cell_alloc_old X n0
                  have n1 := fun X => cell_alloc_old X n1
                  have n2 := fun X => cell_alloc_old X n2
                  have n3 := fun X => cell_alloc_old X n3
                  have n4 := fun X => cell_alloc_old X n4
                  have n5 := fun X => cell_alloc_old X n5
                  have n6 := fun X => cell_alloc_old X n6
                  have n7 := fun X => cell_alloc_old X n7
                  have n8 := fun X => cell_alloc_old X n8
                  have n9 := fun X => cell_alloc_old X n9
                  rcases Bool.eq_false_or_eq_true r.key.toList.isEmpty with h4 | h4
                  · rw [h4] at E
                    simp only [if_true] at E
                    rcases Bool.eq_false_or_eq_true (x.ctl == 0) with h2 | h2
                    · have H2 := hid h2
                      have Q := hid (show isData x = true from h2)
                      rw [Q.out]
                      simp only [if_true]
                      go_wp2
                      go_roundw
                      case rel => exact ⟨k + 1, by omega, by go_num, by first | (rw [E.out]; go_num) | (rw [Q.out, E.out]; simp only [if_true]; go_num), hr2.below (below_alloc _ _), HN.out _⟩
                      case measure => simp [intOf]; omega
                    · have Q := hid (show isData x = false by simp only [isData, h2])
                      rw [Q.out]
                      simp only [Bool.false_eq_true, if_false, Nat.add_zero]
                      go_wp2
                      go_roundw
                      case rel => exact ⟨k + 1, by omega, by go_num, by first | rfl | (rw [Q.out]; simp), hr2.below (below_alloc _ _), HN.out _⟩
                      case measure => simp [intOf]; omega
                  · rw [h4] at E
                    simp only [Bool.false_eq_true, if_false] at E
                    generalize hq : isData x = Q at *
                    go_wp2
                    go_roundw
                    case rel => exact ⟨k + 1, by omega, by go_num, by rw [E.out]; simp, hr2.below (below_alloc _ _), HN.out _⟩
                    case measure => simp [intOf]; omega
                · have hke : k = x.recs.length := by omega
                  have Hk := hid hke
                  clear hke hN hrW
                  go_wp2
                  go_roundw
                  case rel => exact ⟨i + 1, by omega, by go_num, by rw [V.out, Hk.out], by rw [U.out]; exact hr2⟩
                  case measure => simp [intOf]; omega
          · have hie : i = xs.length := by omega
            obtain rfl : i = xs.length := by omega
            rw [K'.out.1] at hrow
            have S := hid (sameAll_any (upTo to bs bs.length) (upTo to bs bs.length) u12 u13 wo ((hup.below hrow.1).at (Nat.le_trans (upTo_le to bs bs.length) hn)) (hrow.at (Nat.le_trans (upTo_le to bs bs.length) hn)))
            rw [decide_eq_true rfl] at S
            have E1 : (((bareTo to (isBare l) bs bs.length : Nat) : Int) == ((bareTo to isData xs xs.length : Nat) : Int)) = true := by rw [K'.out.2]; simp
            generalize bareTo to (isBare l) bs bs.length = A at *
            generalize bareTo to isData xs xs.length = B at *
            go_wp2_with fail
            refine S.out.mono ?_
            rintro e6 w6 ⟨rfl, hb6⟩
            go_wp2
            go_ret
            exact ⟨rfl, ((hB3.step hup.1).step hrow.1).step hb6⟩
end Go.Proofs.Ytceamgkifjmbcaa
