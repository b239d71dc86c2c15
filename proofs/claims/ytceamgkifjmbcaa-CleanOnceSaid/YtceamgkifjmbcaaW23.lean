/- Walks of the statements: CleanOnce. -/
import Derived.Test.YtceamgkifjmbcaaMath7
import Derived.Test.YtceamgkifjmbcaaW20

namespace Go.Proofs.Ytceamgkifjmbcaa
open Go.RowKit Go.Wm
theorem OwnMarks.shape {w : World} {base : Nat} {v : Value} {ms : List Mark} (h : OwnMarks w base v ms) : (v = .slice none 0 0 ∧ ms = []) ∨ ∃ g cap, v = .slice (some ⟨g, 0, none⟩) ms.length cap ∧ ∀ k (hk : k < ms.length), MarkAt w g (k * 4) ms[k] := by
  rcases h.2 with ⟨h1, h2⟩ | ⟨g', cap, cur, rfl, _⟩
  · exact .inl ⟨h1, List.eq_nil_of_length_eq_zero h2⟩
  · refine .inr ⟨g', cap, rfl, fun k hk => ?_⟩
    have hcell : ∀ j u, (ms.flatMap Mark.cells)[j]? = some u → w.cell? ⟨g', j, none⟩ = some u := by
      intro j u hj
      have := World.ownsRow.cells (v := .slice (some ⟨g', 0, none⟩) ms.length cap) h rfl j u hj
      have e : (⟨g', 0, none⟩ : Addr).add j = ⟨g', j, none⟩ := by simp only [Addr.add]; split <;> simp_all
      rwa [e] at this
    have hf := fun j hj => flat_get Mark.cells 4 (fun _ => rfl) ms k j hk hj
    exact ⟨hcell _ _ (hf 0 (by omega)), hcell _ _ (hf 1 (by omega)), hcell _ _ (hf 2 (by omega)), hcell _ _ (hf 3 (by omega))⟩
theorem MarkAt.mono {w w' : World} (hb : Below w.heap.size w w') {b o : Nat} {m : Mark} (h : MarkAt w b o m) : MarkAt w' b o m :=
  ⟨cell_below hb h.c0, cell_below hb h.c1, cell_below hb h.c2, cell_below hb h.c3⟩
/-- Keys that rise: the test on two neighbours. -/
theorem rise_tests {F : ByteArray → Option (Int × Int)} {ks : List ByteArray} (h : KeysAre F ks) (i : Nat) (hi : i + 1 < ks.length) :
    Op.bytesLess ks[i + 1].toList ks[i].toList = false ∧ (ks[i + 1].toList == ks[i].toList) = false := by
  have h1 : ks[i].data.toList ≤ ks[i + 1].data.toList := List.pairwise_iff_getElem.1 h.rising i (i + 1) (by omega) hi (by omega)
  have h2 : ks[i] ≠ ks[i + 1] := List.pairwise_iff_getElem.1 (List.nodup_iff_pairwise_ne.1 h.once) i (i + 1) (by omega) hi (by omega)
  rw [bytesLess_eq, ByteArray.toList_eq, ByteArray.toList_eq]
  constructor
  · simpa using h1
  · rw [beq_eq_false_iff_ne]
    intro e
    apply h2
    rw [← toList_inj, ByteArray.toList_eq, ByteArray.toList_eq]
    exact e.symm
theorem key_nonempty {bs : List Batch} {l : List Gone} {to : Int} {ks : List ByteArray} (h : KeysAre (lookO bs l to) ks) (k : ByteArray) (hk : k ∈ ks) : k ≠ ⟨#[]⟩ ∧ k.toList.isEmpty = false ∧ lookF bs l to k = lastG bs l to k := by
  obtain ⟨h1, h2, _⟩ := lookO_some ((h.mem k).1 hk)
  refine ⟨h1, ?_, h2⟩
  cases he : k.toList.isEmpty with
  | false => rfl
  | true => exact absurd ((isEmpty_iff k).1 he) h1
theorem hitB_leB (B : Nat) (K : ByteArray) (to : Int) (bs : List Batch) (h : ∀ x ∈ bs, x.recs.length ≤ B) : ∀ k, hitB K to bs k ≤ k * B
  | 0 => by simp [hitB]
  | k + 1 => by
    have ih := hitB_leB B K to bs h k
    have e : (k + 1) * B = k * B + B := by rw [Nat.succ_mul]
    rw [hitB, e]
    generalize k * B = K' at *
    split
    · rename_i x hx
      have h1 := h x (List.mem_of_getElem? hx)
      have h2 := hitR_le K x.recs x.recs.length
      split <;> omega
    · omega
theorem few_len {bs : List Batch} {l : List Gone} (h : fewB bs l = true) : bs.length ≤ 100 := by
  simp only [fewB, fewAllB, Bool.and_eq_true, decide_eq_true_eq] at h
  omega
set_option maxRecDepth 100000 in
set_option maxHeartbeats 8000000 in
theorem once_any (bs : List Batch) (l : List Gone) (vb vl : Value) (to now keep : Int) (w : World) (hb : BatchesBig w vb bs) (hl : GonesBig w vl l) (hp : ∀ x ∈ bs, (Lit.int .i64 x.pid).wf = true) :
    Calls Try.prog 5 #[vb, vl, .int .i64 to, .int .i64 now, .int .i64 keep] w fun e w' => e = .returned (.bool true) ∧ Below w.heap.size w w' := by
  cases hf : fewB bs l
  · have F := hid (fun W (h : Below w.heap.size w W) => few_big bs l vb vl W (hb.mono h) (hl.mono h))
    rw [hf] at F
    clear hb hl
    go_enter Try.func5, Try.ntmps5
    go_wp2_with fail
    refine (live_any _).mono ?_
    rintro e1 w1 ⟨rfl, hb1⟩
    go_wp2_with fail
    refine (F.out w1 hb1).mono ?_
    rintro e2 w2 ⟨rfl, hb2⟩
    go_wp2
    go_ret
    exact ⟨rfl, hb1.step hb2⟩
  · have hb' := hb.small (few_cut hf).1
    have hl' := hl.small (few_cut hf).2
    have hfl := few_len hf
    have F := hid (fun W (h : Below w.heap.size w W) => few_big bs l vb vl W (hb.mono h) (hl.mono h))
    rw [hf] at F
    have C := hid (fun W (h : Below w.heap.size w W) => clean_any bs l vb vl to now keep W (hb'.mono h) (hl'.mono h) hp)
    have LB := hid (fun W (h : Below w.heap.size w W) => last18_any bs l vb vl to W (hb'.mono h) (hl'.mono h) hfl)
    have hclen := cleanTo_length bs l to now keep bs.length
    have hrl := leftG_le (l := l) (to := to) (now := now) (keep := keep) (smallRow hb') bs.length
    have Lw := hid (fun W (h : Below w.heap.size w W) => hl'.mono h)
    clear hb hl hf hl' hb' hp
    go_enter Try.func5, Try.ntmps5
    go_wp2_with fail
    refine (live_any _).mono ?_
    rintro e1 w1 ⟨rfl, hb1⟩
    go_wp2_with fail
    refine (F.out w1 hb1).mono ?_
    rintro e2 w2 ⟨rfl, hb2⟩
    have hB2 := hb1.step hb2
    clear F
    go_wp2_with fail
    refine (LB.out w2 hB2).mono ?_
    rintro e3 w3 ⟨um, ks, rfl, hks, hum, hkl, hb3⟩
    go_wp2_with fail
    refine (C.out w3 (hB2.step hb3)).mono ?_
    rintro e4 w4 ⟨ux, rfl, hux, hb4⟩
    have hB4 := (hB2.step hb3).step hb4
    have hum4 := hum.below hb4
    have hxn : (cleanG bs l to now keep).length ≤ 100 := by unfold cleanG; omega
    have hX := hux.at (by omega)
    have LX := hid (fun W (h : Below w4.heap.size w4 W) => last18_any (cleanG bs l to now keep) l ux vl to W (hX.mono h) (Lw.out W (hB4.step h)) hxn)
    have hkb : ks.length ≤ 100000000 := Nat.le_trans hkl (Nat.le_trans (Nat.mul_le_mul_right 1000000 hfl) (by decide))
    have HK := hid hks
    have HitC := hid (fun K hK => hit_clean bs l to now keep K hK bs.length (Nat.le_refl _))
    have OffC := hid (clean_off bs l to now keep)
    have KeyC := hid (clean_key bs l to now keep)
    have HBK := hid (fun K k => hitB_leB 1000000 K to (cleanG bs l to now keep) hrl k)
    clear hux hum hb3 hb2 hb4 C LB hks hkl hclen hrl Lw
    change Hid (∀ K, K ≠ ⟨#[]⟩ → hitB K to (cleanG bs l to now keep) (cleanG bs l to now keep).length ≤ _) at HitC
    generalize cleanG bs l to now keep = xs at *
    rcases hum4.shape with ⟨rfl, hms⟩ | ⟨g, cap, rfl, hcell⟩
    · have hk0 : ks = [] := by simpa using hms
      subst hk0
      clear hms hum4
      go_wp2
      refine wp_loop_once ?_
      go_wp2_with fail
      refine (LX.out w4 (Below.refl _ _)).mono ?_
      rintro e5 w5 ⟨u2, ks2, rfl, hks2, hum2, _, hb5⟩
      have h0 : ks2.length = 0 := by
        rcases ks2 with _ | ⟨k, ks2⟩
        · rfl
        · have := (HK.out.mem k).2 (KeyC.out k ((hks2.mem k).1 (by simp)))
          simp at this
      have h00 : ks2 = [] := List.eq_nil_of_length_eq_zero h0
      subst h00
      rcases hum2.shape with ⟨rfl, _⟩ | ⟨g2, cap2, rfl, _⟩
      all_goals
        clear hum2 hks2
        go_wp2
        go_ret
        exact ⟨rfl, hB4.step hb5⟩
    · simp only [List.length_map] at hcell ⊢
      have Hcell := hid (fun k (hk : k < ks.length) => show MarkAt w4 g (k * 4) (markOf bs l to ks[k]) by have := hcell k hk; simpa using this)
      clear hcell hum4
      obtain ⟨ax, capx, rfl, _, hsx⟩ := hX
      have Hsx := hid hsx
      clear hsx
      go_wp2
      go_loopw [38] (fun q wr => ∃ i : Nat, i ≤ ks.length ∧ q = .int .i64 i ∧ Below w4.heap.size w4 wr) (fun q _ => ks.length - (intOf q).toNat)
      case atStart => exact ⟨0, by omega, rfl, Below.refl _ _⟩
      case round =>
        obtain ⟨i, hi, rfl, hwr⟩ := hrel
        obtain ⟨wo, rfl⟩ : ∃ wo : World, wo = wr := ⟨_, rfl⟩
        by_cases hlt : i < ks.length
        · have hmk := (Hcell.out i hlt).mono hwr
          obtain ⟨hKne, hKe, hKl⟩ := key_nonempty HK.out _ (List.getElem_mem hlt)
          have HHit := hid (HitC.out _ hKne)
          have HOff := hid (fun (y : Batch) (hy : y ∈ xs) (hby : below to y = true) (r : Rec) (hr : r ∈ y.recs) (hk : r.key = ks[i]) => (show r.off = offAt bs (lastG bs l to ks[i]) from by rw [← hk]; exact OffC.out y hy hby r hr (by rw [hk]; exact hKne)))
          have hmo : (markOf bs l to ks[i]).off = offAt bs (lastG bs l to ks[i]) := by unfold markOf; rw [hKl]
          obtain ⟨c0, c1, c2, c3⟩ := hmk
          rw [hmo] at c3
          replace c0 : wo.cell? ⟨g, i * 4, none⟩ = some (.string ks[i]) := c0
          generalize offAt bs (lastG bs l to ks[i]) = O at *
          clear hKl hmo hKne
          have HP := hid (fun (hi0 : 0 < i) => show ∃ P : ByteArray, wo.cell? ⟨g, (i - 1) * 4, none⟩ = some (.string P) ∧ Op.bytesLess ks[i].toList P.toList = false ∧ (ks[i].toList == P.toList) = false by
            obtain ⟨j, rfl⟩ : ∃ j, i = j + 1 := ⟨i - 1, by omega⟩
            obtain ⟨t1, t2⟩ := rise_tests HK.out j hlt
            exact ⟨ks[j], ((Hcell.out j (by omega)).mono hwr).c0, t1, t2⟩)
          generalize ks[i] = K at *
          go_wp2
          refine wp_name fun W3 hW3 => ?_
          have hB3 : Below wo.heap.size wo W3 := by rw [hW3]; exact below_alloc _ _
          have hN : MarkAt W3 wo.heap.size 0 ⟨K, O⟩ := by rw [hW3]; exact ⟨by simp, by simp, by simp, by simp⟩
          clear hW3 c0 c1 c2 c3
          have q0 := Later.cell (show W3.cell? ⟨wo.heap.size, 0, none⟩ = some (.string K) from hN.c0)
          by_cases hi0 : i = 0
          · have hi1 : decide (0 < i) = false := by simp [hi0]
            have hi2 : decide ((0 : Int) < (i : Int)) = false := by simp [hi0]
            clear hi0 HP
            refine wp_region_later (by kernel_rfl) (by kernel_rfl) ?_
            repeat (go_big_quiet_step (fail))
            refine wpQuiet_nil ?_
            intro w5 hb5
            clear q0 hi1 hi2
            have hN5 := hN.mono hb5
            have hB5 := hwr.step (hB3.step hb5)
            clear hN hb5 hB3 hwr
            go_wp2
            go_loopw [15, 66] (fun c q wr => ∃ b : Nat, b ≤ xs.length ∧ q = .int .i64 b ∧ c = .int .i64 ((hitB K to xs b : Nat) : Int) ∧ Below w5.heap.size w5 wr) (fun _ q _ => xs.length - (intOf q).toNat)
            case atStart => exact ⟨0, by omega, rfl, rfl, Below.refl _ _⟩
            case round =>
              obtain ⟨b, hb, rfl, rfl, hwr⟩ := hrel
              obtain ⟨wo2, rfl⟩ : ∃ wo2 : World, wo2 = wr := ⟨_, rfl⟩
              have hbd := Nat.le_trans (HBK.out K b) (cast_mul b (by omega))
              by_cases hbt : b < xs.length
              · obtain ⟨y, hy⟩ : ∃ y, xs[b]? = some y := ⟨_, List.getElem?_eq_getElem hbt⟩
                have hym := List.mem_of_getElem? hy
                obtain ⟨b', o, rfl, hxa⟩ := Hsx.out b hbt
                obtain ⟨sv, hxa, hxr⟩ := hxa y hy
                obtain ⟨e0, e1, e2, e3, e4, e5, e6, e7, e8, e9⟩ := hxa.mono (hB5.step hwr)
                have V := hid (hitB_succ K to xs b y hy)
                have HOy := hid (HOff.out y hym)
                obtain ⟨a2, cap2, rfl, hn2, _, hs2⟩ := hxr
                have Hs2 := hid hs2
                clear hs2 hy hxa hym
                generalize hitB K to xs b = M at *
                go_wp2
                refine wp_name fun W hW => ?_
                have hBW : Below wo2.heap.size wo2 W := by rw [hW]; exact below_alloc _ _
                have hY : BatchAt W wo2.heap.size 0 y (.slice a2 y.recs.length cap2) := by rw [hW]; exact ⟨by simp, by simp, by simp, by simp, by simp, by simp, by simp, by simp, by simp, by simp⟩
                clear hW e0 e1 e2 e3 e4 e5 e6 e7 e8 e9
                have hB6 := hwr.step hBW
                go_loopw [15, 73] (fun c q wr => ∃ k : Nat, k ≤ y.recs.length ∧ q = .int .i64 k ∧ c = .int .i64 ((M + (if below to y = true then hitR K y.recs k else 0) : Nat) : Int) ∧ Below w5.heap.size w5 wr ∧ BatchAt wr wo2.heap.size 0 y (.slice a2 y.recs.length cap2)) (fun _ q _ => y.recs.length - (intOf q).toNat)
                case atStart => exact ⟨0, by omega, rfl, by simp [hitR], hB6, hY⟩
                case round =>
                  obtain ⟨k, hk, rfl, rfl, hwr3, hY2⟩ := hrel
                  by_cases hkt : k < y.recs.length
                  · obtain ⟨r, hr⟩ : ∃ r, y.recs[k]? = some r := ⟨_, List.getElem?_eq_getElem hkt⟩
                    obtain ⟨b2, o2, rfl, hra⟩ := Hs2.out k hkt
                    obtain ⟨g0, g1, g2, g3, g4⟩ := (hra r hr).mono (hB5.step hwr3)
                    have E := hid (hitR_succ K y.recs k r hr)
                    have hle := hitR_le K y.recs k
                    have HOr := hid (fun hby hk => HOy.out hby r (List.mem_of_getElem? hr) hk)
                    clear hr hra hY hB6 hwr hBW
                    generalize hitR K y.recs k = m at *
                    have HN := hid (fun X => hY2.mono (below_alloc wr X))
                    have n1 := fun X => cell_alloc_old X hY2.c1
                    have n8 := fun X => cell_alloc_old X hY2.c8
                    have m0 := fun X => cell_alloc_old X (cell_below hwr3 hN5.c0)
                    have m3 := fun X => cell_alloc_old X (cell_below hwr3 hN5.c3)
                    have m0 : ∀ X, (wr.alloc X).cell? ⟨wo.heap.size, 0, none⟩ = some (.string K) := m0
                    have m3 : ∀ X, (wr.alloc X).cell? ⟨wo.heap.size, 3, none⟩ = some (.int .i64 O) := m3
                    clear hY2
                    rcases Bool.eq_false_or_eq_true (decide (y.last < to)) with h1 | h1
                    · rcases Bool.eq_false_or_eq_true (y.ctl == 0) with h2 | h2
                      · have Q := hid (show below to y = true by unfold below; rw [h1, h2]; rfl)
                        rw [Q.out]
                        rcases Bool.eq_false_or_eq_true (r.key.toList == K.toList) with h3 | h3
                        · have E1 := hid (show hitR K y.recs (k + 1) = m + 1 by rw [E.out, if_pos (show isKey K r = true from h3)])
                          have ho : r.off = O := HOr.out Q.out ((isKey_iff K r).1 h3)
                          rw [ho] at g0
                          clear ho
                          simp only [if_true]
                          go_wp2
                          go_roundw
                          case rel => exact ⟨k + 1, by omega, by go_num, by first | (rw [E1.out]; go_num) | (rw [Q.out, E1.out]; simp only [if_true]; go_num), hwr3.step (below_alloc _ _), HN.out _⟩
                          case measure => simp [intOf]; omega
                        · have E1 := hid (show hitR K y.recs (k + 1) = m by rw [E.out, if_neg (by unfold isKey; rw [h3]; simp)]; rfl)
                          simp only [if_true]
                          go_wp2
                          go_roundw
                          case rel => exact ⟨k + 1, by omega, by go_num, by first | (rw [E1.out]) | (rw [Q.out, E1.out]; simp only [if_true]), hwr3.step (below_alloc _ _), HN.out _⟩
                          case measure => simp [intOf]; omega
                      · have Q := hid (show below to y = false by unfold below; rw [h2]; simp)
                        rw [Q.out]
                        simp only [Bool.false_eq_true, if_false, Nat.add_zero]
                        go_wp2
                        go_roundw
                        case rel => exact ⟨k + 1, by omega, by go_num, by first | rfl | (rw [Q.out]; simp), hwr3.step (below_alloc _ _), HN.out _⟩
                        case measure => simp [intOf]; omega
                    · have Q := hid (show below to y = false by unfold below; rw [h1]; simp)
                      rw [Q.out]
                      simp only [Bool.false_eq_true, if_false, Nat.add_zero]
                      go_wp2
                      go_roundw
                      case rel => exact ⟨k + 1, by omega, by go_num, by first | rfl | (rw [Q.out]; simp), hwr3.step (below_alloc _ _), HN.out _⟩
                      case measure => simp [intOf]; omega
                  · obtain rfl : k = y.recs.length := by omega
                    clear hY hB6 hwr hBW
                    go_wp2
                    go_roundw
                    case rel => exact ⟨b + 1, by omega, by go_num, by rw [V.out], hwr3⟩
                    case measure => simp [intOf]; omega
              · obtain rfl : b = xs.length := by omega
                have hone : hitB K to xs xs.length ≤ 1 := by
                  have := HHit.out
                  split at this <;> omega
                generalize hitB K to xs xs.length = M at *
                go_wp2
                go_roundw
                case rel => exact ⟨i + 1, by omega, by go_num, hB5.step hwr⟩
                case measure => simp [intOf]; omega
          · have hi1 : decide (0 < i) = true := by simp; omega
            have hi2 : decide ((0 : Int) < (i : Int)) = true := by simp; omega
            obtain ⟨P, hP, t1, t2⟩ := HP.out (by omega)
            have qp := Later.cell (cell_below hB3 hP)
            have hw1 : IntKind.i64.wrap ((i : Int) - 1) = (i : Int) - 1 := IntWalk.i64_in _ (by omega)
            have hw2 : ((i : Int) - 1).toNat = i - 1 := by omega
            have hw3 : (0 : Int) ≤ (i : Int) - 1 := by omega
            have hw4 : (i : Int) - 1 < (ks.length : Int) := by omega
            clear hP
            refine wp_region_later (by kernel_rfl) (by kernel_rfl) ?_
            repeat (go_big_quiet_step (fail))
            refine wpQuiet_nil ?_
            intro w5 hb5
            clear q0 hi1 hi2 qp t1 t2 hw1 hw2 hw3 hw4
            have hN5 := hN.mono hb5
            have hB5 := hwr.step (hB3.step hb5)
            clear hN hb5 hB3 hwr
            go_wp2
            go_loopw [15, 66] (fun c q wr => ∃ b : Nat, b ≤ xs.length ∧ q = .int .i64 b ∧ c = .int .i64 ((hitB K to xs b : Nat) : Int) ∧ Below w5.heap.size w5 wr) (fun _ q _ => xs.length - (intOf q).toNat)
            case atStart => exact ⟨0, by omega, rfl, rfl, Below.refl _ _⟩
            case round =>
              obtain ⟨b, hb, rfl, rfl, hwr⟩ := hrel
              obtain ⟨wo2, rfl⟩ : ∃ wo2 : World, wo2 = wr := ⟨_, rfl⟩
              have hbd := Nat.le_trans (HBK.out K b) (cast_mul b (by omega))
              by_cases hbt : b < xs.length
              · obtain ⟨y, hy⟩ : ∃ y, xs[b]? = some y := ⟨_, List.getElem?_eq_getElem hbt⟩
                have hym := List.mem_of_getElem? hy
                obtain ⟨b', o, rfl, hxa⟩ := Hsx.out b hbt
                obtain ⟨sv, hxa, hxr⟩ := hxa y hy
                obtain ⟨e0, e1, e2, e3, e4, e5, e6, e7, e8, e9⟩ := hxa.mono (hB5.step hwr)
                have V := hid (hitB_succ K to xs b y hy)
                have HOy := hid (HOff.out y hym)
                obtain ⟨a2, cap2, rfl, hn2, _, hs2⟩ := hxr
                have Hs2 := hid hs2
                clear hs2 hy hxa hym
                generalize hitB K to xs b = M at *
                go_wp2
                refine wp_name fun W hW => ?_
                have hBW : Below wo2.heap.size wo2 W := by rw [hW]; exact below_alloc _ _
                have hY : BatchAt W wo2.heap.size 0 y (.slice a2 y.recs.length cap2) := by rw [hW]; exact ⟨by simp, by simp, by simp, by simp, by simp, by simp, by simp, by simp, by simp, by simp⟩
                clear hW e0 e1 e2 e3 e4 e5 e6 e7 e8 e9
                have hB6 := hwr.step hBW
                go_loopw [15, 73] (fun c q wr => ∃ k : Nat, k ≤ y.recs.length ∧ q = .int .i64 k ∧ c = .int .i64 ((M + (if below to y = true then hitR K y.recs k else 0) : Nat) : Int) ∧ Below w5.heap.size w5 wr ∧ BatchAt wr wo2.heap.size 0 y (.slice a2 y.recs.length cap2)) (fun _ q _ => y.recs.length - (intOf q).toNat)
                case atStart => exact ⟨0, by omega, rfl, by simp [hitR], hB6, hY⟩
                case round =>
                  obtain ⟨k, hk, rfl, rfl, hwr3, hY2⟩ := hrel
                  by_cases hkt : k < y.recs.length
                  · obtain ⟨r, hr⟩ : ∃ r, y.recs[k]? = some r := ⟨_, List.getElem?_eq_getElem hkt⟩
                    obtain ⟨b2, o2, rfl, hra⟩ := Hs2.out k hkt
                    obtain ⟨g0, g1, g2, g3, g4⟩ := (hra r hr).mono (hB5.step hwr3)
                    have E := hid (hitR_succ K y.recs k r hr)
                    have hle := hitR_le K y.recs k
                    have HOr := hid (fun hby hk => HOy.out hby r (List.mem_of_getElem? hr) hk)
                    clear hr hra hY hB6 hwr hBW
                    generalize hitR K y.recs k = m at *
                    have HN := hid (fun X => hY2.mono (below_alloc wr X))
                    have n1 := fun X => cell_alloc_old X hY2.c1
                    have n8 := fun X => cell_alloc_old X hY2.c8
                    have m0 := fun X => cell_alloc_old X (cell_below hwr3 hN5.c0)
                    have m3 := fun X => cell_alloc_old X (cell_below hwr3 hN5.c3)
                    have m0 : ∀ X, (wr.alloc X).cell? ⟨wo.heap.size, 0, none⟩ = some (.string K) := m0
                    have m3 : ∀ X, (wr.alloc X).cell? ⟨wo.heap.size, 3, none⟩ = some (.int .i64 O) := m3
                    clear hY2
                    rcases Bool.eq_false_or_eq_true (decide (y.last < to)) with h1 | h1
                    · rcases Bool.eq_false_or_eq_true (y.ctl == 0) with h2 | h2
                      · have Q := hid (show below to y = true by unfold below; rw [h1, h2]; rfl)
                        rw [Q.out]
                        rcases Bool.eq_false_or_eq_true (r.key.toList == K.toList) with h3 | h3
                        · have E1 := hid (show hitR K y.recs (k + 1) = m + 1 by rw [E.out, if_pos (show isKey K r = true from h3)])
                          have ho : r.off = O := HOr.out Q.out ((isKey_iff K r).1 h3)
                          rw [ho] at g0
                          clear ho
                          simp only [if_true]
                          go_wp2
                          go_roundw
                          case rel => exact ⟨k + 1, by omega, by go_num, by first | (rw [E1.out]; go_num) | (rw [Q.out, E1.out]; simp only [if_true]; go_num), hwr3.step (below_alloc _ _), HN.out _⟩
                          case measure => simp [intOf]; omega
                        · have E1 := hid (show hitR K y.recs (k + 1) = m by rw [E.out, if_neg (by unfold isKey; rw [h3]; simp)]; rfl)
                          simp only [if_true]
                          go_wp2
                          go_roundw
                          case rel => exact ⟨k + 1, by omega, by go_num, by first | (rw [E1.out]) | (rw [Q.out, E1.out]; simp only [if_true]), hwr3.step (below_alloc _ _), HN.out _⟩
                          case measure => simp [intOf]; omega
                      · have Q := hid (show below to y = false by unfold below; rw [h2]; simp)
                        rw [Q.out]
                        simp only [Bool.false_eq_true, if_false, Nat.add_zero]
                        go_wp2
                        go_roundw
                        case rel => exact ⟨k + 1, by omega, by go_num, by first | rfl | (rw [Q.out]; simp), hwr3.step (below_alloc _ _), HN.out _⟩
                        case measure => simp [intOf]; omega
                    · have Q := hid (show below to y = false by unfold below; rw [h1]; simp)
                      rw [Q.out]
                      simp only [Bool.false_eq_true, if_false, Nat.add_zero]
                      go_wp2
                      go_roundw
                      case rel => exact ⟨k + 1, by omega, by go_num, by first | rfl | (rw [Q.out]; simp), hwr3.step (below_alloc _ _), HN.out _⟩
                      case measure => simp [intOf]; omega
                  · obtain rfl : k = y.recs.length := by omega
                    clear hY hB6 hwr hBW
                    go_wp2
                    go_roundw
                    case rel => exact ⟨b + 1, by omega, by go_num, by rw [V.out], hwr3⟩
                    case measure => simp [intOf]; omega
              · obtain rfl : b = xs.length := by omega
                have hone : hitB K to xs xs.length ≤ 1 := by
                  have := HHit.out
                  split at this <;> omega
                generalize hitB K to xs xs.length = M at *
                go_wp2
                go_roundw
                case rel => exact ⟨i + 1, by omega, by go_num, hB5.step hwr⟩
                case measure => simp [intOf]; omega
        · obtain rfl : i = ks.length := by omega
          go_wp2_with fail
          refine (LX.out wo hwr).mono ?_
          rintro e5 w5 ⟨u2, ks2, rfl, hks2, hum2, _, hb5⟩
          have hle2 : ks2.length ≤ ks.length := length_le_of_mem hks2.once (fun k hk => (HK.out.mem k).2 (KeyC.out k ((hks2.mem k).1 hk)))
          rcases hum2.shape with ⟨rfl, hm2⟩ | ⟨g2, cap2, rfl, _⟩
          · clear hum2 hks2 hm2
            go_wp2
            go_ret
            exact ⟨rfl, (hB4.step hwr).step hb5⟩
          · simp only [List.length_map]
            clear hum2 hks2
            go_wp2
            go_ret
            exact ⟨rfl, (hB4.step hwr).step hb5⟩
end Go.Proofs.Ytceamgkifjmbcaa
