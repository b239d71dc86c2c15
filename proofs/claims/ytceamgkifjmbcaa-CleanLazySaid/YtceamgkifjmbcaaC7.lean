/- Walks of the program: Check. -/
import Derived.Test.YtceamgkifjmbcaaC6
import Derived.Test.YtceamgkifjmbcaaW26
namespace Go.Proofs.Ytceamgkifjmbcaa
open Go.RowKit Go.Wm Go.Maps
/-- A batch that has to stay and is not there, or not with all that has to stay of it. -/
def holeAt (was : List Batch) (l : List Gone) (to now keep : Int) (T : Nat → Option Batch) (i : Nat) : Bool :=
  match pallAt was l to (lookF was l to) now keep (endLast was to was.length) i with
  | none => false
  | some b => match T i with | none => true | some y => !amongB b.recs y.recs
/-- A mark that is not there, though a record of its transaction is. -/
def splitAt (was : List Batch) (T : Nat → Option Batch) (k : Nat) : Bool := (T k).isNone && (outTo was was.length (k : Int)).any (hasT T)
/-- P13.4: 0 is right; 1: no part of what was; 321: something that has to stay is missing; 322: a transaction without its mark. -/
def checkG (was iss : List Batch) (l : List Gone) (to now keep : Int) : Int :=
  match matchTo was iss iss.length with
  | none => 1
  | some (_, T) => if (List.range was.length).any (holeAt was l to now keep T) = true then 321 else if valuesG iss l to = valuesG was l to then (if (List.range was.length).any (splitAt was T) = true then 322 else 0) else 321
theorem outTo_le (bs : List Batch) : ∀ (i : Nat) (k : Int), (outTo bs i k).length ≤ i
  | 0, k => by simp [outTo]
  | i + 1, k => by
    have ih := outTo_le bs i k
    rw [outTo]
    split
    · rename_i x _
      have := openTo_length bs i x.pid
      repeat' split
      all_goals omega
    · omega
theorem outTo_mem (bs : List Batch) : ∀ (i : Nat) (k : Int), ∀ j ∈ outTo bs i k, 0 ≤ j ∧ j < i
  | 0, k => by simp [outTo]
  | i + 1, k => by
    have ih := outTo_mem bs i k
    intro j hj
    rw [outTo] at hj
    split at hj
    · rename_i x _
      split at hj
      · have := ih j hj; omega
      · split at hj
        · have := openTo_mem bs i x.pid j hj; omega
        · have := ih j hj; omega
    · have := ih j hj; omega
set_option maxRecDepth 100000 in
set_option maxHeartbeats 8000000 in
theorem check_any (was iss : List Batch) (l : List Gone) (v vis vl : Value) (to now keep : Int) (w : World) (hb : BatchesC w v was) (his : BatchesC w vis iss) (hl : GonesAt w vl l) (hp : ∀ x ∈ was, (Lit.int .i64 x.pid).wf = true)
    (h1 : was.length ≤ 1000) (h2 : iss.length ≤ 1000) (h3 : recCount was ≤ 1000000) (h4 : recCount iss ≤ 1000000) :
    Calls Try.prog 22 #[v, vis, vl, .int .i64 to, .int .i64 now, .int .i64 keep] w fun e w' => e = .returned (.int .i64 (checkG was iss l to now keep)) ∧ Below w.heap.size w w' := by
  have M := hid (match_any was iss v vis w hb his)
  have LK := hid (fun W (h : Below w.heap.size w W) => look_any was l v vl to now keep W (hb.at.mono h) (hl.mono h))
  have AL := hid (fun W (h : Below w.heap.size w W) R m n e f hr hm => all_any was l v vl R to now keep m n e f W hr (hb.at.mono h) (hl.mono h) hm hp)
  have V1 := hid (fun W (h : Below w.heap.size w W) => values_any iss l vis vl to W (his.at.mono h) (hl.mono h) h2 h4)
  have V2 := hid (fun W (h : Below w.heap.size w W) => values_any was l v vl to W (hb.at.mono h) (hl.mono h) h1 h3)
  have OW := hid (fun W (h : Below w.heap.size w W) => ownsK_any was v W (hb.at.mono h) hp)
  have Fin := hid (show checkG was iss l to now keep = (match matchTo was iss iss.length with | none => (1 : Int) | some (_, T) => if (List.range was.length).any (holeAt was l to now keep T) = true then 321 else if valuesG iss l to = valuesG was l to then (if (List.range was.length).any (splitAt was T) = true then 322 else 0) else 321) from rfl)
  generalize checkG was iss l to now keep = CG at *
  have hn1 : was.length ≤ 1000000 := by omega
  clear hb his hl hp
  cases hM : matchTo was iss iss.length with
  | none =>
    rw [hM] at M Fin
    clear hM
    go_enter Try.func22, Try.ntmps22
    go_wp2_with fail
    refine M.out.mono ?_
    rintro e1 w1 ⟨rfl, hb1⟩
    go_wp2
    go_ret
    exact ⟨ret_int Fin.out.symm, hb1.step (below_alloc _ _)⟩
  | some AT =>
    obtain ⟨A0, T⟩ := AT
    rw [hM] at M Fin
    clear hM
    go_enter Try.func22, Try.ntmps22
    go_wp2_with fail
    refine M.out.mono ?_
    rintro e1 w1 ⟨A, f, rfl, hA, hrow, heach, hb1⟩
    have HE := hid heach
    clear heach
    go_wp2_with fail
    have hB2 : Below w.heap.size w (w1.alloc (.cells #[.slice (some ⟨A, 0, none⟩) was.length was.length] 56)) := hb1.step (below_alloc _ _)
    have TB := hid (show ThereBox (w1.alloc (.cells #[.slice (some ⟨A, 0, none⟩) was.length was.length] 56)) w1.heap.size A was.length f T from
      ⟨by simp, hrow.alloc _, fun j hj => (HE.out j hj).mono hB2, hn1⟩)
    refine (LK.out _ hB2).mono ?_
    rintro e3 w3 ⟨R, m, n, rfl, hr, hm, hb3⟩
    go_wp2_with fail
    refine (AL.out w3 (hB2.step hb3) R m n _ _ hr hm).mono ?_
    rintro e4 w4 ⟨A2, rfl, hA2, hall, hb4⟩
    obtain ⟨g, hg1, hg2, _⟩ := hall
    have hB4 := (hB2.step hb3).step hb4
    have TB4 := hid ((TB.out.mono hb3).mono hb4)
    have HG := hid hg2
    clear hr hm hg2 hrow TB HE LK AL M
    go_wp2
    go_loopw [36] (fun q wr => ∃ i : Nat, i ≤ was.length ∧ q = .int .i64 i ∧ (∀ j, j < i → holeAt was l to now keep T j = false) ∧ Below w4.heap.size w4 wr) (fun q _ => was.length - (intOf q).toNat)
    case atStart => exact ⟨0, by omega, rfl, fun j hj => by omega, Below.refl _ _⟩
    case round =>
      obtain ⟨i, hi, rfl, hh, hwr⟩ := hrel
      have HH := hid hh
      clear hh
      by_cases hlt : i < was.length
      · have cA := cell_below hwr (hg1.cell hlt)
        have K := (HG.out i hlt).below hwr
        have TBr := TB4.out.mono hwr
        have bx := TBr.box
        have cT := TBr.row.cell hlt
        have E := TBr.each i hlt
        have HO0 := hid (show holeAt was l to now keep T i = (match pallAt was l to (lookF was l to) now keep (endLast was to was.length) i with | none => false | some b => match T i with | none => true | some y => !amongB b.recs y.recs) from rfl)
        clear TBr
        cases hk : pallAt was l to (lookF was l to) now keep (endLast was to was.length) i with
        | none =>
          rw [hk] at K HO0
          have HO := hid (show holeAt was l to now keep T i = false from HO0.out)
          have K' : g i = .pointer none := K
          rw [K'] at cA
          clear K K' hk E
          go_wp2
          refine wp_region_later (by kernel_rfl) (by kernel_rfl) ?_
          repeat (go_big_quiet_step (fail))
          refine wpQuiet_nil ?_
          intro w6 hb6
          clear bx cT
          go_wp2
          go_roundw
          case rel =>
            refine ⟨i + 1, by omega, by go_num, fun j hj => ?_, hwr.step hb6⟩
            by_cases hji : j = i
            · subst hji; exact HO.out
            · exact HH.out j (by omega)
          case measure => simp [intOf]; omega
        | some b =>
          rw [hk] at K HO0
          obtain ⟨B, sv, hBB, hgi, hyb, hybr, hys⟩ := K
          rw [hgi] at cA
          clear hgi hk
          cases hT : T i with
          | none =>
            rw [hT] at E HO0
            have HO := hid (show holeAt was l to now keep T i = true from HO0.out)
            have E' : f i = .pointer none := E
            rw [E'] at cT
            clear E E' hT
            have b9 := hyb.c9
            obtain ⟨ab, cb, rfl⟩ := OwnRecs.form hybr
            go_wp2
            have bx := Later.cell bx
            have cT := Later.cell cT
            have b9 := Later.cell b9
            refine wp_region_later (by kernel_rfl) (by kernel_rfl) ?_
            repeat (go_big_quiet_step (fail))
            refine wpQuiet_nil ?_
            intro w6 hb6
            clear bx cT b9
            go_wp2
            go_ret
            refine ⟨ret_int ?_, (hB4.step hwr).step hb6⟩
            rw [Fin.out]
            have hany : (List.range was.length).any (holeAt was l to now keep T) = true := by
              rw [List.any_eq_true]
              exact ⟨i, List.mem_range.2 hlt, HO.out⟩
            simp [hany]
          | some y =>
            rw [hT] at E HO0
            obtain ⟨by_, oy, sy, hf, hya, hyr⟩ := E
            rw [hf] at cT
            clear hf hT
            have AM := hid (fun W (h : Below wr.heap.size wr W) => among_any b.recs y.recs sv sy W ((hybr.at hys).mono h) (hyr.mono h))
            have b9 := hyb.c9
            have y9 := hya.c9
            obtain ⟨ab, cb, rfl⟩ := OwnRecs.form hybr
            obtain ⟨ay, cy, rfl, _⟩ := hyr.1.form
            clear hyb hya
            go_wp2
            have bx := Later.cell bx
            have cT := Later.cell cT
            have b9 := Later.cell b9
            have y9 := Later.cell y9
            cases ha : amongB b.recs y.recs with
            | true =>
              rw [ha] at AM HO0
              have HO := hid (show holeAt was l to now keep T i = false from HO0.out)
              clear ha
              refine wp_region_later (by kernel_rfl) (by kernel_rfl) ?_
              repeat (go_big_quiet_step ((go_at_call 42; exact Later.call (AM.out _ (Later.below _)))))
              refine wpQuiet_nil ?_
              intro w6 hb6
              clear bx cT b9 y9
              go_wp2
              go_roundw
              case rel =>
                refine ⟨i + 1, by omega, by go_num, fun j hj => ?_, hwr.step hb6⟩
                by_cases hji : j = i
                · subst hji; exact HO.out
                · exact HH.out j (by omega)
              case measure => simp [intOf]; omega
            | false =>
              rw [ha] at AM HO0
              have HO := hid (show holeAt was l to now keep T i = true from HO0.out)
              clear ha
              refine wp_region_later (by kernel_rfl) (by kernel_rfl) ?_
              repeat (go_big_quiet_step ((go_at_call 42; exact Later.call (AM.out _ (Later.below _)))))
              refine wpQuiet_nil ?_
              intro w6 hb6
              clear bx cT b9 y9
              go_wp2
              go_ret
              refine ⟨ret_int ?_, (hB4.step hwr).step hb6⟩
              rw [Fin.out]
              have hany : (List.range was.length).any (holeAt was l to now keep T) = true := by
                rw [List.any_eq_true]
                exact ⟨i, List.mem_range.2 hlt, HO.out⟩
              simp [hany]
      · obtain rfl : i = was.length := by omega
        have HH2 := hid (show (List.range was.length).any (holeAt was l to now keep T) = false by
          rw [List.any_eq_false]
          intro j hj
          rw [HH.out j (List.mem_range.1 hj)]; simp)
        obtain ⟨w5, rfl⟩ : ∃ w5 : World, w5 = wr := ⟨_, rfl⟩
        rw [HH2.out] at Fin
        clear HH HH2
        have hB5 := hB4.step hwr
        have TB5 := hid (TB4.out.mono hwr)
        clear TB4 HG hg1 hwr
        go_wp2_with fail
        refine (V1.out w5 hB5).mono ?_
        rintro e6 w6 ⟨ui, rfl, hui, hsi, hb6⟩
        go_wp2_with fail
        refine (V2.out w6 (hB5.step hb6)).mono ?_
        rintro e7 w7 ⟨uw, rfl, huw, hsw, hb7⟩
        have hB7 := (hB5.step hb6).step hb7
        have EQ := hid (equal_any (valuesG iss l to) (valuesG was l to) ui uw w7 ((hui.below hb7).at hsi) (huw.at hsw))
        clear hui huw hsi hsw V1 V2
        by_cases hv : valuesG iss l to = valuesG was l to
        · rw [decide_eq_true hv] at EQ
          rw [if_pos hv] at Fin
          have TB7 := hid ((TB5.out.mono hb6).mono hb7)
          clear hv TB5
          go_wp2_with fail
          refine EQ.out.mono ?_
          rintro e8 w8 ⟨rfl, hb8⟩
          have hB8 := hB7.step hb8
          go_wp2_with fail
          refine (OW.out w8 hB8).mono ?_
          rintro e9 w9 ⟨mm, nn, mo, F, G, hnn, rfl, hO, hb9⟩
          obtain ⟨D, hD1, hD2, hD3⟩ := hO.mt
          have HGI := hid hO.rg
          have HD2 := hid hD2
          have HD3 := hid hD3
          have HNN := hid hnn
          have TB9 := hid ((TB7.out.mono hb8).mono hb9)
          have hB9 := hB8.step hb9
          clear hO hD2 hD3 hnn TB7 EQ OW
          go_wp2_with (at_range; refine wpList_range_own _ rfl _ 83 rfl 3 85 klawInt Try.underlying83 _ mm nn _ rfl hD1 ?_; intro w10 hrg0 hg0 hs0)
          go_frame
          have hb10 : Below w9.heap.size w9 w10 := ⟨hg0.os, hg0.tape, hg0.output, hg0.size, fun k hk => hg0.block k hk (by simp)⟩
          go_loopw [17] (fun _ wr => ∃ (left : Lit → Bool) (cnt : Nat), wr.ranges Try.prog 3 rowR mm w9.heap.size nn D left cnt ∧ (∀ k : Nat, has D (.int .i64 (k : Int)) = true → left (.int .i64 (k : Int)) = false → splitAt was T k = false) ∧ Below w9.heap.size w9 wr)
            (fun _ wr => wr.rangeLeft mm w9.heap.size)
          case atStart => exact ⟨_, _, hrg0, fun k h h' => (by rw [h] at h'; cases h'), hb10⟩
          case round =>
            obtain ⟨left, cnt, hrg, hdone, hwr⟩ := hrel
            have HDN := hid hdone
            clear hdone
            go_wp2_with (at_next; refine wpList_next_ranges _ rfl _ rfl 3 klawInt rowR (Value.int .i64) id (fun key kl hk => by obtain ⟨x, rfl, _⟩ := Maps.keyOf_int_inv Try.underlying3 hk; exact ⟨x, rfl⟩) (fun v _ _ => ⟨v, rfl⟩) mm w9.heap.size nn _ _ _ rfl hrg ?_ ?_)
            · intro _ hl0
              have hall : (List.range was.length).any (splitAt was T) = false := by
                rw [List.any_eq_false]
                intro j hj
                have hj' := List.mem_range.1 hj
                cases hh : has D (.int .i64 (j : Int)) with
                | true => rw [HDN.out j hh (hl0 _)]; simp
                | false =>
                  obtain ⟨ps, hps⟩ := HD2.out (j : Int) (wf_nat (by omega))
                  rw [atKey_of_not_has hh] at hps
                  have hG : G (j : Int) = .slice none 0 0 := rowR_inj hps (show rowR (.slice none 0 0) = some (.agg [], []) from rfl)
                  have hr := HGI.out (j : Int)
                  rw [hG] at hr
                  have h0 : outTo was was.length (j : Int) = [] := by
                    rcases hr.2 with ⟨_, h⟩ | ⟨g, cap, cur, h, _⟩
                    · exact List.eq_nil_of_length_eq_zero h
                    · cases h
                  simp [splitAt, h0]
              rw [hall] at Fin
              clear hl0 hall
              go_wp2
              go_ret
              exact ⟨ret_int (by rw [Fin.out]; simp), hB9.step hwr⟩
            · intro x c kl yd yp w11 cnt2 hkey hlk hcv hat hrg2 hlt2 hg2 hs2 hen
              obtain ⟨x', ex, rfl, hwx⟩ := Maps.keyOf_int_inv Try.underlying3 hkey
              cases ex
              have hhas : has D (.int .i64 x) = true := has_true_of_atKey hat
              have hxb := HD3.out x hhas
              obtain ⟨j, rfl⟩ := Int.eq_ofNat_of_zero_le hxb.1
              have hjn : j < was.length := by have := hxb.2; have := HNN.out; omega
              obtain ⟨ps, hps⟩ := HD2.out (j : Int) (wf_nat (by omega))
              rw [hat] at hps
              have hcG : c = G (j : Int) := rowR_inj hcv hps
              have hb11 : Below w9.heap.size w9 w11 := hwr.grown hg2 hwr.size (fun k hk => by cases hk; exact Nat.le_refl _)
              have TB11 := TB9.out.mono hb11
              have bx := TB11.box
              have cT := TB11.row.cell hjn
              have E := TB11.each j hjn
              have HI := hid (((HGI.out (j : Int)).below hb11).at (Nat.le_trans (outTo_le was was.length (j : Int)) hn1))
              rw [← hcG] at HI
              have CT := hid (thereContains_any w1.heap.size A was.length f T (outTo was was.length (j : Int)) (outTo_mem was was.length (j : Int)) c w11 TB11 HI.out)
              have HS0 := hid (show splitAt was T j = ((T j).isNone && (outTo was was.length (j : Int)).any (hasT T)) from rfl)
              have STEP := hid (fun (h : splitAt was T j = false) (k : Nat) (hk : has D (.int .i64 (k : Int)) = true) (hk' : (left (.int .i64 (k : Int)) && !(Lit.int .i64 (k : Int)).sameKey (.int .i64 (j : Int))) = false) => show splitAt was T k = false by
                cases hl : left (.int .i64 (k : Int)) with
                | false => exact HDN.out k hk hl
                | true =>
                  rw [hl] at hk'
                  have hkj0 : (k : Int) = (j : Int) := by simpa [Lit.sameKey] using hk'
                  have : k = j := by omega
                  rw [this]; exact h)
              clear hcv hps hat hwx hkey hlk hhas hxb hg2 hs2 hcG TB11 HDN
              generalize (outTo was was.length (j : Int)).any (hasT T) = AN at *
              cases hT : T j with
              | some y =>
                rw [hT] at E HS0
                obtain ⟨by_, oy, sy, hf, _, _⟩ := E
                rw [hf] at cT
                clear hf hT CT HI
                go_wp2
                go_roundw
                case rel => exact ⟨_, cnt2, hrg2, STEP.out HS0.out, hb11⟩
                case measure => rw [hrg2.left_eq, hrg.left_eq]; exact hlt2
              | none =>
                rw [hT] at E HS0
                have E' : f j = .pointer none := E
                rw [E'] at cT
                clear E E' hT HI
                cases AN with
                | false =>
                  go_wp2_with fail
                  refine CT.out.mono ?_
                  rintro e12 w12 ⟨rfl, hb12⟩
                  have hrg3 := hrg2.of_walks (KeepsWalks.of_grownBy (row := none) ⟨hb12.os, hb12.tape, hb12.output, hb12.size, fun k hk _ => hb12.block k hk⟩ (fun j o h => by cases h))
                  go_wp2
                  go_roundw
                  case rel => exact ⟨_, cnt2, hrg3, STEP.out HS0.out, hb11.step hb12⟩
                  case measure => rw [hrg3.left_eq, hrg.left_eq]; exact hlt2
                | true =>
                  go_wp2_with fail
                  refine CT.out.mono ?_
                  rintro e12 w12 ⟨rfl, hb12⟩
                  go_wp2
                  go_ret
                  refine ⟨ret_int ?_, (hB9.step hb11).step hb12⟩
                  have hall : (List.range was.length).any (splitAt was T) = true := by
                    rw [List.any_eq_true]
                    exact ⟨j, List.mem_range.2 hjn, HS0.out⟩
                  rw [Fin.out, hall]; simp
        · rw [decide_eq_false hv] at EQ
          rw [if_neg hv] at Fin
          clear hv
          go_wp2_with fail
          refine EQ.out.mono ?_
          rintro e8 w8 ⟨rfl, hb8⟩
          go_wp2
          go_ret
          exact ⟨ret_int (by rw [Fin.out]; simp), hB7.step hb8⟩
end Go.Proofs.Ytceamgkifjmbcaa
