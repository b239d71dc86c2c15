/- Walk: Begin. -/
import Derived.Test.YtcpecponmaakoaaGreatDoorS2
import Derived.Test.YtcpecponmaakoaaGreatDoorW7
import Derived.Deep.RegionHeld3
import Derived.Deep.RegionLawGrows
import Derived.Deep.AppendLies
namespace Go.Proofs.YtcpecponmaakoaaGreatDoor
open Go.RowKit Go.Wm
theorem clip_any (a : Option Addr) (n cap : Nat) (hc : n ≤ cap) (w : World) : Calls Tryz.prog 68 #[.slice a n cap] w fun e w' => e = .returned (.slice a n n) ∧ w' = w := by
  have g1 : (0 : Int) ≤ (n : Int) := Int.natCast_nonneg _
  have g2 : (n : Int) ≤ (cap : Int) := by omega
  cases a with
  | none =>
    go_enter Tryz.func68, Tryz.ntmps68
    go_wp2
    go_ret
    exact ⟨by simp, rfl⟩
  | some A =>
    obtain ⟨b, o, s⟩ := A
    go_enter Tryz.func68, Tryz.ntmps68
    go_wp2
    go_ret
    exact ⟨by simp, rfl⟩
/-- What ails a beginning. -/
def beginE (ver next base fin size : Int) (ps : List Piece) : Int :=
  if beyond base = true ∨ beyond fin = true ∨ beyond size = true ∨ fin ≤ base then 1 else if ps.any (stIs 1) = true then 211 else if base < (spanP ps).2 then 71
  else if ps.length = 256 ∨ ver = 1099511627776 ∨ next = 1099511627776 then 2 else 0
/-- A beginning: the manifest behind it, the piece's number, the error. -/
def beginM (ver next base fin size sum : Int) (ps : List Piece) : (Int × Int × List Piece) × Int × Int :=
  if checkM ver next ps ≠ 0 then ((0, 0, []), 0, checkM ver next ps)
  else if beginE ver next base fin size ps ≠ 0 then ((0, 0, []), 0, beginE ver next base fin size ps)
  else ((ver + 1, next + 1, ps ++ [⟨next, base, fin, size, sum, 1⟩]), next, 0)
def CapOk (v : Value) : Prop := ∀ a n c, v = .slice a n c → n ≤ c
set_option maxHeartbeats 3000000 in
set_option maxRecDepth 100000 in
theorem begin_any (ver next base fin size sum : Int) (ps : List Piece) (v : Value) (w : World) (hv : PcsAt w v ps) (hcv : CapOk v) :
    Calls Tryz.prog 28 #[.agg #[.int .i64 ver, .int .i64 next, v], .int .i64 base, .int .i64 fin, .int .i64 size, .int .u32 sum] w fun e w' => ∃ u, e = .returned (.tuple #[.agg #[.int .i64 (beginM ver next base fin size sum ps).1.1, .int .i64 (beginM ver next base fin size sum ps).1.2.1, u], .int .i64 (beginM ver next base fin size sum ps).2.1, .int .i64 (beginM ver next base fin size sum ps).2.2]) ∧ OwnPcs w' w.heap.size u (beginM ver next base fin size sum ps).1.2.2 ∧ Below w.heap.size w w' := by
  have K := hid (fun W (h : Below w.heap.size w W) => check_any ver next ps v W (hv.mono h))
  have SP := hid (fun W (h : Below w.heap.size w W) => span_any ver next ps v W (hv.mono h))
  have CN := hid (fun B W (h : Below w.heap.size w W) (hB : W.cell? ⟨B, 0, none⟩ = some (.int .i64 1)) => contains91_any (stIs 1) ps B v W (hv.mono h) (fun W' h' p _ => in1_any 1 B p W' (cell_below h' hB)))
  have HV := hid hv
  obtain ⟨a, cap, rfl, hn⟩ := hv.form
  have hcap := hcv _ _ _ rfl
  have hb0 := (below_alloc w (.cells #[.int .i64 ver, .int .i64 next, .slice a ps.length cap] 24)).step (below_alloc _ (.cells #[.int .i64 0, .int .i64 0, .slice none 0 0] 24))
  clear hcv hv
  by_cases hck : checkM ver next ps = 0
  · have Hck := hid (checkM_ok hck)
    have Hm := hid (show beginM ver next base fin size sum ps = _ from by rw [beginM, if_neg (by simp [hck])])
    rw [hck] at K
    clear hck
    have HE := hid (show beginE ver next base fin size ps = if beyond base = true ∨ beyond fin = true ∨ beyond size = true ∨ fin ≤ base then 1 else if ps.any (stIs 1) = true then 211 else if base < (spanP ps).2 then 71 else if ps.length = 256 ∨ ver = 1099511627776 ∨ next = 1099511627776 then 2 else 0 from rfl)
    obtain ⟨s2, hs2⟩ : ∃ s2, s2 = (spanP ps).2 := ⟨_, rfl⟩
    obtain ⟨s1, hs1⟩ : ∃ s1, s1 = (spanP ps).1 := ⟨_, rfl⟩
    rw [← hs1, ← hs2] at SP
    rw [← hs2] at HE
    clear hs1 hs2
    go_enter Tryz.func28, Tryz.ntmps28
    go_wp2_with fail
    refine (K.out _ hb0).mono ?_
    rintro e w1 ⟨rfl, hb1⟩
    have hM1 : w1.heap[w.heap.size]? = some (.cells #[.int .i64 ver, .int .i64 next, .slice a ps.length cap] 24 (0, 0)) := blk_below (blk_below (heap_alloc_new w _) (below_alloc _ _)) hb1
    have hR1 : w1.heap[w.heap.size + 1]? = some (.cells #[.int .i64 0, .int .i64 0, .slice none 0 0] 24 (0, 0)) := blk_new hb1 (by simp)
    have hbw1 := hb0.step hb1
    have hs1 : w.heap.size + 2 ≤ w1.heap.size := by have := hb1.size; simpa using this
    obtain ⟨m0, m1, m2, mf⟩ := row3 hM1
    clear hb1 hb0 K
    go_wp2_with fail
    refine (SP.out _ hbw1).mono ?_
    rintro e w2 ⟨rfl, hb2⟩
    have hM2 := blk_below hM1 hb2
    have hR2 := blk_below hR1 hb2
    have hbw2 := hbw1.step hb2
    have hs2 : w.heap.size + 2 ≤ w2.heap.size := Nat.le_trans hs1 hb2.size
    clear hb2 hM1 hR1 hbw1 hs1 m0 m1 m2 mf SP
    obtain ⟨m0, m1, m2, mf⟩ := row3 hM2
    cases hb1 : beyond base with
    | true =>
      have HE2 := hid (show beginE ver next base fin size ps = 1 by rw [HE.out]; simp [hb1])
      rw [HE2.out] at Hm
      have Hm := hid (show beginM ver next base fin size sum ps = ((0, 0, []), 0, 1) by rw [Hm.out]; rfl)
      clear HE HE2
      have B1 := hid hb1
      have B2 := B1
      have B3 := B1
      clear hb1
      clear CN
      go_wp2_with fail
      refine (beyond_any _ _ _ B1.out).mono ?_
      rintro e w3 ⟨rfl, hw3⟩
      subst w3
      obtain ⟨r0, r1, r2, rf⟩ := row3 hR2
      go_wp2_with fail
      exact bodyPost_ret (v := .tuple #[.agg #[.int .i64 0, .int .i64 0, .slice none 0 0], .int .i64 0, .int .i64 1]) (by simp [results, Tryz.results28, go_sem, r0, r1, r2]) rfl ⟨_, by rw [Hm.out], by rw [Hm.out]; exact OwnPcs.nil _ _, below_setCell3 hbw2 (by omega) _ _ _⟩

    | false =>
      cases hb2 : beyond fin with
      | true =>
        have HE2 := hid (show beginE ver next base fin size ps = 1 by rw [HE.out]; simp [hb2])
        rw [HE2.out] at Hm
        have Hm := hid (show beginM ver next base fin size sum ps = ((0, 0, []), 0, 1) by rw [Hm.out]; rfl)
        clear HE HE2
        have B1 := hid hb1
        have B2 := hid hb2
        have B3 := B1
        clear hb1 hb2
        clear CN
        go_wp2_with fail
        refine (beyond_any _ _ _ B1.out).mono ?_
        rintro e w3 ⟨rfl, hw3⟩
        subst w3
        go_wp2_with fail
        refine (beyond_any _ _ _ B2.out).mono ?_
        rintro e w3 ⟨rfl, hw3⟩
        subst w3
        obtain ⟨r0, r1, r2, rf⟩ := row3 hR2
        go_wp2_with fail
        exact bodyPost_ret (v := .tuple #[.agg #[.int .i64 0, .int .i64 0, .slice none 0 0], .int .i64 0, .int .i64 1]) (by simp [results, Tryz.results28, go_sem, r0, r1, r2]) rfl ⟨_, by rw [Hm.out], by rw [Hm.out]; exact OwnPcs.nil _ _, below_setCell3 hbw2 (by omega) _ _ _⟩

      | false =>
        cases hb3 : beyond size with
        | true =>
          have HE2 := hid (show beginE ver next base fin size ps = 1 by rw [HE.out]; simp [hb3])
          rw [HE2.out] at Hm
          have Hm := hid (show beginM ver next base fin size sum ps = ((0, 0, []), 0, 1) by rw [Hm.out]; rfl)
          clear HE HE2
          have B1 := hid hb1
          have B2 := hid hb2
          have B3 := hid hb3
          clear hb1 hb2 hb3
          clear CN
          go_wp2_with fail
          refine (beyond_any _ _ _ B1.out).mono ?_
          rintro e w3 ⟨rfl, hw3⟩
          subst w3
          go_wp2_with fail
          refine (beyond_any _ _ _ B2.out).mono ?_
          rintro e w3 ⟨rfl, hw3⟩
          subst w3
          go_wp2_with fail
          refine (beyond_any _ _ _ B3.out).mono ?_
          rintro e w3 ⟨rfl, hw3⟩
          subst w3
          obtain ⟨r0, r1, r2, rf⟩ := row3 hR2
          go_wp2_with fail
          exact bodyPost_ret (v := .tuple #[.agg #[.int .i64 0, .int .i64 0, .slice none 0 0], .int .i64 0, .int .i64 1]) (by simp [results, Tryz.results28, go_sem, r0, r1, r2]) rfl ⟨_, by rw [Hm.out], by rw [Hm.out]; exact OwnPcs.nil _ _, below_setCell3 hbw2 (by omega) _ _ _⟩

        | false =>
          by_cases hge : fin ≤ base
          · have HE2 := hid (show beginE ver next base fin size ps = 1 by rw [HE.out]; simp [hge])
            rw [HE2.out] at Hm
            have Hm := hid (show beginM ver next base fin size sum ps = ((0, 0, []), 0, 1) by rw [Hm.out]; rfl)
            clear HE HE2
            have B1 := hid hb1
            have B2 := hid hb2
            have B3 := hid hb3
            clear hb1 hb2 hb3
            clear CN
            go_wp2_with fail
            refine (beyond_any _ _ _ B1.out).mono ?_
            rintro e w3 ⟨rfl, hw3⟩
            subst w3
            go_wp2_with fail
            refine (beyond_any _ _ _ B2.out).mono ?_
            rintro e w3 ⟨rfl, hw3⟩
            subst w3
            go_wp2_with fail
            refine (beyond_any _ _ _ B3.out).mono ?_
            rintro e w3 ⟨rfl, hw3⟩
            subst w3
            obtain ⟨r0, r1, r2, rf⟩ := row3 hR2
            go_wp2_with fail
            exact bodyPost_ret (v := .tuple #[.agg #[.int .i64 0, .int .i64 0, .slice none 0 0], .int .i64 0, .int .i64 1]) (by simp [results, Tryz.results28, go_sem, r0, r1, r2]) rfl ⟨_, by rw [Hm.out], by rw [Hm.out]; exact OwnPcs.nil _ _, below_setCell3 hbw2 (by omega) _ _ _⟩

          have hge' : base < fin := by omega
          cases hbz : ps.any (stIs 1) with
          | true =>
            rw [hbz] at CN
            have HE2 := hid (show beginE ver next base fin size ps = 211 by rw [HE.out]; simp [hb1, hb2, hb3, hge, hbz])
            rw [HE2.out] at Hm
            have Hm := hid (show beginM ver next base fin size sum ps = ((0, 0, []), 0, 211) by rw [Hm.out]; rfl)
            clear HE HE2
            have B1 := hid hb1
            have B2 := hid hb2
            have B3 := hid hb3
            clear hb1 hb2 hb3
            clear hbz
            go_wp2_with fail
            refine (beyond_any _ _ _ B1.out).mono ?_
            rintro e w3 ⟨rfl, hw3⟩
            subst w3
            go_wp2_with fail
            refine (beyond_any _ _ _ B2.out).mono ?_
            rintro e w3 ⟨rfl, hw3⟩
            subst w3
            go_wp2_with fail
            refine (beyond_any _ _ _ B3.out).mono ?_
            rintro e w3 ⟨rfl, hw3⟩
            subst w3
            go_wp2_with fail
            go_region_held3 (fun W => W.cell? ⟨w.heap.size, 2, none⟩ = some (.slice a ps.length cap)) (first | assumption | go_keep)
              (first
                | (go_at_call 67; refine (in_fn_any 1 _).mono ?_; rintro e w5 ⟨rfl, hb5, hc5, hs5⟩; have hB5 : Below w2.heap.size w2 w5 := (Below.refl _ _).drew.step hb5; have HS5 := cell_below hB5 m2)
                | (go_at_call 44; refine (CN.out _ _ (hbw2.step hB5) hc5).mono ?_; rintro e w6 ⟨rfl, hb6⟩; have hB6 : Below w2.heap.size w2 w6 := hB5.step hb6; have HS6 := cell_below hB6 m2))
            all_goals
              have hM2 := blk_below hM2 hB6
              have hR2 := blk_below hR2 hB6
              have hbw2 := hbw2.step hB6
              have hs2 : w.heap.size + 2 ≤ w6.heap.size := Nat.le_trans hs2 hB6.size
              clear hB6 hb6 hB5 hb5 hc5 hs5 HS5 HS6 m0 m1 m2 mf CN
              obtain ⟨m0, m1, m2, mf⟩ := row3 hM2
              obtain ⟨r0, r1, r2, rf⟩ := row3 hR2
              go_wp2_with fail
              exact bodyPost_ret (v := .tuple #[.agg #[.int .i64 0, .int .i64 0, .slice none 0 0], .int .i64 0, .int .i64 211]) (by simp [results, Tryz.results28, go_sem, r0, r1, r2]) rfl ⟨_, by rw [Hm.out], by rw [Hm.out]; exact OwnPcs.nil _ _, below_setCell3 hbw2 (by omega) _ _ _⟩

          | false =>
            rw [hbz] at CN
            by_cases hor : base < s2
            · have HE2 := hid (show beginE ver next base fin size ps = 71 by rw [HE.out]; simp [hb1, hb2, hb3, hge, hbz, hor])
              rw [HE2.out] at Hm
              have Hm := hid (show beginM ver next base fin size sum ps = ((0, 0, []), 0, 71) by rw [Hm.out]; rfl)
              clear HE HE2
              have B1 := hid hb1
              have B2 := hid hb2
              have B3 := hid hb3
              clear hb1 hb2 hb3
              clear hbz
              go_wp2_with fail
              refine (beyond_any _ _ _ B1.out).mono ?_
              rintro e w3 ⟨rfl, hw3⟩
              subst w3
              go_wp2_with fail
              refine (beyond_any _ _ _ B2.out).mono ?_
              rintro e w3 ⟨rfl, hw3⟩
              subst w3
              go_wp2_with fail
              refine (beyond_any _ _ _ B3.out).mono ?_
              rintro e w3 ⟨rfl, hw3⟩
              subst w3
              go_wp2_with fail
              go_region_held3 (fun W => W.cell? ⟨w.heap.size, 2, none⟩ = some (.slice a ps.length cap)) (first | assumption | go_keep)
                (first
                  | (go_at_call 67; refine (in_fn_any 1 _).mono ?_; rintro e w5 ⟨rfl, hb5, hc5, hs5⟩; have hB5 : Below w2.heap.size w2 w5 := (Below.refl _ _).drew.step hb5; have HS5 := cell_below hB5 m2)
                  | (go_at_call 44; refine (CN.out _ _ (hbw2.step hB5) hc5).mono ?_; rintro e w6 ⟨rfl, hb6⟩; have hB6 : Below w2.heap.size w2 w6 := hB5.step hb6; have HS6 := cell_below hB6 m2))
              all_goals
                have hM2 := blk_below hM2 hB6
                have hR2 := blk_below hR2 hB6
                have hbw2 := hbw2.step hB6
                have hs2 : w.heap.size + 2 ≤ w6.heap.size := Nat.le_trans hs2 hB6.size
                clear hB6 hb6 hB5 hb5 hc5 hs5 HS5 HS6 m0 m1 m2 mf CN
                obtain ⟨m0, m1, m2, mf⟩ := row3 hM2
                obtain ⟨r0, r1, r2, rf⟩ := row3 hR2
                go_wp2_with fail
                exact bodyPost_ret (v := .tuple #[.agg #[.int .i64 0, .int .i64 0, .slice none 0 0], .int .i64 0, .int .i64 71]) (by simp [results, Tryz.results28, go_sem, r0, r1, r2]) rfl ⟨_, by rw [Hm.out], by rw [Hm.out]; exact OwnPcs.nil _ _, below_setCell3 hbw2 (by omega) _ _ _⟩

            by_cases hf1 : ps.length = 256
            · have HE2 := hid (show beginE ver next base fin size ps = 2 by rw [HE.out]; simp [hb1, hb2, hb3, hge, hbz, hor, hf1])
              rw [HE2.out] at Hm
              have Hm := hid (show beginM ver next base fin size sum ps = ((0, 0, []), 0, 2) by rw [Hm.out]; rfl)
              clear HE HE2
              have B1 := hid hb1
              have B2 := hid hb2
              have B3 := hid hb3
              clear hb1 hb2 hb3
              clear hbz
              have hl1 : ((ps.length : Int) == 256) = true := by simp [hf1]
              have Hf1 := hid hf1
              clear hf1
              go_wp2_with fail
              refine (beyond_any _ _ _ B1.out).mono ?_
              rintro e w3 ⟨rfl, hw3⟩
              subst w3
              go_wp2_with fail
              refine (beyond_any _ _ _ B2.out).mono ?_
              rintro e w3 ⟨rfl, hw3⟩
              subst w3
              go_wp2_with fail
              refine (beyond_any _ _ _ B3.out).mono ?_
              rintro e w3 ⟨rfl, hw3⟩
              subst w3
              go_wp2_with fail
              go_region_held3 (fun W => W.cell? ⟨w.heap.size, 2, none⟩ = some (.slice a ps.length cap)) (first | assumption | go_keep)
                (first
                  | (go_at_call 67; refine (in_fn_any 1 _).mono ?_; rintro e w5 ⟨rfl, hb5, hc5, hs5⟩; have hB5 : Below w2.heap.size w2 w5 := (Below.refl _ _).drew.step hb5; have HS5 := cell_below hB5 m2)
                  | (go_at_call 44; refine (CN.out _ _ (hbw2.step hB5) hc5).mono ?_; rintro e w6 ⟨rfl, hb6⟩; have hB6 : Below w2.heap.size w2 w6 := hB5.step hb6; have HS6 := cell_below hB6 m2))
              all_goals
                have hM2 := blk_below hM2 hB6
                have hR2 := blk_below hR2 hB6
                have hbw2 := hbw2.step hB6
                have hs2 : w.heap.size + 2 ≤ w6.heap.size := Nat.le_trans hs2 hB6.size
                clear hB6 hb6 hB5 hb5 hc5 hs5 HS5 HS6 m0 m1 m2 mf CN
                obtain ⟨m0, m1, m2, mf⟩ := row3 hM2
                obtain ⟨r0, r1, r2, rf⟩ := row3 hR2
                go_wp2_with fail
                exact bodyPost_ret (v := .tuple #[.agg #[.int .i64 0, .int .i64 0, .slice none 0 0], .int .i64 0, .int .i64 2]) (by simp [results, Tryz.results28, go_sem, r0, r1, r2]) rfl ⟨_, by rw [Hm.out], by rw [Hm.out]; exact OwnPcs.nil _ _, below_setCell3 hbw2 (by omega) _ _ _⟩

            have hl1 : ((ps.length : Int) == 256) = false := by rw [beq_eq_false_iff_ne]; omega
            by_cases hf2 : ver = 1099511627776
            · have HE2 := hid (show beginE ver next base fin size ps = 2 by rw [HE.out]; simp [hb1, hb2, hb3, hge, hbz, hor, hf2])
              rw [HE2.out] at Hm
              have Hm := hid (show beginM ver next base fin size sum ps = ((0, 0, []), 0, 2) by rw [Hm.out]; rfl)
              clear HE HE2
              have B1 := hid hb1
              have B2 := hid hb2
              have B3 := hid hb3
              clear hb1 hb2 hb3
              clear hbz
              have hl2 : (ver == 1099511627776) = true := by simp [hf2]
              clear hf2 hf1
              go_wp2_with fail
              refine (beyond_any _ _ _ B1.out).mono ?_
              rintro e w3 ⟨rfl, hw3⟩
              subst w3
              go_wp2_with fail
              refine (beyond_any _ _ _ B2.out).mono ?_
              rintro e w3 ⟨rfl, hw3⟩
              subst w3
              go_wp2_with fail
              refine (beyond_any _ _ _ B3.out).mono ?_
              rintro e w3 ⟨rfl, hw3⟩
              subst w3
              go_wp2_with fail
              go_region_held3 (fun W => W.cell? ⟨w.heap.size, 2, none⟩ = some (.slice a ps.length cap)) (first | assumption | go_keep)
                (first
                  | (go_at_call 67; refine (in_fn_any 1 _).mono ?_; rintro e w5 ⟨rfl, hb5, hc5, hs5⟩; have hB5 : Below w2.heap.size w2 w5 := (Below.refl _ _).drew.step hb5; have HS5 := cell_below hB5 m2)
                  | (go_at_call 44; refine (CN.out _ _ (hbw2.step hB5) hc5).mono ?_; rintro e w6 ⟨rfl, hb6⟩; have hB6 : Below w2.heap.size w2 w6 := hB5.step hb6; have HS6 := cell_below hB6 m2))
              all_goals
                have hM2 := blk_below hM2 hB6
                have hR2 := blk_below hR2 hB6
                have hbw2 := hbw2.step hB6
                have hs2 : w.heap.size + 2 ≤ w6.heap.size := Nat.le_trans hs2 hB6.size
                clear hB6 hb6 hB5 hb5 hc5 hs5 HS5 HS6 m0 m1 m2 mf CN
                obtain ⟨m0, m1, m2, mf⟩ := row3 hM2
                obtain ⟨r0, r1, r2, rf⟩ := row3 hR2
                go_wp2_with fail
                exact bodyPost_ret (v := .tuple #[.agg #[.int .i64 0, .int .i64 0, .slice none 0 0], .int .i64 0, .int .i64 2]) (by simp [results, Tryz.results28, go_sem, r0, r1, r2]) rfl ⟨_, by rw [Hm.out], by rw [Hm.out]; exact OwnPcs.nil _ _, below_setCell3 hbw2 (by omega) _ _ _⟩

            have hl2 : (ver == 1099511627776) = false := by rw [beq_eq_false_iff_ne]; exact hf2
            by_cases hf3 : next = 1099511627776
            · have HE2 := hid (show beginE ver next base fin size ps = 2 by rw [HE.out]; simp [hb1, hb2, hb3, hge, hbz, hor, hf3])
              rw [HE2.out] at Hm
              have Hm := hid (show beginM ver next base fin size sum ps = ((0, 0, []), 0, 2) by rw [Hm.out]; rfl)
              clear HE HE2
              have B1 := hid hb1
              have B2 := hid hb2
              have B3 := hid hb3
              clear hb1 hb2 hb3
              clear hbz
              have hl3 : (next == 1099511627776) = true := by simp [hf3]
              clear hf3 hf2 hf1
              go_wp2_with fail
              refine (beyond_any _ _ _ B1.out).mono ?_
              rintro e w3 ⟨rfl, hw3⟩
              subst w3
              go_wp2_with fail
              refine (beyond_any _ _ _ B2.out).mono ?_
              rintro e w3 ⟨rfl, hw3⟩
              subst w3
              go_wp2_with fail
              refine (beyond_any _ _ _ B3.out).mono ?_
              rintro e w3 ⟨rfl, hw3⟩
              subst w3
              go_wp2_with fail
              go_region_held3 (fun W => W.cell? ⟨w.heap.size, 2, none⟩ = some (.slice a ps.length cap)) (first | assumption | go_keep)
                (first
                  | (go_at_call 67; refine (in_fn_any 1 _).mono ?_; rintro e w5 ⟨rfl, hb5, hc5, hs5⟩; have hB5 : Below w2.heap.size w2 w5 := (Below.refl _ _).drew.step hb5; have HS5 := cell_below hB5 m2)
                  | (go_at_call 44; refine (CN.out _ _ (hbw2.step hB5) hc5).mono ?_; rintro e w6 ⟨rfl, hb6⟩; have hB6 : Below w2.heap.size w2 w6 := hB5.step hb6; have HS6 := cell_below hB6 m2))
              all_goals
                have hM2 := blk_below hM2 hB6
                have hR2 := blk_below hR2 hB6
                have hbw2 := hbw2.step hB6
                have hs2 : w.heap.size + 2 ≤ w6.heap.size := Nat.le_trans hs2 hB6.size
                clear hB6 hb6 hB5 hb5 hc5 hs5 HS5 HS6 m0 m1 m2 mf CN
                obtain ⟨m0, m1, m2, mf⟩ := row3 hM2
                obtain ⟨r0, r1, r2, rf⟩ := row3 hR2
                go_wp2_with fail
                exact bodyPost_ret (v := .tuple #[.agg #[.int .i64 0, .int .i64 0, .slice none 0 0], .int .i64 0, .int .i64 2]) (by simp [results, Tryz.results28, go_sem, r0, r1, r2]) rfl ⟨_, by rw [Hm.out], by rw [Hm.out]; exact OwnPcs.nil _ _, below_setCell3 hbw2 (by omega) _ _ _⟩

            have hl3 : (next == 1099511627776) = false := by rw [beq_eq_false_iff_ne]; exact hf3
            have HE2 := hid (show beginE ver next base fin size ps = 0 by rw [HE.out]; simp [hb1, hb2, hb3, hge, hbz, hor, hf1, hf2, hf3])
            rw [HE2.out] at Hm
            have Hm := hid (show beginM ver next base fin size sum ps = ((ver + 1, next + 1, ps ++ [⟨next, base, fin, size, sum, 1⟩]), next, 0) by rw [Hm.out]; rfl)
            clear HE HE2
            have B1 := hid hb1
            have B2 := hid hb2
            have B3 := hid hb3
            clear hb1 hb2 hb3
            clear hbz hf1 hf2 hf3
            go_wp2_with fail
            refine (beyond_any _ _ _ B1.out).mono ?_
            rintro e w3 ⟨rfl, hw3⟩
            subst w3
            go_wp2_with fail
            refine (beyond_any _ _ _ B2.out).mono ?_
            rintro e w3 ⟨rfl, hw3⟩
            subst w3
            go_wp2_with fail
            refine (beyond_any _ _ _ B3.out).mono ?_
            rintro e w3 ⟨rfl, hw3⟩
            subst w3
            go_wp2_with fail
            go_region_held3 (fun W => W.cell? ⟨w.heap.size, 2, none⟩ = some (.slice a ps.length cap)) (first | assumption | go_keep)
              (first
                | (go_at_call 67; refine (in_fn_any 1 _).mono ?_; rintro e w5 ⟨rfl, hb5, hc5, hs5⟩; have hB5 : Below w2.heap.size w2 w5 := (Below.refl _ _).drew.step hb5; have HS5 := cell_below hB5 m2)
                | (go_at_call 44; refine (CN.out _ _ (hbw2.step hB5) hc5).mono ?_; rintro e w6 ⟨rfl, hb6⟩; have hB6 : Below w2.heap.size w2 w6 := hB5.step hb6; have HS6 := cell_below hB6 m2))
            all_goals
              have hM2 := blk_below hM2 hB6
              have hR2 := blk_below hR2 hB6
              have hbw2 := hbw2.step hB6
              have hs2 : w.heap.size + 2 ≤ w6.heap.size := Nat.le_trans hs2 hB6.size
              clear hB6 hb6 hB5 hb5 hc5 hs5 HS5 HS6 m0 m1 m2 mf CN
              obtain ⟨m0, m1, m2, mf⟩ := row3 hM2
              have hv1 : 0 ≤ ver ∧ ver ≤ 1099511627776 := Hck.out.1
              have hv2 : 0 ≤ next ∧ next ≤ 1099511627776 := Hck.out.2.1
              obtain ⟨hv1a, hv1b⟩ := hv1
              obtain ⟨hv2a, hv2b⟩ := hv2
              obtain ⟨i0, hi', hz, hsize, hby⟩ := info_parts Tryz.inf29
              have HVW := hid (fun W (h : Below w6.heap.size w6 W) => HV.out.mono (hbw2.step h))
              have H1 := hid (show a = none → ps.length = 0 ∧ ps.length = 0 by
                intro ha
                subst ha
                rcases PcsAt.cells HV.out with h0 | ⟨b, o', hab, _⟩
                · rw [h0]; exact ⟨rfl, rfl⟩
                · cases hab)
              have H3 := hid (fun W (h : Below w6.heap.size w6 W) => show ∀ b, a = some b → ∀ j u, (pcCells ps)[j]? = some u → W.cell? (b.add j) = some u by
                intro b hab j u hj
                rcases PcsAt.cells (HVW.out W h) with h0 | ⟨b', o', hab', hc⟩
                · rw [h0] at hj; simp [pcCells] at hj
                · rw [hab] at hab'
                  cases hab'
                  rw [addr_add]
                  exact hc j u hj)
              have HS := hid (fun W (h : Below w6.heap.size w6 W) => show W.cell? ⟨w.heap.size, 1, none⟩ = some (.int .i64 next) ∧ W.cell? ⟨w.heap.size, 2, none⟩ = some (.slice a ps.length cap) from ⟨cell_below h m1, cell_below h m2⟩)
              obtain ⟨X, hX⟩ : ∃ X : Obj, X = .cells #[.int .i64 next, .int .i64 base, .int .i64 fin, .int .i64 size, .int .u32 sum, .int .i64 1] 29 (0, 0) := ⟨_, rfl⟩
              have HX := hid hX
              clear hX
              go_wp2_with fail
              go_region_held3 (fun W => W.cell? ⟨w.heap.size, 1, none⟩ = some (.int .i64 next) ∧ W.cell? ⟨w.heap.size, 2, none⟩ = some (.slice a ps.length cap)) (first | assumption | go_keep)
                (first
                  | (go_at_call 68; refine (clip_any a ps.length cap hcap _).mono ?_; rintro e w7 ⟨rfl, hw7⟩; subst w7)
                  | (refine step_append_grows rfl (.tmp 74) (.tmp 82) 22 rfl 29 i0 _ 6 48 Tryz.underlying22 hi' hz hsize hby rfl (by decide) a ps.length ps.length (pcCells ps) rfl H1.out (pcCells_length ps) (H3.out _ (below_alloc w6 _).drew)
                      ⟨w6.heap.size, 0, none⟩ 1 1 (Piece.cells ⟨next, base, fin, size, sum, 1⟩) rfl rfl (World.news_of_block (cs := #[.int .i64 next, .int .i64 base, .int .i64 fin, .int .i64 size, .int .u32 sum, .int .i64 1]) (t := 29) (fr := (0, 0)) (heap_alloc_new w6 _)) (Piece.cells_one _) (by omega) (by simp only [maxLen]; omega) (by omega) ?_
                     intro v' w7 hown hgr
                     have hB7 : Below w6.heap.size w6 w7 := ((below_alloc w6 _).drew).trans (below_grown hgr (by simp) (fun k hk => by cases hk))
                     have HS7 := HS.out _ hB7))
              all_goals
                have hM7 := blk_below hM2 hB7
                have hR7 := blk_below hR2 hB7
                have hbw7 := hbw2.step hB7
                have hO : OwnPcs w7 w6.heap.size v' (ps ++ [⟨next, base, fin, size, sum, 1⟩]) := by
                  unfold OwnPcs
                  rw [pcCells_append, List.length_append]
                  exact ownsRow_mono hown (by simp)
                obtain ⟨qs, hqs⟩ : ∃ qs, qs = ps ++ [⟨next, base, fin, size, sum, 1⟩] := ⟨_, rfl⟩
                rw [← hqs] at hO Hm
                clear hqs hown hgr HS7 H1 H3 HS HVW m0 m1 m2 mf
                obtain ⟨a2, cap2, rfl⟩ := OwnPcs.form hO
                obtain ⟨ql, hql⟩ : ∃ ql, ql = qs.length := ⟨_, rfl⟩
                rw [← hql] at hO ⊢
                have HO := hid hO
                clear hql hO hn hcap
                obtain ⟨m0, m1, m2, mf⟩ := row3 hM7
                obtain ⟨r0, r1, r2, rf⟩ := row3 hR7
                go_wp2_with fail
                go_region
                go_wp2
                have HB8 := hid (below_setCell3 hbw7 (R := w.heap.size + 1) (by omega) (.int .i64 (ver + 1)) (.int .i64 (next + 1)) (.slice a2 ql cap2)).drew
                have HO8 := hid (OwnPcs.base (OwnPcs.below (OwnPcs.setCell3 HO.out (R := w.heap.size + 1) (x := .int .i64 (ver + 1)) (y := .int .i64 (next + 1)) (z := .slice a2 ql cap2) (by omega)) (Below.refl _ _).drew) (show w.heap.size ≤ w6.heap.size by omega))
                exact bodyPost_ret (v := .tuple #[.agg #[.int .i64 (ver + 1), .int .i64 (next + 1), .slice a2 ql cap2], .int .i64 next, .int .i64 0]) (by simp [results, Tryz.results28, go_sem, r0, r1, r2]) rfl ⟨_, by rw [Hm.out], by rw [Hm.out]; exact HO8.out, HB8.out⟩

  · have Hm := hid (show beginM ver next base fin size sum ps = ((0, 0, []), 0, checkM ver next ps) by rw [beginM, if_pos hck])
    have hcb : (checkM ver next ps != 0) = true := by simpa using hck
    generalize checkM ver next ps = ce at *
    clear hck HV SP CN
    go_enter Tryz.func28, Tryz.ntmps28
    go_wp2_with fail
    refine (K.out _ hb0).mono ?_
    rintro e w1 ⟨rfl, hb1⟩
    have hR : w1.heap[w.heap.size + 1]? = some (.cells #[.int .i64 0, .int .i64 0, .slice none 0 0] 24 (0, 0)) := blk_new hb1 (by simp)
    have hbw := hb0.step hb1
    obtain ⟨r0, r1, r2, rf⟩ := row3 hR
    clear hb1 hb0 K
    go_wp2_with fail
    exact bodyPost_ret (v := .tuple #[.agg #[.int .i64 0, .int .i64 0, .slice none 0 0], .int .i64 0, .int .i64 ce]) (by simp [results, Tryz.results28, go_sem, r0, r1, r2]) rfl ⟨_, by rw [Hm.out], by rw [Hm.out]; exact OwnPcs.nil _ _, below_setCell3 hbw (by omega) _ _ _⟩

end Go.Proofs.YtcpecponmaakoaaGreatDoor
