/- Walks of the program: Values. -/
import Derived.Test.YtceamgkifjmbcaaMath8
import Derived.Deep.RegionHeld3
namespace Go.Proofs.Ytceamgkifjmbcaa
open Go.RowKit Go.Wm
/-- The values at the first k of these places. -/
def valsTo (bs : List Batch) (xs : List (Int × Int)) : Nat → List Rec
  | 0 => []
  | k + 1 => match (xs[k]?).bind (recAt bs) with | some r => if r.dead = true then valsTo bs xs k else valsTo bs xs k ++ [r] | none => valsTo bs xs k
theorem valsTo_succ (bs : List Batch) (xs : List (Int × Int)) (k : Nat) (p : Int × Int) (r : Rec) (h : xs[k]? = some p) (hr : recAt bs p = some r) : valsTo bs xs (k + 1) = if r.dead = true then valsTo bs xs k else valsTo bs xs k ++ [r] := by
  simp [valsTo, h, hr]
theorem valsTo_le (bs : List Batch) (xs : List (Int × Int)) : ∀ k, (valsTo bs xs k).length ≤ k
  | 0 => by simp [valsTo]
  | k + 1 => by
    have := valsTo_le bs xs k
    rw [valsTo]
    repeat' split
    all_goals first | omega | (simp; omega)
theorem valsTo_mem (bs : List Batch) (xs : List (Int × Int)) (P : Rec → Prop) (h : ∀ p r, p ∈ xs → recAt bs p = some r → P r) : ∀ k, ∀ r ∈ valsTo bs xs k, P r
  | 0 => by simp [valsTo]
  | k + 1 => by
    have ih := valsTo_mem bs xs P h k
    intro r hr
    rw [valsTo] at hr
    split at hr
    · rename_i r' hr'
      obtain ⟨p, hp, hpr⟩ := Option.bind_eq_some_iff.1 hr'
      split at hr
      · exact ih r hr
      · rcases List.mem_append.1 hr with hr | hr
        · exact ih r hr
        · simp at hr; subst hr; exact h p _ (List.mem_of_getElem? hp) hpr
    · exact ih r hr
/-- Each of the places holds a record. -/
theorem place_rec {bs : List Batch} {l : List Gone} {to : Int} {xs : List (Int × Int)} (h : PlacesOf (lookO bs l to) xs) (p : Int × Int) (hp : p ∈ xs) :
    ∃ (i j : Nat) (x : Batch) (r : Rec), p = ((i : Int), (j : Int)) ∧ bs[i]? = some x ∧ x.recs[j]? = some r ∧ recAt bs p = some r := by
  obtain ⟨ks, _, hk, hperm⟩ := h.keys
  obtain ⟨k, hkm, rfl⟩ := List.mem_map.1 (hperm.mem_iff.1 hp)
  obtain ⟨_, _, ho, i, j, x, r, hp', hx, hr, _, _⟩ := lookO_some ((hk k).1 hkm)
  refine ⟨i, j, x, r, ?_, hx, hr, ?_⟩
  · rw [ho]; exact hp'
  · rw [ho]
    show recAt bs (lastG bs l to k) = some r
    rw [hp']; simp [recAt, hx, hr]
theorem valsTo_eq (bs : List Batch) (xs : List (Int × Int)) : ∀ k, valsTo bs xs k = ((xs.take k).filterMap (recAt bs)).filter (fun r => !r.dead)
  | 0 => by simp [valsTo]
  | k + 1 => by
    have ih := valsTo_eq bs xs k
    rw [valsTo, List.take_add_one, List.filterMap_append, List.filter_append, ← ih]
    cases hx : xs[k]? with
    | none => simp
    | some p =>
      cases hr : recAt bs p with
      | none => simp [hr]
      | some r => cases hd : r.dead <;> simp [hr, hd]
set_option maxRecDepth 100000 in
set_option maxHeartbeats 4000000 in
theorem values_any (bs : List Batch) (l : List Gone) (vb vl : Value) (to : Int) (w : World) (hb : BatchesAt w vb bs) (hl : GonesAt w vl l) (hfew : bs.length ≤ 1000) (hcnt : recCount bs ≤ 1000000) :
    Calls Try.prog 20 #[vb, vl, .int .i64 to] w
      fun e w' => ∃ u, e = .returned u ∧ OwnRecs w' w.heap.size u (valuesG bs l to) ∧ smallRecs (valuesG bs l to) ∧ Below w.heap.size w w' := by
  have C := hid (look2_any bs l vb vl to 0 0 w hb hl)
  have hcap : bs.length * 1000000 ≤ 1000000000 := Nat.mul_le_mul_right 1000000 hfew
  have HB := hid hb
  have HSm := hid (smallAt hb)
  clear hb hl
  go_enter Try.func20, Try.ntmps20
  go_wp2_with fail
  refine C.out.mono ?_
  rintro e1 w1 ⟨R, m, n, rfl, hn, hr, hm, hb1⟩
  have r5 := hr.c5
  go_wp2_with fail
  refine (mapsValues_any m w1).mono ?_
  rintro e2 w2 ⟨rfl, hw2⟩
  have hb2 : Below w1.heap.size w1 w2 := by rw [hw2]; exact below_alloc _ _
  have hm2 := hid (hm.below hb2)
  have hbox : w2.cell? ⟨w1.heap.size, 0, none⟩ = some (.map (some m)) := by rw [hw2]; simp
  have hlt : w1.heap.size < w2.heap.size := by rw [hw2]; simp
  have S := hid (sortedFunc_any w1.heap.size m n (lookO bs l to) w2 hlt hbox hm2.out (by omega))
  clear hw2 hm hbox hlt
  go_wp2_with fail
  refine S.out.mono ?_
  rintro e3 w3 ⟨v, xs, rfl, hxs, hpl, hxl, hb3⟩
  have hb13 : Below w1.heap.size w1 w3 := hb2.step hb3
  have hB3 := hb1.step hb13
  have hxe := placesOf_eq hxs
  have hxn : xs.length ≤ 1000000 := by rw [hxe]; exact Nat.le_trans (lastPlaces_le bs l to) hcnt
  have PR := hid (fun p hp => place_rec hxs p hp)
  have Fin := hid (show valsTo bs xs xs.length = valuesG bs l to by rw [valsTo_eq, List.take_length, hxe]; rfl)
  have HRS := hid (show smallRecs (valsTo bs xs xs.length) from ⟨Nat.le_trans (valsTo_le _ _ _) hxn, valsTo_mem bs xs _ (fun p r hp hr => by
    obtain ⟨i, j, x, r', rfl, hx, hrj, hr'⟩ := PR.out p hp
    rw [hr'] at hr
    cases hr
    exact (HSm.out i x hx).2 _ (List.mem_of_getElem? hrj)) _⟩)
  clear hxs hb3 hb2 hm2 S C hr r5 hb13 hxe
  rcases hpl with ⟨rfl, rfl⟩ | ⟨g, cap, rfl, hcell⟩
  · go_wp2
    refine wp_loop_once ?_
    go_wp2
    go_ret
    exact ⟨_, rfl, by rw [← Fin.out]; exact OwnRecs.nil _ _, by rw [← Fin.out]; exact HRS.out, hB3⟩
  · have Hcell := hid hcell
    clear hcell
    go_wp2
    go_loopw [9, 25] (fun u q wr => ∃ i : Nat, i ≤ xs.length ∧ q = .int .i64 i ∧ OwnRecs wr w3.heap.size u (valsTo bs xs i) ∧ Below w3.heap.size w3 wr) (fun _ q _ => xs.length - (intOf q).toNat)
    case atStart => exact ⟨0, by omega, rfl, OwnRecs.nil _ _, Below.refl _ _⟩
    case round =>
      obtain ⟨i, hi, rfl, hown, hwr⟩ := hrel
      by_cases hlt : i < xs.length
      · obtain ⟨ck1, ck2⟩ := Hcell.out i hlt
        have ck1 := cell_below hwr ck1
        have ck2 := cell_below hwr ck2
        obtain ⟨ip, jp, x, r, hp, hx, hrj, hrec⟩ := PR.out _ (List.getElem_mem hlt)
        have V := hid (valsTo_succ bs xs i _ r (List.getElem?_eq_getElem hlt) hrec)
        have hle := valsTo_le bs xs i
        rw [hp] at ck1 ck2
        simp only at ck1 ck2
        generalize valsTo bs xs i = L at *
        have hBr := hB3.step hwr
        have hxl := (List.getElem?_eq_some_iff.1 hx).1
        have hrl := (List.getElem?_eq_some_iff.1 hrj).1
        obtain ⟨ab, capb, rfl, hnb, hsb⟩ := HB.out
        obtain ⟨b', o, rfl, hxa⟩ := hsb ip hxl
        obtain ⟨sv, hxa, hxr⟩ := hxa x hx
        obtain ⟨a2, cap2, rfl, hn2, _, hs2⟩ := hxr
        obtain ⟨b2, o2, rfl, hra⟩ := hs2 jp hrl
        have x9 := (hxa.mono hBr).c9
        obtain ⟨g0, g1, g2, g3, g4⟩ := (hra r hrj).mono hBr
        clear hxa hra hs2 hsb hx hrj hp hrec
        go_wp2
        refine wp_name fun W3 hW3 => ?_
        have hB4 : Below wr.heap.size wr W3 := by rw [hW3]; exact below_alloc _ _
        have hsz3 : wr.heap.size < W3.heap.size := by rw [hW3]; simp
        have k0 : W3.cell? ⟨wr.heap.size, 0, none⟩ = some (.int .i64 (ip : Int)) := by rw [hW3]; simp
        have k1 : W3.cell? ⟨wr.heap.size, 1, none⟩ = some (.int .i64 (jp : Int)) := by rw [hW3]; simp
        have k9 := cell_below hB4 x9
        have f0 := cell_below hB4 g0
        have f1 := cell_below hB4 g1
        have f2 := cell_below hB4 g2
        have f3 := cell_below hB4 g3
        have f4 := cell_below hB4 g4
        clear hW3 x9 g0 g1 g2 g3 g4 ck1 ck2
        go_region_held3 (fun w' => w'.cell? ⟨wr.heap.size, 0, none⟩ = some (.int .i64 (ip : Int)) ∧ w'.cell? ⟨wr.heap.size, 1, none⟩ = some (.int .i64 (jp : Int)) ∧ w'.cell? ⟨b', o + ip * 10 + 9, none⟩ = some (.slice (some ⟨b2, o2, none⟩) x.recs.length cap2) ∧
            w'.cell? ⟨b2, o2 + jp * 5, none⟩ = some (.int .i64 r.off) ∧ w'.cell? ⟨b2, o2 + jp * 5 + 1, none⟩ = some (.string r.key) ∧ w'.cell? ⟨b2, o2 + jp * 5 + 2, none⟩ = some (.string r.val) ∧ w'.cell? ⟨b2, o2 + jp * 5 + 3, none⟩ = some (.bool r.dead) ∧ w'.cell? ⟨b2, o2 + jp * 5 + 4, none⟩ = some (.int .i64 r.stamp)) (first | assumption | go_keep)
          (fail)
        all_goals
          have hB5 : Below wr.heap.size wr (W3.alloc (.cells #[.int .i64 r.off, .string r.key, .string r.val, .bool r.dead, .int .i64 r.stamp] 33)).drew := (hB4.step (below_alloc W3 _)).drew
          have hd : RecAt (W3.alloc (.cells #[.int .i64 r.off, .string r.key, .string r.val, .bool r.dead, .int .i64 r.stamp] 33)).drew W3.heap.size 0 r := ⟨by simp, by simp, by simp, by simp, by simp⟩
          have hsz4 : W3.heap.size < (W3.alloc (.cells #[.int .i64 r.off, .string r.key, .string r.val, .bool r.dead, .int .i64 r.stamp] 33)).drew.heap.size := by simp
          generalize (W3.alloc (.cells #[.int .i64 r.off, .string r.key, .string r.val, .bool r.dead, .int .i64 r.stamp] 33)).drew = W4 at *
          clear k0 k1 k9 f0 f1 f2 f3 f4 hB4
          obtain ⟨d0, d1, d2, d3, d4⟩ := hd
          rcases Bool.eq_false_or_eq_true r.dead with h1 | h1
          · rw [h1] at V
            simp only [if_true] at V
            have V := hid V.out
            go_wp2
            go_roundw
            case rel => exact ⟨i + 1, by omega, by go_num, by rw [V.out]; exact hown.below hB5, hwr.step hB5⟩
            case measure => simp [intOf]; omega
          · rw [h1] at V
            simp only [Bool.false_eq_true, if_false] at V
            have H1 := hid h1
            go_wp2_with (at_builtin; refine wpList_append_rec rfl (.tmp 42) (.tmp 44) rfl Try.underlying26 Try.inf33 w3.heap.size _ L r rfl ((hown.below hB5).below (below_alloc _ _)) W4.heap.size rfl ⟨by simp, by simp, by simp, by simp [H1.out], by simp⟩ (by omega) ?_ ?_)
            · have := hwr.size; simp; omega
            intro v' w' hown' hbel _
            go_wp2
            go_roundw
            case rel => exact ⟨i + 1, by omega, by go_num, by rw [V.out]; exact hown', ((hwr.step hB5).step (below_alloc _ _)).trans hbel⟩
            case measure => simp [intOf]; omega
      · obtain rfl : i = xs.length := by omega
        go_wp2
        go_ret
        rw [← Fin.out]
        exact ⟨_, rfl, OwnRecs.base hown hB3.size, HRS.out, hB3.step hwr⟩
end Go.Proofs.Ytceamgkifjmbcaa
