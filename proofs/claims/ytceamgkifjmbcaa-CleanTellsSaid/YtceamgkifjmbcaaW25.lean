/- Walks of the library at places: a map's places, sorted. -/
import Derived.Test.YtceamgkifjmbcaaW24
import Derived.Shelf.SlSortCmp.NoneTotal
namespace Go.Proofs.Ytceamgkifjmbcaa
open Go.RowKit Go.Maps Go.Shelf Go.Wm
open Go.Sort hiding Below
/-- One place comes ahead of another. -/
def ltP (x y : Int × Int) : Bool := decide (x.1 < y.1) || (decide (x.1 = y.1) && decide (x.2 < y.2))
theorem cmpI_lt {a b : Int} (h : a < b) : cmpI a b = -1 := by simp [cmpI, h]
theorem cmpI_eq (a : Int) : cmpI a a = 0 := by simp [cmpI]
theorem cmpI_gt {a b : Int} (h : b < a) : cmpI a b = 1 := by
  have : ¬ a < b := by omega
  simp [cmpI, h, this]
theorem ltOf_eq : ltOf cmpP = ltP := by
  funext x y
  obtain ⟨x1, x2⟩ := x
  obtain ⟨y1, y2⟩ := y
  show decide (orI (cmpI x1 y1) (cmpI x2 y2) < 0) = (decide (x1 < y1) || (decide (x1 = y1) && decide (x2 < y2)))
  rcases Int.lt_trichotomy x1 y1 with h | h | h
  · rw [cmpI_lt h]; simp [orI, h]
  · subst h
    rw [cmpI_eq]
    rcases Int.lt_trichotomy x2 y2 with h | h | h
    · rw [cmpI_lt h]; simp [orI, h]
    · subst h; rw [cmpI_eq]; simp [orI]
    · have : ¬ x2 < y2 := by omega
      rw [cmpI_gt h]; simp [orI, this]
  · have h1 : ¬ x1 < y1 := by omega
    have h2 : ¬ x1 = y1 := by omega
    rw [cmpI_gt h]; simp [orI, h1, h2]
theorem ltP_iff (x y : Int × Int) : ltP x y = true ↔ x.1 < y.1 ∨ (x.1 = y.1 ∧ x.2 < y.2) := by simp [ltP]
theorem ltP_false (x y : Int × Int) : ltP x y = false ↔ ¬ (x.1 < y.1 ∨ (x.1 = y.1 ∧ x.2 < y.2)) := by rw [← ltP_iff]; simp
theorem swoP : SWO ltP where
  irrefl := fun x => by rw [ltP_false]; omega
  trans := fun x y z h1 h2 => by rw [ltP_iff] at *; omega
  ntrans := fun x y z h1 h2 => by rw [ltP_false] at *; omega
/-- A slice value that reads as these places. -/
def PlacesAt (w : World) (v : Value) (xs : List (Int × Int)) : Prop :=
  (v = .slice none 0 0 ∧ xs = []) ∨ ∃ g cap, v = .slice (some ⟨g, 0, none⟩) xs.length cap ∧ ∀ i (hi : i < xs.length), w.cell? ⟨g, i * 2, none⟩ = some (.int .i64 xs[i].1) ∧ w.cell? ⟨g, i * 2 + 1, none⟩ = some (.int .i64 xs[i].2)
theorem PlacesAt.mono {w w' : World} {v : Value} {xs : List (Int × Int)} (h : PlacesAt w v xs) (hb : Below w.heap.size w w') : PlacesAt w' v xs := by
  rcases h with h | ⟨g, cap, h1, h2⟩
  · exact .inl h
  · exact .inr ⟨g, cap, h1, fun i hi => ⟨cell_below hb (h2 i hi).1, cell_below hb (h2 i hi).2⟩⟩
theorem below_sorted {w : World} {g n : Nat} {os : Array Obj} {d : Array (Int × Int)} {base : Nat} (hg : base ≤ g) (hb : base ≤ w.heap.size) : Below base w (sortWorldK plCells 2 w g 0 n d os) := by
  refine ⟨rfl, rfl, rfl, by simp [sortWorldK, putRowK, putRow, mapBlock, grow], fun k hk => ?_⟩
  unfold sortWorldK putRowK
  rw [heap_grow_old _ _ (by simp [putRow, mapBlock]; omega)]
  have : g ≠ k := by omega
  simp [putRow, mapBlock, Array.getElem?_modify, this]
/-- Each key's place, in their order. -/
structure PlacesOf (F : ByteArray → Option (Int × Int)) (xs : List (Int × Int)) : Prop where
  rising : xs.Pairwise (fun a b => ltP b a = false)
  keys : ∃ ks : List ByteArray, ks.Nodup ∧ (∀ k, k ∈ ks ↔ (F k).isSome = true) ∧ xs.Perm (ks.map fun k => (F k).getD (0, 0))
theorem placesOf_values {w : World} {m n : Nat} {F : ByteArray → Option (Int × Int)} {D : DataW Unit} (h1 : w.ownsMap Try.prog 9 placeR m n D) (h2 : ∀ key : ByteArray, D.atKey (.string key.data.toList) (pd (0, 0)) = pd ((F key).getD (0, 0)))
    (h3 : ∀ key : ByteArray, has D (.string key.data.toList) = (F key).isSome) {xs : List (Int × Int)} (hv : ValuesOf D xs) :
    ∃ ks : List ByteArray, ks.Nodup ∧ (∀ k, k ∈ ks ↔ (F k).isSome = true) ∧ xs.Perm (ks.map fun k => (F k).getD (0, 0)) := by
  obtain ⟨ps, ⟨hp, hat⟩, rfl⟩ := hv
  obtain ⟨hnd, hmem⟩ := mem_strKeys h1
  refine ⟨ps.map fun p => bytesOfL p.1, ?_, fun k => ?_, ?_⟩
  · have hn1 : (ps.map (·.1)).Nodup := hp.nodup_iff.2 hnd
    rw [List.nodup_iff_pairwise_ne, List.pairwise_map] at hn1 ⊢
    exact hn1.imp fun {a b} h e => h (bytesOfL_inj e)
  · rw [List.mem_map, ← h3, ← hmem, ← hp.mem_iff, List.mem_map]
    constructor
    · rintro ⟨p, hp', rfl⟩
      exact ⟨p, hp', (data_bytesOfL _).symm⟩
    · rintro ⟨p, hp', e⟩
      exact ⟨p, hp', by rw [e]; exact bytesOfL_data k⟩
  · rw [List.map_map]
    refine List.Perm.of_eq (List.map_congr_left fun p hp' => ?_)
    have := hat p hp' (pd (0, 0))
    have e := h2 (bytesOfL p.1)
    rw [data_bytesOfL] at e
    rw [e] at this
    exact (pd_inj this).symm
set_option maxHeartbeats 1000000 in
theorem sortP_any (xs : List (Int × Int)) (g cap base : Nat) (w : World) (hrow : plRow w base (.slice (some ⟨g, 0, none⟩) xs.length cap) xs) (hn : xs.length ≤ 1000000000000) (hb : base ≤ w.heap.size) :
    Calls Try.prog 59 #[.slice (some ⟨g, 0, none⟩) xs.length cap, .func (.func 38) #[] #[]] w fun e w' => ∃ ys : List (Int × Int), e = .returned (.tuple #[]) ∧ ys.Perm xs ∧ ys.Pairwise (fun a b => ltP b a = false) ∧ PlacesAt w' (.slice (some ⟨g, 0, none⟩) xs.length cap) ys ∧ Below base w w' := by
  have hcells : ∀ j u, (xs.flatMap plCells)[j]? = some u → w.cell? ⟨g, j, none⟩ = some u := by
    intro j u hj
    have := World.ownsRow.cells (v := .slice (some ⟨g, 0, none⟩) xs.length cap) hrow rfl j u hj
    have e : (⟨g, 0, none⟩ : Addr).add j = ⟨g, j, none⟩ := by simp only [Addr.add]; split <;> simp_all
    rwa [e] at this
  obtain ⟨hg, hgl⟩ := World.ownsRow.lt hrow g rfl
  have hfz : ∀ j, w.frozen? ⟨g, j, none⟩ = false := by
    intro j
    rcases hrow.2 with ⟨h, _⟩ | ⟨g', cap', cur, h, _, hbk, _⟩
    · cases h
    · simp only [Value.slice.injEq, Option.some.injEq, Addr.mk.injEq, and_true, true_and] at h
      obtain ⟨rfl, _⟩ := h
      exact frozen_of_row hbk j
  have hflat : ∀ j, j < xs.length * 2 → (xs.flatMap plCells)[j]? = some ((plCells (xs.toArray[j / 2]!))[j % 2]!) := by
    intro j hj
    have hk : j / 2 < xs.length := by omega
    have hf := flat_get plCells 2 (fun _ => rfl) xs (j / 2) (j % 2) hk (by omega)
    rw [show j / 2 * 2 + j % 2 = j from by omega] at hf
    rw [hf]
    have e1 : xs.toArray[j / 2]! = xs[j / 2] := by simp [hk]
    rw [e1]
    have : j % 2 < 2 := by omega
    generalize j % 2 = m at *
    match m, this with
    | 0, _ => rfl
    | 1, _ => rfl
  have hH : HoldsK plCells 2 w g 0 xs.toArray := by
    intro j hj
    rw [size_flatK] at hj
    have hj' : j < xs.length * 2 := by simpa using hj
    refine ⟨?_, hfz _⟩
    rw [Nat.zero_add]
    have := hcells j _ (hflat j hj')
    rw [this, get_flatK _ _ _ _ (by simpa using hj')]
    rfl
  have hcmp : CmpLays Try.prog 38 #[] plCells 2 cmpP g 0 xs.toArray.size w := fun m os dk _ x y => cmpPlaces_any x y _
  have hs := AnyQ.slices_SortFunc (P := Try.prog) Try.sortf59 2 (fun _ => by kernel_rfl) (fun _ => by kernel_rfl) plCells (fun _ => rfl) (by intro x v hv; simp [plCells] at hv; rcases hv with rfl | rfl <;> rfl) cmpP (by rw [ltOf_eq]; exact swoP) 38 #[] g 0 cap xs.toArray w (enters_of Try.func38 (by kernel_rfl) rfl) hcmp hH hgl (by simp; omega)
  have hs' : Calls Try.prog 59 #[.slice (some ⟨g, 0, none⟩) xs.toArray.size cap, .func (.func 38) #[] #[]] w _ := hs
  rw [List.size_toArray] at hs'
  refine hs'.mono ?_
  rintro e w' ⟨rfl, d', nn, os, hperm, hsorted, rfl⟩
  rw [ltOf_eq] at hsorted
  have hsz : d'.size = xs.length := by simpa using hperm.1
  have hp : d'.toList.Perm xs := by
    have := hperm.2.2
    have e : List.take xs.length d'.toList = d'.toList := List.take_of_length_le (by simp [hsz])
    rw [← e]
    simpa [hsz] using this
  refine ⟨d'.toList, rfl, hp, ?_, .inr ⟨g, cap, by rw [hp.length_eq], fun i hi => ?_⟩, below_sorted hg hb⟩
  · rw [List.pairwise_iff_getElem]
    intro i j hi hj hij
    have := hsorted i j (Nat.zero_le _) hij (by simpa [hsz] using hj)
    have e1 : d'[i]! = d'.toList[i] := by simp at hi; simp [hi]
    have e2 : d'[j]! = d'.toList[j] := by simp at hj; simp [hj]
    rw [e1, e2] at this
    exact this
  · have hi' : i < d'.size := by simpa using hi
    have hK := holdsK_sortWorldK_c plCells 2 w g 0 xs.toArray d' nn os hH hgl (by simp [hsz])
    have c0 := (hK.cell hi' (c := 0) (by decide)).1
    have c1 := (hK.cell hi' (c := 1) (by decide)).1
    have e1 : d'[i]! = d'.toList[i] := by simp [hi']
    rw [e1] at c0 c1
    simp only [Nat.zero_add, Nat.add_zero] at c0 c1
    exact ⟨c0, c1⟩
set_option maxHeartbeats 1000000 in
theorem sortedFunc_any (Bm m n : Nat) (F : ByteArray → Option (Int × Int)) (w : World) (hBm : Bm < w.heap.size) (hm : w.cell? ⟨Bm, 0, none⟩ = some (.map (some m))) (h : PlaceMap2 w m n F) (hn : n ≤ 1000000000000) :
    Calls Try.prog 36 #[.func (.func 60) #[] #[.pointer (some ⟨Bm, 0, none⟩)], .func (.func 38) #[] #[]] w fun e w' => ∃ v xs, e = .returned v ∧ PlacesOf F xs ∧ PlacesAt w' v xs ∧ xs.length ≤ n ∧ Below w.heap.size w w' := by
  obtain ⟨D, h1, h2, h3⟩ := h
  have hsz := h1.size_le
  have C := hid (collectP_any Bm m n D (by omega) w hBm hm h1)
  have PV := hid (fun xs hv => placesOf_values h1 h2 h3 (xs := xs) hv)
  have HL := hid (fun xs (hv : ValuesOf D xs) => show xs.length ≤ n by
    obtain ⟨ps, ⟨hp, _⟩, rfl⟩ := hv
    have e : (strKeys D).length = Maps.size D := by
      obtain ⟨es, rfl⟩ := h1.isMap
      simp [strKeys, Maps.size]
    have := hp.length_eq
    simp only [List.length_map] at this ⊢
    omega)
  clear hBm hm h1 h2 h3
  go_enter Try.func36, Try.ntmps36
  go_wp2_with fail
  refine C.out.mono ?_
  rintro e1 w1 ⟨v, xs, rfl, hv, hrow, hnil, hb1⟩
  have hxl := HL.out xs hv
  obtain ⟨ks, hk1, hk2, hk3⟩ := PV.out xs hv
  have HK1 := hid hk1
  have HK2 := hid hk2
  have HK3 := hid hk3
  clear hnil hk1 hk2 hk3 C PV HL
  rcases id hrow.2 with ⟨rfl, h0⟩ | ⟨g, cap, cur, rfl, _⟩
  · have hx0 : xs = [] := List.eq_nil_of_length_eq_zero h0
    subst hx0
    clear h0 hrow
    go_wp2_with fail
    refine (AnyF.slices_SortFunc_none (P := Try.prog) Try.sortf59 none 0 (.func (.func 38) #[] #[]) w1).mono ?_
    rintro e2 w2 ⟨rfl, rfl⟩
    go_wp2
    go_ret
    exact ⟨_, [], rfl, ⟨List.Pairwise.nil, ks, HK1.out, HK2.out, HK3.out⟩, .inl ⟨rfl, rfl⟩, Nat.zero_le _, hb1⟩
  · have S := hid (sortP_any xs g cap w.heap.size w1 hrow (by omega) hb1.size)
    clear hrow
    go_wp2_with fail
    refine S.out.mono ?_
    rintro e2 w2 ⟨ys, rfl, hp, hs, hpl, hb2⟩
    have HP := hid hp
    have HS := hid hs
    clear hp hs
    go_wp2
    go_ret
    exact ⟨_, ys, rfl, ⟨HS.out, ks, HK1.out, HK2.out, HP.out.trans HK3.out⟩, hpl, by rw [HP.out.length_eq]; exact hxl, hb1.trans hb2⟩
end Go.Proofs.Ytceamgkifjmbcaa
