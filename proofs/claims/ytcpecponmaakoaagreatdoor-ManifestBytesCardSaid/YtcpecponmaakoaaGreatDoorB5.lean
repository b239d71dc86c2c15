/- Walks: the sum of bytes (the program's): the table, a byte's step, Sum. -/
import Derived.Test.YtcpecponmaakoaaGreatDoorB3
namespace Go.Proofs.YtcpecponmaakoaaGreatDoor
open Go.RowKit Go.Wm Go.Lib
/-- The table of sixteen lies in a block. -/
def TabAt (w : World) (B : Nat) : Prop := ∀ i, i < 16 → w.cell? ⟨B, i, none⟩ = some (.int .u32 (csteps 4 i : Nat))
theorem TabAt.mono {w w' : World} {B : Nat} (h : TabAt w B) (hb : Below w.heap.size w w') : TabAt w' B := fun i hi => cell_below hb (h i hi)
set_option maxHeartbeats 1000000 in
theorem adder1_any (v B : Nat) (c : UInt8) (w : World) (hv : v < 4294967296) (ht : TabAt w B) :
    Calls Tryz.prog 131 #[.int .u32 v, .int .u8 (c.toNat : Int), .pointer (some ⟨B, 0, none⟩)] w fun e w' => e = .returned (.int .u32 (cbyte v c : Nat)) ∧ w' = w := by
  have hx1 := bits_xor_u32_nat v c.toNat hv (byte_lt32 c)
  have hxl := xor_lt32 hv (byte_lt32 c)
  have Hfin := hid (show cbyte v c = csteps 4 (csteps 4 (v ^^^ c.toNat)) from csteps_add 4 4 _)
  have h4 := hid (csteps4 (v ^^^ c.toNat))
  have hyl := csteps_lt 4 _ hxl
  have h4b := hid (csteps4 (csteps 4 (v ^^^ c.toNat)))
  have hc := c.toNat_lt
  generalize v ^^^ c.toNat = x at *
  have ha1 : bits .and .u32 (x : Int) 15 = ((x % 16 : Nat) : Int) := by
    have := bits_and_u32_nat x 15 hxl (by omega)
    rw [show (15 : Nat) = 2 ^ 4 - 1 from rfl, Nat.and_two_pow_sub_one_eq_mod] at this
    exact this
  have hr1 : x % 16 < 16 := by omega
  have c1 := ht _ hr1
  have hd1 : ((x : Int) / 16) = ((x / 16 : Nat) : Int) := by simp
  have hx2 : bits .xor .u32 ((csteps 4 (x % 16) : Nat) : Int) ((x / 16 : Nat) : Int) = ((csteps 4 x : Nat) : Int) := by
    rw [bits_xor_u32_nat _ _ (csteps_lt _ _ (by omega)) (by omega), h4.out]
  generalize csteps 4 x = y at *
  have ha2 : bits .and .u32 (y : Int) 15 = ((y % 16 : Nat) : Int) := by
    have := bits_and_u32_nat y 15 hyl (by omega)
    rw [show (15 : Nat) = 2 ^ 4 - 1 from rfl, Nat.and_two_pow_sub_one_eq_mod] at this
    exact this
  have hr2 : y % 16 < 16 := by omega
  have c2 := ht _ hr2
  have hd2 : ((y : Int) / 16) = ((y / 16 : Nat) : Int) := by simp
  have hx3 : bits .xor .u32 ((csteps 4 (y % 16) : Nat) : Int) ((y / 16 : Nat) : Int) = ((csteps 4 y : Nat) : Int) := by
    rw [bits_xor_u32_nat _ _ (csteps_lt _ _ (by omega)) (by omega), h4b.out]
  generalize csteps 4 (x % 16) = p at *
  generalize csteps 4 (y % 16) = q at *
  generalize csteps 4 y = z at *
  generalize hr : x % 16 = r at *
  generalize hs : y % 16 = s at *
  generalize hxq : x / 16 = xq at *
  generalize hyq : y / 16 = yq at *
  generalize c.toNat = cn at *
  clear h4 h4b ht hr hs hxq hyq
  go_enter Tryz.func131, Tryz.ntmps131
  go_wp2
  go_ret
  refine ⟨?_, rfl⟩
  rw [Hfin.out]
  rfl
def tab (k : Nat) : List Value := (List.range 16).map fun i => .int .u32 ((if i < k then csteps 4 i else 0 : Nat) : Int)
theorem tab_set (k : Nat) : (tab k).set k (.int .u32 (csteps 4 k : Nat)) = tab (k + 1) := by
  apply List.ext_getElem
  · simp [tab]
  · intro i h1 h2
    simp only [tab, List.length_map, List.length_range] at h2
    rw [List.getElem_set]
    by_cases hik : k = i
    · subst hik; simp [tab]
    · rw [if_neg hik]
      simp only [tab, List.getElem_map, List.getElem_range]
      by_cases h3 : i < k
      · rw [if_pos h3, if_pos (by omega)]
      · rw [if_neg h3, if_neg (by omega)]
set_option maxHeartbeats 1000000 in
theorem adder_any (w : World) : Calls Tryz.prog 114 #[] w fun e w' => ∃ B, e = .returned (.func (.func 131) #[] #[.pointer (some ⟨B, 0, none⟩)]) ∧ TabAt w' B ∧ Below w.heap.size w w' := by
  go_enter Tryz.func114, Tryz.ntmps114
  go_wp2
  refine wp_name fun W hW => ?_
  have hB : Below w.heap.size w W := by rw [hW]; exact below_alloc _ _
  have hT : W.heap[w.heap.size]? = some (.cells (tab 0).toArray 153 (0, 0)) := by rw [hW]; exact heap_alloc_new _ _
  clear hW
  go_loopw [3] (fun i wr => ∃ k : Nat, k ≤ 16 ∧ i = .int .i64 k ∧ wr.heap[w.heap.size]? = some (.cells (tab k).toArray 153 (0, 0)) ∧ Below w.heap.size w wr) (fun i _ => (16 - intOf i).toNat)
  case atStart => exact ⟨0, by omega, rfl, hT, hB⟩
  case round =>
    obtain ⟨k, hk, rfl, hT, hwr⟩ := hrel
    by_cases hlt : k < 16
    · have hl : (tab k).length = 16 := by simp [tab]
      have hcell : wr.cell? ⟨w.heap.size, k, none⟩ = (tab k)[k]? := by
        unfold World.cell?
        rw [show (⟨w.heap.size, k, none⟩ : Addr).block = w.heap.size from rfl, hT]
        simp
      rw [List.getElem?_eq_getElem (by omega)] at hcell
      have hfz : wr.frozen? ⟨w.heap.size, k, none⟩ = false := by simp [World.frozen?, hT]
      have HT := hid (show (wr.setCell ⟨w.heap.size, k, none⟩ (.int .u32 (csteps 4 k : Nat))).heap[w.heap.size]? = some (.cells (tab (k + 1)).toArray 153 (0, 0)) by
        rw [heap_setCell_same wr w.heap.size k _ 153 _ hT, ← tab_set k]; simp)
      have HB := hid (hwr.setCell (p := ⟨w.heap.size, k, none⟩) (Nat.le_refl _) (.int .u32 (csteps 4 k : Nat)))
      have C := hid (half_any k wr (by omega))
      generalize (tab k)[k]'(by omega) = x at hcell
      generalize csteps 4 k = y at *
      clear hT hl
      go_wp2_with (go_at_call 130; refine C.out.mono ?_; rintro e w' ⟨rfl, rfl⟩)
      go_roundw
      case rel => exact ⟨k + 1, by omega, by go_num, HT.out, HB.out⟩
      case measure => simp [intOf]; omega
    · have hk16 : k = 16 := by omega
      subst hk16
      have HT := hid hT
      clear hT
      go_wp2
      go_ret
      refine ⟨w.heap.size, rfl, fun i hi => ?_, hwr⟩
      unfold World.cell?
      rw [show (⟨w.heap.size, i, none⟩ : Addr).block = w.heap.size from rfl, HT.out]
      simp [tab, hi]
set_option maxHeartbeats 1000000 in
theorem sum_any (l : List UInt8) (v : Value) (w : World) (hv : BytesAt w v l) : Calls Tryz.prog 84 #[v] w fun e w' => e = .returned (.int .u32 (crcOf l : Nat)) ∧ Below w.heap.size w w' := by
  obtain ⟨a, cap, rfl, hn, hs⟩ := hv
  have HS := hid hs
  clear hs
  go_enter Tryz.func84, Tryz.ntmps84
  go_wp2_with fail
  refine (adder_any w).mono ?_
  rintro e w1 ⟨B, rfl, hT, hb1⟩
  go_wp2_with fail
  go_loopw [4, 10] (fun x i wr => ∃ k : Nat, k ≤ l.length ∧ i = .int .i64 k ∧ x = .int .u32 (crcFrom ones (l.take k) : Nat) ∧ Below w1.heap.size w1 wr) (fun _ i _ => l.length - (intOf i).toNat)
  case atStart => exact ⟨0, by omega, rfl, rfl, Below.refl _ _⟩
  case round =>
    obtain ⟨k, hk, rfl, rfl, hwr⟩ := hrel
    have hcl := crcFrom_lt (l.take k) ones ones_lt
    by_cases hlt : k < l.length
    · obtain ⟨b, o, rfl, hx⟩ := HS.out k hlt
      have e0 := cell_below hwr (cell_below hb1 (hx _ (List.getElem?_eq_getElem hlt)))
      rw [Nat.mul_one] at e0
      have Hs := hid (show crcFrom ones (l.take (k + 1)) = cbyte (crcFrom ones (l.take k)) l[k] by
        rw [List.take_add_one, List.getElem?_eq_getElem hlt, crcFrom_append]; rfl)
      clear hx
      generalize crcFrom ones (l.take k) = z at *
      have C := hid (adder1_any z B l[k] wr hcl (hT.mono hwr))
      generalize l[k] = c at *
      go_wp2_with (go_at_call 131; refine C.out.mono ?_; rintro e w' ⟨rfl, rfl⟩)
      go_roundw
      case rel => exact ⟨k + 1, by omega, by go_num, by rw [Hs.out], hwr⟩
      case measure => simp [intOf]; omega
    · have hke : k = l.length := by omega
      have Hf := hid (show crcOf l = crcFrom ones (l.take k) ^^^ ones by rw [hke, List.take_length]; rfl)
      clear hke
      generalize crcFrom ones (l.take k) = z at *
      have hm : IntKind.u32.max = ((ones : Nat) : Int) := by decide
      have hx : bits .xor .u32 IntKind.u32.max (z : Int) = ((z ^^^ ones : Nat) : Int) := by
        rw [hm, bits_xor_u32_nat _ _ ones_lt hcl, Nat.xor_comm]
      generalize z ^^^ ones = y at *
      clear hm
      go_wp2
      go_ret
      exact ⟨by rw [Hf.out]; rfl, hb1.step hwr⟩
end Go.Proofs.YtcpecponmaakoaaGreatDoor
