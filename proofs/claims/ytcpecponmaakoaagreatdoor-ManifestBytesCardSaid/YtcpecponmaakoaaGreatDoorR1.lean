/- Walks: the sum of bytes and what is sealed with it (the document's). -/
import Derived.Test.YtcpecponmaakoaaGreatDoorB7
namespace Go.Proofs.YtcpecponmaakoaaGreatDoor
open Go.RowKit Go.Wm Go.Lib
theorem refStep_any (v : Nat) (w : World) (hv : v < 4294967296) : Calls Tryz.prog 132 #[.int .u32 v] w fun e w' => e = .returned (.int .u32 (cstep v : Nat)) ∧ w' = w := by
  rcases Nat.mod_two_eq_zero_or_one v with h2 | h2
  · have Hc := hid (show cstep v = v / 2 by unfold cstep; rw [if_neg (by omega)])
    have he : ((v : Int) % 2 == 1) = false := by rw [beq_eq_false_iff_ne]; omega
    go_enter Tryz.func132, Tryz.ntmps132
    go_wp2
    go_ret
    refine ⟨?_, rfl⟩
    rw [Hc.out]
    simp
  · have Hc := hid (show cstep v = v / 2 ^^^ poly by unfold cstep; rw [if_pos h2])
    have he : ((v : Int) % 2 == 1) = true := by rw [beq_iff_eq]; omega
    have h4 : bits .xor .u32 ((v : Int) / 2) 3988292384 = ((v / 2 ^^^ poly : Nat) : Int) := by
      have := bits_xor_u32_nat (v / 2) poly (by omega) (by unfold poly; omega)
      simpa [poly] using this
    go_enter Tryz.func132, Tryz.ntmps132
    go_wp2
    go_ret
    exact ⟨by rw [Hc.out]; rfl, rfl⟩
set_option maxHeartbeats 1000000 in
theorem refSteps_any (v n : Nat) (w : World) (hv : v < 4294967296) (hn : n ≤ 1000) : Calls Tryz.prog 115 #[.int .u32 v, .int .i64 n] w fun e w' => e = .returned (.int .u32 (csteps n v : Nat)) ∧ w' = w := by
  go_enter Tryz.func115, Tryz.ntmps115
  go_wp2
  go_loopw [0, 5] (fun x i wr => ∃ j : Nat, j ≤ n ∧ i = .int .i64 j ∧ x = .int .u32 (csteps j v : Nat) ∧ wr = w) (fun _ i _ => (n - intOf i).toNat)
  case atStart => exact ⟨0, by omega, rfl, rfl, rfl⟩
  case round =>
    obtain ⟨j, hj, rfl, rfl, rfl⟩ := hrel
    have Hs := hid (csteps_succ j v)
    have hlt := csteps_lt j v hv
    by_cases hjn : j < n
    · generalize csteps j v = x at *
      have C := hid (refStep_any x wr hlt)
      generalize cstep x = y at *
      go_wp2_with (go_at_call 132; refine C.out.mono ?_; rintro e w' ⟨rfl, rfl⟩)
      go_roundw
      case rel => exact ⟨j + 1, by omega, by go_num, by rw [Hs.out], trivial⟩
      case measure => simp [intOf]; omega
    · have hj' : j = n := by omega
      subst hj'
      go_wp2
      go_ret
      exact ⟨rfl, rfl⟩
set_option maxHeartbeats 1000000 in
theorem refSum_any (l : List UInt8) (v : Value) (w : World) (hv : BytesAt w v l) : Calls Tryz.prog 87 #[v] w fun e w' => e = .returned (.int .u32 (crcOf l : Nat)) ∧ w' = w := by
  obtain ⟨a, cap, rfl, hn, hs⟩ := hv
  have HS := hid hs
  clear hs
  go_enter Tryz.func87, Tryz.ntmps87
  go_wp2_with fail
  go_loopw [3, 4] (fun x i wr => ∃ k : Nat, k ≤ l.length ∧ i = .int .i64 k ∧ x = .int .u32 (crcFrom ones (l.take k) : Nat) ∧ wr = w) (fun _ i _ => l.length - (intOf i).toNat)
  case atStart => exact ⟨0, by omega, rfl, rfl, rfl⟩
  case round =>
    obtain ⟨k, hk, rfl, rfl, rfl⟩ := hrel
    have hcl := crcFrom_lt (l.take k) ones ones_lt
    by_cases hlt : k < l.length
    · obtain ⟨b, o, rfl, hx⟩ := HS.out k hlt
      have e0 := hx _ (List.getElem?_eq_getElem hlt)
      rw [Nat.mul_one] at e0
      have Hs := hid (show crcFrom ones (l.take (k + 1)) = csteps 8 (crcFrom ones (l.take k) ^^^ l[k].toNat) by
        rw [List.take_add_one, List.getElem?_eq_getElem hlt, crcFrom_append]; rfl)
      clear hx
      have hx1 := bits_xor_u32_nat (crcFrom ones (l.take k)) l[k].toNat hcl (byte_lt32 _)
      have hx2 := xor_lt32 hcl (byte_lt32 l[k])
      have hx3 := l[k].toNat_lt
      generalize crcFrom ones (l.take k) = z at *
      generalize l[k].toNat = c at *
      have C := hid (refSteps_any (z ^^^ c) 8 wr hx2 (by omega))
      generalize z ^^^ c = y at *
      go_wp2_with (go_at_call 115; refine C.out.mono ?_; rintro e w' ⟨rfl, rfl⟩)
      go_roundw
      case rel => exact ⟨k + 1, by omega, by go_num, by rw [Hs.out], trivial⟩
      case measure => simp [intOf]; omega
    · have hke : k = l.length := by omega
      have Hf := hid (show crcOf l = crcFrom ones (l.take k) ^^^ ones by rw [hke, List.take_length]; rfl)
      clear hke
      generalize crcFrom ones (l.take k) = z at *
      have hx : bits .xor .u32 (z : Int) 4294967295 = ((z ^^^ ones : Nat) : Int) := by
        have := bits_xor_u32_nat z ones hcl ones_lt
        simpa [ones] using this
      generalize z ^^^ ones = y at *
      go_wp2
      go_ret
      exact ⟨by rw [Hf.out]; rfl, rfl⟩
theorem refFour_any (v : Nat) (w : World) (hv : v < 4294967296) : Calls Tryz.prog 86 #[.int .u32 v] w fun e w' => ∃ u, e = .returned u ∧ OwnBytes w' w.heap.size u (be4 v) ∧ Below w.heap.size w w' := by
  go_enter Tryz.func86, Tryz.ntmps86
  go_wp2
  go_ret
  have e1 : (v : Int) / 16777216 = ((v / 16777216 % 256 : Nat) : Int) := by omega
  have e2 : (v : Int) / 65536 % 256 = ((v / 65536 % 256 : Nat) : Int) := by omega
  have e3 : (v : Int) / 256 % 256 = ((v / 256 % 256 : Nat) : Int) := by omega
  have e4 : (v : Int) % 256 = ((v % 256 : Nat) : Int) := by omega
  refine ⟨_, rfl, ⟨by simp [byCells], .inr ⟨w.heap.size, 4, _, rfl, Nat.le_refl _, heap_alloc_new w _, Nat.le_refl 4, by simp [maxLen], rfl, ?_⟩⟩, below_alloc _ _⟩
  rw [e1, e2, e3, e4]
  simp only [byCells, be4, List.map_cons, List.map_nil, u8n _ (Nat.mod_lt _ (by omega : 0 < 256))]
  rfl
set_option maxHeartbeats 1000000 in
theorem refSeal_any (l : List UInt8) (v : Value) (w : World) (hv : BytesAt w v l) :
    Calls Tryz.prog 59 #[v] w fun e w' => ∃ u, e = .returned u ∧ OwnBytes w' w.heap.size u (sealM l) ∧ Below w.heap.size w w' := by
  have hvw := hv
  obtain ⟨a, cap, rfl, hn⟩ := hv.form
  have S := hid (fun W (h : Below w.heap.size w W) => refSum_any l _ W (hv.mono h))
  clear hv
  go_enter Tryz.func59, Tryz.ntmps59
  go_wp2_with (at_builtin; refine wpList_append_bytes rfl (.tmp 3) (.tmp 4) rfl Tryz.underlying43 Tryz.inf5 w.heap.size _ _ [] l rfl (empty_bytes w w.heap.size (Nat.le_refl _)) rfl (hvw.mono (below_alloc _ _)) (by simp) (by simp) ?_)
  intro v1 w1 hO1 hb1 _
  have hb1 := (below_alloc w (.cells #[] 5)).trans hb1
  obtain ⟨a1, c1, rfl⟩ := OwnBytes.form hO1
  have hO1 : OwnBytes w1 w.heap.size (.slice a1 l.length c1) l := by simpa using hO1
  have hcl := crcOf_lt l
  go_wp2_with fail
  refine (S.out w1 hb1).mono ?_
  rintro e w2 ⟨rfl, rfl⟩
  have Hs := hid (show sealM l = l ++ be4 (crcOf l) from rfl)
  have F := hid (refFour_any (crcOf l) w2 hcl)
  generalize crcOf l = c at *
  go_wp2_with fail
  refine F.out.mono ?_
  rintro e w3 ⟨u3, rfl, hu3, hb3⟩
  have hO3 := hO1.below hb3
  have hbw := hb1.step hb3
  obtain ⟨a3, c3, hu3f⟩ := OwnBytes.form hu3
  have hu3a := hu3.at (show (be4 c).length ≤ 1000000 by rw [be4_length]; omega)
  subst hu3f
  clear S F hO1 hb1 hb3 hu3
  go_wp2_with (at_builtin; refine wpList_append_bytes rfl (.tmp 5) (.tmp 8) rfl Tryz.underlying43 Tryz.inf5 w.heap.size _ _ l (be4 c) rfl hO3 rfl hu3a (by omega) hbw.size ?_)
  intro v4 w4 hO4 hb4 _
  go_wp2
  go_ret
  exact ⟨_, rfl, by rw [Hs.out]; simpa using hO4, hbw.trans hb4⟩
end Go.Proofs.YtcpecponmaakoaaGreatDoor
