/- Walk: ManifestBack. -/
import Derived.Test.YtcpecponmaakoaaGreatDoorK1
import Derived.Test.YtcpecponmaakoaaGreatDoorO2
import Derived.Test.YtcpecponmaakoaaGreatDoorN2
namespace Go.Proofs.YtcpecponmaakoaaGreatDoor
open Go.RowKit Go.Wm
theorem bits_xor_u8_nat (a b : Nat) (ha : a < 256) (hb : b < 256) : bits .xor .u8 (a : Int) (b : Int) = ((a ^^^ b : Nat) : Int) := by
  have hx : a ^^^ b < 2 ^ 8 := Nat.xor_lt_two_pow (by omega) (by omega)
  have h1 : (BitVec.ofInt 8 (a : Int)).toNat = a := by
    rw [BitVec.ofInt_natCast, BitVec.toNat_ofNat]; exact Nat.mod_eq_of_lt (by omega)
  have h2 : (BitVec.ofInt 8 (b : Int)).toNat = b := by
    rw [BitVec.ofInt_natCast, BitVec.toNat_ofNat]; exact Nat.mod_eq_of_lt (by omega)
  show IntKind.u8.wrap ((BitVec.ofInt 8 (a : Int) ^^^ BitVec.ofInt 8 (b : Int)).toNat : Int) = _
  rw [BitVec.toNat_xor, h1, h2]
  rw [IntKind.wrap_u8]; omega
theorem bits_and_low (x : Int) : ∃ m : Nat, bits .and .i64 x 65535 = (m : Int) ∧ m ≤ 65535 := by
  refine ⟨(BitVec.ofInt 64 x).toNat &&& 65535, ?_, Nat.and_le_right⟩
  have h2 : (BitVec.ofInt 64 65535).toNat = 65535 := by decide
  have hl : (BitVec.ofInt 64 x).toNat &&& 65535 ≤ 65535 := Nat.and_le_right
  show IntKind.i64.wrap ((BitVec.ofInt 64 x &&& BitVec.ofInt 64 65535).toNat : Int) = _
  rw [BitVec.toNat_and, h2]
  rw [IntKind.wrap_i64]; omega
theorem saveM_bytes {ver next : Int} {ps : List Piece} (hc : checkM ver next ps = 0) : saveM ver next ps = (sealM (manBytes ver next ps), 0) := by rw [saveM, if_pos hc]
theorem seal_length {ver next : Int} {ps : List Piece} (hc : checkM ver next ps = 0) : (sealM (manBytes ver next ps)).length ≤ 14000 ∧ 4 ≤ (sealM (manBytes ver next ps)).length := by
  obtain ⟨⟨v0, v1⟩, ⟨n0, n1⟩, hlen, hok, _⟩ := checkM_ok hc
  unfold sealM manBytes
  rw [List.length_append, List.length_append, be4_length]
  have h1 := puts_length [ver.toNat, next.toNat, ps.length] (by
    intro n hn
    simp at hn
    rcases hn with rfl | rfl | rfl <;> omega)
  have h2 := flat_length ps hok n1
  simp only [List.length_cons, List.length_nil] at h1
  omega
theorem OwnBytes.set {w : World} {base g n cap : Nat} {l : List UInt8} (h : OwnBytes w base (.slice (some ⟨g, 0, none⟩) n cap) l) (hn : n = l.length) (i : Nat) (y : UInt8) :
    OwnBytes (w.setCell ⟨g, i, none⟩ (.int .u8 (y.toNat : Int))) base (.slice (some ⟨g, 0, none⟩) n cap) (l.set i y) ∧ w.grownBy (w.setCell ⟨g, i, none⟩ (.int .u8 (y.toNat : Int))) (some g) := by
  subst hn
  have := World.ownsRow.stored h i (.int .u8 (y.toNat : Int))
  refine ⟨?_, this.2⟩
  unfold OwnBytes
  rw [List.length_set]
  have e : byCells (l.set i y) = (byCells l).set i (.int .u8 (y.toNat : Int)) := by simp [byCells, List.map_set]
  rw [e]
  exact this.1
theorem OwnBytes.some_form {w : World} {b : Nat} {v : Value} {l : List UInt8} (h : OwnBytes w b v l) (hl : 0 < l.length) : ∃ g cap, v = .slice (some ⟨g, 0, none⟩) l.length cap ∧ b ≤ g ∧ g < w.heap.size ∧ l.length ≤ cap ∧ ∀ i (hi : i < l.length), w.cell? ⟨g, i, none⟩ = some (.int .u8 (l[i].toNat : Int)) := by
  have h2 := h.2
  rcases h2 with ⟨_, h0⟩ | ⟨g, cap, cur, rfl, hb, hg, hc, _⟩
  · omega
  · refine ⟨g, cap, rfl, hb, (Array.getElem?_eq_some_iff.1 hg).1, hc, fun i hi => ?_⟩
    have := World.ownsRow.cells (v := .slice (some ⟨g, 0, none⟩) l.length cap) h rfl i (.int .u8 (l[i].toNat : Int)) (by simp [byCells, hi])
    rw [addr_add, Nat.zero_add] at this
    exact this
theorem own_frozen {w : World} {b g n cap : Nat} {v : Value} {l : List UInt8} (h : OwnBytes w b v l) (hv : v = .slice (some ⟨g, 0, none⟩) n cap) (i : Nat) : w.frozen? ⟨g, i, none⟩ = false := by
  rcases h.2 with ⟨h', _⟩ | ⟨g', cap', cur, h', hb, hg, hc, _⟩
  · rw [h'] at hv; cases hv
  · rw [h'] at hv
    cases hv
    simp [World.frozen?, hg]
theorem u8_of {n : Int} (h : (Lit.int .u8 n).wf = true) : ∃ y : UInt8, n = (y.toNat : Int) := by
  have h2 := wf_u8 h
  refine ⟨UInt8.ofNat n.toNat, ?_⟩
  rw [UInt8.toNat_ofNat']
  omega
set_option maxHeartbeats 4000000 in
set_option maxRecDepth 100000 in
theorem back_any (ver next at' : Int) (y : UInt8) (ps : List Piece) (v : Value) (w : World) (hL : Laid w) (hS : StepsAt w 0) (hv : PcsBig w v ps) (hwf : ∀ p ∈ ps, PieceWf p) :
    Calls Tryz.prog 6 #[.agg #[.int .i64 ver, .int .i64 next, v], .int .i64 at', .int .u8 (y.toNat : Int)] w fun e w' => e = .returned (.bool true) ∧ Below w.heap.size w w' := by
  have hvw := hv
  obtain ⟨a, cap, rfl, hnc, _⟩ := hv
  have HV := hid hvw
  have hb0 := below_alloc w (.cells #[.int .i64 ver, .int .i64 next, .slice a ps.length cap] 24)
  have CL := hid (live_any _ (hL.below hb0) (hS.below hb0))
  have hsum : ∀ p ∈ ps, 0 ≤ p.sum ∧ p.sum < 4294967296 := fun p hp => wf_u32 (hwf p hp).sum
  have HSUM := hid hsum
  clear hvw hL hS hwf hsum
  go_enter Tryz.func6, Tryz.ntmps6
  go_wp2_with fail
  refine CL.out.mono ?_
  rintro e w1 ⟨rfl, hb1⟩
  have hM1 : w1.heap[w.heap.size]? = some (.cells #[.int .i64 ver, .int .i64 next, .slice a ps.length cap] 24 (0, 0)) := blk_below (heap_alloc_new w _) hb1
  have hc1 := hb0.step hb1
  obtain ⟨m0, m1, m2, mf⟩ := row3 hM1
  clear CL hb1 hb0
  by_cases hn : ps.length ≤ 300
  · have F := hid (few_big ver next a ps.length cap w1)
    rw [show decide (ps.length ≤ 300) = true from decide_eq_true hn] at F
    have HP := hid (HV.out.at (by omega))
    go_wp2_with fail
    refine F.out.mono ?_
    rintro e w2 ⟨rfl, hb2⟩
    have hM2 := blk_below hM1 hb2
    have hc2 := hc1.step hb2
    clear F hb2 m0 m1 m2 mf hM1 hc1
    have SV := save_any ver next ps (.slice a ps.length cap) w2 (HP.out.mono hc2) HSUM.out
    by_cases hck : checkM ver next ps = 0
    · rw [saveM_bytes hck] at SV
      obtain ⟨hl1, hl2⟩ := seal_length hck
      have HLD := hid (show loadM (sealM (manBytes ver next ps)) = ((ver, next, ps), 0) by
        have := load_save hck HSUM.out
        rw [saveM_bytes hck] at this
        exact this)
      have HSP := hid (fun k z hk hz => load_spoilt (manBytes ver next ps) k z hk hz)
      obtain ⟨b, hb⟩ : ∃ b, b = sealM (manBytes ver next ps) := ⟨_, rfl⟩
      rw [← hb] at SV hl1 hl2 HLD HSP
      have SV := hid SV
      clear hck hb
      obtain ⟨m0, m1, m2, mf⟩ := row3 hM2
      go_wp2_with fail
      refine SV.out.mono ?_
      rintro e w3 ⟨u3, rfl, hu3, hb3⟩
      obtain ⟨g3, k3, rfl, hg3, hg3s, hk3, hcells3⟩ := OwnBytes.some_form hu3 (by omega)
      have HB := hid (OwnBytes.at hu3 (by omega))
      have HCAP := hid (OwnBytes.capOk hu3)
      have hM3 := blk_below hM2 hb3
      have hc3 := hc2.step hb3
      clear SV hb3 m0 m1 m2 mf hM2 hc2 hu3 hcells3
      have LD := load_any b (.slice (some ⟨g3, 0, none⟩) b.length k3) w3 HB.out HCAP.out (by omega)
      rw [HLD.out] at LD
      have LD := hid LD
      clear HLD
      go_wp2_with fail
      refine LD.out.mono ?_
      rintro e w4 ⟨u4, rfl, hu4, hb4⟩
      obtain ⟨a4, k4, rfl⟩ := pcs_form hu4 ps.length rfl
      have P4 := hid (OwnPcs.at hu4 (by omega))
      have hM4 := blk_below hM3 hb4
      have hc4 := hc3.step hb4
      have HB := hid (HB.out.mono hb4)
      have S := hid (show ∀ W, Below w4.heap.size w4 W → Calls Tryz.prog 19 #[.agg #[.int .i64 ver, .int .i64 next, .slice a4 ps.length k4], .agg #[.int .i64 ver, .int .i64 next, .slice a ps.length cap]] W fun e w' => e = .returned (.bool true) ∧ Below W.heap.size W w' from fun W h => by
        have := same_any ver next ver next ps ps (.slice a4 ps.length k4) (.slice a ps.length cap) W (P4.out.mono h) (HP.out.mono (hc4.step h))
        rw [show (decide (ver = ver) && decide (next = next) && decide (ps = ps)) = true by simp] at this
        exact this)
      clear LD hb4 hM3 hc3 hu4
      obtain ⟨m0, m1, m2, mf⟩ := row3 hM4
      have m0 := fun X => cell_alloc_old X m0
      have m1 := fun X => cell_alloc_old X m1
      have m2 := fun X => cell_alloc_old X m2
      have hbl : ((b.length : Int) == 0) = false := by rw [beq_eq_false_iff_ne]; omega
      go_wp2_with fail
      refine (S.out _ (below_alloc _ _)).mono ?_
      rintro e w5 ⟨rfl, hb5⟩
      have r45 : Below w4.heap.size w4 w5 := (below_alloc _ _).step hb5
      have hc5 := hc4.step r45
      have HB := hid (HB.out.mono r45)
      clear S m0 m1 m2 mf hM4 hc4 hb5 r45 P4 HP
      obtain ⟨m, hm, hm2⟩ := bits_and_low at'
      obtain ⟨i, hi⟩ : ∃ i, i = m % b.length := ⟨_, rfl⟩
      have hib : i < b.length := by rw [hi]; exact Nat.mod_lt _ (by omega)
      have hr1 : (m : Int).tmod (b.length : Int) = (i : Int) := by rw [hi]; exact (Int.ofNat_tmod m b.length).symm
      have hr2 : (m : Int) % (b.length : Int) = (i : Int) := by rw [hi]; omega
      have hlz : ((b.length : Int) = 0) = False := by simp; intro h; rw [h] at hl2; simp at hl2
      clear hi
      obtain ⟨z, hz⟩ : ∃ z : UInt8, z = b[i] := ⟨_, rfl⟩
      have hxor : bits .xor .u8 (z.toNat : Int) (y.toNat : Int) = ((z ^^^ y).toNat : Int) := by
        rw [bits_xor_u8_nat _ _ z.toNat_lt y.toNat_lt, UInt8.toNat_xor]
      have Hz := hid hz
      clear hz
      go_wp2_with (at_builtin; refine wpList_append_bytes rfl (.tmp 58) (.tmp 59) rfl Tryz.underlying43 Tryz.inf5 w5.heap.size _ _ [] b rfl (empty_bytes w5 _ (Nat.le_refl _)) rfl (HB.out.mono (below_alloc _ _)) (by simp) (by simp) ?_; intro v6 w6 ho6 hb6 hg6; have ho6 : OwnBytes w6 w5.heap.size v6 b := ho6; obtain ⟨g6, k6, rfl, hg6b, hg6s, hk6, hc6⟩ := OwnBytes.some_form ho6 (by omega); have e6 := hc6 i hib; rw [← Hz.out] at e6; have f6 := own_frozen ho6 rfl i; have HO6 := hid ho6; clear hc6 ho6)
      have hO7 := OwnBytes.set HO6.out rfl i (z ^^^ y)
      rw [UInt8.toNat_xor] at hO7
      have r57 : Below w5.heap.size w5 (w6.setCell ⟨g6, i, none⟩ (.int .u8 ((z.toNat ^^^ y.toNat : Nat) : Int))) := ((below_alloc _ _).trans hb6).setCell (p := ⟨g6, i, none⟩) hg6b _
      have hc7 := hc5.step r57
      have LD2 := load_any (b.set i (z ^^^ y)) (.slice (some ⟨g6, 0, none⟩) b.length k6) _ (OwnBytes.at hO7.1 (by rw [List.length_set]; omega)) (OwnBytes.capOk hO7.1) (by rw [List.length_set]; omega)
      by_cases hy : y = 0
      · generalize loadM (b.set i (z ^^^ y)) = X at LD2
        obtain ⟨⟨xv, xn, xl⟩, xe⟩ := X
        have LD2 := hid LD2
        have hy0 : ((y.toNat : Int) == 0) = true := by rw [hy]; rfl
        clear hy
        refine LD2.out.mono ?_
        rintro e w8 ⟨u8, rfl, hu8, hb8⟩
        obtain ⟨a8, k8, rfl⟩ := pcs_form hu8 xl.length rfl
        have hc8 := hc7.step hb8
        clear LD2
        go_wp2_with fail
        go_ret
        exact ⟨rfl, hc8.step (below_alloc _ _)⟩
      · rw [HSP.out i (z ^^^ y) hib (by
          rw [List.getElem?_eq_getElem hib, ← Hz.out]
          intro h
          exact xor_other z y hy (Option.some.inj h).symm)] at LD2
        have LD2 := hid LD2
        have hy0 : ((y.toNat : Int) == 0) = false := by
          rw [beq_eq_false_iff_ne]
          intro h
          apply hy
          apply UInt8.toNat_inj.1
          show y.toNat = 0
          omega
        clear hy
        refine LD2.out.mono ?_
        rintro e w8 ⟨u8, rfl, hu8, hb8⟩
        obtain ⟨a8, k8, rfl⟩ := pcs_form hu8 0 rfl
        have hc8 := hc7.step hb8
        clear LD2
        go_wp2_with fail
        go_ret
        exact ⟨rfl, hc8.step (below_alloc _ _)⟩
    · have hs : saveM ver next ps = ([], checkM ver next ps) := by rw [saveM, if_neg hck]
      rw [hs] at SV
      have CK := fun W (h : Below w.heap.size w W) => check_any ver next ps (.slice a ps.length cap) W (HP.out.mono h)
      have hcb : (checkM ver next ps != 0) = true := by simpa using hck
      generalize checkM ver next ps = ce at SV CK hcb
      have SV := hid SV
      have CK := hid CK
      clear hck hs
      obtain ⟨m0, m1, m2, mf⟩ := row3 hM2
      go_wp2_with fail
      refine SV.out.mono ?_
      rintro e w3 ⟨u3, rfl, hu3, hb3⟩
      obtain ⟨a3, k3, rfl⟩ := OwnBytes.form hu3
      have hM3 := blk_below hM2 hb3
      have hc3 := hc2.step hb3
      clear SV hb3 m0 m1 m2 mf hM2 hc2 hu3
      obtain ⟨m0, m1, m2, mf⟩ := row3 hM3
      go_wp2_with fail
      refine (CK.out _ hc3).mono ?_
      rintro e w4 ⟨rfl, hb4⟩
      have hc4 := hc3.step hb4
      clear CK
      go_wp2_with fail
      go_ret
      exact ⟨rfl, hc4⟩
  · have F := hid (few_big ver next a ps.length cap w1)
    rw [show decide (ps.length ≤ 300) = false from decide_eq_false hn] at F
    go_wp2_with fail
    refine F.out.mono ?_
    rintro e w2 ⟨rfl, hb2⟩
    have hc2 := hc1.step hb2
    clear F
    go_wp2_with fail
    go_ret
    exact ⟨rfl, hc2⟩
end Go.Proofs.YtcpecponmaakoaaGreatDoor
