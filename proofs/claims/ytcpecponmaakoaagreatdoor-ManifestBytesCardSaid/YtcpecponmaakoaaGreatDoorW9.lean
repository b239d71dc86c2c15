/- Walks: a manifest's bytes (the program's Save). -/
import Derived.Test.YtcpecponmaakoaaGreatDoorW8
namespace Go.Proofs.YtcpecponmaakoaaGreatDoor
open Go.RowKit Go.Wm Go.Lib
theorem pieceBytes_length {next : Int} (p : Piece) (h : PieceOk next p) (hn : next ≤ 1099511627776) : (pieceBytes p).length ≤ 54 := by
  have h1 := puts_length [p.id.toNat, p.base.toNat, p.fin.toNat, p.size.toNat] (by
    intro n hn'
    have := h.id0; have := h.idn; have := h.base1; have := h.fin1; have := h.size1
    simp at hn'
    rcases hn' with rfl | rfl | rfl | rfl <;> omega)
  have h2 := puts_length [p.state.toNat] (by
    intro n hn'
    have := h.st
    simp at hn'
    subst hn'
    omega)
  simp only [pieceBytes, List.length_append, be4_length]
  simp at h1 h2
  omega
theorem flat_length {next : Int} (ps : List Piece) (h : ∀ p ∈ ps, PieceOk next p) (hn : next ≤ 1099511627776) : (ps.flatMap pieceBytes).length ≤ ps.length * 54 := by
  induction ps with
  | nil => simp
  | cons p ps ih =>
    have h1 := pieceBytes_length p (h p (by simp)) hn
    have h2 := ih fun q hq => h q (by simp [hq])
    rw [List.flatMap_cons, List.length_append, List.length_cons]
    omega
/-- The variable that the bytes lie in. -/
structure BufAt (W w : World) (B : Nat) (l : List UInt8) : Prop where
  buf : ∃ u, VarAt w B 43 u ∧ OwnBytes w (B + 1) u l
  grown : W.grownBy w (some B)
theorem BufAt.below {W w w' : World} {B : Nat} {l : List UInt8} (h : BufAt W w B l) (hb : Below w.heap.size w w') : BufAt W w' B l :=
  let ⟨⟨u, h1, h2⟩, h3⟩ := h; ⟨⟨u, h1.below hb, h2.below hb⟩, grownBy_trans h3 (grownBy_below hb)⟩
theorem BufAt.put {W w : World} {B : Nat} {l : List UInt8} (h : BufAt W w B l) (hl : l.length ≤ 800000) (hBW : B < W.heap.size) (ns : List Nat) (hns : ∀ n ∈ ns, n ≤ 1099511627776) (hlen : ns.length ≤ 10) (v : Value) (hv : NatsAt w v ns) (hvB : ∀ a n c, v = .slice (some a) n c → a.block ≠ B) :
    Calls Tryz.prog 53 #[v, .pointer (some ⟨B, 0, none⟩)] w fun e w' => e = .returned (.tuple #[]) ∧ BufAt W w' B (l ++ puts ns) ∧ w.grownBy w' (some B) :=
  let ⟨⟨u, h1, h2⟩, h3⟩ := h
  (save1_any ns hns hlen v l hl B (B + 1) u w hv hvB h1 h2 (by omega) (by have := h3.size; omega)).mono fun _ _ ⟨he, u', q1, q2, q3⟩ => ⟨he, ⟨⟨u', q1, q2⟩, grownBy_trans h3 q3⟩, q3⟩
theorem BufAt.init (w : World) : BufAt (w.alloc (.cells #[.slice none 0 0] 43)) (w.alloc (.cells #[.slice none 0 0] 43)) w.heap.size [] :=
  ⟨⟨_, heap_alloc_new _ _, OwnBytes.nil _ _⟩, grownBy_below (Below.refl _ _)⟩
theorem BufAt.store {W w w1 : World} {B b : Nat} {l l' : List UInt8} (h : BufAt W w B l) (hb : Below w.heap.size w w1) (hbw : B < b) (u : Value) (hu : OwnBytes w1 b u l') : BufAt W (w1.setCell ⟨B, 0, none⟩ u) B l' :=
  let ⟨⟨_, h1, _⟩, h3⟩ := h
  ⟨⟨u, (h1.below hb).set u, ownsRow_setCell_below (hu.base hbw) (a := ⟨B, 0, none⟩) (by simp) u⟩,
    grownBy_trans (grownBy_trans h3 (grownBy_below hb)) ⟨rfl, rfl, rfl, by simp, fun q _ hq => heap_setCell_other w1 ⟨B, 0, none⟩ q _ (fun e => hq (by rw [e]))⟩⟩
theorem BufAt.facts {W w : World} {B : Nat} {l : List UInt8} (h : BufAt W w B l) : ∃ a c, w.cell? ⟨B, 0, none⟩ = some (.slice a l.length c) ∧ w.frozen? ⟨B, 0, none⟩ = false ∧ OwnBytes w (B + 1) (.slice a l.length c) l :=
  let ⟨⟨u, h1, h2⟩, _⟩ := h
  let ⟨a, c, e⟩ := OwnBytes.form h2
  ⟨a, c, by rw [← e]; exact h1.cell, h1.frozen 0, by rw [← e]; exact h2⟩
theorem cell_kept {W w : World} {B b o : Nat} {v : Value} {l : List UInt8} (h : BufAt W w B l) (hc : W.cell? ⟨b, o, none⟩ = some v) (hb : b ≠ B) : w.cell? ⟨b, o, none⟩ = some v := cell_grown h.grown hb hc
set_option maxHeartbeats 1000000 in
set_option maxRecDepth 100000 in
theorem save_any (ver next : Int) (ps : List Piece) (v : Value) (w : World) (hv : PcsAt w v ps) (hsum : ∀ p ∈ ps, 0 ≤ p.sum ∧ p.sum < 4294967296) :
    Calls Tryz.prog 23 #[.agg #[.int .i64 ver, .int .i64 next, v]] w fun e w' => ∃ u, e = .returned (.tuple #[u, .int .i64 (saveM ver next ps).2]) ∧ OwnBytes w' w.heap.size u (saveM ver next ps).1 ∧ Below w.heap.size w w' := by
  have C := hid (check_any ver next ps v _ (hv.mono (below_alloc w (.cells #[.int .i64 ver, .int .i64 next, v] 24))))
  have hvw := hv
  obtain ⟨a, cap, rfl, hn, hs⟩ := hv
  by_cases hck : checkM ver next ps = 0
  · obtain ⟨⟨v0, v1⟩, ⟨n0, n1⟩, hlen, hok, _⟩ := checkM_ok hck
    have Hm := hid (show saveM ver next ps = (sealM (manBytes ver next ps), 0) by rw [saveM, if_pos hck])
    rw [hck] at C
    have Hok := hid hok
    obtain ⟨vn, rfl⟩ := Int.eq_ofNat_of_zero_le v0
    obtain ⟨nn, rfl⟩ := Int.eq_ofNat_of_zero_le n0
    have HS := hid hs
    have Hmb := hid (show manBytes vn nn ps = puts [vn, nn, ps.length] ++ ps.flatMap pieceBytes from rfl)
    clear hok hck hs hvw
    go_enter Tryz.func23, Tryz.ntmps23
    go_wp2_with fail
    refine C.out.mono ?_
    rintro e w1 ⟨rfl, hb1⟩
    have m0 := cell_below hb1 (show (w.alloc (.cells #[.int .i64 vn, .int .i64 nn, .slice a ps.length cap] 24)).cell? ⟨w.heap.size, 0, none⟩ = some (.int .i64 vn) by simp)
    have m1 := cell_below hb1 (show (w.alloc (.cells #[.int .i64 vn, .int .i64 nn, .slice a ps.length cap] 24)).cell? ⟨w.heap.size, 1, none⟩ = some (.int .i64 nn) by simp)
    have m2 := cell_below hb1 (show (w.alloc (.cells #[.int .i64 vn, .int .i64 nn, .slice a ps.length cap] 24)).cell? ⟨w.heap.size, 2, none⟩ = some (.slice a ps.length cap) by simp)
    have hbw := (below_alloc w _).step hb1
    have hs1 : w.heap.size + 1 ≤ w1.heap.size := by have := hb1.size; simpa using this
    have hps := fun k (hk : k < ps.length) => HS.out k hk
    have m0 := fun X => cell_alloc_old X m0
    have m1 := fun X => cell_alloc_old X m1
    have m2 := fun X => cell_alloc_old X m2
    clear hb1 C
    go_wp2_with fail
    have hb0 := (BufAt.init w1).below (below_alloc _ (.cells #[.int .i64 vn, .int .i64 nn, .int .i64 ps.length] 3))
    refine (hb0.put (by simp) (by simp) [vn, nn, ps.length] (by intro n hn'; simp at hn'; rcases hn' with rfl | rfl | rfl <;> omega) (by simp) _ (by simpa using natsAt_new (w1.alloc (.cells #[.slice none 0 0] 43)) 3 [vn, nn, ps.length] (by simp)) (by intro a n c h; cases h; simp)).mono ?_
    rintro e w2 ⟨rfl, hbuf, hg2⟩
    have hB1 : Below w.heap.size w (w1.alloc (.cells #[.slice none 0 0] 43)) := hbw.step (below_alloc _ _)
    have m2 := cell_grown hg2 (by omega) (cell_alloc_old _ (m2 _))
    have hWs : w1.heap.size < (w1.alloc (.cells #[.slice none 0 0] 43)).heap.size := by simp
    obtain ⟨W, hW⟩ : ∃ W, W = w1.alloc (.cells #[.slice none 0 0] 43) := ⟨_, rfl⟩
    rw [← hW] at hbuf hB1 hWs
    clear hW hb0 hg2 m0 m1 hbw
    go_wp2_with fail
    go_loopw [28] (fun i wr => ∃ k : Nat, k ≤ ps.length ∧ i = .int .i64 k ∧ BufAt W wr w1.heap.size (puts [vn, nn, ps.length] ++ (ps.take k).flatMap pieceBytes)) (fun i _ => ps.length - (intOf i).toNat)
    case atStart => exact ⟨0, by omega, rfl, by simpa using hbuf⟩
    case round =>
      obtain ⟨k, hk, rfl, hb⟩ := hrel
      have hl1 := puts_length [vn, nn, ps.length] (by intro n hn'; simp at hn'; rcases hn' with rfl | rfl | rfl <;> omega)
      have hl2 := flat_length (ps.take k) (fun p hp => Hok.out p (List.mem_of_mem_take hp)) n1
      have hl3 : (ps.take k).length ≤ 256 := by rw [List.length_take]; omega
      obtain ⟨cur, hcur⟩ : ∃ c, c = puts [vn, nn, ps.length] ++ (ps.take k).flatMap pieceBytes := ⟨_, rfl⟩
      have hcl : cur.length ≤ 20000 := by rw [hcur, List.length_append]; simp at hl1; omega
      rw [← hcur] at hb
      have Hcur := hid hcur
      clear hcur hl1 hl2 hl3
      have hWo := hb.grown.size
      obtain ⟨wo, rfl⟩ : ∃ wo : World, wo = wr := ⟨_, rfl⟩
      by_cases hlt : k < ps.length
      · obtain ⟨b, o, rfl, hx⟩ := hps k hlt
        have hx := hx _ (List.getElem?_eq_getElem hlt)
        have hbl := lt_of_cell hx.c0
        obtain ⟨e0, e1, e2, e3, e4, e5⟩ := hx.mono hB1
        have hne : b ≠ w1.heap.size := by omega
        have e0 := cell_kept hb e0 hne
        have e1 := cell_kept hb e1 hne
        have e2 := cell_kept hb e2 hne
        have e3 := cell_kept hb e3 hne
        have e4 := cell_kept hb e4 hne
        have e5 := cell_kept hb e5 hne
        have hokp := Hok.out _ (List.getElem_mem hlt)
        have hsp := hsum _ (List.getElem_mem hlt)
        have Hnext := hid (show (ps.take (k + 1)).flatMap pieceBytes = (ps.take k).flatMap pieceBytes ++ pieceBytes ps[k] by
          rw [List.take_add_one, List.getElem?_eq_getElem hlt, List.flatMap_append]; simp)
        obtain ⟨p, hp⟩ : ∃ p, p = ps[k] := ⟨_, rfl⟩
        rw [← hp] at e0 e1 e2 e3 e4 e5 hokp hsp Hnext
        clear hp hx
        obtain ⟨pid, pb, pf, pz, pm, pt⟩ := p
        obtain ⟨k0, k1, k2, k3, k4, k5, k6, k7, _, k9⟩ := hokp
        obtain ⟨h8, h9⟩ := hsp
        simp only at e0 e1 e2 e3 e4 e5 k0 k1 k2 k3 k4 k5 k6 k7 k9 h8 h9
        obtain ⟨i1, rfl⟩ := Int.eq_ofNat_of_zero_le k0
        obtain ⟨i2, rfl⟩ := Int.eq_ofNat_of_zero_le k2
        obtain ⟨i3, rfl⟩ := Int.eq_ofNat_of_zero_le k4
        obtain ⟨i4, rfl⟩ := Int.eq_ofNat_of_zero_le k6
        obtain ⟨i5, rfl⟩ := Int.eq_ofNat_of_zero_le h8
        obtain ⟨i6, rfl⟩ := Int.eq_ofNat_of_zero_le (show 0 ≤ pt by omega)
        have Hpb := hid (show pieceBytes ⟨i1, i2, i3, i4, i5, i6⟩ = puts [i1, i2, i3, i4] ++ be4 i5 ++ puts [i6] from rfl)
        have hp4 := puts_length [i1, i2, i3, i4] (by intro n hn'; simp at hn'; rcases hn' with rfl | rfl | rfl | rfl <;> omega)
        have HP4 := hid (show ∀ n ∈ [i1, i2, i3, i4], n ≤ 1099511627776 by intro n hn'; simp at hn'; rcases hn' with rfl | rfl | rfl | rfl <;> omega)
        have HP1 := hid (show ∀ n ∈ [i6], n ≤ 1099511627776 by intro n hn'; simp at hn'; subst hn'; omega)
        clear k0 k1 k2 k3 k4 k5 k6 k7 k9 h8
        go_wp2_with fail
        refine ((hb.below ((below_alloc wo _).step (below_alloc _ _))).put (by omega) hWs [i1, i2, i3, i4] HP4.out (by simp) _ (by simpa using natsAt_new (wo.alloc _) 3 [i1, i2, i3, i4] (by simp)) (by intro a n c h; cases h; simp; omega)).mono ?_
        rintro e w3 ⟨rfl, hb3, hg3⟩
        have q4 := cell_grown (B := wo.heap.size) (o := 4) hg3 (by omega) (cell_alloc_old _ (cell_new rfl rfl))
        have q5 := cell_grown (B := wo.heap.size) (o := 5) hg3 (by omega) (cell_alloc_old _ (cell_new rfl rfl))
        have hs3 := hg3.size
        simp only [World.size_alloc] at hs3
        clear hg3 e0 e1 e2 e3 e4 e5
        obtain ⟨cur3, hcur3⟩ : ∃ c, c = cur ++ puts [i1, i2, i3, i4] := ⟨_, rfl⟩
        have hcl3 : cur3.length ≤ 20040 := by rw [hcur3, List.length_append]; simp at hp4; omega
        rw [← hcur3] at hb3
        have Hcur3 := hid hcur3
        clear hcur3 hp4
        obtain ⟨a3, c3, v3, f3, o3⟩ := hb3.facts
        go_wp2_with fail
        refine (put4_any cur3 i5 _ w3 (o3.at (by omega)) (by omega) (by omega)).mono ?_
        rintro e w4 ⟨u4, rfl, hu4, hb4⟩
        obtain ⟨cur4, hcur4⟩ : ∃ c, c = cur3 ++ be4 i5 := ⟨_, rfl⟩
        have hcl4 : cur4.length ≤ 20050 := by rw [hcur4, List.length_append, be4_length]; omega
        rw [← hcur4] at hu4
        have Hcur4 := hid hcur4
        clear hcur4
        obtain ⟨a4, c4, rfl⟩ := OwnBytes.form hu4
        obtain ⟨a5, c5, v5, f5, _⟩ := (hb3.below hb4).facts
        have q5 := cell_below hb4 q5
        have hb5 := hb3.store hb4 (by omega) _ hu4
        have hs4 := hb4.size
        clear q4 v3 f3 o3 hb3 hb4 hu4
        go_wp2_with fail
        refine ((hb5.below (below_alloc _ _)).put (by omega) hWs [i6] HP1.out (by simp) _ (by simpa using natsAt_new (w4.setCell _ _) 3 [i6] (by simp)) (by intro a n c h; cases h; simp; omega)).mono ?_
        rintro e w6 ⟨rfl, hb6, _⟩
        clear q5 v5 f5 hb5
        go_wp2_with fail
        go_roundw
        case rel => exact ⟨k + 1, by omega, by go_num, by rw [Hnext.out, Hpb.out, ← List.append_assoc, ← Hcur.out, ← List.append_assoc, ← List.append_assoc, ← Hcur3.out, ← Hcur4.out]; exact hb6⟩
        case measure => simp [intOf]; omega
      · have hke : k = ps.length := by omega
        have HE := hid (show cur = manBytes vn nn ps by rw [Hcur.out, Hmb.out, hke, List.take_length])
        clear hke Hcur
        obtain ⟨a3, c3, v3, f3, o3⟩ := hb.facts
        go_wp2_with fail
        refine (seal_any cur _ wo (o3.at (by omega)) (by omega)).mono ?_
        rintro e w3 ⟨u3, rfl, hu3, hb3⟩
        obtain ⟨a4, c4, rfl⟩ := OwnBytes.form hu3
        go_wp2_with fail
        refine bodyPost_ret (v := .tuple #[.slice a4 (sealM cur).length c4, .int .i64 0]) (by simp [results, Tryz.results23, go_sem]) rfl ⟨_, by rw [Hm.out], by rw [Hm.out, ← HE.out]; exact hu3.base (by omega), ?_⟩
        exact (hB1.trans (below_grown (hb.grown) hB1.size fun q hq => by cases hq; omega)).step hb3
  · have Hm := hid (show saveM ver next ps = ([], checkM ver next ps) by rw [saveM, if_neg hck])
    have hne : (checkM ver next ps != 0) = true := by simpa using hck
    generalize checkM ver next ps = e0 at *
    clear hck hs
    go_enter Tryz.func23, Tryz.ntmps23
    go_wp2_with fail
    refine C.out.mono ?_
    rintro e w1 ⟨rfl, hb1⟩
    go_wp2_with fail
    exact bodyPost_ret (v := .tuple #[.slice none 0 0, .int .i64 e0]) (by simp [results, Tryz.results23, go_sem]) rfl ⟨_, by rw [Hm.out], by rw [Hm.out]; exact OwnBytes.nil _ _, (below_alloc _ _).step hb1⟩
end Go.Proofs.YtcpecponmaakoaaGreatDoor
