/- Walks: a manifest's bytes (the program's Save). -/
import Derived.Test.YtcpecponmaakoaaGreatDoorB6
import Derived.Test.YtcpecponmaakoaaGreatDoorW5
namespace Go.Proofs.YtcpecponmaakoaaGreatDoor
open Go.RowKit Go.Wm Go.Lib
/-- A slice value that reads as these numbers, none below 0. -/
def NatsAt (w : World) (v : Value) (l : List Nat) : Prop :=
  ∃ a cap, v = .slice a l.length cap ∧ l.length ≤ 1000000 ∧ SliceAt a l.length 1 (fun k b o => ∀ i, l[k]? = some i → w.cell? ⟨b, o, none⟩ = some (.int .i64 (i : Nat)))
theorem NatsAt.mono {w w' : World} (hb : Below w.heap.size w w') {v : Value} {l : List Nat} (h : NatsAt w v l) : NatsAt w' v l := by
  obtain ⟨a, cap, rfl, h1, h3⟩ := h
  refine ⟨a, cap, rfl, h1, fun k hk => ?_⟩
  obtain ⟨b, o, ha, h⟩ := h3 k hk
  exact ⟨b, o, ha, fun i hi => cell_below hb (h i hi)⟩
/-- A variable of the call's own: its value in a block of one cell. -/
def VarAt (w : World) (B : Nat) (t : TypeId) (v : Value) : Prop := w.heap[B]? = some (.cells #[v] t (0, 0))
theorem VarAt.cell {w : World} {B : Nat} {t : TypeId} {v : Value} (h : VarAt w B t v) : w.cell? ⟨B, 0, none⟩ = some v := by
  unfold World.cell?
  rw [show (⟨B, 0, none⟩ : Addr).block = B from rfl, h]; rfl
theorem VarAt.frozen {w : World} {B : Nat} {t : TypeId} {v : Value} (h : VarAt w B t v) (j : Nat) : w.frozen? ⟨B, j, none⟩ = false := by simp [World.frozen?, show w.heap[B]? = _ from h]
theorem VarAt.below {w w' : World} {B : Nat} {t : TypeId} {v : Value} (h : VarAt w B t v) (hb : Below w.heap.size w w') : VarAt w' B t v := blk_below h hb
theorem VarAt.set {w : World} {B : Nat} {t : TypeId} {v : Value} (h : VarAt w B t v) (u : Value) : VarAt (w.setCell ⟨B, 0, none⟩ u) B t u := by
  unfold VarAt
  rw [heap_setCell_same w B 0 _ t u h]; rfl
theorem VarAt.lt {w : World} {B : Nat} {t : TypeId} {v : Value} (h : VarAt w B t v) : B < w.heap.size := (Array.getElem?_eq_some_iff.1 h).1
def puts (l : List Nat) : List UInt8 := l.flatMap fun n => uvarint (2 * n)
theorem puts_snoc (l : List Nat) (n : Nat) : puts (l ++ [n]) = puts l ++ uvarint (2 * n) := by simp [puts]
theorem puts_length (l : List Nat) (h : ∀ n ∈ l, n ≤ 1099511627776) : (puts l).length ≤ l.length * 10 := by
  induction l with
  | nil => simp [puts]
  | cons n l ih =>
    have h1 := uvarint_length64 (x := 2 * n) (by have := h n (by simp); omega)
    have h2 := ih fun m hm => h m (by simp [hm])
    simp [puts] at h2 ⊢
    omega
/-- What 'put' leaves: its variable holds the bytes behind; all else is as it was. -/
structure PutDone (w w' : World) (B base : Nat) (l : List UInt8) : Prop where
  var : ∃ u, VarAt w' B 43 u ∧ OwnBytes w' base u l
  grown : w.grownBy w' (some B)
set_option maxHeartbeats 1000000 in
set_option maxRecDepth 100000 in
theorem save1_any (ns : List Nat) (hns : ∀ n ∈ ns, n ≤ 1099511627776) (hlen : ns.length ≤ 10) (v : Value) (l : List UInt8) (hl : l.length ≤ 800000) (B base : Nat) (u : Value) (w : World) (hv : NatsAt w v ns) (hvB : ∀ a n c, v = .slice (some a) n c → a.block ≠ B)
    (hB : VarAt w B 43 u) (hu : OwnBytes w base u l) (hBb : B < base) (hbw : base ≤ w.heap.size) :
    Calls Tryz.prog 53 #[v, .pointer (some ⟨B, 0, none⟩)] w fun e w' => e = .returned (.tuple #[]) ∧ ∃ u', VarAt w' B 43 u' ∧ OwnBytes w' base u' (l ++ puts ns) ∧ w.grownBy w' (some B) := by
  obtain ⟨a, cap, rfl, hn, hs⟩ := hv
  have HS := hid hs
  clear hs
  go_enter Tryz.func53, Tryz.ntmps53
  go_wp2
  go_loopw [7] (fun i wr => ∃ (k : Nat) (x : Value), k ≤ ns.length ∧ i = .int .i64 k ∧ VarAt wr B 43 x ∧ OwnBytes wr base x (l ++ puts (ns.take k)) ∧ w.grownBy wr (some B)) (fun i _ => ns.length - (intOf i).toNat)
  case atStart => exact ⟨0, u, by omega, rfl, hB, by simpa [puts] using hu, grownBy_below (Below.refl _ _)⟩
  case round =>
    obtain ⟨k, x, hk, rfl, hx, hO, hg⟩ := hrel
    have hpl := puts_length (ns.take k) fun n hn => hns n (List.mem_of_mem_take hn)
    rw [List.length_take] at hpl
    obtain ⟨cur, hcur⟩ : ∃ c, c = l ++ puts (ns.take k) := ⟨_, rfl⟩
    have hcl : cur.length ≤ 800100 := by rw [hcur, List.length_append]; omega
    rw [← hcur] at hO
    have Hcur := hid hcur
    clear hcur hpl
    obtain ⟨ax, cx, rfl⟩ := OwnBytes.form hO
    have HO := hid hO
    have HX := hid hx
    have c0 := hx.cell
    have fz := hx.frozen 0
    have hBlt := hx.lt
    clear hO hx hB hu
    by_cases hlt : k < ns.length
    · obtain ⟨b, o, rfl, hc⟩ := HS.out k hlt
      have hne := hvB _ _ _ rfl
      have e0 := cell_grown hg hne (hc _ (List.getElem?_eq_getElem hlt))
      have hn1 := hns _ (List.getElem_mem hlt)
      rw [Nat.mul_one] at e0
      have Hp := hid (show puts (ns.take (k + 1)) = puts (ns.take k) ++ uvarint (2 * ns[k]) by
        rw [List.take_add_one, List.getElem?_eq_getElem hlt]; exact puts_snoc _ _)
      obtain ⟨m, hm⟩ : ∃ m, m = ns[k] := ⟨_, rfl⟩
      rw [← hm] at e0 hn1 Hp
      clear hm
      obtain ⟨wo, rfl⟩ : ∃ wo : World, wo = wr := ⟨_, rfl⟩
      have C := hid (putVar_any cur m _ wo (HO.out.at (by omega)) hn1 (by omega))
      have HE := hid (show cur ++ uvarint (2 * m) = l ++ puts (ns.take (k + 1)) by rw [Hcur.out, Hp.out, List.append_assoc])
      have hbwo : base ≤ wo.heap.size := Nat.le_trans hbw hg.size
      clear hc Hp Hcur
      go_wp2_with fail
      refine C.out.mono ?_
      rintro e w1 ⟨u1, rfl, hu1, hb1⟩
      obtain ⟨a1, k1, rfl⟩ := OwnBytes.form hu1
      have hx1 := HX.out.below hb1
      have c1 := hx1.cell
      have f1 := hx1.frozen 0
      have HX2 := hid (hx1.set (.slice a1 (cur ++ uvarint (2 * m)).length k1))
      have HO2 := hid (ownsRow_setCell_below (hu1.base hbwo) (a := ⟨B, 0, none⟩) hBb (.slice a1 (cur ++ uvarint (2 * m)).length k1))
      have Hg2 := hid (grownBy_trans (grownBy_trans hg (grownBy_below hb1)) (show w1.grownBy (w1.setCell ⟨B, 0, none⟩ (.slice a1 (cur ++ uvarint (2 * m)).length k1)) (some B) from ⟨rfl, rfl, rfl, by simp, fun q _ hq => heap_setCell_other w1 ⟨B, 0, none⟩ q _ (fun e => hq (by rw [e]))⟩))
      clear C c0 fz hx1 hg hu1 hb1 HX HO
      obtain ⟨nxt, hnxt⟩ : ∃ c, c = cur ++ uvarint (2 * m) := ⟨_, rfl⟩
      rw [← hnxt] at HX2 HO2 Hg2 HE
      rw [← hnxt]
      clear hnxt
      go_wp2_with fail
      go_roundw
      case rel => exact ⟨k + 1, _, by omega, by go_num, HX2.out, by rw [← HE.out]; exact HO2.out, Hg2.out⟩
      case measure => simp [intOf]; omega
    · have hke : k = ns.length := by omega
      have Hf := hid (show cur = l ++ puts ns by rw [Hcur.out, hke, List.take_length])
      clear hke
      go_wp2
      go_end0
      exact ⟨rfl, _, HX.out, by rw [← Hf.out]; exact HO.out, hg⟩
theorem natsAt_new (w : World) (t : TypeId) (ns : List Nat) (h : ns.length ≤ 10) : NatsAt (w.alloc (.cells (ns.map fun (n : Nat) => Value.int .i64 (n : Int)).toArray t)) (.slice (some ⟨w.heap.size, 0, none⟩) ns.length ns.length) ns :=
  ⟨_, _, rfl, by omega, fun k _ => ⟨w.heap.size, 0, rfl, fun i hi => cell_new rfl (by simp [hi])⟩⟩
/-- What a manifest that may be is like. -/
structure PieceOk (next : Int) (p : Piece) : Prop where
  id0 : 0 ≤ p.id
  idn : p.id < next
  base0 : 0 ≤ p.base
  base1 : p.base ≤ 1099511627776
  fin0 : 0 ≤ p.fin
  fin1 : p.fin ≤ 1099511627776
  size0 : 0 ≤ p.size
  size1 : p.size ≤ 1099511627776
  order : p.base < p.fin
  st : p.state = 1 ∨ p.state = 2 ∨ p.state = 3
theorem beyond_false {n : Int} (h : beyond n = false) : 0 ≤ n ∧ n ≤ 1099511627776 := by
  unfold beyond at h
  simp at h
  omega
theorem badP_false {next last : Int} {p : Piece} (h : badP next last p = false) : last < p.id ∧ p.id < next ∧ (0 ≤ p.base ∧ p.base ≤ 1099511627776) ∧ (0 ≤ p.fin ∧ p.fin ≤ 1099511627776) ∧ (0 ≤ p.size ∧ p.size ≤ 1099511627776) ∧ p.base < p.fin := by
  unfold badP at h
  simp only [Bool.or_eq_false_iff, decide_eq_false_iff_not] at h
  obtain ⟨⟨⟨⟨⟨h1, h2⟩, h3⟩, h4⟩, h5⟩, h6⟩ := h
  exact ⟨by omega, by omega, beyond_false h3, beyond_false h4, beyond_false h5, by omega⟩
theorem chk_ok {next : Int} : ∀ (ps : List Piece) (last e : Int) (o : Bool), -1 ≤ last → chk next last e o ps = true → ∀ p ∈ ps, PieceOk next p
  | [], _, _, _, _, _, _, h => by simp at h
  | q :: ps, last, e, o, hl, hc, p, hp => by
    rw [chk] at hc
    by_cases hb : badP next last q = true
    · rw [if_pos hb] at hc; cases hc
    · rw [if_neg hb] at hc
      have hb := badP_false (by simpa using hb)
      have hrest : PieceOk next q ∧ ∃ e' o', chk next q.id e' o' ps = true := by
        by_cases h1 : q.state = 1 ∨ q.state = 2
        · rw [if_pos h1] at hc
          split at hc
          · cases hc
          · exact ⟨⟨by omega, by omega, by omega, by omega, by omega, by omega, by omega, by omega, by omega, by omega⟩, _, _, hc⟩
        · rw [if_neg h1] at hc
          split at hc
          · exact ⟨⟨by omega, by omega, by omega, by omega, by omega, by omega, by omega, by omega, by omega, by omega⟩, _, _, hc⟩
          · cases hc
      rcases List.mem_cons.1 hp with rfl | hp
      · exact hrest.1
      · obtain ⟨e', o', hc'⟩ := hrest.2
        exact chk_ok ps q.id e' o' (by omega) hc' p hp
theorem checkM_ok {ver next : Int} {ps : List Piece} (h : checkM ver next ps = 0) : (0 ≤ ver ∧ ver ≤ 1099511627776) ∧ (0 ≤ next ∧ next ≤ 1099511627776) ∧ ps.length ≤ 256 ∧ (∀ p ∈ ps, PieceOk next p) ∧ chk next (-1) 0 true ps = true := by
  unfold checkM at h
  split at h
  · omega
  · next h1 =>
    split at h
    · omega
    · next h2 =>
      split at h
      · omega
      · have hb1 : beyond ver = false := by rcases Bool.eq_false_or_eq_true (beyond ver) with h3 | h3; exact absurd (Or.inl h3) h1; exact h3
        have hb2 : beyond next = false := by rcases Bool.eq_false_or_eq_true (beyond next) with h3 | h3; exact absurd (Or.inr h3) h1; exact h3
        have hc : chk next (-1) 0 true ps = true := by simpa using h2
        exact ⟨beyond_false hb1, beyond_false hb2, by omega, chk_ok ps _ _ _ (by omega) hc, hc⟩
def pieceBytes (p : Piece) : List UInt8 := puts [p.id.toNat, p.base.toNat, p.fin.toNat, p.size.toNat] ++ be4 p.sum.toNat ++ puts [p.state.toNat]
def manBytes (ver next : Int) (ps : List Piece) : List UInt8 := puts [ver.toNat, next.toNat, ps.length] ++ ps.flatMap pieceBytes
def saveM (ver next : Int) (ps : List Piece) : List UInt8 × Int := if checkM ver next ps = 0 then (sealM (manBytes ver next ps), 0) else ([], checkM ver next ps)
end Go.Proofs.YtcpecponmaakoaaGreatDoor
