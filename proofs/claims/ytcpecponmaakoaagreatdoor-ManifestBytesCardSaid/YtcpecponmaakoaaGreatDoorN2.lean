/- Plain law: what is saved is loaded. -/
import Derived.Test.YtcpecponmaakoaaGreatDoorL4
import Derived.Test.YtcpecponmaakoaaGreatDoorW9
namespace Go.Proofs.YtcpecponmaakoaaGreatDoor
open Go.RowKit Go.Wm Go.Lib
theorem uv_small {x : Nat} (h : x < 128) : x.toUInt8.toNat = x := by
  show (UInt8.ofNat x).toNat = x
  rw [UInt8.toNat_ofNat']; omega
theorem gv_uvarint (a : Int) (rest : List UInt8) : ∀ (x i z : Nat), x < 128 ^ (9 - i) → i < 9 → (0 < i → 0 < x) →
    gv a i z (uvarint x ++ rest) = (unzig (z + 128 ^ i * x), a + i + ((uvarint x).length : Nat), 0) := by
  intro x
  induction x using Nat.strongRecOn with
  | _ x ih =>
    intro i z hx hi h0
    by_cases h : x < 128
    · rw [uvarint_small h, List.singleton_append, gv, uv_small h, if_neg (by omega), if_pos h, Nat.mod_eq_of_lt h]
      rfl
    · have hb : ((x % 128 + 128).toUInt8).toNat = x % 128 + 128 := by
        show (UInt8.ofNat _).toNat = _
        rw [UInt8.toNat_ofNat']; omega
      rw [uvarint_big (by omega), List.cons_append, gv, hb, if_neg (by omega), if_neg (by omega)]
      have hi8 : i < 8 := by
        rcases Nat.lt_or_ge i 8 with h8 | h8
        · exact h8
        · have : i = 8 := by omega
          subst this
          simp at hx
          omega
      have hp : 128 ^ (9 - i) = 128 ^ (9 - (i + 1)) * 128 := by rw [← Nat.pow_succ]; congr 1; omega
      rw [ih (x / 128) (by omega) (i + 1) _ (by rw [hp] at hx; exact Nat.div_lt_of_lt_mul (by rw [Nat.mul_comm]; exact hx)) (by omega) (by omega)]
      have e1 : (x % 128 + 128) % 128 = x % 128 := by omega
      have e2 : z + 128 ^ i * (x % 128) + 128 ^ (i + 1) * (x / 128) = z + 128 ^ i * x := by
        rw [Nat.pow_succ, Nat.mul_assoc, Nat.add_assoc, ← Nat.mul_add]
        congr 2
        omega
      rw [e1, e2, List.length_cons]
      congr 2
      push_cast
      omega
/-- What lies ahead of a reader that is well. -/
structure Ahead (l : List UInt8) (s : Rd) (bs : List UInt8) : Prop where
  ok : s.e = 0
  le : s.at' ≤ l.length
  drop : l.drop s.at' = bs
theorem Ahead.length {l : List UInt8} {s : Rd} {bs : List UInt8} (h : Ahead l s bs) : s.at' + bs.length = l.length := by
  rw [← h.drop, List.length_drop]
  have := h.le
  omega
theorem Ahead.on {l : List UInt8} {s : Rd} {bs rest : List UInt8} (h : Ahead l s (bs ++ rest)) : Ahead l ⟨s.at' + bs.length, 0⟩ rest := by
  have hl := h.length
  rw [List.length_append] at hl
  refine ⟨rfl, by show s.at' + bs.length ≤ l.length; omega, ?_⟩
  show l.drop (s.at' + bs.length) = rest
  rw [← List.drop_drop, h.drop, List.drop_left]
theorem rd_ahead {l : List UInt8} {s : Rd} {rest : List UInt8} {n : Int} (h0 : 0 ≤ n) (h1 : n ≤ 1099511627776) (h : Ahead l s (puts [n.toNat] ++ rest)) :
    rd l s = (n, ⟨s.at' + (puts [n.toNat]).length, 0⟩) := by
  have e : puts [n.toNat] = uvarint (2 * n.toNat) := by simp [puts]
  rw [e] at h ⊢
  unfold rd
  rw [if_pos h.ok]
  unfold getVarM
  rw [h.drop, gv_uvarint _ _ _ _ _ (by rw [show (128 : Nat) ^ (9 - 0) = 9223372036854775808 by decide]; omega) (by omega) (by omega)]
  have hu : unzig (0 + 128 ^ 0 * (2 * n.toNat)) = n := by
    unfold unzig
    rw [if_pos (by omega)]
    omega
  rw [hu]
  simp only [Prod.mk.injEq, Rd.mk.injEq, true_and, and_true]
  omega
theorem be4_val (n : Nat) (h : n < 4294967296) : beVal (be4 n) = n := by
  have t : ∀ k : Nat, ((k % 256).toUInt8).toNat = k % 256 := by
    intro k
    show (UInt8.ofNat _).toNat = _
    rw [UInt8.toNat_ofNat']; omega
  simp only [be4, beVal, List.foldl_cons, List.foldl_nil, t]
  omega
theorem get4_ahead {l : List UInt8} {s : Rd} {rest : List UInt8} {n : Nat} (hn : n < 4294967296) (h : Ahead l s (be4 n ++ rest)) : get4 l s.at' = (n, 0) := by
  unfold get4
  rw [h.drop, if_neg (by rw [List.length_append, be4_length]; omega)]
  have : (be4 n ++ rest).take 4 = be4 n := List.take_left' (be4_length n)
  rw [this, be4_val n hn]
theorem puts_cons (n : Nat) (l : List Nat) : puts (n :: l) = puts [n] ++ puts l := by simp [puts]
theorem rdPiece_ahead {l : List UInt8} {s : Rd} {rest : List UInt8} {next : Int} {p : Piece} (hp : PieceOk next p) (hn : next ≤ 1099511627776) (hs0 : 0 ≤ p.sum) (hs1 : p.sum < 4294967296) (h : Ahead l s (pieceBytes p ++ rest)) :
    (rdPiece l s).1 = p ∧ (rdPiece l s).2 = ⟨s.at' + (pieceBytes p).length, 0⟩ := by
  have hb : pieceBytes p = puts [p.id.toNat] ++ (puts [p.base.toNat] ++ (puts [p.fin.toNat] ++ (puts [p.size.toNat] ++ (be4 p.sum.toNat ++ puts [p.state.toNat])))) := by
    unfold pieceBytes
    rw [puts_cons, puts_cons p.base.toNat, puts_cons p.fin.toNat]
    simp only [List.append_assoc]
  have hid0 := hp.id0
  have hidn := hp.idn
  have hst := hp.st
  rw [hb] at h ⊢
  simp only [List.append_assoc] at h
  have r1 := rd_ahead hp.id0 (by omega) h
  have a1 := h.on
  have r2 := rd_ahead hp.base0 hp.base1 a1
  have a2 := a1.on
  have r3 := rd_ahead hp.fin0 hp.fin1 a2
  have a3 := a2.on
  have r4 := rd_ahead hp.size0 hp.size1 a3
  have a4 := a3.on
  have r5 := get4_ahead (by omega) a4
  have a5 := a4.on
  have r6 := rd_ahead (n := p.state) (by omega) (by omega) a5
  rw [be4_length] at r6 a5
  unfold rdPiece
  simp only [r1, r2, r3, r4, r5, if_true, r6]
  refine ⟨?_, ?_⟩
  · obtain ⟨a, b, c, d, e, f⟩ := p
    simp only [Piece.mk.injEq, true_and, and_true]
    simp only at hs0
    omega
  · simp only [List.length_append, be4_length, Rd.mk.injEq, and_true]
    omega
theorem rdPieces_ahead {l : List UInt8} {rest : List UInt8} {next : Int} (hn : next ≤ 1099511627776) : ∀ (ps : List Piece) (s : Rd), (∀ p ∈ ps, PieceOk next p) → (∀ p ∈ ps, 0 ≤ p.sum ∧ p.sum < 4294967296) → Ahead l s (ps.flatMap pieceBytes ++ rest) →
    rdPieces l ps.length s = (ps, ⟨s.at' + (ps.flatMap pieceBytes).length, 0⟩)
  | [], s, _, _, h => by
    obtain ⟨at', e⟩ := s
    have := h.ok
    simp only at this
    subst this
    simp [rdPieces]
  | p :: ps, s, hok, hsum, h => by
    rw [List.flatMap_cons, List.append_assoc] at h
    obtain ⟨h1, h2⟩ := rdPiece_ahead (hok p (by simp)) hn (hsum p (by simp)).1 (hsum p (by simp)).2 h
    have h3 := h.on
    rw [← h2] at h3
    have ih := rdPieces_ahead hn ps _ (fun q hq => hok q (by simp [hq])) (fun q hq => hsum q (by simp [hq])) h3
    rw [List.length_cons, rdPieces, if_pos h.ok, ih, h1, h2]
    simp only [List.flatMap_cons, List.length_append, Prod.mk.injEq, Rd.mk.injEq, and_true, true_and]
    omega
theorem loadBody_save {ver next : Int} {ps : List Piece} (hc : checkM ver next ps = 0) (hsum : ∀ p ∈ ps, 0 ≤ p.sum ∧ p.sum < 4294967296) : loadBody (manBytes ver next ps) = ((ver, next, ps), 0) := by
  obtain ⟨⟨v0, v1⟩, ⟨n0, n1⟩, hlen, hok, _⟩ := checkM_ok hc
  have hm : manBytes ver next ps = puts [ver.toNat] ++ (puts [next.toNat] ++ (puts [(ps.length : Int).toNat] ++ (ps.flatMap pieceBytes ++ []))) := by
    unfold manBytes
    rw [puts_cons, puts_cons next.toNat]
    simp
  have a0 : Ahead (manBytes ver next ps) ⟨0, 0⟩ (puts [ver.toNat] ++ (puts [next.toNat] ++ (puts [(ps.length : Int).toNat] ++ (ps.flatMap pieceBytes ++ [])))) := ⟨rfl, Nat.zero_le _, by rw [← hm]; rfl⟩
  have r1 := rd_ahead v0 v1 a0
  have a1 := a0.on
  have r2 := rd_ahead n0 n1 a1
  have a2 := a1.on
  have r3 := rd_ahead (n := (ps.length : Int)) (by omega) (by omega) a2
  have a3 := a2.on
  have r4 := rdPieces_ahead n1 ps _ hok hsum a3
  have hl := a3.length
  rw [List.append_nil] at hl
  unfold loadBody
  have g1 : ¬ ((ps.length : Int) < 0) := by omega
  have g2 : ¬ (256 < (ps.length : Int)) := by omega
  have g3 : ((ps.length : Int)).toNat = ps.length := by omega
  simp only [r1, r2, r3, if_true, if_neg g1, if_neg g2]
  rw [g3] at r4 hl ⊢
  rw [r4]
  simp only at hl
  simp only [hl, hc, if_true, ne_eq, not_true_eq_false, or_false, if_false]
theorem open_seal (l : List UInt8) (h : crcOf l < 4294967296) : openM (sealM l) = (l, 0) := by
  unfold openM sealM
  have e : (l ++ be4 (crcOf l)).length - 4 = l.length := by rw [List.length_append, be4_length]; omega
  rw [if_neg (by rw [List.length_append, be4_length]; omega), e, List.drop_left, List.take_left, be4_val _ h, if_neg (by simp)]
theorem load_save {ver next : Int} {ps : List Piece} (hc : checkM ver next ps = 0) (hsum : ∀ p ∈ ps, 0 ≤ p.sum ∧ p.sum < 4294967296) : loadM (saveM ver next ps).1 = ((ver, next, ps), 0) := by
  unfold saveM loadM
  rw [if_pos hc]
  simp only [open_seal _ (crcOf_lt _), if_true]
  exact loadBody_save hc hsum
theorem beVal_acc : ∀ (l m : List UInt8) (a b : Nat), l.length = m.length → l.foldl (fun a b => a * 256 + b.toNat) a = m.foldl (fun a b => a * 256 + b.toNat) b → a = b ∧ l = m
  | [], [], a, b, _, h => ⟨h, rfl⟩
  | x :: l, y :: m, a, b, hl, h => by
    obtain ⟨h1, h2⟩ := beVal_acc l m _ _ (by simpa using hl) h
    have h1 : a * 256 + x.toNat = b * 256 + y.toNat := h1
    have hx := x.toNat_lt
    have hy := y.toNat_lt
    have e : x.toNat = y.toNat := by omega
    exact ⟨by omega, by rw [h2, UInt8.toNat_inj.1 e]⟩
theorem beVal_inj {l m : List UInt8} (hl : l.length = m.length) (h : beVal l = beVal m) : l = m := (beVal_acc l m 0 0 hl h).2
theorem xor_other (x y : UInt8) (h : y ≠ 0) : x ^^^ y ≠ x := by
  intro e
  apply h
  have : x ^^^ (x ^^^ y) = x ^^^ x := by rw [e]
  simpa [← UInt8.xor_assoc] using this
theorem set_split (l : List UInt8) (k : Nat) (h : k < l.length) (y : UInt8) : ∃ a b, l = a ++ l[k] :: b ∧ l.set k y = a ++ y :: b := by
  refine ⟨l.take k, l.drop (k + 1), ?_, ?_⟩
  · rw [← List.drop_eq_getElem_cons h, List.take_append_drop]
  · rw [List.set_eq_take_append_cons_drop, if_pos h]
/-- A byte of a sealed text that is another one: the sum tells. -/
theorem open_spoilt (l : List UInt8) (k : Nat) (y : UInt8) (hk : k < (sealM l).length) (hy : (sealM l)[k]? ≠ some y) : openM ((sealM l).set k y) = ([], 20) := by
  have hl : (sealM l).length = l.length + 4 := by unfold sealM; rw [List.length_append, be4_length]
  unfold openM
  rw [List.length_set, hl, if_neg (by omega), show l.length + 4 - 4 = l.length by omega]
  have key : beVal (((sealM l).set k y).drop l.length) ≠ crcOf (((sealM l).set k y).take l.length) := by
    unfold sealM at hy ⊢
    by_cases h : k < l.length
    · rw [List.getElem?_append_left h, List.getElem?_eq_getElem h] at hy
      have hy : l[k] ≠ y := fun e => hy (by rw [e])
      rw [List.set_append_left _ _ h, List.drop_left' (List.length_set ..), List.take_left' (List.length_set ..), be4_val _ (crcOf_lt l)]
      obtain ⟨a, b, e1, e2⟩ := set_split l k h y
      rw [e2]
      have := crcOf_other a b (x := l[k]) (y := y) hy
      rw [← e1] at this
      exact this
    · rw [List.getElem?_append_right (by omega)] at hy
      rw [List.set_append_right _ _ (by omega), List.drop_left, List.take_left]
      intro e
      have := beVal_inj (by simp) (e.trans (be4_val _ (crcOf_lt l)).symm)
      apply hy
      have h4 : k - l.length < (be4 (crcOf l)).length := by rw [be4_length]; omega
      have hg : ((be4 (crcOf l)).set (k - l.length) y)[k - l.length]? = (be4 (crcOf l))[k - l.length]? := by rw [this]
      rw [List.getElem?_set_self h4] at hg
      exact hg.symm
  rw [if_pos key]
theorem load_spoilt (l : List UInt8) (k : Nat) (y : UInt8) (hk : k < (sealM l).length) (hy : (sealM l)[k]? ≠ some y) : loadM ((sealM l).set k y) = ((0, 0, []), 20) := by
  unfold loadM
  rw [open_spoilt l k y hk hy]
  rfl
end Go.Proofs.YtcpecponmaakoaaGreatDoor
