/- Walks: numbers read one behind the other (the program's Load, its closure). -/
import Derived.Test.YtcpecponmaakoaaGreatDoorB8
import Derived.Test.YtcpecponmaakoaaGreatDoorW8
namespace Go.Proofs.YtcpecponmaakoaaGreatDoor
open Go.RowKit Go.Wm Go.Lib
structure Rd where
  at' : Nat
  e : Int
def rd (l : List UInt8) (s : Rd) : Int × Rd :=
  if s.e = 0 then ((getVarM l s.at').1, ⟨(getVarM l s.at').2.1.toNat, (getVarM l s.at').2.2⟩) else (0, s)
theorem gv_nonneg (a : Nat) : ∀ (l : List UInt8) (i z : Nat), 0 ≤ (gv a i z l).2.1 ∧ (gv a i z l).2.1 ≤ a + i + l.length
  | [], _, _ => by simp [gv]; omega
  | x :: l, i, z => by
    rw [gv]
    split
    · simp; omega
    · split
      · simp; omega
      · have := gv_nonneg a l (i + 1) (z + 128 ^ i * (x.toNat % 128))
        simp only [List.length_cons]
        omega
theorem getVarM_at (l : List UInt8) (a : Nat) : (((getVarM l a).2.1.toNat : Nat) : Int) = (getVarM l a).2.1 ∧ (getVarM l a).2.1 ≤ a + l.length := by
  have h := gv_nonneg a (l.drop a) 0 0
  rw [List.length_drop] at h
  unfold getVarM
  omega
def rdW (l : List UInt8) (E AT : Nat) (w : World) (s : Rd) (q : Addr) : World :=
  if s.e = 0 then ((w.setCell q (.int .i64 (rd l s).1)).setCell ⟨AT, 0, none⟩ (.int .i64 (rd l s).2.at')).setCell ⟨E, 0, none⟩ (.int .i64 (rd l s).2.e) else w
def rdsW (l : List UInt8) (E AT : Nat) : World → Rd → List Addr → World × Rd
  | w, s, [] => (w, s)
  | w, s, q :: qs => rdsW l E AT (rdW l E AT w s q) (rd l s).2 qs
/-- What the closure finds: the error, the bytes, the place; the cells that it writes. -/
structure RdAt (w : World) (E IN AT : Nat) (v : Value) (l : List UInt8) (s : Rd) (qs : List Addr) : Prop where
  err : VarAt w E 44 (.int .i64 s.e)
  inp : VarAt w IN 43 v
  pos : VarAt w AT 3 (.int .i64 s.at')
  bytes : BytesAt w v l
  there : ∀ q ∈ qs, q.spot = none ∧ (∃ u, w.cell? q = some u) ∧ w.frozen? q = false
/-- Which blocks lie apart. -/
structure RdApart (E IN AT : Nat) (v : Value) (qs : List Addr) : Prop where
  ei : E ≠ IN
  ea : E ≠ AT
  ia : IN ≠ AT
  q : ∀ q ∈ qs, q.block ≠ E ∧ q.block ≠ IN ∧ q.block ≠ AT
  b : ∀ a n c, v = .slice (some a) n c → a.block ≠ E ∧ a.block ≠ AT ∧ ∀ q ∈ qs, a.block ≠ q.block
theorem cell_set_other (w : World) (p q : Addr) (v : Value) (h : q.block ≠ p.block) : (w.setCell p v).cell? q = w.cell? q := by
  unfold World.cell?
  rw [heap_setCell_other w p q.block v h]
theorem frozen_set (w : World) (p q : Addr) (v : Value) : (w.setCell p v).frozen? q = w.frozen? q := by simp
theorem cell_set_some (w : World) (p q : Addr) (v u : Value) (h : w.cell? q = some u) : ∃ u', (w.setCell p v).cell? q = some u' := by
  by_cases hp : p = q
  · subst hp
    exact ⟨v, by first | exact World.cell?_setCell_same h | exact World.cell?_setCell_same _ _ _ h⟩
  · exact ⟨u, by first | (rw [World.cell?_setCell_other hp]; exact h) | (rw [World.cell?_setCell_other _ _ _ _ hp]; exact h)⟩
theorem VarAt.other {w : World} {B : Nat} {t : TypeId} {v : Value} (h : VarAt w B t v) (p : Addr) (u : Value) (hp : p.block ≠ B) : VarAt (w.setCell p u) B t v := by
  unfold VarAt
  rw [heap_setCell_other w p B u (Ne.symm hp)]; exact h
theorem BytesAt.other {w : World} {v : Value} {l : List UInt8} (h : BytesAt w v l) (p : Addr) (u : Value) (hp : ∀ a n c, v = .slice (some a) n c → a.block ≠ p.block) : BytesAt (w.setCell p u) v l := by
  obtain ⟨a, cap, rfl, h1, h3⟩ := h
  refine ⟨a, cap, rfl, h1, fun k hk => ?_⟩
  obtain ⟨b, o, ha, h⟩ := h3 k hk
  refine ⟨b, o, ha, fun s hs => ?_⟩
  have := hp ⟨b, o, none⟩ _ _ (by rw [ha])
  rw [cell_set_other w p ⟨b, o + k * 1, none⟩ u this]
  exact h s hs
/-- A slice value that reads as these pointers. -/
def PtrsAt (w : World) (v : Value) (qs : List Addr) : Prop :=
  ∃ a cap, v = .slice a qs.length cap ∧ qs.length ≤ 1000000 ∧ SliceAt a qs.length 1 (fun k b o => ∀ q, qs[k]? = some q → w.cell? ⟨b, o, none⟩ = some (.pointer (some q)))
theorem PtrsAt.other {w : World} {v : Value} {l : List Addr} (h : PtrsAt w v l) (p : Addr) (u : Value) (hp : ∀ a n c, v = .slice (some a) n c → a.block ≠ p.block) : PtrsAt (w.setCell p u) v l := by
  obtain ⟨a, cap, rfl, h1, h3⟩ := h
  refine ⟨a, cap, rfl, h1, fun k hk => ?_⟩
  obtain ⟨b, o, ha, h⟩ := h3 k hk
  refine ⟨b, o, ha, fun s hs => ?_⟩
  have := hp ⟨b, o, none⟩ _ _ (by rw [ha])
  rw [cell_set_other w p ⟨b, o + k * 1, none⟩ u this]
  exact h s hs
theorem RdAt.step {w : World} {E IN AT : Nat} {v : Value} {l : List UInt8} {s : Rd} {qs : List Addr} (h : RdAt w E IN AT v l s qs) (ap : RdApart E IN AT v qs) {q : Addr} (hq : q ∈ qs) :
    RdAt (rdW l E AT w s q) E IN AT v l (rd l s).2 qs := by
  unfold rdW
  split
  · obtain ⟨q1, q2, q3⟩ := ap.q q hq
    exact ⟨((h.err.other q _ q1).other ⟨AT, 0, none⟩ _ ap.ea.symm).set _,
      ((h.inp.other q _ q2).other ⟨AT, 0, none⟩ _ ap.ia.symm).other ⟨E, 0, none⟩ _ ap.ei,
      ((h.pos.other q _ q3).set _).other ⟨E, 0, none⟩ _ ap.ea,
      BytesAt.other (BytesAt.other (BytesAt.other h.bytes q _ fun a n c hv => (ap.b a n c hv).2.2 q hq) ⟨AT, 0, none⟩ _ fun a n c hv => (ap.b a n c hv).2.1) ⟨E, 0, none⟩ _ fun a n c hv => (ap.b a n c hv).1,
      fun r hr => by
        obtain ⟨r1, ⟨u, r2⟩, r3⟩ := h.there r hr
        obtain ⟨u1, r4⟩ := cell_set_some w q r (.int .i64 (rd l s).1) u r2
        obtain ⟨u2, r5⟩ := cell_set_some _ ⟨AT, 0, none⟩ r (.int .i64 (rd l s).2.at') u1 r4
        exact ⟨r1, cell_set_some _ ⟨E, 0, none⟩ r _ u2 r5, by rw [frozen_set, frozen_set, frozen_set]; exact r3⟩⟩
  · next he =>
    have e : (rd l s).2 = s := by rw [rd, if_neg he]
    rw [e]; exact h
theorem PtrsAt.step {w : World} {E AT : Nat} {v : Value} {l : List UInt8} {s : Rd} {qs : List Addr} (h : PtrsAt w v qs) (hv : ∀ a n c, v = .slice (some a) n c → a.block ≠ E ∧ a.block ≠ AT ∧ ∀ q ∈ qs, a.block ≠ q.block) {q : Addr} (hq : q ∈ qs) : PtrsAt (rdW l E AT w s q) v qs := by
  unfold rdW
  split
  · exact PtrsAt.other (PtrsAt.other (PtrsAt.other h q _ fun a n c e => (hv a n c e).2.2 q hq) ⟨AT, 0, none⟩ _ fun a n c e => (hv a n c e).2.1) ⟨E, 0, none⟩ _ fun a n c e => (hv a n c e).1
  · exact h
theorem rd_bad {l : List UInt8} {a : Nat} {e : Int} (h : e ≠ 0) : (rd l ⟨a, e⟩).2 = ⟨a, e⟩ := by rw [rd, if_neg h]
set_option maxHeartbeats 1000000 in
set_option maxRecDepth 100000 in
theorem load1_any (l : List UInt8) (E IN AT : Nat) (v pv : Value) (s : Rd) (qs : List Addr) (w : World) (h : RdAt w E IN AT v l s qs) (ap : RdApart E IN AT v qs) (hp : PtrsAt w pv qs)
    (hpv : ∀ a n c, pv = .slice (some a) n c → a.block ≠ E ∧ a.block ≠ AT ∧ ∀ q ∈ qs, a.block ≠ q.block) (hc : capOk v) (hs : s.at' ≤ 100000000 - 2000000 * qs.length) (hq9 : qs.length ≤ 10) :
    Calls Tryz.prog 61 #[pv, .pointer (some ⟨E, 0, none⟩), .pointer (some ⟨IN, 0, none⟩), .pointer (some ⟨AT, 0, none⟩)] w fun e w' => e = .returned (.tuple #[]) ∧ w' = (rdsW l E AT w s qs).1 := by
  obtain ⟨pa, pcap, rfl, hpn⟩ : ∃ a cap, pv = .slice a qs.length cap ∧ qs.length ≤ 1000000 := let ⟨a, c, h1, h2, _⟩ := hp; ⟨a, c, h1, h2⟩
  have hcv := hc
  obtain ⟨va, vcap, rfl, hvn⟩ := h.bytes.form
  go_enter Tryz.func61, Tryz.ntmps61
  go_wp2
  go_loopw [9] (fun i wr => ∃ (k : Nat) (s' : Rd), k ≤ qs.length ∧ i = .int .i64 k ∧ RdAt wr E IN AT (.slice va l.length vcap) l s' qs ∧ PtrsAt wr (.slice pa qs.length pcap) qs ∧ rdsW l E AT w s qs = rdsW l E AT wr s' (qs.drop k) ∧ s'.at' ≤ 100000000 - 2000000 * (qs.length - k)) (fun i _ => qs.length - (intOf i).toNat)
  case atStart => exact ⟨0, s, by omega, rfl, h, hp, rfl, by simpa using hs⟩
  case round =>
    obtain ⟨k, s', hk, rfl, hR, hP, hE, hat⟩ := hrel
    by_cases hlt : k < qs.length
    · rw [List.drop_eq_getElem_cons hlt, rdsW] at hE
      have HE := hid hE
      have hmem := List.getElem_mem hlt
      obtain ⟨pa', pcap', hpv', _, hps⟩ := id hP
      injection hpv' with h1 h2 h3
      subst h1 h3
      obtain ⟨pb, po, rfl, hpc⟩ := hps k hlt
      have e0 := hpc _ (List.getElem?_eq_getElem hlt)
      rw [Nat.mul_one] at e0
      have HR := hid (hR.step ap hmem)
      have HP := hid (PtrsAt.step (l := l) (s := s') hP hpv hmem)
      have cE := hR.err.cell
      have fE := hR.err.frozen 0
      have cI := hR.inp.cell
      have cA := hR.pos.cell
      have fA := hR.pos.frozen 0
      obtain ⟨t1, ⟨u, t2⟩, t3⟩ := hR.there _ hmem
      obtain ⟨q1, q2, q3⟩ := ap.q _ hmem
      have G := hid (getVar_any l s'.at' _ wr hR.bytes (by omega) hcv)
      have hga := getVarM_at l s'.at'
      have Hrd := hid (show rd l s' = if s'.e = 0 then ((getVarM l s'.at').1, ⟨(getVarM l s'.at').2.1.toNat, (getVarM l s'.at').2.2⟩) else (0, s') from rfl)
      obtain ⟨q, hq⟩ : ∃ q, q = qs[k] := ⟨_, rfl⟩
      rw [← hq] at e0 t1 t2 t3 q1 q2 q3 HR HP HE hmem
      clear hq hpc hps hE hP h2
      obtain ⟨qb, qo, qsp⟩ := q
      simp only at t1
      subst t1
      obtain ⟨a', e'⟩ := s'
      simp only at cE cA G hga Hrd hat
      by_cases he : e' = 0
      · subst he
        rw [if_pos rfl] at Hrd
        obtain ⟨r, hr⟩ : ∃ r, r = getVarM l a' := ⟨_, rfl⟩
        rw [← hr] at G hga Hrd
        obtain ⟨r1, r2, r3⟩ := r
        simp only at G hga Hrd
        have HW := hid (show rdW l E AT wr ⟨a', 0⟩ ⟨qb, qo, none⟩ = ((wr.setCell ⟨qb, qo, none⟩ (.int .i64 r1)).setCell ⟨AT, 0, none⟩ (.int .i64 r2)).setCell ⟨E, 0, none⟩ (.int .i64 r3) by
          unfold rdW; rw [if_pos rfl, Hrd.out]; simp only; rw [hga.1])
        have Hb := hid (show (rd l ⟨a', 0⟩).2.at' ≤ 100000000 - 2000000 * (qs.length - (k + 1)) by rw [Hrd.out]; simp only; omega)
        have fA1 : ∀ n, (wr.setCell ⟨qb, qo, none⟩ n).cell? ⟨AT, 0, none⟩ = some (.int .i64 a') := fun n => by rw [cell_set_other wr ⟨qb, qo, none⟩ ⟨AT, 0, none⟩ n (Ne.symm q3)]; exact cA
        have fE1 : ∀ n m, ((wr.setCell ⟨qb, qo, none⟩ n).setCell ⟨AT, 0, none⟩ m).cell? ⟨E, 0, none⟩ = some (.int .i64 0) := fun n m => by
          rw [cell_set_other _ ⟨AT, 0, none⟩ ⟨E, 0, none⟩ m ap.ea, cell_set_other wr ⟨qb, qo, none⟩ ⟨E, 0, none⟩ n (Ne.symm q1)]; exact cE
        clear hr Hrd hga q1 q2 q3
        go_wp2_with (go_at_call 62; refine G.out.mono ?_; rintro e w' ⟨rfl, rfl⟩)
        go_roundw
        case rel => exact ⟨k + 1, (rd l ⟨a', 0⟩).2, by omega, by go_num, by rw [← HW.out]; exact HR.out, by rw [← HW.out]; exact HP.out, by rw [← HW.out]; exact HE.out, Hb.out⟩
        case measure => simp [intOf]; omega
      · have hrd := rd_bad (l := l) (a := a') he
        have HW := hid (show rdW l E AT wr ⟨a', e'⟩ ⟨qb, qo, none⟩ = wr by unfold rdW; rw [if_neg he])
        have heb : (e' == 0) = false := by simpa using he
        clear Hrd hga
        rw [HW.out, hrd] at HR HE
        rw [HW.out] at HP
        go_wp2
        go_roundw
        case rel => exact ⟨k + 1, ⟨a', e'⟩, by omega, by go_num, HR.out, HP.out, HE.out, by simp only; omega⟩
        case measure => simp [intOf]; omega
    · have hke : k = qs.length := by omega
      have HE := hid (show (rdsW l E AT w s qs).1 = wr by rw [hE, hke, List.drop_length]; rfl)
      clear hke hE
      go_wp2
      go_end0
      exact ⟨rfl, HE.out.symm⟩
end Go.Proofs.YtcpecponmaakoaaGreatDoor
