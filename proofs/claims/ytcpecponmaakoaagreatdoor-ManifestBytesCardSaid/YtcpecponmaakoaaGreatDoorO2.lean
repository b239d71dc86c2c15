/- The frame of chapter 15's statements: lists of texts and bytes that came in. -/
import Derived.Test.YtcpecponmaakoaaGreatDoorO1
import Derived.Test.YtcpecponmaakoaaGreatDoorM1
namespace Go.Proofs.YtcpecponmaakoaaGreatDoor
open Go.ChangeShapes Go.WideShapes Go.ChangeAt Go.Deep Go.RowKit Go.Wm
theorem wf_k {k : IntKind} {n : Int} (h : (Lit.int k n).wf = true) : k.min ≤ n ∧ n ≤ k.max := by
  have h' : (decide (k.min ≤ n) && decide (n ≤ k.max)) = true := h
  rw [Bool.and_eq_true, decide_eq_true_eq, decide_eq_true_eq] at h'
  exact h'
theorem wf_i64 {n : Int} (h : (Lit.int .i64 n).wf = true) : -9223372036854775808 ≤ n ∧ n ≤ 9223372036854775807 := wf_k h
theorem wf_u32 {n : Int} (h : (Lit.int .u32 n).wf = true) : 0 ≤ n ∧ n < 4294967296 := by
  have : 0 ≤ n ∧ n ≤ 4294967295 := wf_k h
  omega
theorem wf_u8 {n : Int} (h : (Lit.int .u8 n).wf = true) : 0 ≤ n ∧ n ≤ 255 := wf_k h
theorem cells9 : Tryz.prog.cellsOf 9 = 1 := by kernel_rfl
theorem cells5 : Tryz.prog.cellsOf 5 = 1 := by kernel_rfl
section
variable {H : Type} {enc : TypeId × Value → H} {W : World}
/-- A slice of one-cell elements, cell by cell. -/
theorem open_cells {t e : TypeId} {fuel : Nat} {v : Value} {y : DataW H × List MemPlace} (ht : Tryz.prog.underlying t = some (.slice e)) (hC : Tryz.prog.cellsOf e = 1) (h : DataW.trod enc Tryz.prog W 0 (fun _ => true) true fuel t [v] = some y) :
    v = .slice none 0 0 ∨ ∃ (a : Addr) (len cap : Nat), v = .slice (some a) len cap ∧ len ≤ cap ∧ ∀ i, i < len → ∃ (u : Value) (n : Nat) (z : DataW H × List MemPlace), W.cell? (a.add i) = some u ∧ DataW.trod enc Tryz.prog W 0 (fun _ => true) true n e [u] = some z := by
  rcases open_slice ht h with ⟨hv, _⟩ | ⟨a, len, cap, m, n, D, Pl, hcs, hb, hl, hm, hmm, hx, hi⟩
  · simp only [List.cons.injEq, and_true] at hv
    exact .inl hv
  · simp only [List.cons.injEq, and_true] at hcs
    refine .inr ⟨a, len, cap, hcs, hl, fun i hil => ?_⟩
    obtain ⟨cs', hc, ht'⟩ := hi i (by simp only [if_true] at hmm; omega)
    rw [hC, Nat.mul_one] at hc
    obtain ⟨_, hcl, hat⟩ := World.cells?_some hc
    obtain ⟨u, rfl⟩ := List.length_eq_one_iff.1 hcl
    have := hat 0 (by omega)
    refine ⟨u, n, _, ?_, ht'⟩
    rw [show (a.add i).add 0 = a.add i by simp [Addr.add]] at this
    rw [this]
    rfl
/-- []string -/
theorem open_texts {n : Nat} {v : Value} {y : DataW H × List MemPlace} (h : DataW.trod enc Tryz.prog W 0 (fun _ => true) true n 35 [v] = some y) : ∃ l, TextsBig W v l := by
  rcases open_cells Tryz.underlying35 cells9 h with hv | ⟨a, len, cap, hv, hlc, hi⟩
  · exact ⟨[], none, 0, hv, by simp, fun k hk => by simp at hk⟩
  · have hsp0 : 0 < len → a.spot = none := by
      intro h0
      obtain ⟨u, n', z, hc, ht⟩ := hi 0 h0
      have := World.cell?_spot hc
      simpa [Addr.add] using this
    have each : ∀ i, i < len → ∃ s : ByteArray, ∃ b o, a = ⟨b, o, none⟩ ∧ W.cell? ⟨b, o + i, none⟩ = some (.string s) := by
      intro i hil
      obtain ⟨u, n', z, hc, ht⟩ := hi i hil
      obtain ⟨s, e, _, _⟩ := DataW.trod_string Tryz.underlying9 ht
      simp only [List.cons.injEq, and_true] at e
      subst e
      obtain ⟨b, o, sp⟩ := a
      have hsp : sp = none := hsp0 (by omega)
      subst hsp
      rw [addr_add] at hc
      exact ⟨s, b, o, rfl, hc⟩
    obtain ⟨l, hll, hr⟩ := list_of each
    subst hll
    refine ⟨l, some a, cap, hv, hlc, fun k hk => ?_⟩
    obtain ⟨b, o, ha, _⟩ := hr k _ (List.getElem?_eq_getElem hk)
    refine ⟨b, o, by rw [ha], fun r hrk => ?_⟩
    obtain ⟨b', o', ha', hra⟩ := hr k r hrk
    rw [ha] at ha'
    simp only [Addr.mk.injEq, and_true] at ha'
    obtain ⟨rfl, rfl⟩ := ha'
    rw [Nat.mul_one]
    exact hra
/-- A slice value that reads as these bytes, however many. -/
def BytesBig (w : World) (v : Value) (l : List UInt8) : Prop :=
  ∃ a cap, v = .slice a l.length cap ∧ l.length ≤ cap ∧ SliceAt a l.length 1 (fun k b o => ∀ s, l[k]? = some s → w.cell? ⟨b, o, none⟩ = some (.int .u8 (s.toNat : Int)))
theorem BytesBig.at {w : World} {v : Value} {l : List UInt8} (h : BytesBig w v l) (hl : l.length ≤ 1000000) : BytesAt w v l :=
  let ⟨a, cap, h1, _, h3⟩ := h; ⟨a, cap, h1, hl, h3⟩
theorem BytesBig.mono {w w' : World} (hb : Below w.heap.size w w') {v : Value} {l : List UInt8} (h : BytesBig w v l) : BytesBig w' v l := by
  obtain ⟨a, cap, rfl, h1, h3⟩ := h
  refine ⟨a, cap, rfl, h1, fun k hk => ?_⟩
  obtain ⟨b, o, ha, h⟩ := h3 k hk
  exact ⟨b, o, ha, fun r hr => cell_below hb (h r hr)⟩
/-- []byte -/
theorem open_bytes43 {n : Nat} {v : Value} {y : DataW H × List MemPlace} (h : DataW.trod enc Tryz.prog W 0 (fun _ => true) true n 43 [v] = some y) : ∃ l, BytesBig W v l := by
  rcases open_cells Tryz.underlying43 cells5 h with hv | ⟨a, len, cap, hv, hlc, hi⟩
  · exact ⟨[], none, 0, hv, by simp, fun k hk => by simp at hk⟩
  · have hsp0 : 0 < len → a.spot = none := by
      intro h0
      obtain ⟨u, n', z, hc, ht⟩ := hi 0 h0
      have := World.cell?_spot hc
      simpa [Addr.add] using this
    have each : ∀ i, i < len → ∃ s : UInt8, ∃ b o, a = ⟨b, o, none⟩ ∧ W.cell? ⟨b, o + i, none⟩ = some (.int .u8 (s.toNat : Int)) := by
      intro i hil
      obtain ⟨u, n', z, hc, ht⟩ := hi i hil
      obtain ⟨x, e, _, hwf⟩ := DataW.trod_int Tryz.underlying5 ht
      simp only [List.cons.injEq, and_true] at e
      subst e
      obtain ⟨b, o, sp⟩ := a
      have hsp : sp = none := hsp0 (by omega)
      subst hsp
      rw [addr_add] at hc
      have hx := wf_u8 hwf
      refine ⟨UInt8.ofNat x.toNat, b, o, rfl, ?_⟩
      rw [hc]
      congr 2
      rw [UInt8.toNat_ofNat']
      omega
    obtain ⟨l, hll, hr⟩ := list_of each
    subst hll
    refine ⟨l, some a, cap, hv, hlc, fun k hk => ?_⟩
    obtain ⟨b, o, ha, _⟩ := hr k _ (List.getElem?_eq_getElem hk)
    refine ⟨b, o, by rw [ha], fun r hrk => ?_⟩
    obtain ⟨b', o', ha', hra⟩ := hr k r hrk
    rw [ha] at ha'
    simp only [Addr.mk.injEq, and_true] at ha'
    obtain ⟨rfl, rfl⟩ := ha'
    rw [Nat.mul_one]
    exact hra
end
end Go.Proofs.YtcpecponmaakoaaGreatDoor
