/- Own rows have no less room than they hold; the laws of a transaction's mark at their four inputs. -/
import Derived.Test.YtceamgkifjmbcaaC7
import Derived.Test.YtceamgkifjmbcaaW27
namespace Go.Wm
open Go.RowKit Go.Proofs.Ytceamgkifjmbcaa
theorem ownsRow_cap {w : World} {b : Nat} {e : TypeId} {s : Nat} {v : Value} {n : Nat} {xs : List Value} (h : w.ownsRow b e s v n xs) : capOk v := by
  intro a m c hv
  rcases h.2 with ⟨rfl, h0⟩ | ⟨g, cap, cur, rfl, _, _, hn, _⟩
  · cases hv; exact Nat.le_refl _
  · cases hv; exact hn
theorem OwnRecs.atC {w : World} {base : Nat} {v : Value} {rs : List Rec} (h : OwnRecs w base v rs) (hs : smallRecs rs) : RecsC w v rs := ⟨h.at hs, ownsRow_cap h⟩
theorem OwnBats.atC {w : World} {base : Nat} {v : Value} {xs : List Batch} (h : OwnBats w base v xs) (hs : xs.length ≤ 1000000) : BatchesC w v xs := by
  obtain ⟨ps, hps, h, hr⟩ := h
  have hlen : ps.length = xs.length := by rw [← hps, List.length_map]
  obtain ⟨h1, h2⟩ := id h
  rcases h2 with ⟨rfl, h0⟩ | ⟨g, cap, cur, rfl, hg, hb, hn, hm, hc, ht⟩
  · have : xs = [] := List.eq_nil_of_length_eq_zero (by omega)
    subst this
    exact ⟨none, 0, rfl, by simp, fun k hk => by simp at hk⟩
  · refine ⟨_, cap - ps.length, by rw [← hlen]; congr 1; omega, hs, fun k hk => ⟨g, 0, rfl, fun x hx => ?_⟩⟩
    have hk' : k < ps.length := by omega
    have hcell : ∀ j u, (batCells ps)[j]? = some u → w.cell? ⟨g, j, none⟩ = some u := by
      intro j u hj
      have := World.ownsRow.cells (v := .slice (some ⟨g, 0, none⟩) ps.length cap) h rfl j u hj
      have e : (⟨g, 0, none⟩ : Addr).add j = ⟨g, j, none⟩ := by simp only [Addr.add]; split <;> simp_all
      rwa [e] at this
    have hx' : ps[k].1 = x := by
      rw [List.getElem?_eq_getElem hk] at hx
      rw [← Option.some.inj hx]
      simp [← hps]
    have hf := fun j hj => flat_get (fun p : Batch × Value => p.1.cells p.2) 10 (fun _ => rfl) ps k j hk' hj
    have f0 := hcell _ _ (hf 0 (by omega))
    have f1 := hcell _ _ (hf 1 (by omega))
    have f2 := hcell _ _ (hf 2 (by omega))
    have f3 := hcell _ _ (hf 3 (by omega))
    have f4 := hcell _ _ (hf 4 (by omega))
    have f5 := hcell _ _ (hf 5 (by omega))
    have f6 := hcell _ _ (hf 6 (by omega))
    have f7 := hcell _ _ (hf 7 (by omega))
    have f8 := hcell _ _ (hf 8 (by omega))
    have f9 := hcell _ _ (hf 9 (by omega))
    rw [hx'] at f0 f1 f2 f3 f4 f5 f6 f7 f8
    simp only [Nat.zero_add]
    have hrec := hr ps[k] (List.getElem_mem _)
    rw [hx'] at hrec
    exact ⟨ps[k].2, ⟨f0, f1, f2, f3, f4, f5, f6, f7, f8, f9⟩, hrec.1.atC hrec.2⟩
end Go.Wm
namespace Go.Proofs.Ytceamgkifjmbcaa
open Go.RowKit Go.Wm
def putB : Batch := ⟨0, 0, 0, 0, 4, 0, 0, true, 0, [oneRec 0 kK kV]⟩
def markB (ab : Bool) : Batch := ⟨1, 1, 0, 0, 4, 0, 0, true, if ab then 2 else 1, []⟩
def kX : ByteArray := ⟨#[120]⟩
def otherB : Batch := oneB 2 kOther kW
def overB : Batch := oneB 3 kK kX
def marksBs (ov ab : Bool) : List Batch := [putB, markB ab, otherB] ++ (if ov then [overB] else [])
def marksL (ab : Bool) : List Gone := if ab then [⟨4, 0, 0, 1⟩] else []
def marksX (ov ab : Bool) : List Batch := if ov || ab then [otherB] ++ (if ov then [overB] else []) else [putB, markB ab, otherB]
theorem marks_clean (ov ab : Bool) : cleanG (marksBs ov ab) (marksL ab) 9 0 10 = marksX ov ab := by cases ov <;> cases ab <;> decide +kernel
theorem marks_right (ov ab : Bool) : checkG (marksBs ov ab) (marksX ov ab) (marksL ab) 9 0 10 = 0 := by cases ov <;> cases ab <;> decide +kernel
theorem marks_hole : checkG (marksBs false false) [putB, otherB] (marksL false) 9 0 10 = 321 := by decide +kernel
end Go.Proofs.Ytceamgkifjmbcaa
