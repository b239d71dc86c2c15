/- Plain: what the chapter's example computes. -/
import Derived.Test.YtcpecponmaakoaaGreatDoorH4
import Derived.Test.YtcpecponmaakoaaGreatDoorH2
import Derived.Test.YtcpecponmaakoaaGreatDoorN2
import Derived.Test.YtcpecponmaakoaaGreatDoorS4
namespace Go.Proofs.YtcpecponmaakoaaGreatDoor
open Go.RowKit Go.Wm
def pA1 : Piece := ⟨0, 0, 5, 100, 7, 1⟩
def pA : Piece := ⟨0, 0, 5, 100, 7, 2⟩
def pB : Piece := ⟨1, 5, 8, 60, 9, 1⟩
def log3 : ByteArray := ⟨#[108, 111, 103]⟩
def log_0 : ByteArray := ⟨#[108, 111, 103, 45, 48]⟩
def log_x : ByteArray := ⟨#[108, 111, 103, 45, 120]⟩
def log_1 : ByteArray := ⟨#[108, 111, 103, 45, 49]⟩
theorem live_begin1 : beginM 0 0 0 5 100 7 [] = ((1, 1, [pA1]), 0, 0) := by decide
theorem live_done : stepM 1 1 [pA1] 0 2 (fun _ => true) = ((2, 1, [pA]), 0) := by decide
theorem live_begin2 : beginM 2 1 5 8 60 9 [pA] = ((3, 2, [pA, pB]), 1, 0) := by decide
theorem live_begin3 : beginM 3 2 8 9 1 0 [pA, pB] = ((0, 0, []), 0, 211) := by decide
theorem live_at4 : atM [pA, pB] 4 = (pA, true) := by decide
theorem live_at5 : atM [pA, pB] 5 = (zeroP, false) := by decide
theorem live_span : spanP [pA, pB] = (0, 5) := by decide
theorem live_check : checkM 3 2 [pA, pB] = 0 := by decide
theorem live_check2 : checkM (-1) 0 [] = 1 := by decide
theorem live_save : (saveM 3 2 [pA, pB]).2 = 0 := by rw [saveM, if_pos live_check]
theorem live_load : loadM (saveM 3 2 [pA, pB]).1 = ((3, 2, [pA, pB]), 0) := load_save live_check (by decide)
theorem live_drop : stepM 2 1 [pA] 1 3 (mayDrop [pA]) = ((0, 0, []), 150) := by decide
theorem live_name : nameM log3 12 = ⟨#[108, 111, 103, 45, 49, 50]⟩ := by
  have : Lib.itoa 12 = [49, 50] := by
    unfold Lib.itoa
    rw [if_neg (by decide), Lib.decDigits_two (by decide) (by decide)]
    decide
  unfold nameM
  rw [this]
  rfl
theorem itoa_0 : Lib.itoa 0 = [48] := by
  unfold Lib.itoa
  rw [if_neg (by decide), Lib.decDigits_one (by decide)]
  decide
theorem itoa_1 : Lib.itoa 1 = [49] := by
  unfold Lib.itoa
  rw [if_neg (by decide), Lib.decDigits_one (by decide)]
  decide
theorem live_id0 : delB log3 [pA] log_0 = false := by
  rw [delB_ok (x := 0) [pA] (by rfl) (by rfl), if_neg]
  · rfl
  · unfold nameM
    rw [itoa_0]
    decide
theorem live_idx : delB log3 [pA] log_x = false := delB_err [pA] (by
  intro x h
  cases h)
theorem live_id1 : delB log3 [pA] log_1 = true := by
  rw [delB_ok (x := 1) [pA] (by rfl) (by rfl), if_neg]
  · rfl
  · unfold nameM
    rw [itoa_1]
    decide
theorem live_heal : healM 3 2 [pA, pB] log3 [log_0, log_x, log_1] = ((4, 2, [pA]), [log_1]) := by
  have hf : [pA, pB].filter (stIs 2) = [pA] := by decide
  unfold healM
  rw [if_neg (by rw [live_check]; decide), hf]
  have hd : [log_0, log_x, log_1].filter (delB log3 [pA]) = [log_1] := by
    simp only [List.filter_cons, live_id0, live_idx, live_id1, List.filter_nil]
    rfl
  rw [hd]
  have h1 : sortT [log_1] = [log_1] := by
    unfold sortT
    simp only [List.map_cons, List.map_nil, List.mergeSort_singleton]
    rfl
  rw [h1]
  rfl
end Go.Proofs.YtcpecponmaakoaaGreatDoor
