/- live. -/
import Derived.Test.YtbeiejanhoiodaaGreatLT
import Derived.Test.YtbeiejanhoiodaaGreatMB1
namespace Go.Wt
open Go.RowKit Go.Proofs
def tT (f : FuncId) : Option XFn := tab.lookup f
def clones : List (FuncId × TypeId × Nat) := [(75, 69, 5), (76, 84, 10), (91, 169, 4), (92, 181, 3), (93, 184, 3), (94, 187, 3), (281, 106, 15), (284, 3, 1), (287, 197, 2), (365, 134, 7)]
theorem clones_ok : CloneOk Tryz.prog clones := ⟨⟨_, _, _, _, _, x75, o75, rfl, rfl, Nat.le_of_ble_eq_true rfl, by kernel_rfl, Nat.lt_of_sub_ne_zero (by decide)⟩, ⟨_, _, _, _, _, x76, o76, rfl, rfl, Nat.le_of_ble_eq_true rfl, by kernel_rfl, Nat.lt_of_sub_ne_zero (by decide)⟩, ⟨_, _, _, _, _, x91, o91, rfl, rfl, Nat.le_of_ble_eq_true rfl, by kernel_rfl, Nat.lt_of_sub_ne_zero (by decide)⟩, ⟨_, _, _, _, _, x92, o92, rfl, rfl, Nat.le_of_ble_eq_true rfl, by kernel_rfl, Nat.lt_of_sub_ne_zero (by decide)⟩, ⟨_, _, _, _, _, x93, o93, rfl, rfl, Nat.le_of_ble_eq_true rfl, by kernel_rfl, Nat.lt_of_sub_ne_zero (by decide)⟩, ⟨_, _, _, _, _, x94, o94, rfl, rfl, Nat.le_of_ble_eq_true rfl, by kernel_rfl, Nat.lt_of_sub_ne_zero (by decide)⟩, ⟨_, _, _, _, _, x281, o281, rfl, rfl, Nat.le_of_ble_eq_true rfl, by kernel_rfl, Nat.lt_of_sub_ne_zero (by decide)⟩, ⟨_, _, _, _, _, x284, o284, rfl, rfl, Nat.le_of_ble_eq_true rfl, by kernel_rfl, Nat.lt_of_sub_ne_zero (by decide)⟩, ⟨_, _, _, _, _, x287, o287, rfl, rfl, Nat.le_of_ble_eq_true rfl, by kernel_rfl, Nat.lt_of_sub_ne_zero (by decide)⟩, ⟨_, _, _, _, _, x365, o365, rfl, rfl, Nat.le_of_ble_eq_true rfl, by kernel_rfl, Nat.lt_of_sub_ne_zero (by decide)⟩, trivial⟩
theorem mixedL : Tryz.prog.follows .mixedOrders = true := by kernel_rfl
def isTrue : Option DV → Bool
  | some (.t (.v (.bool true))) => true
  | _ => false
theorem live_run : isTrue (runD Tryz.prog tT (orcl clones) 3000 x5 []) = true := by kernel_rfl
theorem live_holds : Holds Tryz.prog 5 [] (.t (.v (.bool true))) := by
  have h := live_run
  unfold isTrue at h
  split at h
  · rename_i hr
    exact holds_run mixedL (allOk_lookup tab_ok) (orcl_holds mixedL clones_ok) o5 (Nat.zero_le _) (by decide) hr
  · cases h
end Go.Wt
