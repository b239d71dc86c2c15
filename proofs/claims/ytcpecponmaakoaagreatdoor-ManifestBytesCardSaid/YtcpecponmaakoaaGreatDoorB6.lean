/- Walks: bytes sealed with their sum, and opened (the program's). -/
import Derived.Test.YtcpecponmaakoaaGreatDoorB5
import Derived.Test.YtcpecponmaakoaaGreatDoorB2
namespace Go.Proofs.YtcpecponmaakoaaGreatDoor
open Go.RowKit Go.Wm Go.Lib
def sealM (l : List UInt8) : List UInt8 := l ++ be4 (crcOf l)
def openM (l : List UInt8) : List UInt8 × Int :=
  if l.length < 4 then ([], 10) else if beVal (l.drop (l.length - 4)) ≠ crcOf (l.take (l.length - 4)) then ([], 20) else (l.take (l.length - 4), 0)
theorem BytesAt.take {w : World} {a : Option Addr} {cap : Nat} {l : List UInt8} (h : BytesAt w (.slice a l.length cap) l) (k : Nat) (hk : k ≤ l.length) (cap' : Nat) : BytesAt w (.slice a k cap') (l.take k) := by
  obtain ⟨a0, cap0, hv, hn, hs⟩ := h
  injection hv with h1 h2 h3
  subst h1 h3
  refine ⟨a, cap', by rw [List.length_take, Nat.min_eq_left hk], by rw [List.length_take]; omega, fun j hj => ?_⟩
  rw [List.length_take] at hj
  obtain ⟨b, o, hab, hx⟩ := hs j (by omega)
  exact ⟨b, o, hab, fun s hs' => hx s (by rw [List.getElem?_take, if_pos (by omega)] at hs'; exact hs')⟩
set_option maxHeartbeats 1000000 in
theorem seal_any (l : List UInt8) (v : Value) (w : World) (hv : BytesAt w v l) (hl : l.length ≤ 900000) :
    Calls Tryz.prog 56 #[v] w fun e w' => ∃ u, e = .returned u ∧ OwnBytes w' w.heap.size u (sealM l) ∧ Below w.heap.size w w' := by
  have hvw := hv
  obtain ⟨a, cap, rfl, hn⟩ := hv.form
  clear hv
  go_enter Tryz.func56, Tryz.ntmps56
  go_wp2_with (at_builtin; refine wpList_append_bytes rfl (.const (.slice none 0 0)) (.tmp 3) rfl Tryz.underlying43 Tryz.inf5 w.heap.size _ _ [] l rfl (OwnBytes.nil _ _) rfl hvw (by simp) (Nat.le_refl _) ?_)
  intro v1 w1 hO1 hb1 _
  obtain ⟨a1, c1, rfl⟩ := OwnBytes.form hO1
  go_wp2_with fail
  refine (sum_any l _ w1 (hvw.mono hb1)).mono ?_
  rintro e w2 ⟨rfl, hb2⟩
  have hO2 := hO1.below hb2
  have hcl := crcOf_lt l
  have C := hid (put4_any l (crcOf l) _ w2 (by simpa using (hO2.at (by simpa using hn))) hcl hl)
  have Hs := hid (show sealM l = l ++ be4 (crcOf l) from rfl)
  have hbw := hb1.step hb2
  clear hO1 hO2 hb1 hb2 hvw
  generalize crcOf l = c at *
  go_wp2_with fail
  refine C.out.mono ?_
  rintro e w3 ⟨u, rfl, hu, hb3⟩
  go_wp2
  go_ret
  exact ⟨_, rfl, by rw [Hs.out]; exact hu.base (hbw.size), hbw.step hb3⟩
end Go.Proofs.YtcpecponmaakoaaGreatDoor
