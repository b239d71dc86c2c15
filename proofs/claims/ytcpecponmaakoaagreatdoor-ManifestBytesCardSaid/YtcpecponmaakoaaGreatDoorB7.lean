/- Walks: sealed bytes opened (the program's). -/
import Derived.Test.YtcpecponmaakoaaGreatDoorB6
namespace Go.Proofs.YtcpecponmaakoaaGreatDoor
open Go.RowKit Go.Wm Go.Lib
set_option maxHeartbeats 2000000 in
set_option maxRecDepth 100000 in
theorem open_any (l : List UInt8) (v : Value) (w : World) (hv : BytesAt w v l) (hc : capOk v) :
    Calls Tryz.prog 60 #[v] w fun e w' => ∃ u, e = .returned (.tuple #[u, .int .i64 (openM l).2]) ∧ OwnBytes w' w.heap.size u (openM l).1 ∧ Below w.heap.size w w' := by
  have hvw := hv
  obtain ⟨a, cap, rfl, hn⟩ := hv.form
  have hlc := hc _ _ _ rfl
  clear hv
  by_cases h4 : l.length < 4
  · have Hm := hid (show openM l = ([], 10) by rw [openM, if_pos h4])
    go_enter Tryz.func60, Tryz.ntmps60
    go_wp2
    exact bodyPost_ret (v := .tuple #[.slice none 0 0, .int .i64 10]) (by simp [results, Tryz.results60, go_sem]) rfl ⟨_, by rw [Hm.out], by rw [Hm.out]; exact OwnBytes.nil _ _, Below.refl _ _⟩
  · obtain ⟨n, hn4⟩ : ∃ n, l.length = n + 4 := ⟨l.length - 4, by omega⟩
    have hd4 : (l.drop n).length = 4 := by rw [List.length_drop]; omega
    have hg : get4 l n = (beVal (l.drop n), 0) := by rw [get4, if_neg (by omega), List.take_of_length_le (by omega)]
    have C := hid (get4_any l n _ w hvw (by omega) hc)
    rw [hg] at C
    have S := hid (sum_any (l.take n) _ w (BytesAt.take hvw n (by omega) cap))
    have hta := BytesAt.take hvw n (by omega) cap
    have Hm := hid (show openM l = if beVal (l.drop n) ≠ crcOf (l.take n) then ([], 20) else (l.take n, 0) by
      rw [openM, if_neg h4, show l.length - 4 = n by omega])
    have hnl : ((n : Int) + 4) - 4 = n := by omega
    have hy := crcOf_lt (l.take n)
    clear hg hc hvw
    generalize hll : l.length = L at *
    subst hn4
    have hlcn : n ≤ cap := by omega
    generalize beVal (l.drop n) = x at *
    generalize crcOf (l.take n) = y at *
    by_cases hxy : x = y
    · have Hm2 := hid (show openM l = (l.take n, 0) by rw [Hm.out, if_neg (by simpa using hxy)])
      have hb : ((x : Int) != (y : Int)) = false := by simp [hxy]
      have Hxy := hid hxy
      have htl : (l.take n).length = n := by rw [List.length_take, hll]; omega
      have Htl := hid htl
      clear hxy Hm htl
      go_enter Tryz.func60, Tryz.ntmps60
      go_wp2_with fail
      refine C.out.mono ?_
      rintro e w1 ⟨rfl, rfl⟩
      go_wp2_with fail
      refine S.out.mono ?_
      rintro e w2 ⟨rfl, hb2⟩
      go_wp2_with (at_builtin; refine wpList_append_bytes rfl (.const (.slice none 0 0)) (.tmp 31) rfl Tryz.underlying43 Tryz.inf5 w1.heap.size _ _ [] (l.take n) rfl (OwnBytes.nil _ _) rfl (hta.mono hb2) (by simp) hb2.size ?_)
      intro v' w' hO hb _
      obtain ⟨a', c', rfl⟩ := OwnBytes.form hO
      go_wp2
      exact bodyPost_ret (v := .tuple #[.slice a' ([] ++ l.take n).length c', .int .i64 0]) (by simp [results, Tryz.results60, go_sem]) rfl ⟨_, by rw [Hm2.out], by rw [Hm2.out]; exact hO, hb2.trans hb⟩
    · have Hm2 := hid (show openM l = ([], 20) by rw [Hm.out, if_pos hxy])
      have hb : ((x : Int) != (y : Int)) = true := by simp; omega
      clear hxy Hm
      go_enter Tryz.func60, Tryz.ntmps60
      go_wp2_with fail
      refine C.out.mono ?_
      rintro e w1 ⟨rfl, rfl⟩
      go_wp2_with fail
      refine S.out.mono ?_
      rintro e w2 ⟨rfl, hb2⟩
      go_wp2
      exact bodyPost_ret (v := .tuple #[.slice none 0 0, .int .i64 20]) (by simp [results, Tryz.results60, go_sem]) rfl ⟨_, by rw [Hm2.out], by rw [Hm2.out]; exact OwnBytes.nil _ _, hb2⟩
end Go.Proofs.YtcpecponmaakoaaGreatDoor
