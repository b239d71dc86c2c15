/- Small functions of the document's reader. -/
import Derived.Test.YtbeiejanhoiodaaGreatLR1
import Derived.Test.YtbeiejanhoiodaaGreatMB1
import Derived.Test.YtbeiejanhoiodaaGreatLT
set_option linter.unusedSimpArgs false
set_option linter.unusedVariables false
namespace Go.Wt
open Go.RowKit Go.Proofs
section
variable {P : Program} {Q : Exit → Env → Prop} {k : List Fr} {E : Env} {pr : List (Nat × Nat)} {ix : Nat} {log : List Log} {rest : List SOper} {dst : Option Nat}
theorem views_t (E : Env) : ∀ ts : List Tree, E.views (ts.map .t) = some (ts, [])
  | [] => rfl
  | t :: ts => by
    have ih := views_t E ts
    simp only [Env.views, Option.map_eq_some_iff] at ih
    obtain ⟨ps, h1, h2⟩ := ih
    simp only [Prod.mk.injEq] at h2
    simp only [Env.views, List.map_cons, List.mapM_cons, Env.view, Option.bind_eq_bind, Option.bind_some, h1, Option.pure_def, Option.map_some, List.flatMap_cons, h2.1, h2.2, List.nil_append]
/-- A call of a pure function. -/
theorem Call_pure {g : Option (Bool × Bool)} {f : FuncId} {ts : List Tree} {d : DV} (h : Holds P f ts d) (hf : d.flat = true) (hk : Stp P Ctr Q k pr ix log dst rest E g (some ⟨d, [], []⟩)) : CallG P Ctr Q k pr ix log dst rest E g f (ts.map .t) :=
  Call_mk ⟨d, [], []⟩ (call_flat h (views_t _ ts) hf) hk
end
/-- A contract of a pure function, from its code. -/
theorem pure_of {P : Program} (hm : P.follows .mixedOrders = true) {f : FuncId} {fn : XFn} (hx : XOk P f fn) {ts : List Tree} {d : DV} (hn : ts.length ≤ fn.nt) (hw : Run P Ctr (Fin fn.res (Ends (pureCt ts d))) [.code fn.code] (argE ts)) : Holds P f ts d := by
  obtain ⟨Fn, c, g1, g2, g3, g4, g5, g6, g7⟩ := hx
  exact holds_pure hm g1 g2 g3 g4 g6 ts d (by rw [← g7]; exact hn) hw
theorem mixed : Tryz.prog.follows .mixedOrders = true := by kernel_rfl
abbrev int (n : Int) : Tree := .v (.int .i64 n)
abbrev str (s : ByteArray) : Tree := .v (.string s)
abbrev tt (b : Bool) : DV := .t (.v (.bool b))
/-- 0 to another one. -/
def inN (a b : Int) : Bool := bif decide (0 ≤ a) then decide (a ≤ b) else false
theorem h28 (a b : Int) : Holds Tryz.prog 28 [int a, int b] (tt (inN a b)) := by
  refine pure_of mixed o28 (Nat.le_of_ble_eq_true rfl) ?_
  simp [x28, s28, argE]
  refine GrdG_un ?_
  simp [argE]
  refine GrdG_un ?_
  simp [argE]
  refine GrdG_un ?_
  simp [argE]
  refine ends_pure ?_
  simp [Env.outD, Env.out1, Env.view, inN]
def rdT (g i : ByteArray) (reg gen : Int) (at_ told : Tree) : Tree := .agg [str g, str i, int reg, int gen, at_, told]
theorem h6 (g i : ByteArray) (reg gen : Int) (l l' : List Tree) : Holds Tryz.prog 6 [rdT g i reg gen (.sl 5 l) (.sl 10 l')] (tt (bif decide (l.length ≤ 20) then decide (l'.length ≤ 200) else false)) := by
  refine pure_of mixed o6 (Nat.le_of_ble_eq_true rfl) ?_
  simp [x6, s6, argE, rdT]
  refine GrdG_un ?_
  simp [argE]
  refine GrdG_un ?_
  simp [argE]
  refine GrdG_un ?_
  simp [argE]
  refine GrdG_un ?_
  simp [argE]
  refine ends_pure ?_
  simp [Env.outD, Env.out1, Env.view]
  rw [show decide ((l.length : Int) ≤ 20) = decide (l.length ≤ 20) from decide_eq_decide.2 (by omega), show decide ((l'.length : Int) ≤ 200) = decide (l'.length ≤ 200) from decide_eq_decide.2 (by omega)]
def okB (b : UInt8) : Bool := decide (33 ≤ b.toNat) && decide (b.toNat ≤ 126)
def nameB (s : ByteArray) : Bool := decide (1 ≤ s.size) && decide (s.size ≤ 64) && s.data.toList.all okB
theorem h20 (s : ByteArray) : Holds Tryz.prog 20 [str s] (tt (nameB s)) := by
  refine pure_of mixed o20 (Nat.le_of_ble_eq_true rfl) ?_
  simp [x20, s20, argE]
  refine GrdG_un ?_
  simp [argE]
  refine GrdG_un ?_
  simp [argE]
  refine GrdG_un ?_
  simp [argE]
  refine Br_mk (fun h => ?_) (fun h => ?_)
  · refine ends_pure ?_
    have : nameB s = false := by
      simp only [Bool.or_eq_true, decide_eq_true_eq] at h
      simp only [nameB, Bool.and_eq_false_iff, decide_eq_false_iff_not]
      omega
    simp [Env.outD, Env.out1, Env.view, this]
  simp only [Bool.or_eq_false_iff, decide_eq_false_iff_not] at h
  have hget : ∀ i (hi : i < s.size), s.data.toList.getD i 0 = s[i] := by
    intro i hi
    have h1 : i < s.data.size := hi
    rw [List.getD_eq_getElem?_getD, Array.getElem?_toList, Array.getElem?_eq_getElem h1]
    rfl
  refine loop_rule (fun E => ∃ (i : Nat), i ≤ s.size ∧ E.tmps 14 = .t (int i) ∧ E.tmps 13 = .t (int s.size) ∧ E.tmps 0 = .t (str s) ∧ (∀ j, j < i → okB (s.data.toList.getD j 0) = true)) (fun E => match E.tmps 14 with | .t (.v (.int _ i)) => s.size - i.toNat | _ => 0) [] rfl ?_ ?_
  · simp [argE]
    exact ⟨0, by omega, rfl, by simp⟩
  rintro E1 ⟨i, hi, e14, e13, e0, hb⟩ hU hS A hA
  simp [s20_1, e14, e13]
  refine Br_dec (fun h => ?_) (fun h => ?_)
  · obtain ⟨b, hbi⟩ : ∃ b, s[i]? = some b := ⟨_, getElem?_pos s i (by omega)⟩
    have hbe : s[i] = b := by rw [getElem?_pos s i h] at hbi; exact Option.some.inj hbi
    simp [e14, e13, e0, hbi, h]
    refine GrdG_un ?_
    simp [e14, e13, e0, hbi, h]
    refine GrdG_un ?_
    simp [e14, e13, e0, hbi, h]
    refine GrdG_un ?_
    simp [e14, e13, e0, hbi, h]
    refine GrdG_un ?_
    simp [e14, e13, e0, hbi, h]
    refine Br_mk (fun h2 => ?_) (fun h2 => ?_)
    · refine ends_pure ?_
      have : nameB s = false := by
        have hall : s.data.toList.all okB = false := by
          rw [List.all_eq_false]
          refine ⟨s[i], ?_, ?_⟩
          · rw [← hget i h, List.getD_eq_getElem?_getD]
            have h1 : i < s.data.toList.length := by simpa using h
            rw [List.getElem?_eq_getElem h1]
            exact List.getElem_mem h1
          · simp only [Bool.or_eq_true, decide_eq_true_eq] at h2
            simp only [okB, Bool.and_eq_true, decide_eq_true_eq]
            omega
        simp [nameB, hall]
      simp [Env.outD, Env.out1, Env.view, this]
    · have hw : IntKind.i64.wrap ((i : Int) + 1) = ((i + 1 : Nat) : Int) := by rw [wrap_small (by omega) (by simp only [LIM]; omega)]; omega
      refine hA _ (again_rule [] rfl rfl ⟨i + 1, by omega, ?_, ?_, ?_, fun j hj => ?_⟩ ?_)
      · simp [hw]
      · simp [e13]
      · simp [e0]
      · by_cases hji : j = i
        · subst hji
          rw [hget j h]
          simp only [Bool.or_eq_false_iff, decide_eq_false_iff_not] at h2
          simp only [okB, Bool.and_eq_true, decide_eq_true_eq]
          omega
        · exact hb j (by omega)
      · simp [hw, e14]
        omega
  · simp [e14, e13, e0, h]
    refine ends_pure ?_
    have : nameB s = true := by
      have hall : s.data.toList.all okB = true := by
        rw [List.all_eq_true]
        intro x hx
        obtain ⟨j, hj, rfl⟩ := List.getElem_of_mem hx
        have := hb j (by have : j < s.size := by simpa using hj
                         omega)
        simpa [List.getD_eq_getElem?_getD, List.getElem?_eq_getElem hj] using this
      simp only [nameB, hall, Bool.and_true, Bool.and_eq_true, decide_eq_true_eq]
      omega
    simp [Env.outD, Env.out1, Env.view, this]
end Go.Wt
/- Names, as the program tells them. -/
namespace Go.Wt
open Go.RowKit Go.Proofs
section
variable {P : Program} {Q : Exit → Env → Prop} {k : List Fr} {E : Env} {pr : List (Nat × Nat)} {ix : Nat} {log : List Log} {rest : List SOper} {dst : Option Nat}
/-- A pure function of values without memory of the caller's. -/
def HoldsV (P : Program) (f : FuncId) (ds : List DV) (d : DV) : Prop := HoldsG P f ⟨[], ds, [], d, [], []⟩
theorem Call_v {g : Option (Bool × Bool)} {f : FuncId} {ds : List DV} {d : DV} (h : HoldsV P f ds d) (hr : ds.map (DV.ren []) = ds) (hf : d.flat = true) (hk : Stp P Ctr Q k pr ix log dst rest E g (some ⟨d, [], []⟩)) : CallG P Ctr Q k pr ix log dst rest E g f ds := by
  refine Call_mk ⟨d, [] ++ [], []⟩ ⟨_, [], [], h, ⟨List.nodup_nil, by simp, by simp, by simp, by simp, List.nodup_nil, rfl, by simp, by simp, rfl, fun i d d0 h1 h2 => .inl ?_, by simp⟩, .inl ⟨rfl, rfl, hf, rfl⟩⟩ hk
  rw [h1] at h2
  have h3 : (ds.map (DV.ren []))[i]? = some d := by rw [hr]; exact h1
  rw [List.getElem?_map, h1] at h3
  simp only [Option.map_some, Option.some.injEq] at h3 h2
  rw [← h2]
  exact h3.symm
end
def argV (ds : List DV) : Env where
  tmps := fun t => ds.getD t .junk
  slots := fun _ => none
  used := fun _ => false
theorem v_of {P : Program} (hm : P.follows .mixedOrders = true) {f : FuncId} {fn : XFn} (hx : XOk P f fn) {ds : List DV} {d : DV} (hn : ds.length ≤ fn.nt) (hw : Run P Ctr (Fin fn.res (Ends ⟨[], ds, [], d, [], []⟩)) [.code fn.code] (argV ds)) : HoldsV P f ds d := by
  obtain ⟨Fn, c, g1, g2, g3, g4, g5, g6, g7⟩ := hx
  refine holds_of ctr_sound ctr_local (fun _ _ _ h => h) (fun _ _ _ h => h) hm g1 g2 g3 g4 g6 _ (by rw [← g7]; exact hn) ?_
  have he : (Ct.mk [] ds [] d [] []).env = argV ds := by
    refine Env.ext' rfl (funext fun s => ?_) (funext fun s => ?_)
    · cases s <;> simp [Ct.env, ctSlots, argV]
    · cases s <;> simp [Ct.env, Ct.used0, argV]
  rw [he]
  exact hw
theorem ends_v {E : Env} {ds : List DV} {d d' : DV} (h : E.outD [] d' = d) : Ends ⟨[], ds, [], d, [], []⟩ d' E := .inl ⟨[], rfl, by rw [canon_nil_slots, out_nil _ rfl rfl], h⟩
theorem h42 (r : Int) : Holds Tryz.prog 42 [.v (.int .i32 r)] (tt (bif decide (r < 33) then true else decide (126 < r))) := by
  refine pure_of mixed o42 (Nat.le_of_ble_eq_true rfl) ?_
  simp [x42, s42, argE]
  refine GrdG_un ?_
  simp [argE]
  refine GrdG_un ?_
  simp [argE]
  refine ends_pure ?_
  simp [Env.outD, Env.out1, Env.view]
theorem decode_low {s : ByteArray} {i : Nat} (h : (s.get! i).toNat < 128) : Utf8.decode s i = ((s.get! i).toNat, 1) := by
  unfold Utf8.decode
  simp only [Nat.add_zero]
  rw [if_pos h]
theorem decode_high {s : ByteArray} {i : Nat} (h : ¬ (s.get! i).toNat < 128) : 126 < (Utf8.decode s i).1 := by
  unfold Utf8.decode
  simp only [Nat.add_zero]
  rw [if_neg h]
  (repeat' split) <;> first | (simp only [Utf8.runeError]; omega) | (rename_i hc; simp only [ge_iff_le, Bool.and_eq_true, decide_eq_true_eq] at hc; simp only; omega)
/-- Where the first odd letter stands; -1: nowhere. -/
def firstOdd : List UInt8 → Int
  | [] => -1
  | b :: l => if okB b = true then (if firstOdd l < 0 then -1 else firstOdd l + 1) else 0
theorem firstOdd_all : ∀ l, l.all okB = true → firstOdd l = -1
  | [], _ => rfl
  | b :: l, h => by
    simp only [List.all_cons, Bool.and_eq_true] at h
    simp [firstOdd, h.1, firstOdd_all l h.2]
theorem firstOdd_at : ∀ (l : List UInt8) (i : Nat) (hi : i < l.length), (∀ j, j < i → okB (l.getD j 0) = true) → okB l[i] = false → firstOdd l = i
  | [], i, hi, _, _ => by simp at hi
  | b :: l, 0, _, _, h => by simp at h; simp [firstOdd, h]
  | b :: l, i + 1, hi, h1, h2 => by
    have h0 := h1 0 (by omega)
    simp at h0
    have ih := firstOdd_at l i (by simpa using hi) (fun j hj => by have := h1 (j + 1) (by omega); simpa using this) (by simpa using h2)
    have hneg : ¬ (i : Int) < 0 := by omega
    simp [firstOdd, h0, ih, hneg]
theorem beql (x y : Operand) (a b : Bool) : dBin Tryz.prog .eql 4 x y (tt a) (tt b) = val (tt (a == b)) := by
  have h : ∀ x y, dBin Tryz.prog .eql 4 x y (tt a) (tt b) = chk (pureRun Tryz.prog (binOp .eql 4 (.bool a) (.bool b))) := fun x y => rfl
  have h1 : chk (pureRun Tryz.prog (binOp .eql 4 (.bool true) (.bool true))) = val (tt true) := by kernel_rfl
  have h2 : chk (pureRun Tryz.prog (binOp .eql 4 (.bool true) (.bool false))) = val (tt false) := by kernel_rfl
  have h3 : chk (pureRun Tryz.prog (binOp .eql 4 (.bool false) (.bool true))) = val (tt false) := by kernel_rfl
  have h4 : chk (pureRun Tryz.prog (binOp .eql 4 (.bool false) (.bool false))) = val (tt true) := by kernel_rfl
  revert h
  cases a <;> cases b <;> intro h
  · exact (h x y).trans h4
  · exact (h x y).trans h3
  · exact (h x y).trans h2
  · exact (h x y).trans h1
theorem get_getD (s : ByteArray) (i : Nat) (h : i < s.size) : s.data.toList.getD i 0 = s.get! i := by
  have h1 : i < s.data.size := h
  rw [List.getD_eq_getElem?_getD, Array.getElem?_toList]
  show (s.data[i]?).getD 0 = s.data[i]!
  rw [Array.getElem!_eq_getD, Array.getD_eq_getD_getElem?]
  rfl
theorem h188 (s : ByteArray) : HoldsV Tryz.prog 188 [.t (str s), .fn 42 [], tt true] (.t (int (firstOdd s.data.toList))) := by
  refine v_of mixed o188 (Nat.le_of_ble_eq_true rfl) ?_
  simp [x188, s188, argV, dRng]
  refine loop_rule (fun E => ∃ (i : Nat), i ≤ s.size ∧ E.tmps 10 = .ptr (.head 1 0) 0 0 ∧ E.slots (.head 1 0) = some (.obj (.it s i) false) ∧ E.tmps 1 = .fn 42 [] ∧ E.tmps 2 = tt true ∧ (∀ j, j < i → okB (s.data.toList.getD j 0) = true)) (fun E => match E.slots (.head 1 0) with | some (.obj (.it _ i) _) => s.size - i | _ => 0) [(.loc 10 0, .head 1 0)] rfl ?_ ?_
  · simp [argV]
    exact ⟨0, by omega, rfl, by simp⟩
  rintro E1 ⟨i, hi, e10, es, e1, e2, hb⟩ hU hS A hA
  by_cases h : i < s.size
  · simp [s188_1, e10, es, dNxt, h, e1, e2]
    refine Call_pure (h42 _) rfl ?_
    simp [e1, e2, beql]
    have hg := get_getD s i h
    refine Br_mk (fun h2 => ?_) (fun h2 => ?_)
    · refine ends_v ?_
      have hodd : okB (s.data.toList.getD i 0) = false := by
        rw [hg]
        by_cases hlow : (s.get! i).toNat < 128
        · rw [decode_low hlow] at h2
          simp only [Bool.or_eq_true, decide_eq_true_eq] at h2
          simp only [okB, Bool.and_eq_false_iff, decide_eq_false_iff_not]
          omega
        · simp only [okB, Bool.and_eq_false_iff, decide_eq_false_iff_not]
          omega
      have hl : i < s.data.toList.length := by simpa using h
      have := firstOdd_at s.data.toList i hl hb (by simpa [List.getD_eq_getElem?_getD, List.getElem?_eq_getElem hl] using hodd)
      simp [Env.outD, Env.out1, Env.view, this]
    · have hlow : (s.get! i).toNat < 128 := by
        refine Classical.byContradiction fun hh => ?_
        have := decode_high hh
        simp only [Bool.or_eq_false_iff, decide_eq_false_iff_not] at h2
        omega
      have hd := decode_low hlow
      rw [hd] at h2
      simp only [Bool.or_eq_false_iff, decide_eq_false_iff_not] at h2
      refine hA _ (again_rule [(.head 1 0, .head 1 0)] rfl rfl ⟨i + 1, by omega, ?_, ?_, ?_, ?_, fun j hj => ?_⟩ ?_)
      · simp [e10]
      · simp [hd, OR.ren]
      · simp [e1]
      · simp [e2]
      · by_cases hji : j = i
        · subst hji
          rw [hg]
          simp only [okB, Bool.and_eq_true, decide_eq_true_eq]
          omega
        · exact hb j (by omega)
      · simp [hd, es, OR.ren]
        omega
  · simp [s188_1, e10, es, dNxt, h]
    refine ends_v ?_
    have hall : s.data.toList.all okB = true := by
      rw [List.all_eq_true]
      intro x hx
      obtain ⟨j, hj, rfl⟩ := List.getElem_of_mem hx
      have := hb j (by have : j < s.size := by simpa using hj
                       omega)
      simpa [List.getD_eq_getElem?_getD, List.getElem?_eq_getElem hj] using this
    simp [Env.outD, Env.out1, Env.view, firstOdd_all _ hall]
theorem firstOdd_neg : ∀ l, decide (0 ≤ firstOdd l) = !l.all okB
  | [] => rfl
  | b :: l => by
    have ih := firstOdd_neg l
    simp only [firstOdd, List.all_cons]
    by_cases hb : okB b = true
    · simp only [hb, if_true, Bool.true_and]
      rw [← ih]
      split
      · exact decide_eq_decide.2 (by omega)
      · exact decide_eq_decide.2 (by omega)
    · simp [hb]
theorem h99 (s : ByteArray) : HoldsV Tryz.prog 99 [.t (str s), .fn 42 []] (.t (int (firstOdd s.data.toList))) := by
  refine v_of mixed o99 (Nat.le_of_ble_eq_true rfl) ?_
  simp [x99, s99, argV]
  refine Call_v (h188 s) rfl rfl ?_
  simp
  refine ends_v ?_
  simp [Env.outD, Env.out1, Env.view]
theorem h43 (s : ByteArray) : HoldsV Tryz.prog 43 [.t (str s), .fn 42 []] (tt (!s.data.toList.all okB)) := by
  refine v_of mixed o43 (Nat.le_of_ble_eq_true rfl) ?_
  simp [x43, s43, argV]
  refine Call_v (h99 s) rfl rfl ?_
  simp
  refine ends_v ?_
  simp [Env.outD, Env.out1, Env.view, firstOdd_neg]
theorem h19 (s : ByteArray) : Holds Tryz.prog 19 [str s] (tt (nameB s)) := by
  refine pure_of mixed o19 (Nat.le_of_ble_eq_true rfl) ?_
  simp [x19, s19, argE]
  refine GrdG_un ?_
  simp [argE]
  refine GrdG_un ?_
  simp [argE]
  refine GrdG_un ?_
  simp [argE]
  refine GrdG_un ?_
  simp [argE]
  refine GrdG_un ?_
  simp [argE]
  refine GrdG_un ?_
  simp [argE]
  refine Call_v (h43 s) rfl rfl ?_
  simp [argE]
  refine GrdG_un ?_
  simp [argE]
  refine ends_pure ?_
  simp [Env.outD, Env.out1, Env.view]
  rw [Go.ByteArray.toList_eq]
  have h1 : (!s.data.toList.isEmpty) = decide (1 ≤ s.size) := by
    have hs : s.size = s.data.toList.length := rfl
    rw [hs]
    cases s.data.toList with
    | nil => rfl
    | cons a l => exact (decide_eq_true (Nat.succ_le_succ (Nat.zero_le _))).symm
  have h2 : decide ((s.size : Int) ≤ 64) = decide (s.size ≤ 64) := decide_eq_decide.2 (by omega)
  rw [h1, h2]
  simp [nameB]
end Go.Wt
/- Readers that are made; small tests. -/
namespace Go.Wt
open Go.RowKit Go.Proofs
abbrev es : ByteArray := ⟨#[]⟩
/-- A reader that is made, and an error. -/
def newR (g i : ByteArray) : DV := bif nameB g && nameB i then .tup [.t (rdT g i 0 0 .e0 .e0), .t (int 0)] else .tup [.t (rdT es es 0 0 .e0 .e0), .t (int 1)]
theorem newR_flat (g i : ByteArray) : (newR g i).flat = true := by unfold newR; cases nameB g && nameB i <;> rfl
theorem h7 (g i : ByteArray) : Holds Tryz.prog 7 [str g, str i] (newR g i) := by
  refine pure_of mixed o7 (Nat.le_of_ble_eq_true rfl) ?_
  simp [x7, s7, argE]
  refine Call_pure (h19 g) rfl ?_
  simp [argE]
  refine GrdG_un ?_
  simp [argE]
  refine GrdG_un ?_
  simp [argE]
  refine Call_pure (h19 i) rfl ?_
  simp [argE]
  refine GrdG_un ?_
  simp [argE]
  refine Br_mk (fun h => ?_) (fun h => ?_)
  · refine ends_pure ?_
    have : (nameB g && nameB i) = false := by
      revert h; cases nameB g <;> cases nameB i <;> simp
    simp [Env.outD, Env.out1, Env.view, newR, this, rdT]
  · refine ends_pure ?_
    have : (nameB g && nameB i) = true := by
      revert h; cases nameB g <;> cases nameB i <;> simp
    simp [Env.outD, Env.out1, Env.view, Env.view1, newR, this, rdT]
theorem h8 (g i : ByteArray) : Holds Tryz.prog 8 [str g, str i] (newR g i) := by
  refine pure_of mixed o8 (Nat.le_of_ble_eq_true rfl) ?_
  simp [x8, s8, argE]
  refine Call_pure (h20 g) rfl ?_
  simp [argE]
  refine GrdG_un ?_
  simp [argE]
  refine GrdG_un ?_
  simp [argE]
  refine Call_pure (h20 i) rfl ?_
  simp [argE]
  refine GrdG_un ?_
  simp [argE]
  refine Br_mk (fun h => ?_) (fun h => ?_)
  · refine ends_pure ?_
    have : (nameB g && nameB i) = false := by
      revert h; cases nameB g <;> cases nameB i <;> simp
    simp [Env.outD, Env.out1, Env.view, newR, this, rdT]
  · refine ends_pure ?_
    have : (nameB g && nameB i) = true := by
      revert h; cases nameB g <;> cases nameB i <;> simp
    simp [Env.outD, Env.out1, Env.view, Env.view1, newR, this, rdT]
theorem run_none {P : Program} (hm : P.follows .mixedOrders = true) {f : FuncId} {fn : XFn} (hx : XOk P f fn) {n : Nat} {ts : List Tree} {d : DV} (h1 : ts.length ≤ fn.nt) (h2 : fn.nt ≤ GH) (h : runD P (fun _ => none) (fun _ _ => none) n fn ts = some d) : Holds P f ts d :=
  holds_run hm (fun _ _ h => by cases h) (fun _ _ _ _ h => by cases h) hx h1 h2 h
theorem h22 : Holds Tryz.prog 22 [.e0, .e0] (tt true) := run_none mixed o22 (n := 30) (Nat.le_of_ble_eq_true rfl) (by decide) (by kernel_rfl)
theorem h23 : Holds Tryz.prog 23 [.e0, .e0] (tt true) := run_none mixed o23 (n := 30) (Nat.le_of_ble_eq_true rfl) (by decide) (by kernel_rfl)
theorem h46a (a : Int) : Holds Tryz.prog 46 [.sl 1 [int a]] (.t (int a)) := run_none mixed o46 (n := 30) (Nat.le_of_ble_eq_true rfl) (by decide) (by kernel_rfl)
theorem h46b (a b : Int) : Holds Tryz.prog 46 [.sl 1 [int a, int b]] (.t (int (if b < a then b else a))) := run_none mixed o46 (n := 30) (Nat.le_of_ble_eq_true rfl) (by decide) (by kernel_rfl)
theorem h47a (a : Int) : Holds Tryz.prog 47 [.sl 1 [int a]] (.t (int a)) := run_none mixed o47 (n := 30) (Nat.le_of_ble_eq_true rfl) (by decide) (by kernel_rfl)
theorem h47b (a b : Int) : Holds Tryz.prog 47 [.sl 1 [int a, int b]] (.t (int (if a < b then b else a))) := run_none mixed o47 (n := 30) (Nat.le_of_ble_eq_true rfl) (by decide) (by kernel_rfl)
theorem h11 (g i : ByteArray) : Holds Tryz.prog 11 [rdT g i 0 0 .e0 .e0, rdT g i 0 0 .e0 .e0] (tt true) := by
  refine pure_of mixed o11 (Nat.le_of_ble_eq_true rfl) ?_
  simp [x11, s11, argE, rdT]
  refine GrdG_yes ?_
  simp [argE]
  refine GrdG_yes ?_
  simp [argE]
  refine GrdG_yes ?_
  simp [argE]
  refine GrdG_yes ?_
  simp [argE]
  refine GrdG_yes ?_
  simp [argE]
  refine GrdG_yes ?_
  simp [argE]
  refine GrdG_yes ?_
  simp [argE]
  refine GrdG_yes ?_
  simp [argE]
  refine GrdG_yes ?_
  simp [argE]
  refine GrdG_yes ?_
  simp [argE]
  refine GrdG_yes ?_
  simp [argE]
  refine GrdG_yes ?_
  simp [argE]
  refine GrdG_yes ?_
  simp [argE]
  refine GrdG_yes ?_
  simp [argE]
  refine GrdG_yes ?_
  simp [argE]
  refine GrdG_yes ?_
  simp [argE]
  refine GrdG_yes ?_
  simp [argE]
  refine GrdG_yes ?_
  simp [argE]
  refine GrdG_yes ?_
  simp [argE]
  refine GrdG_yes ?_
  simp [argE]
  refine Call_pure h22 rfl ?_
  simp [argE]
  refine GrdG_yes ?_
  simp [argE]
  refine GrdG_yes ?_
  simp [argE]
  refine GrdG_yes ?_
  simp [argE]
  refine GrdG_yes ?_
  simp [argE]
  refine GrdG_yes ?_
  simp [argE]
  refine Call_pure h23 rfl ?_
  simp [argE]
  refine ends_pure ?_
  simp [Env.outD, Env.out1, Env.view]
/-- 0 to another one, of two. -/
theorem h24a (m a : Int) : Holds Tryz.prog 24 [int m, .sl 1 [int a]] (tt (inN a m)) := by
  refine pure_of mixed o24 (Nat.le_of_ble_eq_true rfl) ?_
  simp [x24, s24, argE]
  refine Call_pure (h46a a) rfl ?_
  simp [argE]
  refine GrdG_un ?_
  simp [argE]
  refine GrdG_un ?_
  simp [argE]
  refine Call_pure (h47a a) rfl ?_
  simp [argE]
  refine GrdG_un ?_
  simp [argE]
  refine GrdG_un ?_
  simp [argE]
  refine ends_pure ?_
  simp [Env.outD, Env.out1, Env.view, inN]
theorem h24b (m a b : Int) : Holds Tryz.prog 24 [int m, .sl 1 [int a, int b]] (tt (inN a m && inN b m)) := by
  refine pure_of mixed o24 (Nat.le_of_ble_eq_true rfl) ?_
  simp [x24, s24, argE]
  refine Call_pure (h46b a b) rfl ?_
  simp [argE]
  refine GrdG_un ?_
  simp [argE]
  refine GrdG_un ?_
  simp [argE]
  refine Call_pure (h47b a b) rfl ?_
  simp [argE]
  refine GrdG_un ?_
  simp [argE]
  refine GrdG_un ?_
  simp [argE]
  refine ends_pure ?_
  simp [Env.outD, Env.out1, Env.view, inN]
  rw [Bool.eq_iff_iff]
  simp only [Bool.and_eq_true, decide_eq_true_eq]
  (repeat' split) <;> omega
end Go.Wt
/- Equality of structs without memory in them. -/
namespace Go.Wt
open Go.RowKit Go.Proofs
theorem pure_program {P : Program} : pureRun P program = some P := rfl
theorem pure_under {P : Program} {t : TypeId} {d : TypeDesc} (h : P.underlying t = some d) : pureRun P (underlying t) = some d := by
  unfold underlying
  rw [pureRun_bind, pure_program]
  simp only [Option.bind_some, h]
  rfl
theorem pure_pure {P : Program} {α : Type} (a : α) : pureRun P (pure a : Sem α) = some a := rfl
theorem equal_str {P : Program} {t : TypeId} (h : P.underlying t = some .string) (d : Nat) (a b : ByteArray) : pureRun P (Op.equalIn (d + 1) t (.string a) (.string b)) = some (a == b) := by
  unfold Op.equalIn
  rw [pureRun_bind, pure_under h]
  rfl
theorem equal_int {P : Program} {t : TypeId} {k : IntKind} (h : P.underlying t = some (.int k)) (d : Nat) (a b : Int) : pureRun P (Op.equalIn (d + 1) t (.int .i64 a) (.int .i64 b)) = some (a == b) := by
  unfold Op.equalIn
  rw [pureRun_bind, pure_under h]
  simp only [Option.bind_some, if_true]
  rfl
theorem equal_struct {P : Program} {t : TypeId} {fs : Array Field} (hu : P.underlying t = some (.struct fs)) (hs : P.stoodInHeld t = false) {d : Nat} {xs ys : Array Value} (x y : Field → Value) (e : Field → Bool)
    (h : ∀ f ∈ fs.toList, f.name ≠ "_" ∧ pureRun P (part f.type xs f.offset) = some (x f) ∧ pureRun P (part f.type ys f.offset) = some (y f) ∧ pureRun P (Op.equalIn d f.type (x f) (y f)) = some (e f)) :
    pureRun P (Op.equalIn (d + 1) t (.agg xs) (.agg ys)) = some (fs.toList.all e) := by
  unfold Op.equalIn
  rw [pureRun_bind, pure_under hu]
  simp only [Option.bind_some]
  rw [pureRun_bind, pure_program]
  simp only [Option.bind_some, hs, Bool.false_eq_true, if_false]
  rw [pureRun_bind, ← Array.forIn_toList]
  have key : ∀ (l : List Field), (∀ f ∈ l, f ∈ fs.toList) → pureRun P (forIn l ((none : Option Bool), ()) fun f __s => (if f.name ≠ "_" then do
                    let __do_lift ← part f.type xs f.offset
                    let __do_lift_1 ← part f.type ys f.offset
                    let __do_lift ← Op.equalIn d f.type __do_lift __do_lift_1
                    if (!__do_lift) = true then pure (ForInStep.done (some false, ()))
                      else pure (ForInStep.yield (none, ()))
                  else pure (ForInStep.yield (none, ())) : Sem (ForInStep (Option Bool × Unit)))) = some (if l.all e = true then (none, ()) else (some false, ())) := by
    intro l hl
    induction l with
    | nil => rfl
    | cons f l ih =>
      obtain ⟨h1, h2, h3, h4⟩ := h f (hl f List.mem_cons_self)
      rw [List.forIn_cons, pureRun_bind, if_pos h1, pureRun_bind, h2]
      simp only [Option.bind_some]
      rw [pureRun_bind, h3]
      simp only [Option.bind_some]
      rw [pureRun_bind, h4]
      simp only [Option.bind_some]
      have ih := ih fun g hg => hl g (List.mem_cons_of_mem _ hg)
      cases he : e f with
      | false => simp [he, pure_pure]
      | true =>
        simp only [he, Bool.not_true, Bool.false_eq_true, if_false, pure_pure, Option.bind_some, List.all_cons, Bool.true_and]
        exact ih
  rw [key _ fun _ hf => hf]
  simp only [Option.bind_some]
  cases fs.toList.all e <;> rfl
structure Tp where
  topic : ByteArray
  part : Int
  home : Int
abbrev tpV (a : Tp) : Array Value := #[.string a.topic, .int .i64 a.part, .int .i64 a.home]
abbrev tpT (a : Tp) : Tree := .agg [str a.topic, int a.part, int a.home]
def tpEq (a b : Tp) : Bool := a.topic == b.topic && (a.part == b.part && (a.home == b.home && true))
theorem bytes_beq (a b : ByteArray) : (a.toList == b.toList) = true ↔ a = b := by
  rw [beq_iff_eq, Go.ByteArray.toList_eq, Go.ByteArray.toList_eq]
  constructor
  · intro h
    cases a; cases b
    simp only [ByteArray.mk.injEq]
    exact Array.toList_inj.1 h
  · rintro rfl; rfl
theorem tpEq_iff (a b : Tp) : tpEq a b = true ↔ a = b := by
  obtain ⟨a1, a2, a3⟩ := a
  obtain ⟨b1, b2, b3⟩ := b
  have h : (a1 == b1) = true ↔ a1 = b1 := by
    show (a1.data == b1.data) = true ↔ _
    rw [beq_iff_eq]
    cases a1; cases b1; simp
  simp only [tpEq, Bool.and_eq_true, h, beq_iff_eq, and_true, Tp.mk.injEq]
theorem equal27 (a b : Tp) : pureRun Tryz.prog (Op.equal 27 (.agg (tpV a)) (.agg (tpV b))) = some (tpEq a b) := by
  have key : ∀ n, pureRun Tryz.prog (Op.equalIn (n + 1 + 1) 27 (.agg (tpV a)) (.agg (tpV b))) = some (tpEq a b) := by
    intro n
    refine equal_struct Tryz.underlying27 (by kernel_rfl) (fun f => if f.offset = 0 then .string a.topic else if f.offset = 1 then .int .i64 a.part else .int .i64 a.home) (fun f => if f.offset = 0 then .string b.topic else if f.offset = 1 then .int .i64 b.part else .int .i64 b.home) (fun f => if f.offset = 0 then a.topic == b.topic else if f.offset = 1 then a.part == b.part else a.home == b.home) ?_
    intro f hf
    simp only [List.mem_cons, List.mem_nil_iff, or_false] at hf
    rcases hf with rfl | rfl | rfl
    · exact ⟨by decide, by kernel_rfl, by kernel_rfl, equal_str Tryz.underlying9 _ _ _⟩
    · exact ⟨by decide, by kernel_rfl, by kernel_rfl, equal_int Tryz.underlying3 _ _ _⟩
    · exact ⟨by decide, by kernel_rfl, by kernel_rfl, equal_int Tryz.underlying3 _ _ _⟩
  exact key (Op.maxDepth - 2)
theorem eqTp (x y : Operand) (a b : Tp) : dBin Tryz.prog .eql 27 x y (.t (tpT a)) (.t (tpT b)) = val (tt (tpEq a b)) := by
  have h : dBin Tryz.prog .eql 27 x y (.t (tpT a)) (.t (tpT b)) = chk (pureRun Tryz.prog (do eqGuard .eql 27 x y (.agg (tpV a)) (.agg (tpV b)); binOp .eql 27 (.agg (tpV a)) (.agg (tpV b)))) := rfl
  rw [h, pureRun_bind]
  have hg : pureRun Tryz.prog (eqGuard .eql 27 x y (.agg (tpV a)) (.agg (tpV b))) = some () := by
    have hq : Tryz.prog.eqGuardType Tryz.prog.depth 27 = false := by kernel_rfl
    show pureRun Tryz.prog (do if !(← program).eqGuardType (← program).depth 27 then return
                               if ← Op.eqGuardIn Op.maxDepth 27 (.agg (tpV a)) (.agg (tpV b)) then unsupported (.noEntry "binop/eql: two nil values of an interface type with methods, in a part of a struct or an array")) = some ()
    rw [pureRun_bind, pure_program]
    simp only [Option.bind_some]
    rw [pureRun_bind, pure_program]
    simp only [Option.bind_some, hq]
    rfl
  have hb : pureRun Tryz.prog (binOp .eql 27 (.agg (tpV a)) (.agg (tpV b))) = some (.bool (tpEq a b)) := by
    have e : binOp .eql 27 (.agg (tpV a)) (.agg (tpV b)) = (do pure (.bool (← Op.equal 27 (.agg (tpV a)) (.agg (tpV b))))) := rfl
    rw [e, pureRun_bind, equal27]
    rfl
  rw [hg, Option.bind_some, hb]
  rfl
theorem neTp (x y : Operand) (a b : Tp) : dBin Tryz.prog .neq 27 x y (.t (tpT a)) (.t (tpT b)) = val (tt (!tpEq a b)) := by
  have h : dBin Tryz.prog .neq 27 x y (.t (tpT a)) (.t (tpT b)) = chk (pureRun Tryz.prog (do eqGuard .neq 27 x y (.agg (tpV a)) (.agg (tpV b)); binOp .neq 27 (.agg (tpV a)) (.agg (tpV b)))) := rfl
  rw [h, pureRun_bind]
  have hg : pureRun Tryz.prog (eqGuard .neq 27 x y (.agg (tpV a)) (.agg (tpV b))) = some () := by
    have hq : Tryz.prog.eqGuardType Tryz.prog.depth 27 = false := by kernel_rfl
    show pureRun Tryz.prog (do if !(← program).eqGuardType (← program).depth 27 then return
                               if ← Op.eqGuardIn Op.maxDepth 27 (.agg (tpV a)) (.agg (tpV b)) then unsupported (.noEntry "binop/eql: two nil values of an interface type with methods, in a part of a struct or an array")) = some ()
    rw [pureRun_bind, pure_program]
    simp only [Option.bind_some]
    rw [pureRun_bind, pure_program]
    simp only [Option.bind_some, hq]
    rfl
  have hb : pureRun Tryz.prog (binOp .neq 27 (.agg (tpV a)) (.agg (tpV b))) = some (.bool (!tpEq a b)) := by
    have e : binOp .neq 27 (.agg (tpV a)) (.agg (tpV b)) = (do pure (.bool (!(← Op.equal 27 (.agg (tpV a)) (.agg (tpV b)))))) := rfl
    rw [e, pureRun_bind, equal27]
    rfl
  rw [hg, Option.bind_some, hb]
  rfl
end Go.Wt
/- Lists of what was told. -/
namespace Go.Wt
open Go.RowKit Go.Proofs
/-- Where the first such stands; -1: nowhere. -/
def firstIx {α : Type} (p : α → Bool) : List α → Int
  | [] => -1
  | b :: l => if p b = true then 0 else (if firstIx p l < 0 then -1 else firstIx p l + 1)
theorem firstIx_none {α : Type} {p : α → Bool} : ∀ {l : List α}, (∀ (i : Nat) (x : α), l[i]? = some x → p x = false) → firstIx p l = -1
  | [], _ => rfl
  | b :: l, h => by
    have h0 := h 0 b rfl
    have ih := firstIx_none (l := l) fun i x hx => h (i + 1) x (by simpa using hx)
    simp [firstIx, h0, ih]
theorem firstIx_at {α : Type} {p : α → Bool} : ∀ {l : List α} {i : Nat} {y : α}, l[i]? = some y → (∀ (j : Nat) (x : α), j < i → l[j]? = some x → p x = false) → p y = true → firstIx p l = i
  | [], i, y, hi, _, _ => by simp at hi
  | b :: l, 0, y, hi, _, h => by simp at hi; subst hi; simp [firstIx, h]
  | b :: l, i + 1, y, hi, h1, h2 => by
    have h0 := h1 0 b (by omega) rfl
    have ih := firstIx_at (l := l) (i := i) (y := y) (by simpa using hi) (fun j x hj hx => h1 (j + 1) x (by omega) (by simpa using hx)) h2
    have hneg : ¬ (i : Int) < 0 := by omega
    simp [firstIx, h0, ih, hneg]
theorem firstIx_neg {α : Type} {p : α → Bool} : ∀ l : List α, decide (0 ≤ firstIx p l) = l.any p
  | [] => rfl
  | b :: l => by
    have ih := firstIx_neg (p := p) l
    simp only [firstIx, List.any_cons]
    by_cases hb : p b = true
    · simp [hb]
    · have hb : p b = false := by simpa using hb
      simp only [hb, Bool.false_eq_true, if_false, Bool.false_or]
      rw [← ih]
      split
      · exact decide_eq_decide.2 (by omega)
      · exact decide_eq_decide.2 (by omega)
structure Told where
  tp : Tp
  off : Int
  frm : Int
  roff : Int
  key : ByteArray
  val : ByteArray
  dead : Bool
  stamp : Int
abbrev toldT (t : Told) : Tree := .agg [str t.tp.topic, int t.tp.part, int t.tp.home, int t.off, int t.frm, int t.roff, str t.key, str t.val, .v (.bool t.dead), int t.stamp]
abbrev MAXOFF : Int := 1099511627776
def oddT (t : Told) : Bool := !(inN t.off MAXOFF && inN t.frm MAXOFF)
theorem h25 (t : Told) : Holds Tryz.prog 25 [toldT t] (tt (oddT t)) := by
  refine pure_of mixed o25 (Nat.le_of_ble_eq_true rfl) ?_
  simp [x25, s25, argE, dLits, chunks]
  refine Call_pure (h24b MAXOFF t.off t.frm) rfl ?_
  simp [argE]
  refine ends_pure ?_
  simp [Env.outD, Env.out1, Env.view, oddT]
theorem h48 (l : List Told) (hl : l.length ≤ 1000) : HoldsV Tryz.prog 48 [.t (.sl 10 (l.map toldT)), .fn 25 []] (.t (int (firstIx oddT l))) := by
  refine v_of mixed o48 (Nat.le_of_ble_eq_true rfl) ?_
  simp [x48, s48, argV]
  refine loop_rule (fun E => ∃ (i : Nat), i ≤ l.length ∧ E.tmps 8 = .t (int i) ∧ E.tmps 7 = .t (int l.length) ∧ E.tmps 0 = .t (.sl 10 (l.map toldT)) ∧ E.tmps 1 = .fn 25 [] ∧ (∀ (j : Nat) (x : Told), j < i → l[j]? = some x → oddT x = false)) (fun E => match E.tmps 8 with | .t (.v (.int _ i)) => l.length - i.toNat | _ => 0) [] rfl ?_ ?_
  · simp [argV]
    exact ⟨0, by omega, rfl, by simp⟩
  rintro E1 ⟨i, hi, e8, e7, e0, e1, hb⟩ hU hS A hA
  simp [s48_1, e8, e7]
  refine Br_dec (fun h => ?_) (fun h => ?_)
  · have hx := List.getElem?_eq_getElem h
    simp [e8, e7, e0, e1, h]
    refine Call_pure (h25 l[i]) rfl ?_
    simp [e8, e7, e0, e1, h]
    refine Br_mk (fun h2 => ?_) (fun h2 => ?_)
    · refine ends_v ?_
      simp [Env.outD, Env.out1, Env.view, firstIx_at hx hb h2]
    · have hw : IntKind.i64.wrap ((i : Int) + 1) = ((i + 1 : Nat) : Int) := by rw [wrap_small (by omega) (by simp only [LIM]; omega)]; omega
      refine hA _ (again_rule [] rfl rfl ⟨i + 1, by omega, ?_, ?_, ?_, ?_, fun j y hj hy => ?_⟩ ?_)
      · simp [hw]
      · simp [e7]
      · simp [e0]
      · simp [e1]
      · by_cases hji : j = i
        · subst hji
          rw [hx] at hy
          cases hy
          exact h2
        · exact hb j y (by omega) hy
      · simp [hw, e8]
        omega
  · simp [e8, e7, h]
    refine ends_v ?_
    have : firstIx oddT l = -1 := firstIx_none fun j x hx => hb j x (by have := (List.getElem?_eq_some_iff.1 hx).1; omega) hx
    simp [Env.outD, Env.out1, Env.view, this]
theorem h27 (l : List Told) (hl : l.length ≤ 1000) : HoldsV Tryz.prog 27 [.t (.sl 10 (l.map toldT)), .fn 25 []] (tt (l.any oddT)) := by
  refine v_of mixed o27 (Nat.le_of_ble_eq_true rfl) ?_
  simp [x27, s27, argV]
  refine Call_v (h48 l hl) rfl rfl ?_
  simp
  refine ends_v ?_
  simp [Env.outD, Env.out1, Env.view, firstIx_neg]
end Go.Wt
/- Partitions that stand twice. -/
namespace Go.Wt
open Go.RowKit Go.Proofs
abbrev keyV (a : Tp) : Value := .agg (tpV a)
theorem keyOk27 (e : Bool) (a : Tp) : keyOk Tryz.prog e 27 (keyV a) = true := by
  cases e
  · kernel_rfl
  · kernel_rfl
/-- Where a key stands. -/
def ixOf (k : Tp) : List Tp → Nat → Option Nat
  | [], _ => none
  | a :: l, i => if tpEq k a = true then some i else ixOf k l (i + 1)
theorem find_ask (k : Tp) : ∀ (ks : List Tp) (i : Nat), (pureRun Tryz.prog (Instr.findAsking 27 (keyV k) ((ks.map keyV).map fun x => { key := x, val := undef, born := 0 }) i)).map (fun r => r.map (·.1)) = some (ixOf k ks i)
  | [], i => rfl
  | a :: ks, i => by
    have ih := find_ask k ks (i + 1)
    simp only [List.map_cons, Instr.findAsking]
    rw [pureRun_bind, equal27]
    simp only [Option.bind_some]
    cases hq : tpEq k a with
    | true => simp [ixOf, hq, pure_pure]
    | false => simp only [ixOf, hq, Bool.false_eq_true, if_false]; exact ih
theorem find27 (k : Tp) (ks : List Tp) : findM Tryz.prog 27 (keyV k) (ks.map keyV) = some (ixOf k ks 0) := by
  unfold findM Instr.findKey
  rw [pureRun_bind, pure_under Tryz.underlying27]
  simp only [Option.bind_some]
  rw [← find_ask k ks 0]
  cases ks with
  | nil => rfl
  | cons a ks => rfl
theorem ixOf_none (k : Tp) : ∀ (l : List Tp) (i : Nat), l.any (tpEq k) = false → ixOf k l i = none
  | [], _, _ => rfl
  | a :: l, i, h => by
    simp only [List.any_cons, Bool.or_eq_false_iff] at h
    simp [ixOf, h.1, ixOf_none k l (i + 1) h.2]
theorem ixOf_some (k : Tp) : ∀ (l : List Tp) (i : Nat), l.any (tpEq k) = true → ∃ j, j < l.length ∧ ixOf k l i = some (i + j)
  | [], _, h => by simp at h
  | a :: l, i, h => by
    by_cases hq : tpEq k a = true
    · exact ⟨0, by simp, by simp [ixOf, hq]⟩
    · have hq : tpEq k a = false := by simpa using hq
      simp only [List.any_cons, hq, Bool.false_or] at h
      obtain ⟨j, h1, h2⟩ := ixOf_some k l (i + 1) h
      exact ⟨j + 1, by simp [h1], by simp [ixOf, hq, h2]; omega⟩
/-- Does one stand twice? -/
def dupTo (l : List Tp) : Nat → Bool
  | 0 => false
  | n + 1 => dupTo l n || (match l[n]? with | some x => (l.take n).any (tpEq x) | none => false)
theorem h26e : Holds Tryz.prog 26 [.e0] (tt false) := run_none mixed o26 (n := 30) (Nat.le_of_ble_eq_true rfl) (by decide) (by kernel_rfl)
theorem dupTo_hit {l : List Tp} {i : Nat} {x : Tp} (hx : l[i]? = some x) (h : (l.take i).any (tpEq x) = true) : ∀ n, i < n → dupTo l n = true
  | 0, hn => by omega
  | n + 1, hn => by
    simp only [dupTo, Bool.or_eq_true]
    by_cases hin : i = n
    · subst hin; right; rw [hx]; exact h
    · left; exact dupTo_hit hx h n (by omega)
theorem h26 (l : List Tp) (hl : l.length ≤ 1000) : Holds Tryz.prog 26 [.sl 3 (l.map tpT)] (tt (dupTo l l.length)) := by
  refine pure_of mixed o26 (Nat.le_of_ble_eq_true rfl) ?_
  simp [x26, s26, argE, dMkmap, isIntO]
  refine loop_rule (fun E => ∃ (i : Nat) (mes : List (Value × DV × Nat)) (c : Nat), i ≤ l.length ∧ E.tmps 9 = .t (int i) ∧ E.tmps 8 = .t (int l.length) ∧ E.tmps 7 = .t (.sl 3 (l.map tpT)) ∧ E.tmps 3 = .mp (.head 1 0) ∧ E.slots (.head 1 0) = some (.obj (.mp mes c) false) ∧
    mes.map (·.1) = (l.take i).map keyV ∧ (∀ e ∈ mes, e.2.1 = tt true) ∧ dupTo l i = false) (fun E => match E.tmps 9 with | .t (.v (.int _ i)) => l.length - i.toNat | _ => 0) [(.loc 6 0, .head 1 0)] rfl ?_ ?_
  · refine ⟨0, [], 0, Nat.zero_le _, ?_, ?_, ?_, ?_, ?_, rfl, by simp, rfl⟩ <;> simp [argE, OR.ren]
  rintro E1 ⟨i, mes, c, hi, e9, e8, e7, e3, esl, hk, hv, hd⟩ hU hS A hA
  simp [s26_1, e9, e8]
  refine Br_dec (fun h => ?_) (fun h => ?_)
  · have hx := List.getElem?_eq_getElem h
    have hfind : findM Tryz.prog 27 (keyV l[i]) (mes.map (·.1)) = some (ixOf l[i] (l.take i) 0) := by rw [hk, find27]
    have hfl : (DV.t (tpT l[i])).flat? = some (keyV l[i]) := rfl
    by_cases hf : (l.take i).any (tpEq l[i]) = true
    · obtain ⟨j, hj, hix⟩ := ixOf_some l[i] (l.take i) 0 hf
      rw [hix, Nat.zero_add] at hfind
      have hlen : mes.length = (l.take i).length := by have := congrArg List.length hk; simpa using this
      have hej : mes[j]? = some (mes[j]'(by omega)) := List.getElem?_eq_getElem (by omega)
      have hev := hv _ (List.getElem_mem (by omega : j < mes.length))
      generalize mes[j]'(by omega) = e at hej hev
      simp [e9, e8, e7, e3, h, hU, esl, dMget, mres, hfl, keyOk27, hfind, hej, hev]
      refine ends_pure ?_
      simp [Env.outD, Env.out1, Env.view, dupTo_hit hx hf l.length h]
    · have hf : (l.take i).any (tpEq l[i]) = false := by simpa using hf
      rw [ixOf_none _ _ _ hf] at hfind
      simp [e9, e8, e7, e3, h, hU, esl, dMget, dMset, mres, hfl, keyOk27, hfind]
      have hw : IntKind.i64.wrap ((i : Int) + 1) = ((i + 1 : Nat) : Int) := by rw [wrap_small (by omega) (by simp only [LIM]; omega)]; omega
      have hren : ∀ ρ : List (Nm × Nm), mes.map (fun e => (e.1, e.2.1.ren ρ, e.2.2)) = mes := fun ρ => by
        refine (List.map_congr_left fun e he => ?_).trans (List.map_id mes)
        obtain ⟨e1, e2, e3⟩ := e
        have := hv _ he
        simp only at this
        subst this
        rfl
      refine hA _ (again_rule [(.head 1 0, .head 1 0)] rfl rfl ⟨i + 1, mes ++ [(keyV l[i], tt true, c)], c + 1, by omega, ?_, ?_, ?_, ?_, ?_, ?_, ?_, ?_⟩ ?_)
      · simp [hw]
      · simp [e8]
      · simp [e7]
      · simp [e3]
      · simp [OR.ren, hren]
      · have ht : l.take (i + 1) = l.take i ++ [l[i]] := by rw [List.take_add_one, hx]; rfl
        rw [List.map_append, hk, ht, List.map_append]
        rfl
      · intro e he
        rcases List.mem_append.1 he with he | he
        · exact hv e he
        · simp at he; subst he; rfl
      · simp only [dupTo, hd, hx, hf, Bool.or_self]
      · simp [hw, e9]
        omega
  · simp [e9, e8, h]
    refine ends_pure ?_
    have : i = l.length := by omega
    subst this
    simp [Env.outD, Env.out1, Env.view, hd]
end Go.Wt
/- Whether a reader may be, as the program tells it. -/
namespace Go.Wt
open Go.RowKit Go.Proofs
section
variable {P : Program} {C : CallOk} {Q : Exit → Env → Prop} {k : List Fr} {E : Env} {pr : List (Nat × Nat)} {ix : Nat} {log : List Log} {rest : List SOper} {dst : Option Nat}
/-- A loop whose names are not always the same. -/
theorem loop_rule_n {b : SCode} (I : List Nm → Env → Prop) (m : Env → Nat) (ρ : List (Nm × Nm)) (h0 : okRen ρ = true) (h1 : I (ρ.map (·.2)) (E.canon ρ))
    (h2 : ∀ ns E1, I ns E1 → E1.used = (fun s => ns.contains s) → (∀ s, ns.contains s = false → E1.slots s = none) →
      ∀ A : Env → Prop, (∀ E' (ρ' : List (Nm × Nm)), okRen ρ' = true → I (ρ'.map (·.2)) (E'.canon ρ') → m (E'.canon ρ') < m E1 → A E') → Run P C Q (.code b :: .again A :: k) E1) : LoopG P C Q k b E :=
  ⟨fun E1 => ∃ ns, I ns E1 ∧ E1.used = (fun s => ns.contains s) ∧ ∀ s, ns.contains s = false → E1.slots s = none, m, ⟨ρ, h0, _, h1, (canon_names E ρ).1, (canon_names E ρ).2⟩,
    fun E1 ⟨ns, hi, hu, hs⟩ => h2 ns E1 hi hu hs _ fun E' ρ' q1 q2 q3 => ⟨ρ', q1, ⟨_, q2, (canon_names E' ρ').1, (canon_names E' ρ').2⟩, q3⟩⟩
/-- A call of a pure function that reads what is one's own. -/
theorem Call_view {g : Option (Bool × Bool)} {f : FuncId} {ds : List DV} {ts : List Tree} {F : List Nm} {d : DV} (h : Holds P f ts d) (hv : (E.und g).views ds = some (ts, F)) (hf : d.flat = true) (hk : Stp P Ctr Q k pr ix log dst rest E g (some ⟨d, F ++ [], []⟩)) : CallG P Ctr Q k pr ix log dst rest E g f ds :=
  Call_mk ⟨d, F ++ [], []⟩ (call_flat h hv hf) hk
end
structure Pos where
  group : ByteArray
  tp : Tp
  off : Int
abbrev posT (p : Pos) : Tree := .agg [str p.group, str p.tp.topic, int p.tp.part, int p.tp.home, int p.off]
def okPos (g : ByteArray) (p : Pos) : Bool := p.group.toList == g.toList && inN p.off MAXOFF
def okHead (g i : ByteArray) (reg gen : Int) : Bool := nameB g && (nameB i && (inN reg 3 && inN gen 1048576))
def okR (g i : ByteArray) (reg gen : Int) (l : List Pos) (l' : List Told) : Bool := okHead g i reg gen && (l.all (okPos g) && (!dupTo (l.map Pos.tp) l.length && !l'.any oddT))
theorem h12 (g i : ByteArray) (reg gen : Int) (l : List Pos) (l' : List Told) (hl : l.length ≤ 1000) (hl' : l'.length ≤ 1000) :
    Holds Tryz.prog 12 [rdT g i reg gen (.sl 5 (l.map posT)) (.sl 10 (l'.map toldT))] (.t (int (bif okR g i reg gen l l' then 0 else 1))) := by
  refine pure_of mixed o12 (Nat.le_of_ble_eq_true rfl) ?_
  simp [x12, s12, argE, rdT]
  refine Call_pure (h19 g) rfl ?_
  simp [argE]
  refine GrdG_un ?_
  simp [argE]
  refine GrdG_un ?_
  simp [argE]
  refine GrdG_un ?_
  simp [argE]
  refine Call_pure (h19 i) rfl ?_
  simp [argE]
  refine GrdG_un ?_
  simp [argE]
  refine GrdG_un ?_
  simp [argE]
  refine GrdG_un ?_
  simp [argE]
  refine GrdG_un ?_
  simp [argE, dLits, chunks]
  refine GrdG_un ?_
  simp [argE]
  refine Call_pure (h24a 3 reg) rfl ?_
  simp [argE]
  refine GrdG_un ?_
  simp [argE]
  refine GrdG_un ?_
  simp [argE]
  refine GrdG_un ?_
  simp [argE]
  refine GrdG_un ?_
  simp [argE, dLits, chunks]
  refine GrdG_un ?_
  simp [argE]
  refine Call_pure (h24a 1048576 gen) rfl ?_
  simp [argE]
  refine GrdG_un ?_
  simp [argE]
  refine Br_mk (fun h => ?_) (fun h => ?_)
  · refine ends_pure ?_
    have : okR g i reg gen l l' = false := by
      have : okHead g i reg gen = false := by
        revert h
        unfold okHead
        cases nameB g <;> cases nameB i <;> cases inN reg 3 <;> cases inN gen 1048576 <;> simp
      simp [okR, this]
    simp [Env.outD, Env.out1, Env.view, this]
  have hhead : okHead g i reg gen = true := by
    revert h
    unfold okHead
    cases nameB g <;> cases nameB i <;> cases inN reg 3 <;> cases inN gen 1048576 <;> simp
  clear h
  refine loop_rule_n (fun ns E => ∃ n : Nat, n ≤ l.length ∧ E.tmps 34 = .t (int n) ∧ E.tmps 33 = .t (int l.length) ∧ E.tmps 32 = .t (.sl 5 (l.map posT)) ∧ E.tmps 1 = .ptr (.head 1 0) 0 0 ∧ E.slots (.head 1 0) = some (.box 25 (.t (rdT g i reg gen (.sl 5 (l.map posT)) (.sl 10 (l'.map toldT)))) false) ∧
    (l.take n).all (okPos g) = true ∧ ((n = 0 ∧ ns = [.head 1 0] ∧ E.tmps 3 = .t .e0) ∨ (0 < n ∧ ns = [.head 1 0, .head 1 1] ∧ E.tmps 3 = .osl (.head 1 1) n ∧ E.slots (.head 1 1) = some (.rows 27 3 ((l.take n).map fun p => tpT p.tp) false))))
    (fun E => match E.tmps 34 with | .t (.v (.int _ i)) => l.length - i.toNat | _ => 0) [(.loc 1 0, .head 1 0)] rfl ?_ ?_
  · refine ⟨0, Nat.zero_le _, ?_, ?_, ?_, ?_, ?_, rfl, .inl ⟨rfl, rfl, ?_⟩⟩ <;> simp [argE, rdT]
  rintro ns E1 ⟨n, hn, e34, e33, e32, e1, esl, hall, hcase⟩ hU hS A hA
  simp [s12_1, e34, e33]
  refine Br_dec (fun h => ?_) (fun h => ?_)
  · have hx := List.getElem?_eq_getElem h
    have hw : IntKind.i64.wrap ((n : Int) + 1) = ((n + 1 : Nat) : Int) := by rw [wrap_small (by omega) (by simp only [LIM]; omega)]; omega
    have ht : l.take (n + 1) = l.take n ++ [l[n]] := by rw [List.take_add_one, hx]; rfl
    rcases hcase with ⟨h0, rfl, e3⟩ | ⟨h0, rfl, e3, es3⟩
    · simp [e34, e33, e32, e1, esl, h, hU, rdT]
      refine GrdG_un ?_
      simp [e34, e33, e32, e1, esl, h, hU, rdT]
      refine GrdG_un ?_
      simp [e34, e33, e32, e1, esl, h, hU, rdT]
      refine GrdG_un ?_
      simp [dLits, chunks]
      refine GrdG_un ?_
      simp
      refine Call_pure (h24a MAXOFF l[n].off) rfl ?_
      simp
      refine GrdG_un ?_
      simp
      refine Br_mk (fun h2 => ?_) (fun h2 => ?_)
      · refine ends_pure ?_
        have hbad : okPos g l[n] = false := by
          revert h2
          unfold okPos
          cases (l[n].group.toList == g.toList) <;> cases inN l[n].off MAXOFF <;> simp
        have hall2 : l.all (okPos g) = false := by
          rw [List.all_eq_false]
          exact ⟨l[n], List.getElem_mem h, by simp [hbad]⟩
        simp [Env.outD, Env.out1, Env.view, okR, hall2]
      · have hgood : okPos g l[n] = true := by
          revert h2
          unfold okPos
          cases (l[n].group.toList == g.toList) <;> cases inN l[n].off MAXOFF <;> simp
        simp [e34, e33, e32, e1, e3, esl, h, hU, rdT, dLits, chunks, dApp, Env.more, Env.view, LIM]
        have htk : l.take n = [] := by rw [h0]; rfl
        refine hA _ [(.head 1 0, .head 1 0), (.loc 54 0, .head 1 1)] rfl ⟨n + 1, by omega, ?_, ?_, ?_, ?_, ?_, ?_, .inr ⟨by omega, rfl, ?_, ?_⟩⟩ ?_
        · simp [hw]
        · simp [e33]
        · simp [e32]
        · simp [e1, List.lookup]
        · simp [esl, rdT, List.lookup]
        · rw [ht, List.all_append, hall]; simp [hgood]
        · simp [List.lookup, h0]
        · rw [ht, htk]; simp [List.lookup]
        · simp [hw, e34]
          omega
    · simp [e34, e33, e32, e1, esl, h, hU, rdT]
      refine GrdG_un ?_
      simp [e34, e33, e32, e1, esl, h, hU, rdT]
      refine GrdG_un ?_
      simp [e34, e33, e32, e1, esl, h, hU, rdT]
      refine GrdG_un ?_
      simp [dLits, chunks]
      refine GrdG_un ?_
      simp
      refine Call_pure (h24a MAXOFF l[n].off) rfl ?_
      simp
      refine GrdG_un ?_
      simp
      refine Br_mk (fun h2 => ?_) (fun h2 => ?_)
      · refine ends_pure ?_
        have hbad : okPos g l[n] = false := by
          revert h2
          unfold okPos
          cases (l[n].group.toList == g.toList) <;> cases inN l[n].off MAXOFF <;> simp
        have hall2 : l.all (okPos g) = false := by
          rw [List.all_eq_false]
          exact ⟨l[n], List.getElem_mem h, by simp [hbad]⟩
        simp [Env.outD, Env.out1, Env.view, okR, hall2]
      · have hgood : okPos g l[n] = true := by
          revert h2
          unfold okPos
          cases (l[n].group.toList == g.toList) <;> cases inN l[n].off MAXOFF <;> simp
        have hlim : n + 1 ≤ 100000000 := by omega
        simp [e34, e33, e32, e1, e3, esl, es3, h, hU, rdT, dLits, chunks, dApp, Env.more, Env.view, LIM, hn, hlim]
        refine hA _ [(.head 1 0, .head 1 0), (.loc 54 0, .head 1 1)] rfl ⟨n + 1, by omega, ?_, ?_, ?_, ?_, ?_, ?_, .inr ⟨by omega, rfl, ?_, ?_⟩⟩ ?_
        · simp [hw]
        · simp [e33]
        · simp [e32]
        · simp [e1, List.lookup]
        · simp [esl, rdT, List.lookup]
        · rw [ht, List.all_append, hall]; simp [hgood]
        · simp [List.lookup]
        · rw [ht]; simp [List.lookup]
          rw [List.take_take, Nat.min_self, List.take_add_one, List.getElem?_map, hx]
          rfl
        · simp [hw, e34]
          omega
  · have hnl : n = l.length := by omega
    subst hnl
    rw [List.take_length] at hall hcase
    rcases hcase with ⟨h0, rfl, e3⟩ | ⟨h0, rfl, e3, es3⟩
    · simp [e34, e33, e32, e1, esl, e3, h, hU]
      refine Call_pure h26e rfl ?_
      have hend : dupTo (l.map Pos.tp) l.length = false := by rw [h0]; rfl
      simp
      refine GrdG_un ?_
      simp [e1]
      refine GrdG_un ?_
      simp [e1, esl, rdT]
      refine GrdG_un ?_
      simp
      refine GrdG_un ?_
      simp
      refine Call_v (h27 l' hl') rfl rfl ?_
      simp
      refine Br_mk (fun h2 => ?_) (fun h2 => ?_)
      · refine ends_pure ?_
        simp [Env.outD, Env.out1, Env.view, okR, hend, h2]
      · refine ends_pure ?_
        simp [Env.outD, Env.out1, Env.view, okR, hhead, hall, hend, h2]
    · simp [e34, e33, e32, e1, esl, e3, h, hU]
      have hm : l.map (fun p => tpT p.tp) = (l.map Pos.tp).map tpT := by simp
      have htl : (l.map (fun p => tpT p.tp)).take l.length = (l.map Pos.tp).map tpT := by rw [List.take_of_length_le (by simp), hm]
      refine Call_view (ts := [.sl 3 ((l.map Pos.tp).map tpT)]) (F := [.head 1 1]) (h26 (l.map Pos.tp) (by simpa using hl)) (by simp [Env.views, Env.view, Env.view1, es3, htl]) rfl ?_
      rw [List.length_map]
      have hend : True := trivial
      simp
      refine GrdG_un ?_
      simp [e1]
      refine GrdG_un ?_
      simp [e1, esl, rdT]
      refine GrdG_un ?_
      simp
      refine GrdG_un ?_
      simp
      refine Call_v (h27 l' hl') rfl rfl ?_
      simp
      refine Br_mk (fun h2 => ?_) (fun h2 => ?_)
      · refine ends_pure ?_
        have hb : (!dupTo (l.map Pos.tp) l.length && !l'.any oddT) = !(dupTo (l.map Pos.tp) l.length || l'.any oddT) := by rw [Bool.not_or]
        simp only [okR, hb, h2]
        simp [Env.outD, Env.out1, Env.view]
      · refine ends_pure ?_
        have hb : (!dupTo (l.map Pos.tp) l.length && !l'.any oddT) = !(dupTo (l.map Pos.tp) l.length || l'.any oddT) := by rw [Bool.not_or]
        simp only [okR, hb, h2, hhead, hall]
        simp [Env.outD, Env.out1, Env.view]
end Go.Wt
/- Whether a reader may be, as the document tells it. -/
namespace Go.Wt
open Go.RowKit Go.Proofs
theorem tpEq_comm (a b : Tp) : tpEq a b = tpEq b a := by
  rw [Bool.eq_iff_iff, tpEq_iff, tpEq_iff]
  exact ⟨fun h => h.symm, fun h => h.symm⟩
def okTo (g i : ByteArray) (reg gen : Int) (l : List Pos) (n : Nat) : Bool := okHead g i reg gen && ((l.take n).all (okPos g) && !dupTo (l.map Pos.tp) n)
def okIn (g i : ByteArray) (reg gen : Int) (l : List Pos) (n : Nat) (p : Pos) (j : Nat) : Bool := okTo g i reg gen l n && (okPos g p && (l.take j).all fun x => !tpEq x.tp p.tp)
theorem okIn_succ {g i : ByteArray} {reg gen : Int} {l : List Pos} {n j : Nat} {p x : Pos} (hx : l[j]? = some x) : okIn g i reg gen l n p (j + 1) = (okIn g i reg gen l n p j && !tpEq x.tp p.tp) := by
  have ht : l.take (j + 1) = l.take j ++ [x] := by rw [List.take_add_one, hx]; rfl
  simp only [okIn, ht, List.all_append, List.all_cons, List.all_nil, Bool.and_true, Bool.and_assoc]
theorem okTo_succ {g i : ByteArray} {reg gen : Int} {l : List Pos} {n : Nat} {p : Pos} (hx : l[n]? = some p) : okTo g i reg gen l (n + 1) = okIn g i reg gen l n p n := by
  have ht : l.take (n + 1) = l.take n ++ [p] := by rw [List.take_add_one, hx]; rfl
  have hd : dupTo (l.map Pos.tp) (n + 1) = (dupTo (l.map Pos.tp) n || (l.take n).any fun x => tpEq x.tp p.tp) := by
    simp only [dupTo, List.getElem?_map, hx, Option.map_some, ← List.map_take, List.any_map]
    congr 2
    funext x
    exact tpEq_comm _ _
  have hn : (!(l.take n).any fun x => tpEq x.tp p.tp) = (l.take n).all fun x => !tpEq x.tp p.tp := by
    rw [List.not_any_eq_all_not]
  simp only [okTo, okIn, ht, List.all_append, List.all_cons, List.all_nil, Bool.and_true, hd, Bool.not_or, hn]
  cases okHead g i reg gen <;> cases (l.take n).all (okPos g) <;> cases okPos g p <;> cases dupTo (l.map Pos.tp) n <;> simp
def okTold (b : Bool) (l' : List Told) (n : Nat) : Bool := b && (l'.take n).all fun t => !oddT t
theorem okTold_succ {b : Bool} {l' : List Told} {n : Nat} {t : Told} (hx : l'[n]? = some t) : okTold b l' (n + 1) = (okTold b l' n && !oddT t) := by
  have ht : l'.take (n + 1) = l'.take n ++ [t] := by rw [List.take_add_one, hx]; rfl
  simp only [okTold, ht, List.all_append, List.all_cons, List.all_nil, Bool.and_true, Bool.and_assoc]
theorem h13 (g i : ByteArray) (reg gen : Int) (l : List Pos) (l' : List Told) (hl : l.length ≤ 1000) (hl' : l'.length ≤ 1000) :
    Holds Tryz.prog 13 [rdT g i reg gen (.sl 5 (l.map posT)) (.sl 10 (l'.map toldT))] (.t (int (bif okR g i reg gen l l' then 0 else 1))) := by
  refine pure_of mixed o13 (Nat.le_of_ble_eq_true rfl) ?_
  simp [x13, s13, argE, rdT]
  refine Call_pure (h20 g) rfl ?_
  simp [argE]
  refine GrdG_un ?_
  simp [argE]
  refine GrdG_un ?_
  simp [argE]
  refine GrdG_un ?_
  simp [argE]
  refine Call_pure (h20 i) rfl ?_
  simp [argE]
  refine GrdG_un ?_
  simp [argE]
  refine GrdG_un ?_
  simp [argE]
  refine GrdG_un ?_
  simp [argE]
  refine Call_pure (h28 reg 3) rfl ?_
  simp [argE]
  refine GrdG_un ?_
  simp [argE]
  refine GrdG_un ?_
  simp [argE]
  refine GrdG_un ?_
  simp [argE]
  refine Call_pure (h28 gen 1048576) rfl ?_
  simp [argE]
  refine loop_rule (fun E => ∃ n : Nat, n ≤ l.length ∧ E.tmps 31 = .t (int n) ∧ E.tmps 30 = .t (int l.length) ∧ E.tmps 29 = .t (.sl 5 (l.map posT)) ∧ E.tmps 1 = .ptr (.head 1 0) 0 0 ∧ E.slots (.head 1 0) = some (.box 25 (.t (rdT g i reg gen (.sl 5 (l.map posT)) (.sl 10 (l'.map toldT)))) false) ∧
    E.tmps 3 = tt (okTo g i reg gen l n))
    (fun E => match E.tmps 31 with | .t (.v (.int _ i)) => l.length - i.toNat | _ => 0) [(.loc 1 0, .head 1 0)] rfl ?_ ?_
  · refine ⟨0, Nat.zero_le _, ?_, ?_, ?_, ?_, ?_, ?_⟩ <;> simp [argE, rdT, okTo, okHead, dupTo]
    cases nameB g <;> cases nameB i <;> cases inN reg 3 <;> cases inN gen 1048576 <;> rfl
  rintro E1 ⟨n, hn, e31, e30, e29, e1, esl, e3⟩ hU hS A hA
  simp [s13_2, e31, e30]
  refine Br_dec (fun h => ?_) (fun h => ?_)
  · have hx := List.getElem?_eq_getElem h
    generalize hp : l[n] = p at hx
    have hw : IntKind.i64.wrap ((n : Int) + 1) = ((n + 1 : Nat) : Int) := by rw [wrap_small (by omega) (by simp only [LIM]; omega)]; omega
    simp [e31, e30, e29, e1, e3, esl, h, hU, rdT, hp]
    refine GrdG_un ?_
    simp [e31, e30, e29, e1, e3, esl, h, hU, rdT]
    refine GrdG_un ?_
    simp [e31, e30, e29, e1, e3, esl, h, hU, rdT]
    refine GrdG_un ?_
    simp [e31, e30, e29, e1, e3, esl, h, hU, rdT]
    refine GrdG_un ?_
    simp [e31, e30, e29, e1, e3, esl, h, hU, rdT]
    refine GrdG_un ?_
    simp [e31, e30, e29, e1, e3, esl, h, hU, rdT]
    refine GrdG_un ?_
    simp
    refine GrdG_un ?_
    simp
    refine GrdG_un ?_
    simp
    refine Call_pure (h28 p.off MAXOFF) rfl ?_
    simp [e31, e30, e29, e1, e3, esl, h, hU, rdT, hn, dSsl]
    obtain ⟨q, hq⟩ : ∃ q, q = l.take n := ⟨_, rfl⟩
    have hqn : q.length = n := by rw [hq, List.length_take]; omega
    have hqt : List.take n (List.map posT l) = q.map posT := by rw [hq, List.map_take]
    refine loop_rule (fun E => ∃ j : Nat, j ≤ n ∧ E.tmps 54 = .t (int j) ∧ E.tmps 53 = .t (int n) ∧ E.tmps 52 = .t (.sl 5 (q.map posT)) ∧ E.tmps 5 = .ptr (.head 2 0) 0 0 ∧ E.slots (.head 2 0) = some (.box 69 (.t (posT p)) false) ∧ E.tmps 3 = tt (okIn g i reg gen l n p j) ∧
      E.tmps 31 = .t (int n) ∧ E.tmps 30 = .t (int l.length) ∧ E.tmps 29 = .t (.sl 5 (l.map posT)) ∧ E.tmps 1 = .ptr (.head 1 0) 0 0 ∧ E.slots (.head 1 0) = some (.box 25 (.t (rdT g i reg gen (.sl 5 (l.map posT)) (.sl 10 (l'.map toldT)))) false))
      (fun E => match E.tmps 54 with | .t (.v (.int _ i)) => n - i.toNat | _ => 0) [(.head 1 0, .head 1 0), (.loc 5 0, .head 2 0)] rfl ?_ ?_
    · refine ⟨0, Nat.zero_le _, ?_, ?_, ?_, ?_, ?_, ?_, ?_, ?_, ?_, ?_, ?_⟩ <;> simp [e31, e30, e29, e1, esl, rdT, List.lookup, hn, hqt]
      simp only [okIn, okPos, List.take_zero, List.all_nil, Bool.and_true]
      cases okTo g i reg gen l n <;> cases (p.group.toList == g.toList) <;> cases inN p.off MAXOFF <;> rfl
    rintro E2 ⟨j, hj, f54, f53, f52, f5, fs2, f3, f31, f30, f29, f1, fs1⟩ hV hT B hB
    simp [s13_1, f54, f53]
    refine Br_dec (fun h3 => ?_) (fun h3 => ?_)
    · have hjq : j < q.length := by omega
      have hjx : l[j]? = some q[j] := by
        have : q[j]? = some q[j] := List.getElem?_eq_getElem hjq
        rw [← this, hq, List.getElem?_take, if_pos h3]
      have hw2 : IntKind.i64.wrap ((j : Int) + 1) = ((j + 1 : Nat) : Int) := by rw [wrap_small (by omega) (by simp only [LIM]; omega)]; omega
      simp [f54, f53, f52, f5, fs2, f3, f31, f30, f29, f1, fs1, h3, hV, hjq]
      refine GrdG_un ?_
      simp [f54, f53, f52, f5, fs2, f3, f31, f30, f29, f1, fs1, h3, hV, hjq]
      refine GrdG_un ?_
      simp [f54, f53, f52, f5, fs2, f3, f31, f30, f29, f1, fs1, h3, hV, hjq]
      refine GrdG_un ?_
      simp [f54, f53, f52, f5, fs2, f3, f31, f30, f29, f1, fs1, h3, hV, hjq]
      refine GrdG_un ?_
      simp [f54, f53, f52, f5, fs2, f3, f31, f30, f29, f1, fs1, h3, hV, hjq]
      refine GrdG_un ?_
      simp [f54, f53, f52, f5, fs2, f3, f31, f30, f29, f1, fs1, h3, hV, hjq, neTp]
      refine hB _ (again_rule [(.head 1 0, .head 1 0), (.head 2 0, .head 2 0)] rfl rfl ⟨j + 1, by omega, ?_, ?_, ?_, ?_, ?_, ?_, ?_, ?_, ?_, ?_, ?_⟩ ?_)
      · simp [hw2]
      · simp [f53]
      · simp [f52]
      · simp [f5, List.lookup]
      · simp [fs2, List.lookup]
      · simp [okIn_succ hjx]
      · simp [f31]
      · simp [f30]
      · simp [f29]
      · simp [f1, List.lookup]
      · simp [fs1, List.lookup]
      · simp [hw2, f54]
        omega
    · have hjn : j = n := by omega
      subst hjn
      simp [f54, f53, f31, h3]
      refine hA _ (again_rule [(.head 1 0, .head 1 0)] rfl rfl ⟨j + 1, by omega, ?_, ?_, ?_, ?_, ?_, ?_⟩ ?_)
      · simp [hw]
      · simp [f30]
      · simp [f29]
      · simp [f1, List.lookup]
      · simp [fs1, List.lookup]
      · simp [f3, okTo_succ hx]
      · simp [hw, e31]
        omega
  · have hnl : n = l.length := by omega
    subst hnl
    simp [e31, e30, e29, e1, e3, esl, h, rdT]
    refine loop_rule (fun E => ∃ n : Nat, n ≤ l'.length ∧ E.tmps 71 = .t (int n) ∧ E.tmps 70 = .t (int l'.length) ∧ E.tmps 69 = .t (.sl 10 (l'.map toldT)) ∧ E.tmps 3 = tt (okTold (okTo g i reg gen l l.length) l' n))
      (fun E => match E.tmps 71 with | .t (.v (.int _ i)) => l'.length - i.toNat | _ => 0) [] rfl ?_ ?_
    · refine ⟨0, Nat.zero_le _, ?_, ?_, ?_, ?_⟩ <;> simp [e3, okTold]
    rintro E2 ⟨n, hn', f71, f70, f69, f3⟩ hV hT B hB
    simp [s13_3, f71, f70]
    refine Br_dec (fun h3 => ?_) (fun h3 => ?_)
    · have hx := List.getElem?_eq_getElem h3
      have hw : IntKind.i64.wrap ((n : Int) + 1) = ((n + 1 : Nat) : Int) := by rw [wrap_small (by omega) (by simp only [LIM]; omega)]; omega
      simp [f71, f70, f69, f3, h3, hV]
      refine GrdG_un ?_
      simp
      refine GrdG_un ?_
      simp
      refine GrdG_un ?_
      simp
      refine Call_pure (h28 l'[n].off MAXOFF) rfl ?_
      simp
      refine GrdG_un ?_
      simp
      refine GrdG_un ?_
      simp
      refine GrdG_un ?_
      simp
      refine Call_pure (h28 l'[n].frm MAXOFF) rfl ?_
      simp [f71]
      refine hB _ (again_rule [] rfl rfl ⟨n + 1, by omega, ?_, ?_, ?_, ?_⟩ ?_)
      · simp [hw]
      · simp [f70]
      · simp [f69]
      · rw [okTold_succ hx]
        simp [oddT, Bool.and_assoc]
      · simp [hw, f71]
        omega
    · have hnl : n = l'.length := by omega
      subst hnl
      have hval : okTold (okTo g i reg gen l l.length) l' l'.length = okR g i reg gen l l' := by
        simp only [okTold, okTo, okR, List.take_length]
        have : (l'.all fun t => !oddT t) = !l'.any oddT := by rw [List.not_any_eq_all_not]
        rw [this]
        simp only [Bool.and_assoc]
      rw [hval] at f3
      simp [f71, f70, f3, h3]
      refine Br_mk (fun h4 => ?_) (fun h4 => ?_)
      · refine ends_pure ?_
        simp [Env.outD, Env.out1, Env.view]
        revert h4
        cases okR g i reg gen l l' <;> simp
      · refine ends_pure ?_
        simp [Env.outD, Env.out1, Env.view]
        revert h4
        cases okR g i reg gen l l' <;> simp
end Go.Wt
/- Where a reader is, in the program. -/
namespace Go.Wt
open Go.RowKit Go.Proofs
/-- What reads one row that it is lent. -/
def HoldsR (P : Program) (f : FuncId) (ds : List DV) (row : Row) (d : DV) : Prop := HoldsG P f ⟨[], ds, [row], d, [some row], []⟩
section
variable {P : Program} {Q : Exit → Env → Prop} {k : List Fr} {E : Env} {pr : List (Nat × Nat)} {ix : Nat} {log : List Log} {rest : List SOper} {dst : Option Nat}
theorem Call_row {f : FuncId} {ds ds0 : List DV} {row : Row} {x : Tree} {s : Nm} (h : HoldsR P f ds0 row (.t x)) (hs : E.slots s = some row) (hu : E.used s = true) (hg : s.isGlob = false) (hy : s ≠ .yl) (hr : ∀ ρ, row.ren ρ = row) (hds : ds0 = ds.map (DV.ren [(s, .arg 0)]))
    (hk : Stp P Ctr Q k pr ix log dst rest E none (some ⟨.t x, [s], [(s, some row)]⟩)) : CallG P Ctr Q k pr ix log dst rest E none f ds := by
  refine Call_mk ⟨.t x, [s], [(s, some row)]⟩ ⟨⟨[], ds0, [row], .t x, [some row], []⟩, [s], [], h, ⟨by simp, by simpa using hg, by simpa using hy, by simp, by simp, List.nodup_nil, rfl, ?_, by simpa using hu, by rw [hds]; simp, ?_, by simp⟩, .inr ⟨by simp, ?_⟩⟩ hk
  · intro i u hi
    cases i with
    | zero => simp at hi; subst hi; exact ⟨row, hs, by show some row = some (row.ren _); rw [hr]⟩
    | succ i => simp at hi
  · intro i d d0 h1 h2
    left
    have h3 : (ds.map (DV.ren [(s, .arg 0)]))[i]? = some (d.ren [(s, .arg 0)]) := by rw [List.getElem?_map, h1]; rfl
    have h2 : ds0[i]? = some d0 := h2
    rw [hds, h3] at h2
    exact (Option.some.inj h2).symm
  · simp [outUps, frz, hr, DV.ren, Ct.gn, -Row.ren]
end
def argR (ds : List DV) (row : Row) : Env where
  tmps := fun t => ds.getD t .junk
  slots := fun s => if s = .arg 0 then some row else none
  used := fun s => if s = .arg 0 then true else false
theorem r_of {P : Program} (hm : P.follows .mixedOrders = true) {f : FuncId} {fn : XFn} (hx : XOk P f fn) {ds : List DV} {row : Row} {d : DV} (hn : ds.length ≤ fn.nt) (hw : Run P Ctr (Fin fn.res (Ends ⟨[], ds, [row], d, [some row], []⟩)) [.code fn.code] (argR ds row)) : HoldsR P f ds row d := by
  obtain ⟨Fn, c, g1, g2, g3, g4, g5, g6, g7⟩ := hx
  refine holds_of ctr_sound ctr_local (fun _ _ _ h => h) (fun _ _ _ h => h) hm g1 g2 g3 g4 g6 _ (by rw [← g7]; exact hn) ?_
  have he : (Ct.mk [] ds [row] d [some row] []).env = argR ds row := by
    refine Env.ext' rfl (funext fun s => ?_) (funext fun s => ?_)
    · cases s with
      | arg i => cases i <;> simp [Ct.env, ctSlots, argR]
      | _ => simp [Ct.env, ctSlots, argR]
    · cases s with
      | arg i => cases i <;> simp [Ct.env, Ct.used0, argR]
      | _ => simp [Ct.env, Ct.used0, argR]
  rw [he]
  exact hw
theorem ends_r {E : Env} {ds : List DV} {row : Row} {d d' : DV} (hs : E.slots (.arg 0) = some row) (hr : ∀ ρ, row.ren ρ = row) (h : E.outD [(.arg 0, .arg 0)] d' = d) : Ends ⟨[], ds, [row], d, [some row], []⟩ d' E := by
  refine .inl ⟨[(.arg 0, .arg 0)], rfl, ?_, h⟩
  funext s
  cases s with
  | arg i =>
    cases i with
    | zero => simp [Env.canon, flip, List.lookup, hs, hr, Ct.out, ctSlots, -Row.ren]
    | succ i => simp [Env.canon, flip, List.lookup, Ct.out, ctSlots]
  | _ => simp [Env.canon, flip, List.lookup, Ct.out, ctSlots]
abbrev tpRow (tp : Tp) : Row := .box 27 (.t (tpT tp)) false
theorem h45 (p : Pos) (tp : Tp) : HoldsR Tryz.prog 45 [.t (posT p), .ptr (.arg 0) 0 0] (tpRow tp) (tt (tpEq p.tp tp)) := by
  refine r_of mixed o45 (Nat.le_of_ble_eq_true rfl) ?_
  simp [x45, s45, argR, eqTp]
  refine ends_r (by simp) (fun _ => rfl) ?_
  simp [Env.outD, Env.out1, Env.view]
def isTp (tp : Tp) (p : Pos) : Bool := tpEq p.tp tp
theorem h44 (l : List Pos) (tp : Tp) (hl : l.length ≤ 1000) : HoldsR Tryz.prog 44 [.t (.sl 5 (l.map posT)), .fn 45 [.ptr (.arg 0) 0 0]] (tpRow tp) (.t (int (firstIx (isTp tp) l))) := by
  refine r_of mixed o44 (Nat.le_of_ble_eq_true rfl) ?_
  simp [x44, s44, argR]
  refine loop_rule (fun E => ∃ (i : Nat), i ≤ l.length ∧ E.tmps 8 = .t (int i) ∧ E.tmps 7 = .t (int l.length) ∧ E.tmps 0 = .t (.sl 5 (l.map posT)) ∧ E.tmps 1 = .fn 45 [.ptr (.arg 0) 0 0] ∧ E.slots (.arg 0) = some (tpRow tp) ∧ (∀ (j : Nat) (x : Pos), j < i → l[j]? = some x → isTp tp x = false)) (fun E => match E.tmps 8 with | .t (.v (.int _ i)) => l.length - i.toNat | _ => 0) [(.arg 0, .arg 0)] rfl ?_ ?_
  · refine ⟨0, by omega, ?_, ?_, ?_, ?_, ?_, by simp⟩ <;> simp [argR, List.lookup]
  rintro E1 ⟨i, hi, e8, e7, e0, e1, es, hb⟩ hU hS A hA
  simp [s44_1, e8, e7]
  refine Br_dec (fun h => ?_) (fun h => ?_)
  · have hx := List.getElem?_eq_getElem h
    simp [e8, e7, e0, e1, h]
    refine Call_row (s := .arg 0) (h45 l[i] tp) (by simp [es]) (by simp [hU]) rfl (by simp) (fun _ => rfl) (by simp [List.lookup]) ?_
    simp [e8, e7, e0, e1, h]
    refine Br_mk (fun h2 => ?_) (fun h2 => ?_)
    · refine ends_r (by simp) (fun _ => rfl) ?_
      simp [Env.outD, Env.out1, Env.view, firstIx_at hx hb h2]
    · have hw : IntKind.i64.wrap ((i : Int) + 1) = ((i + 1 : Nat) : Int) := by rw [wrap_small (by omega) (by simp only [LIM]; omega)]; omega
      refine hA _ (again_rule [(.arg 0, .arg 0)] rfl rfl ⟨i + 1, by omega, ?_, ?_, ?_, ?_, ?_, fun j y hj hy => ?_⟩ ?_)
      · simp [hw]
      · simp [e7]
      · simp [e0]
      · simp [e1, List.lookup]
      · simp [List.lookup]
      · by_cases hji : j = i
        · subst hji
          rw [hx] at hy
          cases hy
          exact h2
        · exact hb j y (by omega) hy
      · simp [hw, e8]
        omega
  · simp [e8, e7, h]
    refine ends_r (by simp [es]) (fun _ => rfl) ?_
    have : firstIx (isTp tp) l = -1 := firstIx_none fun j x hx => hb j x (by have := (List.getElem?_eq_some_iff.1 hx).1; omega) hx
    simp [Env.outD, Env.out1, Env.view, this]
theorem h21 (g i : ByteArray) (reg gen : Int) (l : List Pos) (told : Tree) (tp : Tp) (hl : l.length ≤ 1000) : Holds Tryz.prog 21 [rdT g i reg gen (.sl 5 (l.map posT)) told, tpT tp] (.t (int (firstIx (isTp tp) l))) := by
  refine pure_of mixed o21 (Nat.le_of_ble_eq_true rfl) ?_
  simp [x21, s21, argE, rdT]
  refine Call_row (s := .loc 3 0) (h44 l tp hl) (by simp) (by simp) rfl (by simp) (fun _ => rfl) (by simp [List.lookup]) ?_
  simp
  refine ends_pure ?_
  simp [Env.outD, Env.out1, Env.view]
end Go.Wt
/- Where a reader is, in the program and in the document. -/
namespace Go.Wt
open Go.RowKit Go.Proofs
theorem firstIx_find {α : Type} (p : α → Bool) : ∀ l : List α, (firstIx p l = -1 ∧ l.find? p = none) ∨ ∃ (i : Nat) (y : α), i < l.length ∧ l[i]? = some y ∧ firstIx p l = i ∧ l.find? p = some y
  | [] => .inl ⟨rfl, rfl⟩
  | b :: l => by
    by_cases hb : p b = true
    · exact .inr ⟨0, b, by simp, rfl, by simp [firstIx, hb], by simp [List.find?, hb]⟩
    · have hb : p b = false := by simpa using hb
      rcases firstIx_find p l with ⟨h1, h2⟩ | ⟨i, y, h0, h1, h2, h3⟩
      · exact .inl ⟨by simp [firstIx, hb, h1], by simp [List.find?, hb, h2]⟩
      · have hneg : ¬ (i : Int) < 0 := by omega
        exact .inr ⟨i + 1, y, by simp [h0], by simpa using h1, by simp [firstIx, hb, h2, hneg], by simp [List.find?, hb, h3]⟩
def atP (ok : Bool) (l : List Pos) (tp : Tp) : Int × Bool := bif ok then (match l.find? (isTp tp) with | some p => (p.off, true) | none => (0, false)) else (0, false)
def atD (ok : Bool) (l : List Pos) (tp : Tp) : DV := .tup [.t (int (atP ok l tp).1), tt (atP ok l tp).2]
theorem h9 (g i : ByteArray) (reg gen : Int) (l : List Pos) (l' : List Told) (tp : Tp) (hl : l.length ≤ 1000) (hl' : l'.length ≤ 1000) :
    Holds Tryz.prog 9 [rdT g i reg gen (.sl 5 (l.map posT)) (.sl 10 (l'.map toldT)), tpT tp] (atD (okR g i reg gen l l') l tp) := by
  refine pure_of mixed o9 (Nat.le_of_ble_eq_true rfl) ?_
  simp [x9, s9, argE, rdT]
  refine Call_pure (h21 g i reg gen l (.sl 10 (l'.map toldT)) tp hl) rfl ?_
  simp [rdT]
  rcases firstIx_find (isTp tp) l with ⟨h1, h2⟩ | ⟨n, y, h0, h1, h2, h3⟩
  · simp [h1]
    refine GrdG_no (b := false) ?_
    simp
    refine GrdG_no (b := false) ?_
    simp
    refine GrdG_no (b := false) ?_
    simp [DV.arm]
    refine ends_pure ?_
    simp [Env.outD, Env.out1, Env.view, atD, atP, h2]
  · have hpos : decide ((0 : Int) ≤ (n : Int)) = true := by simp
    simp [h2]
    refine GrdG_yes (b := true) ?_
    simp
    refine GrdG_yes (b := true) ?_
    simp
    refine Call_pure (h12 g i reg gen l l' hl hl') rfl ?_
    simp
    refine GrdG_yes (b := true) ?_
    simp
    cases hk : okR g i reg gen l l' with
    | true =>
      have hy : l[n] = y := by rw [List.getElem?_eq_getElem h0] at h1; exact Option.some.inj h1
      simp [h0, hy]
      refine ends_pure ?_
      simp [Env.outD, Env.out1, Env.view, atD, atP, h3]
    | false =>
      simp
      refine ends_pure ?_
      simp [Env.outD, Env.out1, Env.view, atD, atP]
theorem h10 (g i : ByteArray) (reg gen : Int) (l : List Pos) (l' : List Told) (tp : Tp) (hl : l.length ≤ 1000) (hl' : l'.length ≤ 1000) :
    Holds Tryz.prog 10 [rdT g i reg gen (.sl 5 (l.map posT)) (.sl 10 (l'.map toldT)), tpT tp] (atD (okR g i reg gen l l') l tp) := by
  refine pure_of mixed o10 (Nat.le_of_ble_eq_true rfl) ?_
  simp [x10, s10, argE, rdT]
  refine Call_pure (h13 g i reg gen l l' hl hl') rfl ?_
  simp [rdT]
  cases hk : okR g i reg gen l l' with
  | false =>
    simp
    refine ends_pure ?_
    simp [Env.outD, Env.out1, Env.view, atD, atP]
  | true =>
    simp
    refine loop_rule (fun E => ∃ (n : Nat), n ≤ l.length ∧ E.tmps 14 = .t (int n) ∧ E.tmps 13 = .t (int l.length) ∧ E.tmps 12 = .t (.sl 5 (l.map posT)) ∧ E.tmps 3 = .ptr (.head 3 0) 0 0 ∧ E.slots (.head 3 0) = some (tpRow tp) ∧ (∀ (j : Nat) (x : Pos), j < n → l[j]? = some x → isTp tp x = false)) (fun E => match E.tmps 14 with | .t (.v (.int _ i)) => l.length - i.toNat | _ => 0) [(.loc 3 0, .head 3 0)] rfl ?_ ?_
    · refine ⟨0, by omega, ?_, ?_, ?_, ?_, ?_, by simp⟩ <;> simp [List.lookup]
    rintro E1 ⟨n, hn, e14, e13, e12, e3, es, hb⟩ hU hS A hA
    simp [s10_1, e14, e13]
    refine Br_dec (fun h => ?_) (fun h => ?_)
    · have hx := List.getElem?_eq_getElem h
      have hw : IntKind.i64.wrap ((n : Int) + 1) = ((n + 1 : Nat) : Int) := by rw [wrap_small (by omega) (by simp only [LIM]; omega)]; omega
      simp [e14, e13, e12, e3, es, h, hU, eqTp]
      refine Br_mk (fun h2 => ?_) (fun h2 => ?_)
      · refine ends_pure ?_
        rcases firstIx_find (isTp tp) l with ⟨q1, q2⟩ | ⟨m, y, q0, q1, q2, q3⟩
        · have := firstIx_at hx hb h2
          rw [q1] at this
          omega
        · have := firstIx_at hx hb h2
          rw [q2] at this
          have hmn : m = n := by omega
          subst hmn
          rw [hx] at q1
          cases q1
          simp [Env.outD, Env.out1, Env.view, atD, atP, q3]
      · refine hA _ (again_rule [(.head 3 0, .head 3 0)] rfl rfl ⟨n + 1, by omega, ?_, ?_, ?_, ?_, ?_, fun j y hj hy => ?_⟩ ?_)
        · simp [hw]
        · simp [e13]
        · simp [e12]
        · simp [e3, List.lookup]
        · simp [es, List.lookup]
        · by_cases hji : j = n
          · subst hji
            rw [hx] at hy
            cases hy
            exact h2
          · exact hb j y (by omega) hy
        · simp [hw, e14]
          omega
    · simp [e14, e13, h]
      refine ends_pure ?_
      have hnone : l.find? (isTp tp) = none := by
        rw [List.find?_eq_none]
        intro x hx
        obtain ⟨j, hj⟩ := List.mem_iff_getElem?.1 hx
        have := hb j x (by have := (List.getElem?_eq_some_iff.1 hj).1; omega) hj
        simp [this]
      simp [Env.outD, Env.out1, Env.view, atD, atP, hnone]
end Go.Wt
/- ReaderLooks answers true. -/
namespace Go.Wt
open Go.RowKit Go.Proofs
set_option maxRecDepth 20000 in
theorem h3 (live : Holds Tryz.prog 5 [] (tt true)) (g i : ByteArray) (reg gen : Int) (l : List Pos) (l' : List Told) (group id : ByteArray) (tp : Tp) :
    Holds Tryz.prog 3 [rdT g i reg gen (.sl 5 (l.map posT)) (.sl 10 (l'.map toldT)), str group, str id, tpT tp] (tt true) := by
  refine pure_of mixed o3 (Nat.le_of_ble_eq_true rfl) ?_
  simp [x3, s3, argE, rdT]
  refine Call_pure (ts := []) live rfl ?_
  simp
  have h6' := h6 g i reg gen (l.map posT) (l'.map toldT)
  rw [List.length_map, List.length_map] at h6'
  refine Call_pure h6' rfl ?_
  by_cases hfew : l.length ≤ 20 ∧ l'.length ≤ 200
  · obtain ⟨hl, hl'⟩ := hfew
    have hl : l.length ≤ 1000 := by omega
    have hl' : l'.length ≤ 1000 := by omega
    obtain ⟨a, b, c, hd⟩ : ∃ a b c, newR group id = .tup [.t (rdT a b 0 0 .e0 .e0), .t (int c)] := by
      unfold newR
      cases nameB group && nameB id
      · exact ⟨_, _, _, rfl⟩
      · exact ⟨_, _, _, rfl⟩
    have h7' := h7 group id
    have h8' := h8 group id
    rw [hd] at h7' h8'
    have h9' := h9 g i reg gen l l' tp hl hl'
    have h10' := h10 g i reg gen l l' tp hl hl'
    unfold atD at h9' h10'
    generalize atP (okR g i reg gen l l') l tp = q at h9' h10'
    obtain ⟨q1, q2⟩ := q
    have h12' := h12 g i reg gen l l' hl hl'
    have h13' := h13 g i reg gen l l' hl hl'
    generalize (bif okR g i reg gen l l' then (0 : Int) else 1) = v at h12' h13'
    have k1 : l.length ≤ 20 := by assumption
    have k2 : l'.length ≤ 200 := by assumption
    simp [k1, k2]
    refine Call_pure h7' rfl ?_
    simp [rdT]
    refine Call_pure h8' rfl ?_
    simp [rdT]
    refine Call_pure h9' rfl ?_
    simp [rdT]
    refine Call_pure h10' rfl ?_
    simp [rdT]
    refine Call_pure (h11 a b) rfl ?_
    simp [rdT]
    refine GrdG_yes (b := true) ?_
    simp [rdT]
    refine GrdG_yes (b := true) ?_
    simp [rdT]
    refine GrdG_yes (b := true) ?_
    simp [rdT]
    refine GrdG_yes (b := true) ?_
    simp [rdT]
    refine GrdG_yes (b := true) ?_
    simp [rdT]
    refine Call_pure h12' rfl ?_
    simp [rdT]
    refine GrdG_yes (b := true) ?_
    simp [rdT]
    refine GrdG_yes (b := true) ?_
    simp [rdT]
    refine Call_pure h13' rfl ?_
    simp [rdT]
    refine GrdG_yes (b := true) ?_
    simp [rdT]
    refine GrdG_yes (b := true) ?_
    simp [rdT]
    refine GrdG_yes (b := true) ?_
    simp [rdT]
    refine GrdG_yes (b := true) ?_
    simp [rdT]
    refine GrdG_yes (b := true) ?_
    simp [rdT]
    refine GrdG_yes (b := true) ?_
    simp [rdT]
    refine GrdG_yes (b := true) ?_
    simp [rdT, beql]
    refine ends_pure ?_
    simp [Env.outD, Env.out1, Env.view]
  · have hf : (bif decide (l.length ≤ 20) then decide (l'.length ≤ 200) else false) = false := by
      cases h1 : decide (l.length ≤ 20) with
      | false => rfl
      | true =>
        have h1 : l.length ≤ 20 := of_decide_eq_true h1
        simp only [cond_true]
        exact decide_eq_false fun h2 => hfew ⟨h1, h2⟩
    rw [hf]
    simp
    refine ends_pure ?_
    simp [Env.outD, Env.out1, Env.view]
end Go.Wt
