/- What an operation does hangs on what it looks at alone. -/
import Derived.Test.YtbeiejanhoiodaaGreatMA5
set_option linter.unusedSimpArgs false
set_option linter.unusedVariables false
namespace Go.Wt
open Go.RowKit
variable {P : Program} {C : CallOk} {E F : Env} {dst : Option Nat} {r : Res}
def SOp.operands : SOp → List Operand
  | .mv x | .nilc x | .un _ x | .conv _ x | .b2s x | .part x _ _ _ | .ext x _ | .fld x _ | .load _ _ x | .box _ x | .len _ x | .mkif _ x => [x]
  | .pick p x y => [p, x, y]
  | .bin _ _ x y | .aidx x y _ _ _ | .sidx x y | .eadr x y _ | .aadr x y _ _ | .store _ x y | .app _ _ _ x y | .mm _ x y => [x, y]
  | .build _ ps | .lits _ _ _ _ ps => ps.map (·.2.2)
  | .alloc _ _ => []
  | .sstr x lo hi | .ssl x lo hi _ => x :: lo.toList ++ hi.toList
  | .mkfn _ caps => caps
  | .mkfnb _ first caps => first ++ caps
  | .mkmap r => r.toList
  | .mlen x | .rng x | .nxt x => [x]
  | .mget _ _ x k _ | .ment _ _ x k => [x, k]
  | .mset _ x k y | .mst x k y => [x, k, y]
  | .mksl _ _ _ _ l c => [l, c]
  | .copy _ x y => [x, y]
  | .stuck => []
  | .call _ args => args
  | .callv x args => x :: args
def Same (E F : Env) (l : List Nm) : Prop := ∀ s ∈ l, F.slots s = E.slots s ∧ F.used s = E.used s
theorem view1_local {d : DV} {x : Tree × List Nm} (h : E.view1 d = some x) (hs : Same E F x.2) : F.view1 d = some x := by
  unfold Env.view1 at *
  split at h
  · exact h
  · rename_i s n
    split at h
    · rename_i e m l fz hsl
      split at h
      · rename_i hn
        simp only [Option.some.injEq] at h
        subst h
        rw [(hs s List.mem_cons_self).1, hsl]
        simp [hn]
      · simp at h
    · simp at h
  · simp at h
theorem view_local {d : DV} {x : Tree × List Nm} (h : E.view d = some x) (hs : Same E F x.2) : F.view d = some x := by
  cases d with
  | agg l =>
    simp only [Env.view, Option.map_eq_some_iff] at h ⊢
    obtain ⟨ps, h1, rfl⟩ := h
    refine ⟨ps, ?_, rfl⟩
    induction l generalizing ps with
    | nil => simpa using h1
    | cons d l ih =>
      simp only [List.mapM_cons, Option.pure_def, Option.bind_eq_bind, Option.bind_eq_some_iff, Option.some.injEq] at h1 ⊢
      obtain ⟨p, h2, ps', h3, rfl⟩ := h1
      refine ⟨p, view1_local h2 (fun s hs' => hs s ?_), ps', ih ps' h3 (fun s hs' => hs s ?_), rfl⟩
      · simp only [List.flatMap_cons, List.mem_append]; exact .inl hs'
      · simp only [List.flatMap_cons, List.mem_append]; exact .inr hs'
  | t y => exact h
  | _ => simp only [Env.view] at h ⊢; exact view1_local h hs
theorem more_local {m : Nat} {d : DV} {x : List Tree × List Nm} (h : E.more m d = some x) (hs : Same E F x.2) : F.more m d = some x := by
  unfold Env.more at *
  split at h
  · exact h
  · split at h
    · rename_i rd hv
      simp only [Option.some.injEq] at h
      subst h
      rw [view_local hv hs]
    · rename_i m' l rd hv
      split at h
      · rename_i hm
        simp only [Option.some.injEq] at h
        subst h
        rw [view_local hv hs]
        simp [hm]
      · simp at h
    · simp at h
theorem fresh_local {s : Nm} (h : F.used s = E.used s) : F.fresh s = E.fresh s := by unfold Env.fresh; rw [h]
theorem mget_local {kt : TypeId} {z : Tree} {ok : Bool} {x k : DV} (hr : dMget P E kt z ok x k = some r) (hs : Same E F (r.rd ++ r.ups.map (·.1))) : dMget P F kt z ok x k = some r := by
  unfold dMget at *
  cases hk : k.flat? with
  | none => rw [hk] at hr; simp at hr
  | some kv =>
    simp only [hk] at hr ⊢
    cases x with
    | mp s =>
      simp only at hr ⊢
      have hin : s ∈ r.rd := by
        (repeat' split at hr) <;> first | (simp at hr; done) | (simp only [Option.some.injEq] at hr; subst hr; simp)
      rw [(hs s (by simp [hin])).1]
      exact hr
    | _ => (repeat' split at hr) <;> simp_all
theorem mset_local {kt : TypeId} {x k y : DV} (hr : dMset P E kt x k y = some r) (hs : Same E F (r.rd ++ r.ups.map (·.1))) : dMset P F kt x k y = some r := by
  unfold dMset at *
  cases hk : k.flat? with
  | none => rw [hk] at hr; simp at hr
  | some kv =>
    simp only [hk] at hr ⊢
    cases x with
    | mp s =>
      simp only at hr ⊢
      have hin : s ∈ r.rd := by
        (repeat' split at hr) <;> first | (simp at hr; done) | (simp only [Option.some.injEq] at hr; subst hr; simp)
      rw [(hs s (by simp [hin])).1]
      exact hr
    | _ => (repeat' split at hr) <;> simp_all
theorem ment_local {kt : TypeId} {z : Tree} {x k : DV} (hr : dMent P E kt z x k = some r) (hs : Same E F (r.rd ++ r.ups.map (·.1))) : dMent P F kt z x k = some r := by
  unfold dMent at *
  cases hk : k.flat? with
  | none => rw [hk] at hr; simp at hr
  | some kv =>
    simp only [hk] at hr ⊢
    cases x with
    | mp s =>
      simp only at hr ⊢
      have hin : s ∈ r.rd := by
        (repeat' split at hr) <;> first | (simp at hr; done) | (simp only [Option.some.injEq] at hr; subst hr; simp)
      rw [(hs s (by simp [hin])).1]
      exact hr
    | _ => (repeat' split at hr) <;> simp_all
theorem mst_local {x st y : DV} (hr : dMst E x st y = some r) (hs : Same E F (r.rd ++ r.ups.map (·.1))) : dMst F x st y = some r := by
  unfold dMst at *
  split at hr
  · rename_i s κ n
    have hin : s ∈ r.rd := by
      (repeat' split at hr) <;> first | (simp at hr; done) | (simp only [Option.some.injEq] at hr; subst hr; simp)
    rw [(hs s (by simp [hin])).1]
    exact hr
  · simp at hr
theorem mlen_local {x : DV} (hr : dMlen E x = some r) (hs : Same E F (r.rd ++ r.ups.map (·.1))) : dMlen F x = some r := by
  unfold dMlen at *
  cases x with
  | mp s =>
    simp only at hr ⊢
    have hin : s ∈ r.rd := by
      (repeat' split at hr) <;> first | (simp at hr; done) | (simp only [Option.some.injEq] at hr; subst hr; simp)
    rw [(hs s (by simp [hin])).1]
    exact hr
  | _ => (repeat' split at hr) <;> simp_all
theorem nxt_local {x : DV} (hr : dNxt E x = some r) (hs : Same E F (r.rd ++ r.ups.map (·.1))) : dNxt F x = some r := by
  unfold dNxt at *
  split at hr
  · rename_i s
    have hin : s ∈ r.rd := by
      (repeat' split at hr) <;> first | (simp at hr; done) | (simp only [Option.some.injEq] at hr; subst hr; simp)
    rw [(hs s (by simp [hin])).1]
    exact hr
  · simp at hr
theorem copy_local {m : Nat} {x y : DV} (hr : dCopy E m y x = some r) (hs : Same E F (r.rd ++ r.ups.map (·.1))) : dCopy F m y x = some r := by
  unfold dCopy at *
  split at hr
  · rename_i s n
    split at hr
    · rename_i e m' l0 l rd hsl hm
      split at hr
      · rename_i hc
        simp only [Option.some.injEq] at hr
        subst hr
        rw [more_local hm (fun s hs' => hs s (by simp [hs'])), (hs s (by simp)).1, hsl]
        simp only
        rw [if_pos hc]
      · simp at hr
    · simp at hr
  · simp at hr
theorem store_local {n : Nat} {p q : DV} {r : Res} (hr : dStore E n p q = some r) (hs : Same E F (r.rd ++ r.ups.map (·.1))) : dStore F n p q = some r := by
  unfold dStore at *
  split at hr
  · rename_i s k j
    split at hr
    · rename_i hc
      split at hr
      · rename_i e d hsl
        split at hr
        · rename_i hk
          split at hr
          · rename_i d' hd'
            simp only [Option.some.injEq] at hr
            subst hr
            rw [(hs s (by simp)).1, hsl]
            simp [hc, hk, hd']
          · simp at hr
        · simp at hr
      · rename_i e m l hsl
        split at hr
        · rename_i x0 hk
          split at hr
          · rename_i x' hx'
            simp only [Option.some.injEq] at hr
            subst hr
            rw [(hs s (by simp)).1, hsl]
            simp only [hc, and_self, if_true, hk, hx']
          · simp at hr
        · simp at hr
      · simp at hr
    · simp at hr
  · simp at hr
theorem store_rd {n : Nat} {p q : DV} {r : Res} (hr : dStore E n p q = some r) : ∃ s k j, p = .ptr s k j ∧ s ∈ r.rd := by
  unfold dStore at hr
  split at hr
  · rename_i s k j
    refine ⟨s, k, j, rfl, ?_⟩
    (repeat' split at hr) <;> first | (simp only [Option.some.injEq] at hr; subst hr; exact List.mem_cons_self) | (simp at hr; done)
  · simp at hr
theorem store_slot {n : Nat} {s : Nm} {k j : Nat} {q : DV} (h : F.slots s = E.slots s) : dStore F n (.ptr s k j) q = dStore E n (.ptr s k j) q := by
  simp only [dStore, h]
theorem frz_same {rd : List Nm} (h : ∀ s ∈ rd, F.slots s = E.slots s) : frz F rd = frz E rd := by
  unfold frz
  exact List.map_congr_left fun s hs => by rw [h s hs]
theorem storeV_local {n : Nat} {p q : DV} {r : Res} (hr : dStoreV E n p q = some r) (hs : Same E F (r.rd ++ r.ups.map (·.1))) : dStoreV F n p q = some r := by
  unfold dStoreV at *
  split at hr
  · rename_i r0 h0
    simp only [Option.some.injEq] at hr
    subst hr
    rw [store_local h0 hs]
  · rename_i hnone
    split at hr
    · rename_i t rd hv
      split at hr
      · rename_i r0 h0
        simp only [Option.some.injEq] at hr
        subst hr
        have hsub : ∀ s ∈ rd ++ (r0.rd ++ r0.ups.map (·.1)), F.slots s = E.slots s ∧ F.used s = E.used s := fun s hm => hs s (by
          simp only [List.mem_append, List.map_append] at hm ⊢
          rcases hm with hm | hm | hm
          · exact .inl (.inl hm)
          · exact .inl (.inr hm)
          · exact .inr (.inl hm))
        have hvF := view_local hv (F := F) fun s hm => hsub s (List.mem_append.2 (.inl hm))
        have hfz : frz F rd = frz E rd := frz_same fun s hm => (hsub s (List.mem_append.2 (.inl hm))).1
        obtain ⟨s, k, j, rfl, hin⟩ := store_rd h0
        have hsl : F.slots s = E.slots s := (hsub s (by simp [hin])).1
        rw [store_slot hsl, hnone]
        have h0' : dStore (F.upd (frz F rd)) n (.ptr s k j) (.t t) = some r0 := by
          refine store_local h0 fun u hu => ?_
          obtain ⟨q1, q2⟩ := hsub u (List.mem_append.2 (.inr hu))
          rw [hfz]
          refine ⟨?_, ?_⟩
          · show (match (frz E rd).lookup u with | some r => r | none => F.slots u) = match (frz E rd).lookup u with | some r => r | none => E.slots u
            rw [q1]
          · show (((frz E rd).lookup u).isSome || F.used u) = (((frz E rd).lookup u).isSome || E.used u)
            rw [q2]
        rw [hfz] at h0'
        simp only [hvF, hfz, h0']
      · simp at hr
    · simp at hr
theorem den_local {op : SOp} (hr : op.den P E dst = some r) (hev : ∀ x ∈ op.operands, F.ev x = E.ev x) (hs : Same E F (r.rd ++ r.ups.map (·.1))) : op.den P F dst = some r := by
  have hparts : ∀ ps : List (Nat × Nat × Operand), (∀ x ∈ ps.map (·.2.2), F.ev x = E.ev x) → (ps.map fun p => (p.1, p.2.1, F.ev p.2.2)) = ps.map fun p => (p.1, p.2.1, E.ev p.2.2) := by
    intro ps hp
    refine List.map_congr_left fun p hm => ?_
    rw [hp p.2.2 (List.mem_map.2 ⟨p, hm, rfl⟩)]
  cases op <;> simp only [SOp.operands, List.mem_cons, List.not_mem_nil, or_false, forall_eq, forall_eq_or_imp] at hev <;> simp only [SOp.den] at hr ⊢
  case mv x => rw [hev]; exact hr
  case nilc x => rw [hev]; exact hr
  case pick p x y => rw [hev.1, hev.2.1, hev.2.2]; exact hr
  case bin op t x y => rw [hev.1, hev.2]; exact hr
  case un op x => rw [hev]; exact hr
  case conv k x => rw [hev]; exact hr
  case part x o n ag => rw [hev]; exact hr
  case aidx x i l m ag => rw [hev.1, hev.2]; exact hr
  case sidx x i => rw [hev.1, hev.2]; exact hr
  case build z ps => rw [hparts ps hev]; exact hr
  case ext x i => rw [hev]; exact hr
  case fld x o => rw [hev]; exact hr
  case aadr x i l m => rw [hev.1, hev.2]; exact hr
  case lits ag m l z ps => rw [hparts ps hev]; exact hr
  case len s x => rw [hev]; exact hr
  case mm mx x y => rw [hev.1, hev.2]; exact hr
  case mkif t x => rw [hev]; exact hr
  case mkfn f caps => rw [List.map_congr_left hev]; exact hr
  case sstr x lo hi =>
    have h1 : lo.map F.ev = lo.map E.ev := by cases lo <;> simp; exact hev _ (by simp)
    have h2 : hi.map F.ev = hi.map E.ev := by cases hi <;> simp; exact hev _ (by simp)
    rw [h1, h2, hev x (by simp)]; exact hr
  case b2s x =>
    rw [hev]
    unfold dB2s at *
    split at hr
    · simp at hr
    · split at hr
      · rename_i l rd hm
        split at hr
        · rename_i bs hb
          simp only [Option.some.injEq] at hr
          subst hr
          rw [more_local hm (fun s hs' => hs s (by simpa using hs'))]
          simp [hb]
        · simp at hr
      · simp at hr
  case eadr x i m =>
    rw [hev.1, hev.2]
    unfold dEadr at *
    split at hr
    · rename_i s n κ iv h1 h2
      split at hr
      · rename_i e m' l fz hsl
        split at hr
        · rename_i hc
          simp only [Option.some.injEq] at hr
          subst hr
          rw [(hs s (by simp)).1, hsl]
          simp [hc]
        · simp at hr
      · simp at hr
    · exact hr
    · exact hr
  case load n ag x =>
    rw [hev]
    unfold dLoad at *
    split at hr
    · rename_i s k j h1
      split at hr
      · rename_i e d fz hsl
        split at hr
        · rename_i hk
          split at hr
          · rename_i y hy
            simp only [Option.some.injEq] at hr
            subst hr
            rw [(hs s (by simp)).1, hsl]
            simp [hk, hy]
          · simp at hr
        · simp at hr
      · rename_i e m l fz hsl
        split at hr
        · rename_i x0 hk
          split at hr
          · rename_i y hy
            simp only [Option.some.injEq] at hr
            subst hr
            rw [(hs s (by simp)).1, hsl]
            simp [hk, hy]
          · simp at hr
        · simp at hr
      · simp at hr
    · exact hr
    · exact hr
  case store n x y =>
    rw [hev.1, hev.2]
    exact storeV_local hr hs
  case box e x =>
    rw [hev]
    unfold dBox at *
    split at hr
    · rename_i hc
      simp only [Option.some.injEq] at hr
      subst hr
      have : F.fresh (nmOf dst) = E.fresh (nmOf dst) := by unfold Env.fresh; rw [(hs (nmOf dst) (by simp)).2]
      rw [this]
      simp [hc]
    · simp at hr
  case alloc e z =>
    unfold dBox at *
    split at hr
    · rename_i hc
      simp only [Option.some.injEq] at hr
      subst hr
      have : F.fresh (nmOf dst) = E.fresh (nmOf dst) := by unfold Env.fresh; rw [(hs (nmOf dst) (by simp)).2]
      rw [this]
      simp [hc]
    · simp at hr
  case ssl x lo hi m =>
    have h1 : lo.map F.ev = lo.map E.ev := by cases lo <;> simp; exact hev _ (by simp)
    have h2 : hi.map F.ev = hi.map E.ev := by cases hi <;> simp; exact hev _ (by simp)
    rw [h1, h2, hev x (by simp)]
    unfold dSsl at *
    split at hr
    · exact hr
    · exact hr
    · rename_i s n h3
      split at hr
      · rename_i e m' l fz hsl
        split at hr
        · rename_i l1 u1 hl1 hu1
          split at hr
          · rename_i hc
            have hsn : F.slots s = E.slots s := by
              refine (hs s ?_).1
              split at hr <;> (simp only [Option.some.injEq] at hr; subst hr; simp)
            rw [hsn, hsl]
            simp only [hl1, hu1, hc, and_self, if_true]
            exact hr
          · simp at hr
        · simp at hr
      · simp at hr
    · simp at hr
  case app e m z x y =>
    rw [hev.1, hev.2]
    unfold dApp at *
    split at hr
    · split at hr
      · rename_i l rd hm
        split at hr
        · rename_i hc
          simp only [Option.some.injEq] at hr
          subst hr
          have : F.fresh (nmOf dst) = E.fresh (nmOf dst) := by unfold Env.fresh; rw [(hs (nmOf dst) (by simp)).2]
          rw [more_local hm (fun s hs' => hs s (by simp [hs'])), this]
          simp [hc]
        · simp at hr
      · simp at hr
    · rename_i s n h3
      split at hr
      · rename_i e' m' l0 l rd hsl hm
        split at hr
        · rename_i hc
          simp only [Option.some.injEq] at hr
          subst hr
          have : F.fresh (nmOf dst) = E.fresh (nmOf dst) := by unfold Env.fresh; rw [(hs (nmOf dst) (by simp)).2]
          rw [more_local hm (fun s hs' => hs s (by simp [hs'])), (hs s (by simp)).1, hsl]
          simp only [this]
          rw [if_pos hc]
        · simp at hr
      · simp at hr
    · simp at hr
  case mkfnb f first caps =>
    have h1 : first.map F.ev = first.map E.ev := List.map_congr_left fun x hx => hev x (List.mem_append.2 (.inl hx))
    have h2 : caps.map F.ev = caps.map E.ev := List.map_congr_left fun x hx => hev x (List.mem_append.2 (.inr hx))
    rw [h1, h2]; exact hr
  case mkmap rr =>
    have h1 : rr.map F.ev = rr.map E.ev := by cases rr <;> simp; exact hev _ (by simp)
    rw [h1]
    unfold dMkmap at *
    split at hr
    · rename_i hc
      simp only [Option.some.injEq] at hr
      subst hr
      rw [fresh_local (hs (nmOf dst) (by simp)).2, if_pos hc]
    · simp at hr
  case mget kt z x k ok => rw [hev.1, hev.2]; exact mget_local hr hs
  case mset kt x k y => rw [hev.1, hev.2.1, hev.2.2]; exact mset_local hr hs
  case ment kt z x k => rw [hev.1, hev.2]; exact ment_local hr hs
  case mst x st y => rw [hev.1, hev.2.1, hev.2.2]; exact mst_local hr hs
  case mlen x => rw [hev]; exact mlen_local hr hs
  case nxt x => rw [hev]; exact nxt_local hr hs
  case copy m x y => rw [hev.1, hev.2]; exact copy_local hr hs
  case rng x =>
    rw [hev]
    unfold dRng at *
    split at hr
    · split at hr
      · rename_i hc
        simp only [Option.some.injEq] at hr
        subst hr
        rw [fresh_local (hs (nmOf dst) (by simp)).2, if_pos hc]
      · simp at hr
    · simp at hr
  case mksl e b m z l cp =>
    rw [hev.1, hev.2]
    unfold dMksl at *
    split at hr
    · split at hr
      · rename_i hc
        simp only [Option.some.injEq] at hr
        subst hr
        rw [fresh_local (hs (nmOf dst) (by simp)).2, if_pos hc]
      · simp at hr
    · simp at hr
  case stuck => simp at hr
  case call f args => simp at hr
  case callv x args => simp at hr
end Go.Wt
/- A region that draws its order: one walk in the order of the text serves every order, if what is not ordered does not meet in memory. -/
namespace Go.Wt
open Go.RowKit
variable {P : Program} {C : CallOk} {ops : Array Oper}
theorem mem_dd {x : Nat} : ∀ {l : List Nat}, x ∈ dd l ↔ x ∈ l
  | [] => by simp [dd]
  | y :: l => by
    simp only [dd]
    split
    · rename_i h
      rw [mem_dd, List.mem_cons]
      refine ⟨.inr, fun hx => hx.elim (fun e => ?_) id⟩
      subst e
      rw [List.contains_iff_mem] at h
      exact mem_dd.1 h
    · simp only [List.mem_cons, mem_dd]
/-- What comes before an operation comes before it by its own edges. -/
theorem befs_spec : ∀ (os : List Oper) (acc : List (List Nat)), (befs os acc).take acc.length = acc ∧ (befs os acc).length = acc.length + os.length ∧
    ∀ (k : Nat) (o : Oper), os[k]? = some o → ∀ i, i ∈ (befs os acc).getD (acc.length + k) [] → ∃ e ∈ o.after, Region.binds .any e = true ∧ (i = e.on ∨ (e.on < acc.length + k ∧ i ∈ (befs os acc).getD e.on []))
  | [], acc => by simp [befs]
  | o :: os, acc => by
    have hrec := befs_spec os (acc ++ [dd ((o.after.toList.filter (Region.binds .any)).flatMap fun e => e.on :: acc.getD e.on [])])
    simp only [befs]
    have hlast : ∀ i, i ∈ (acc ++ [dd ((o.after.toList.filter (Region.binds .any)).flatMap fun e => e.on :: acc.getD e.on [])]).getD acc.length [] → ∃ e ∈ o.after, Region.binds .any e = true ∧ (i = e.on ∨ (e.on < acc.length ∧ i ∈ acc.getD e.on [])) := by
      intro i hi
      have e1 : (acc ++ [dd ((o.after.toList.filter (Region.binds .any)).flatMap fun e => e.on :: acc.getD e.on [])]).getD acc.length [] = dd ((o.after.toList.filter (Region.binds .any)).flatMap fun e => e.on :: acc.getD e.on []) := by simp
      rw [e1, mem_dd, List.mem_flatMap] at hi
      obtain ⟨e, he, hi⟩ := hi
      rw [List.mem_filter] at he
      refine ⟨e, by simpa using he.1, he.2, ?_⟩
      rcases List.mem_cons.1 hi with hi | hi
      · exact .inl hi
      · refine .inr ⟨?_, hi⟩
        rcases Nat.lt_or_ge e.on acc.length with h | h
        · exact h
        · have : acc.getD e.on [] = [] := by simp [List.getElem?_eq_none h]
          rw [this] at hi; simp at hi
    have hpre : ∀ j, j < acc.length → (acc ++ [dd ((o.after.toList.filter (Region.binds .any)).flatMap fun e => e.on :: acc.getD e.on [])]).getD j [] = acc.getD j [] := by
      intro j hj
      simp [List.getElem?_append_left hj]
    have hAl : (acc ++ [dd ((o.after.toList.filter (Region.binds .any)).flatMap fun e => e.on :: acc.getD e.on [])]).length = acc.length + 1 := by simp
    have hAt : (acc ++ [dd ((o.after.toList.filter (Region.binds .any)).flatMap fun e => e.on :: acc.getD e.on [])]).take acc.length = acc := by simp
    generalize (acc ++ [dd ((o.after.toList.filter (Region.binds .any)).flatMap fun e => e.on :: acc.getD e.on [])]) = A at *
    obtain ⟨h1, h2, h3⟩ := hrec
    generalize befs os A = R at *
    have hget : ∀ j, j < acc.length + 1 → R.getD j [] = A.getD j [] := by
      intro j hj
      have : A[j]? = R[j]? := by rw [← h1, List.getElem?_take, if_pos (by omega)]
      rw [List.getD_eq_getElem?_getD, List.getD_eq_getElem?_getD, this]
    refine ⟨?_, by simp only [List.length_cons]; omega, fun k o' hk i hi => ?_⟩
    · rw [← h1, List.take_take, Nat.min_eq_left (by omega)] at hAt
      exact hAt
    · cases k with
      | zero =>
        simp only [List.getElem?_cons_zero, Option.some.injEq] at hk
        subst hk
        rw [Nat.add_zero, hget _ (by omega)] at hi
        obtain ⟨e, h4, h5, h6⟩ := hlast i hi
        refine ⟨e, h4, h5, h6.imp id fun h => ⟨h.1, ?_⟩⟩
        rw [hget _ (by omega), hpre _ h.1]
        exact h.2
      | succ k =>
        have hi' : i ∈ R.getD (A.length + k) [] := by
          rw [hAl, show acc.length + 1 + k = acc.length + (k + 1) by omega]; exact hi
        obtain ⟨e, h4, h5, h6⟩ := h3 k o' (by simpa using hk) i hi'
        exact ⟨e, h4, h5, h6.imp id fun h => ⟨by omega, h.2⟩⟩
/-- What stands ahead of a listed operation is listed. -/
def Closed (ops : Array Oper) (listed : Array Bool) : Prop := ∀ (m : Nat) (o : Oper), ops[m]? = some o → listed.getD m false = true → ∀ e ∈ o.after, Region.binds .any e = true → listed.getD e.on false = true
theorem before_listed {listed : Array Bool} (hcl : Closed ops listed) : ∀ (j : Nat) (o : Oper), ops[j]? = some o → (∀ e ∈ o.after, Region.binds .any e = true → listed.getD e.on false = true) → ∀ i, i ∈ (befs ops.toList []).getD j [] → listed.getD i false = true := by
  intro j
  induction j using Nat.strongRecOn with
  | _ j ih =>
    intro o ho hall i hi
    obtain ⟨_, _, h3⟩ := befs_spec ops.toList []
    simp only [List.length_nil, Nat.zero_add] at h3
    obtain ⟨e, h4, h5, h6⟩ := h3 j o (by simpa using ho) i hi
    rcases h6 with rfl | ⟨h7, h8⟩
    · exact hall e h4 h5
    · have hlt : e.on < ops.size := by
        have := (Array.getElem?_eq_some_iff.1 ho).1
        omega
      exact ih e.on h7 _ (Array.getElem?_eq_getElem hlt) (fun e' he' hb' => hcl e.on _ (Array.getElem?_eq_getElem hlt) (hall e h4 h5) e' he' hb') i h8
theorem Closed.set {listed : Array Bool} (hcl : Closed ops listed) {j : Nat} (hj : j ∈ Region.ready .any ops listed) : Closed ops (listed.setIfInBounds j true) := by
  intro m o hm hlm e he hb
  obtain ⟨_, oj, hoj, hall⟩ := mem_ready.1 hj
  by_cases hmj : m = j
  · subst hmj
    rw [hm] at hoj
    cases hoj
    exact getD_set_true (hall e he hb)
  · rw [getD_set_ne false (Ne.symm hmj)] at hlm
    exact getD_set_true (hcl m o hm hlm e he hb)

/-- What an operation of the walk came to. -/
inductive Rc where
  | skip
  | run (r : Res)
  | und (b want : Bool) (r : Res)
  deriving Inhabited
def Rc.d : Rc → DV
  | .skip => .tup []
  | .run r => r.d
  | .und b want r => .wh b want r.d
def Rc.ups : Rc → List (Nm × Option Row)
  | .run r => r.ups
  | _ => []
def Rc.rd : Rc → List Nm
  | .skip => []
  | .run r | .und _ _ r => r.rd
def ap (dst : Option Nat) (ρ : Rc) (E : Env) : Env := (E.upd ρ.ups).putO dst ρ.d
def OpVal (P : Program) (C : CallOk) (E : Env) (dst : Option Nat) (r : Res) : SOp → Prop
  | .call f args => C P E f (args.map E.ev) dst r
  | .callv x args => ∃ f pre caps, (E.ev x).callee = some (f, pre, caps) ∧ C P E f (pre ++ args.map E.ev ++ caps) dst r
  | op => op.den P E dst = some r
def Val (P : Program) (C : CallOk) (so : SOper) (E : Env) : Rc → Prop
  | .skip => ∃ t want, so.guard = some (t, want) ∧ (E.tmps t = .tup [] ∨ ∃ b, E.tmps t = .t (.v (.bool b)) ∧ b ≠ want)
  | .run r => (so.guard = none ∨ ∃ t want, so.guard = some (t, want) ∧ E.tmps t = .t (.v (.bool want))) ∧ OpVal P C E so.dst r so.op
  | .und b want r => ∃ t, so.guard = some (t, want) ∧ E.tmps t = .t (.v (.bool b)) ∧ r.ups = [] ∧ OpVal P C (E.under b want) so.dst r so.op
def noGlob (ρ : Rc) : Prop := ∀ p ∈ ρ.ups, p.1.isGlob = false
/-- A contract hangs on what it reads and writes alone. -/
def CLocal (C : CallOk) : Prop := ∀ P E F f ds dst r, C P E f ds dst r → Same E F (r.rd ++ r.ups.map (·.1)) → C P F f ds dst r
theorem opVal_local (hC : CLocal C) {E F : Env} {dst : Option Nat} {r : Res} {op : SOp} (h : OpVal P C E dst r op) (hev : ∀ x ∈ op.operands, F.ev x = E.ev x) (hs : Same E F (r.rd ++ r.ups.map (·.1))) : OpVal P C F dst r op := by
  unfold OpVal at *
  split at h
  · rename_i f args
    have : args.map F.ev = args.map E.ev := List.map_congr_left hev
    rw [this]
    exact hC _ _ _ _ _ _ _ h hs
  · rename_i x args
    obtain ⟨f, pre, caps, h1, h2⟩ := h
    have e1 : F.ev x = E.ev x := hev x (by simp [SOp.operands])
    have e2 : args.map F.ev = args.map E.ev := List.map_congr_left fun y hy => hev y (by simp [SOp.operands, hy])
    exact ⟨f, pre, caps, by rw [e1]; exact h1, by rw [e2]; exact hC _ _ _ _ _ _ _ h2 hs⟩
  · exact den_local h hev hs
/-- The temporaries that an operation looks at. -/
def SOper.looks (so : SOper) : List Nat := (so.op.operands.filterMap fun | .tmp t => some t | _ => none) ++ (match so.guard with | some (t, _) => [t] | none => [])
theorem ev_same {E F : Env} {x : Operand} (ht : ∀ t, x = .tmp t → F.tmps t = E.tmps t) (hg : ∀ g, F.used (.glob g) = E.used (.glob g)) : F.ev x = E.ev x := by
  cases x with
  | tmp t => exact ht t rfl
  | const v => rfl
  | func f => rfl
  | global g => simp only [Env.ev, hg]
theorem val_local (hC : CLocal C) {E F : Env} {so : SOper} {ρ : Rc} (h : Val P C so E ρ) (ht : ∀ t ∈ so.looks, F.tmps t = E.tmps t) (hs : Same E F (ρ.rd ++ ρ.ups.map (·.1))) (hg : ∀ g, F.used (.glob g) = E.used (.glob g)) : Val P C so F ρ := by
  have hgt : ∀ t want, so.guard = some (t, want) → F.tmps t = E.tmps t := fun t want hgd => ht t (by simp [SOper.looks, hgd])
  have hop : ∀ x ∈ so.op.operands, ∀ t, x = .tmp t → F.tmps t = E.tmps t := fun x hx t he => ht t (by
    subst he
    simp only [SOper.looks, List.mem_append, List.mem_filterMap]
    exact .inl ⟨.tmp t, hx, rfl⟩)
  cases ρ with
  | skip =>
    obtain ⟨t, want, h1, h2⟩ := h
    exact ⟨t, want, h1, by rw [hgt t want h1]; exact h2⟩
  | run r =>
    obtain ⟨h1, h2⟩ := h
    refine ⟨h1.imp id fun ⟨t, want, h3, h4⟩ => ⟨t, want, h3, by rw [hgt t want h3]; exact h4⟩, ?_⟩
    exact opVal_local hC h2 (fun x hx => ev_same (hop x hx) hg) hs
  | und b want r =>
    obtain ⟨t, h1, h2, h3, h4⟩ := h
    refine ⟨t, h1, by rw [hgt t want h1]; exact h2, h3, ?_⟩
    refine opVal_local hC h4 (fun x hx => ev_same (fun t he => ?_) hg) (fun s hs' => hs s ?_)
    · show (F.tmps t).strip b want = (E.tmps t).strip b want
      rw [hop x hx t he]
    · rw [h3] at hs'
      simpa [Rc.rd, Rc.ups] using hs'
/-- Two that do not meet. -/
def Indep (P : Program) (C : CallOk) (si : SOper) (ρi : Rc) (sj : SOper) (ρj : Rc) : Prop :=
  (∀ E, ap sj.dst ρj (ap si.dst ρi E) = ap si.dst ρi (ap sj.dst ρj E)) ∧ (∀ E, Val P C si E ρi ↔ Val P C si (ap sj.dst ρj E) ρi) ∧ (∀ E, Val P C sj E ρj ↔ Val P C sj (ap si.dst ρi E) ρj)
theorem tmps_ap {dst : Option Nat} {ρ : Rc} {E : Env} {t : Nat} : (ap dst ρ E).tmps t = if dst = some t then ρ.d else E.tmps t := by
  cases dst with
  | none => simp [ap, Env.putO, Env.upd]
  | some u =>
    show (if t = u then ρ.d else E.tmps t) = _
    by_cases h : t = u
    · subst h; simp
    · rw [if_neg h, if_neg (fun e => h (by simpa using e.symm))]
theorem slots_ap {dst : Option Nat} {ρ : Rc} {E : Env} {s : Nm} : (ap dst ρ E).slots s = match ρ.ups.lookup s with | some r => r | none => E.slots s := by cases dst <;> rfl
theorem used_ap {dst : Option Nat} {ρ : Rc} {E : Env} {s : Nm} : (ap dst ρ E).used s = ((ρ.ups.lookup s).isSome || E.used s) := by cases dst <;> rfl
theorem lookup_none {l : List (Nm × Option Row)} {s : Nm} (h : s ∉ l.map (·.1)) : l.lookup s = none := by
  cases hl : l.lookup s with
  | none => rfl
  | some r => exact absurd (List.mem_map.2 ⟨_, lookup_mem hl, rfl⟩) h
theorem val_ap (hC : CLocal C) {si sj : SOper} {ρi ρj : Rc} (h1 : ∀ d, sj.dst = some d → d ∉ si.looks) (hd : ∀ s ∈ ρj.ups.map (·.1), s ∉ ρi.rd ∧ s ∉ ρi.ups.map (·.1)) (hg : noGlob ρj) (E : Env) : Val P C si E ρi ↔ Val P C si (ap sj.dst ρj E) ρi := by
  have ht : ∀ t ∈ si.looks, (ap sj.dst ρj E).tmps t = E.tmps t := by
    intro t ht
    rw [tmps_ap, if_neg (fun e => h1 t e ht)]
  have hn : ∀ s, s ∈ ρi.rd ++ ρi.ups.map (·.1) → ρj.ups.lookup s = none := by
    intro s hs
    refine lookup_none fun hm => ?_
    rcases List.mem_append.1 hs with h | h
    · exact (hd s hm).1 h
    · exact (hd s hm).2 h
  have hs : Same E (ap sj.dst ρj E) (ρi.rd ++ ρi.ups.map (·.1)) := fun s hs => by
    rw [slots_ap, used_ap, hn s hs]; simp
  have hgl : ∀ g, (ap sj.dst ρj E).used (.glob g) = E.used (.glob g) := by
    intro g
    rw [used_ap, lookup_none (fun hm => ?_)]
    · simp
    · obtain ⟨p, hp, he⟩ := List.mem_map.1 hm
      have := hg p hp
      rw [he] at this
      simp [Nm.isGlob] at this
  exact ⟨fun h => val_local hC h ht hs hgl, fun h => val_local hC h (fun t h' => (ht t h').symm) (fun s h' => ⟨(hs s h').1.symm, (hs s h').2.symm⟩) (fun g => (hgl g).symm)⟩
theorem indep_of (hC : CLocal C) {si sj : SOper} {ρi ρj : Rc} (h1 : ∀ d, sj.dst = some d → d ∉ si.looks) (h2 : ∀ d, si.dst = some d → d ∉ sj.looks) (h3 : ∀ d, si.dst = some d → sj.dst ≠ some d)
    (hj : ∀ s ∈ ρj.ups.map (·.1), s ∉ ρi.rd ∧ s ∉ ρi.ups.map (·.1)) (hi : ∀ s ∈ ρi.ups.map (·.1), s ∉ ρj.rd) (hgi : noGlob ρi) (hgj : noGlob ρj) : Indep P C si ρi sj ρj := by
  refine ⟨fun E => ?_, val_ap hC h1 hj hgj, val_ap hC h2 (fun s hs => ⟨hi s hs, fun hs' => (hj s hs').2 hs⟩) hgi⟩
  refine Env.ext' (funext fun t => ?_) (funext fun s => ?_) (funext fun s => ?_)
  · rw [tmps_ap, tmps_ap, tmps_ap, tmps_ap]
    by_cases e1 : sj.dst = some t
    · have e2 : si.dst ≠ some t := fun e2 => h3 t e2 e1
      simp [e1, e2]
    · simp [e1]
  · rw [slots_ap, slots_ap, slots_ap, slots_ap]
    by_cases m1 : s ∈ ρj.ups.map (·.1)
    · rw [lookup_none (hj s m1).2]
    · rw [lookup_none m1]
  · rw [used_ap, used_ap, used_ap, used_ap]
    rw [← Bool.or_assoc, ← Bool.or_assoc, Bool.or_comm (ρj.ups.lookup s).isSome]
end Go.Wt
/- A region that draws its order, from one walk. -/
namespace Go.Wt
open Go.RowKit
variable {P : Program} {C : CallOk} {ops : Array Oper} {c : Ctx} {φ : Nm → Place} {E : Env} {a : Act} {w : World}
theorem befs_mem : ∀ (os : List Oper) (acc : List (List Nat)) (k : Nat) (o : Oper), os[k]? = some o → ∀ e ∈ o.after, Region.binds .any e = true → e.on ∈ (befs os acc).getD (acc.length + k) []
  | [], acc, k, o, hk, _, _, _ => by simp at hk
  | o :: os, acc, k, o', hk, e, he, hb => by
    have hrec := befs_spec os (acc ++ [dd ((o.after.toList.filter (Region.binds .any)).flatMap fun e => e.on :: acc.getD e.on [])])
    simp only [befs]
    cases k with
    | zero =>
      simp only [List.getElem?_cons_zero, Option.some.injEq] at hk
      subst hk
      obtain ⟨h1, _, _⟩ := hrec
      have hin : e.on ∈ (acc ++ [dd ((o.after.toList.filter (Region.binds .any)).flatMap fun e => e.on :: acc.getD e.on [])]).getD acc.length [] := by
        have e1 : (acc ++ [dd ((o.after.toList.filter (Region.binds .any)).flatMap fun e => e.on :: acc.getD e.on [])]).getD acc.length [] = dd ((o.after.toList.filter (Region.binds .any)).flatMap fun e => e.on :: acc.getD e.on []) := by simp
        rw [e1, mem_dd, List.mem_flatMap]
        exact ⟨e, List.mem_filter.2 ⟨by simpa using he, hb⟩, List.mem_cons_self⟩
      have hAl : (acc ++ [dd ((o.after.toList.filter (Region.binds .any)).flatMap fun e => e.on :: acc.getD e.on [])]).length = acc.length + 1 := by simp
      generalize (acc ++ [dd ((o.after.toList.filter (Region.binds .any)).flatMap fun e => e.on :: acc.getD e.on [])]) = A at *
      rw [← h1] at hin
      rw [Nat.add_zero]
      rw [List.getD_eq_getElem?_getD, List.getElem?_take, if_pos (by omega)] at hin
      rw [List.getD_eq_getElem?_getD]
      exact hin
    | succ k =>
      have := befs_mem os (acc ++ [dd ((o.after.toList.filter (Region.binds .any)).flatMap fun e => e.on :: acc.getD e.on [])]) k o' (by simpa using hk) e he hb
      rw [List.length_append, List.length_singleton, show acc.length + 1 + k = acc.length + (k + 1) by omega] at this
      exact this
/-- The walk in the order of the text. -/
def Chain (P : Program) (C : CallOk) (pr : List (Nat × Nat)) (K : Env → Prop) : Nat → List Log → List SOper → Env → List Rc → Prop
  | _, _, [], E, ρs => ρs = [] ∧ K E
  | ix, log, so :: sl, E, ρs => ∃ ρ rest, ρs = ρ :: rest ∧ Val P C so E ρ ∧ (∀ l ∈ log, pr.contains (l.ix, ix) = true → apartL l ρ.rd (ρ.ups.map (·.1)) = true) ∧ noGlob ρ ∧
      Chain P C pr K (ix + 1) (addLog pr ix ρ.rd (ρ.ups.map (·.1)) log) sl (ap so.dst ρ E) rest
theorem okLog_spec {pr : List (Nat × Nat)} {ix : Nat} {log : List Log} {r : Res} (h : okLog pr ix log r = true) : (∀ l ∈ log, pr.contains (l.ix, ix) = true → apartL l r.rd (r.ups.map (·.1)) = true) ∧ ∀ p ∈ r.ups, p.1.isGlob = false := by
  unfold okLog at h
  simp only [Bool.and_eq_true, List.all_eq_true] at h
  refine ⟨fun l hl hc => ?_, fun p hp => by have := h.2 p hp; simpa using this⟩
  have := h.1 l hl
  rw [hc] at this
  simpa using this
theorem opVal_of {pr : List (Nat × Nat)} {ix : Nat} {log : List Log} {dst : Option Nat} {next : Res → Prop} {op : SOp} (h : OpW P C pr ix log dst E next op) : ∃ r, OpVal P C E dst r op ∧ okLog pr ix log r = true ∧ next r := by
  unfold OpW at h
  unfold OpVal
  split at h
  · obtain ⟨r, h1, h2, h3⟩ := h; exact ⟨r, h1, h2, h3⟩
  · obtain ⟨f, pre, caps, r, h1, h2, h3, h4⟩ := h; exact ⟨r, ⟨f, pre, caps, h1, h2⟩, h3, h4⟩
  · rename_i op h1 h2
    obtain ⟨r, h3, h4, h5⟩ := h
    refine ⟨r, ?_, h4, h5⟩
    split
    · exact absurd rfl (h1 _ _)
    · exact absurd rfl (h2 _ _)
    · exact h3
theorem chain_of {pr : List (Nat × Nat)} (hpr : pr ≠ []) {K : Env → Prop} : ∀ (sl : List SOper) (ix : Nat) (log : List Log) (E : Env), OpsW P C pr ix log sl E K → ∃ ρs, Chain P C pr K ix log sl E ρs
  | [], ix, log, E, h => ⟨[], rfl, h⟩
  | so :: sl, ix, log, E, h => by
    unfold OpsW at h
    simp only at h
    have hskip : ∀ l : List Log, addLog pr ix [] [] l = l := fun l => by simp [addLog]
    split at h
    · rename_i hg
      obtain ⟨r, h1, h2, h3⟩ := opVal_of (h.resolve_right fun hh => hpr hh.1)
      obtain ⟨ρs, h4⟩ := chain_of hpr sl _ _ _ h3
      obtain ⟨h5, h6⟩ := okLog_spec h2
      exact ⟨.run r :: ρs, .run r, ρs, rfl, ⟨.inl hg, h1⟩, h5, h6, h4⟩
    · rename_i t want hg
      rcases h with ⟨ht, h⟩ | ⟨b, ht, h⟩
      · obtain ⟨ρs, h4⟩ := chain_of hpr sl _ _ _ h
        refine ⟨.skip :: ρs, .skip, ρs, rfl, ⟨t, want, hg, .inl ht⟩, fun l _ _ => by simp [apartL, Rc.rd, Rc.ups], fun p hp => by simp [Rc.ups] at hp, ?_⟩
        simp only [Rc.rd, Rc.ups, List.map_nil, hskip]
        exact h4
      rcases h with h | h
      · by_cases hb : (b == want) = true
        · obtain ⟨r, h1, h2, h3⟩ := opVal_of ((h.1 hb).resolve_right fun hh => hpr hh.1)
          obtain ⟨ρs, h4⟩ := chain_of hpr sl _ _ _ h3
          obtain ⟨h5, h6⟩ := okLog_spec h2
          have hbe : b = want := by simpa using hb
          subst hbe
          exact ⟨.run r :: ρs, .run r, ρs, rfl, ⟨.inr ⟨t, b, hg, ht⟩, h1⟩, h5, h6, h4⟩
        · obtain ⟨ρs, h4⟩ := chain_of hpr sl _ _ _ (h.2 (by simpa using hb))
          refine ⟨.skip :: ρs, .skip, ρs, rfl, ⟨t, want, hg, .inr ⟨b, ht, by simpa using hb⟩⟩, fun l _ _ => by simp [apartL, Rc.rd, Rc.ups], fun p hp => by simp [Rc.ups] at hp, ?_⟩
          simp only [Rc.rd, Rc.ups, List.map_nil, hskip]
          exact h4
      · obtain ⟨r, h1, h2, h3, h4⟩ := opVal_of h
        obtain ⟨ρs, h5⟩ := chain_of hpr sl _ _ _ h4
        obtain ⟨h6, _⟩ := okLog_spec h2
        rw [h3] at h6
        exact ⟨.und b want r :: ρs, .und b want r, ρs, rfl, ⟨t, hg, ht, h3, h1⟩, h6, fun p hp => by simp [Rc.ups] at hp, h5⟩
theorem chain_len {pr : List (Nat × Nat)} {K : Env → Prop} : ∀ (sl : List SOper) (ix : Nat) (log : List Log) (E : Env) (ρs : List Rc), Chain P C pr K ix log sl E ρs → ρs.length = sl.length
  | [], _, _, _, ρs, h => by rw [h.1]; rfl
  | so :: sl, ix, log, E, ρs, h => by
    obtain ⟨ρ, rest, rfl, _, _, _, h⟩ := h
    simp [chain_len sl _ _ _ _ h]
theorem mem_addLog {pr : List (Nat × Nat)} {ix : Nat} {rd wr : List Nm} {log : List Log} {l : Log} (h : l ∈ log) : l ∈ addLog pr ix rd wr log := by
  unfold addLog
  split
  · exact h
  · exact List.mem_cons_of_mem _ h
theorem chain_log {pr : List (Nat × Nat)} {K : Env → Prop} : ∀ (sl : List SOper) (ix : Nat) (log : List Log) (E : Env) (ρs : List Rc), Chain P C pr K ix log sl E ρs → ∀ (j : Nat) (ρ : Rc), ρs[j]? = some ρ →
    noGlob ρ ∧ ∀ l ∈ log, pr.contains (l.ix, ix + j) = true → apartL l ρ.rd (ρ.ups.map (·.1)) = true
  | [], _, _, _, ρs, h, j, ρ, hj => by rw [h.1] at hj; simp at hj
  | so :: sl, ix, log, E, ρs, h, j, ρ, hj => by
    obtain ⟨ρ0, rest, rfl, _, h1, h2, h3⟩ := h
    cases j with
    | zero =>
      simp only [List.getElem?_cons_zero, Option.some.injEq] at hj
      subst hj
      exact ⟨h2, h1⟩
    | succ j =>
      obtain ⟨h4, h5⟩ := chain_log sl _ _ _ _ h3 j ρ (by simpa using hj)
      refine ⟨h4, fun l hl hc => h5 l (mem_addLog hl) ?_⟩
      rw [show ix + 1 + j = ix + (j + 1) by omega]; exact hc
theorem chain_pair {pr : List (Nat × Nat)} {K : Env → Prop} : ∀ (sl : List SOper) (ix : Nat) (log : List Log) (E : Env) (ρs : List Rc), Chain P C pr K ix log sl E ρs → ∀ (i j : Nat) (ρi ρj : Rc), i < j → ρs[i]? = some ρi → ρs[j]? = some ρj → pr.contains (ix + i, ix + j) = true →
    (ρi.rd = [] ∧ ρi.ups = []) ∨ apartL ⟨ix + i, ρi.rd, ρi.ups.map (·.1)⟩ ρj.rd (ρj.ups.map (·.1)) = true
  | [], _, _, _, ρs, h, i, j, ρi, ρj, _, hi, _, _ => by rw [h.1] at hi; simp at hi
  | so :: sl, ix, log, E, ρs, h, i, j, ρi, ρj, hij, hi, hj, hc => by
    obtain ⟨ρ0, rest, rfl, _, _, _, h3⟩ := h
    cases j with
    | zero => omega
    | succ j =>
      cases i with
      | succ i =>
        have := chain_pair sl _ _ _ _ h3 i j ρi ρj (by omega) (by simpa using hi) (by simpa using hj) (by rw [show ix + 1 + i = ix + (i + 1) by omega, show ix + 1 + j = ix + (j + 1) by omega]; exact hc)
        rw [show ix + 1 + i = ix + (i + 1) by omega] at this
        exact this
      | zero =>
        simp only [List.getElem?_cons_zero, Option.some.injEq] at hi
        subst hi
        by_cases he : (ρ0.rd.isEmpty && (ρ0.ups.map (·.1)).isEmpty) = true
        · left
          simpa using he
        · right
          have hpr : pr.isEmpty = false := by
            cases pr with
            | nil => simp at hc
            | cons _ _ => rfl
          refine (chain_log sl _ _ _ _ h3 j ρj (by simpa using hj)).2 _ ?_ (by rw [Nat.add_zero] at hc ⊢; rw [show ix + 1 + j = ix + (j + 1) by omega]; exact hc)
          unfold addLog
          rw [hpr, Bool.false_or, if_neg he]
          exact List.mem_cons_self
/-- Whatever order is picked. -/
def wpAnyA (P : Program) (C : CallOk) (ops : Array Oper) (sl : List SOper) (G : Nat → Rc) (K : Env → Prop) : Nat → Array Bool → Env → Prop
  | 0, listed, E => Region.ready .any ops listed = [] ∧ K E
  | fuel + 1, listed, E => (Region.ready .any ops listed = [] → K E) ∧
    ∀ i ∈ Region.ready .any ops listed, ∃ so, sl[i]? = some so ∧ Val P C so E (G i) ∧ wpAnyA P C ops sl G K fuel (listed.setIfInBounds i true) (ap so.dst (G i) E)
theorem listed_ft {listed : Array Bool} {i : Nat} (h : listed.getD i true = false) : listed.getD i false = false := by
  rcases Nat.lt_or_ge i listed.size with h' | h'
  · simpa [h'] using h
  · simp [Array.getElem?_eq_none h'] at h
theorem wpAnyA_first {sl : List SOper} {G : Nat → Rc} {K : Env → Prop} {i : Nat} {si : SOper} (hi : sl[i]? = some si) : ∀ (fuel : Nat) (listed : Array Bool) (E : Env), Closed ops listed →
    (∀ (j : Nat) (sj : SOper), sl[j]? = some sj → j ≠ i → listed.getD j true = false → i ∉ (befs ops.toList []).getD j [] → Indep P C si (G i) sj (G j)) →
    i ∈ Region.ready .any ops listed → Val P C si E (G i) → wpAnyA P C ops sl G K fuel (listed.setIfInBounds i true) (ap si.dst (G i) E) → wpAnyA P C ops sl G K (fuel + 1) listed E := by
  intro fuel
  induction fuel with
  | zero =>
    intro listed E hcl _ hr hv H
    refine ⟨fun h => (by rw [h] at hr; cases hr), fun j hj => ?_⟩
    by_cases hji : j = i
    · subst hji; exact ⟨si, hi, hv, H⟩
    · have := ready_mono hj hji
      rw [H.1] at this
      cases this
  | succ fuel ih =>
    intro listed E hcl hfree hr hv H
    refine ⟨fun h => (by rw [h] at hr; cases hr), fun j hj => ?_⟩
    by_cases hji : j = i
    · subst hji; exact ⟨si, hi, hv, H⟩
    · obtain ⟨sj, h1, h2, h3⟩ := H.2 j (ready_mono hj hji)
      obtain ⟨hjun, oj, hoj, hall⟩ := mem_ready.1 hj
      have hnot : i ∉ (befs ops.toList []).getD j [] := fun hm => by
        have h4 := before_listed hcl j oj hoj hall i hm
        have h5 := listed_ft (mem_ready.1 hr).1
        rw [h4] at h5
        cases h5
      obtain ⟨hcomm, hvi, hvj⟩ := hfree j sj h1 hji hjun hnot
      refine ⟨sj, h1, (hvj E).2 h2, ih (listed.setIfInBounds j true) (ap sj.dst (G j) E) (hcl.set hj) (fun k sk hk hki hun hno => hfree k sk hk hki ?_ hno) (ready_mono hr (Ne.symm hji)) ((hvi E).1 hv) ?_⟩
      · by_cases hjk : j = k
        · subst hjk; exact hjun
        · rw [getD_set_ne true hjk] at hun; exact hun
      · rw [Array.setIfInBounds_comm _ _ hji, ← hcomm]
        exact h3
theorem wpAnyA_lex {sl : List SOper} {G : Nat → Rc} {K : Env → Prop} {pr : List (Nat × Nat)}
    (hind : ∀ (k j : Nat) (sk sj : SOper), k < j → sl[k]? = some sk → sl[j]? = some sj → k ∉ (befs ops.toList []).getD j [] → (∀ ok oj, ops[k]? = some ok → ops[j]? = some oj → ok.apart ops oj = true) → Indep P C sk (G k) sj (G j))
    (hops : sl.length = ops.size) : ∀ (l : List SOper) (k : Nat) (log : List Log) (listed : Array Bool) (E : Env) (ρs : List Rc), (∀ j, l[j]? = sl[k + j]?) → Chain P C pr K k log l E ρs → (∀ (j : Nat) (ρ : Rc), ρs[j]? = some ρ → G (k + j) = ρ) →
      Region.lexFrom .any ops l.length k listed = true → Closed ops listed → (∀ m, listed.getD m true = false → k ≤ m) → wpAnyA P C ops sl G K l.length listed E
  | [], k, log, listed, E, ρs, _, hch, _, hB, _, _ => ⟨by simpa [Region.lexFrom] using hB, hch.2⟩
  | so :: l, k, log, listed, E, ρs, hl, hch, hG, hB, hcl, hk => by
    have h0 : sl[k]? = some so := by simpa using (hl 0).symm
    obtain ⟨ρ, rest, rfl, hv, _, _, hch'⟩ := hch
    have hGk : G k = ρ := by simpa using hG 0 ρ rfl
    simp only [List.length_cons, Region.lexFrom, Bool.and_eq_true] at hB
    obtain ⟨⟨hr, hf⟩, hB'⟩ := hB
    have hr' : k ∈ Region.ready .any ops listed := by simpa using hr
    have hko : k < ops.size := by rw [← hops]; exact (List.getElem?_eq_some_iff.1 h0).1
    have hfree := Region.free_spec (Array.getElem?_eq_getElem hko) hf
    refine wpAnyA_first h0 l.length listed E hcl (fun j sj hj hjk hun hnot => ?_) hr' (by rw [hGk]; exact hv) ?_
    · refine hind k j so sj (by have := hk j hun; omega) h0 hj hnot fun ok oj hok hoj => ?_
      rw [Array.getElem?_eq_getElem hko] at hok
      cases hok
      refine hfree j oj hoj hjk hun fun e he hb heq => hnot ?_
      have := befs_mem ops.toList [] j oj (by simpa using hoj) e he hb
      rw [heq] at this
      simpa using this
    · rw [hGk]
      refine wpAnyA_lex hind hops l (k + 1) _ _ _ rest (fun j => by have := hl (j + 1); simpa [Nat.add_assoc, Nat.add_comm 1 j] using this) hch' (fun j ρ' hj => by have := hG (j + 1) ρ' (by simpa using hj); rw [show k + 1 + j = k + (j + 1) by omega]; exact this) hB' (hcl.set hr') (fun m hm => ?_)
      by_cases hmk : k = m
      · subst hmk
        exfalso
        have h1 := (mem_ready.1 hr').1
        rcases Nat.lt_or_ge k listed.size with h' | h'
        · simp [h'] at hm
        · simp [Array.getElem?_eq_none h'] at h1
      · rw [getD_set_ne true hmk] at hm
        have := hk m hm
        omega
end Go.Wt
/- A region that draws its order does what the walk in the order of the text tells. -/
namespace Go.Wt
open Go.RowKit
variable {P : Program} {C : CallOk} {ops : Array Oper} {c : Ctx} {φ : Nm → Place} {E : Env} {a : Act} {w : World}
theorem cparts_ops {t : TypeId} {l : List (Nat × Operand)} {ps : List (Nat × Nat × Operand)} (h : cparts P t l = some ps) : ps.map (·.2.2) = l.map (·.2) := by
  unfold cparts at h
  split at h
  · split at h
    · obtain ⟨h1, h2⟩ := mapM_some h
      apply List.ext_getElem (by simp [h1])
      intro i hi hi'
      simp only [List.length_map] at hi hi'
      have := h2 i _ _ (List.getElem?_eq_getElem hi') (List.getElem?_eq_getElem hi)
      simp only [Option.map_eq_some_iff] at this
      obtain ⟨q, _, h4⟩ := this
      simp only [List.getElem_map, ← h4]
    · simp at h
  · split at h
    · simp only [Option.some.injEq] at h
      subst h
      simp [Function.comp_def]
    · simp at h
  · simp at h
theorem cop_operands {op : Op} {s : SOp} (h : cop P op = some s) : ∀ x ∈ s.operands, x ∈ op.operands := by
  cases op
  case build t parts =>
    simp only [cop, Option.bind_eq_bind, Option.bind_eq_some_iff] at h
    obtain ⟨z, _, h⟩ := h
    split at h
    · simp only [Option.bind_eq_some_iff, Option.pure_def, Option.some.injEq] at h
      obtain ⟨ps, h2, rfl⟩ := h
      intro x hx
      simp only [SOp.operands] at hx
      rw [cparts_ops h2] at hx
      simpa [Op.operands] using hx
    · simp at h
  case buildSlice t len parts =>
    simp only [cop, Option.bind_eq_bind, Option.bind_eq_some_iff] at h
    obtain ⟨e, _, m, _, z, _, h⟩ := h
    split at h
    · simp at h
    · simp only [Option.pure_def, Option.some.injEq] at h
      subst h
      intro x hx
      simp only [SOp.operands, List.map_map, Function.comp_def] at hx
      simpa [Op.operands] using hx
  case call cl =>
    obtain ⟨callee, args, argTypes⟩ := cl
    simp only [cop] at h
    cases callee with
    | value f =>
      cases f <;> simp only [ccall, Option.some.injEq] at h <;> subst h <;> intro x hx <;> simp [SOp.operands, Op.operands, Call.operands] at hx ⊢ <;> first | exact hx | exact .inr hx
    | invoke _ _ => simp [ccall] at h
    | builtin b =>
      cases b <;> first | (simp [ccall] at h; done) | skip
      case len =>
        simp only [ccall] at h
        split at h
        · rename_i x t h1 h2
          have e1 : args = #[x] := Array.ext' (by simpa using h1)
          subst e1
          split at h
          · simp only [Option.some.injEq] at h; subst h; intro y hy; simpa [SOp.operands, Op.operands, Call.operands] using hy
          · simp only [Option.some.injEq] at h; subst h; intro y hy; simpa [SOp.operands, Op.operands, Call.operands] using hy
          · simp only [Option.some.injEq] at h; subst h; intro y hy; simpa [SOp.operands, Op.operands, Call.operands] using hy
          · simp at h
        · simp at h
      case copy =>
        simp only [ccall] at h
        split at h
        · rename_i x y t us h1 h2
          have e1 : args = #[x, y] := Array.ext' (by simpa using h1)
          subst e1
          simp only [Option.bind_eq_bind, Option.bind_eq_some_iff] at h
          obtain ⟨e, _, i, _, h⟩ := h
          split at h
          · simp at h
          · simp only [Option.some.injEq] at h; subst h; intro y hy; simpa [SOp.operands, Op.operands, Call.operands] using hy
        · simp at h
      case append =>
        simp only [ccall] at h
        split at h
        · rename_i x y t u h1 h2
          have e1 : args = #[x, y] := Array.ext' (by simpa using h1)
          subst e1
          simp only [Option.bind_eq_bind, Option.bind_eq_some_iff] at h
          obtain ⟨e, _, i, _, z, _, h⟩ := h
          split at h
          · simp at h
          · split at h
            · simp only [Option.some.injEq] at h; subst h; intro y hy; simpa [SOp.operands, Op.operands, Call.operands] using hy
            · simp at h
        · simp at h
      case min =>
        simp only [ccall] at h
        split at h
        · rename_i x y h1
          have e1 : args = #[x, y] := Array.ext' (by simpa using h1)
          subst e1
          simp only [Option.some.injEq] at h; subst h; intro y hy; simpa [SOp.operands, Op.operands, Call.operands] using hy
        · simp at h
      case max =>
        simp only [ccall] at h
        split at h
        · rename_i x y h1
          have e1 : args = #[x, y] := Array.ext' (by simpa using h1)
          subst e1
          simp only [Option.some.injEq] at h; subst h; intro y hy; simpa [SOp.operands, Op.operands, Call.operands] using hy
        · simp at h
  case slice t x lo hi mx =>
    cases mx with
    | some _ => simp [cop] at h
    | none =>
      simp only [cop] at h
      split at h
      · simp only [Option.some.injEq] at h
        subst h
        intro y hy
        simpa [SOp.operands, Op.operands] using hy
      · simp only [Option.bind_eq_bind, Option.bind_eq_some_iff] at h
        obtain ⟨m, _, h⟩ := h
        split at h
        · simp at h
        · simp only [Option.pure_def, Option.some.injEq] at h
          subst h
          intro y hy
          simpa [SOp.operands, Op.operands] using hy
      · simp at h
  case makeFunc fn first caps =>
    cases fn with
    | func f =>
      simp only [cop] at h
      split at h
      · simp only [Option.some.injEq] at h
        subst h
        intro x hx
        simp only [SOp.operands, Op.operands, Array.mem_append] at hx ⊢
        exact .inr (by simpa using hx)
      · simp only [Option.some.injEq] at h
        subst h
        intro x hx
        simp only [SOp.operands, Op.operands, Array.mem_append, List.mem_append, Array.mem_toList_iff] at hx ⊢
        exact hx
    | _ => simp [cop] at h
  case makeMap t rr =>
    simp only [cop] at h
    split at h
    · simp only [Option.some.injEq] at h; subst h; intro x hx; simp [SOp.operands] at hx
    · simp only [Option.some.injEq] at h; subst h; intro x hx; simpa [SOp.operands, Op.operands] using hx
    · simp at h
  case makeSlice t l cp =>
    simp only [cop, Option.bind_eq_bind, Option.bind_eq_some_iff] at h
    obtain ⟨e, h1, m, h2, i, h3, z, h4, h⟩ := h
    split at h
    · simp at h
    · simp only [Option.pure_def, Option.some.injEq] at h; subst h; intro x hx; simpa [SOp.operands, Op.operands] using hx
  case lookup t x k ok =>
    simp only [cop] at h
    split at h
    · obtain ⟨z, hz, rfl⟩ := Option.map_eq_some_iff.1 h
      intro x hx; simpa [SOp.operands, Op.operands] using hx
    · simp at h
  case mapEntry t x k =>
    simp only [cop] at h
    split at h
    · obtain ⟨z, hz, rfl⟩ := Option.map_eq_some_iff.1 h
      intro x hx; simpa [SOp.operands, Op.operands] using hx
    · simp at h
  all_goals (
    simp only [cop] at h
    repeat' split at h
    all_goals first | (simp at h; done) | skip
    all_goals (
      first
      | (simp only [Option.some.injEq] at h; subst h; intro x hx; first | (simp [SOp.operands] at hx; done) | simpa [SOp.operands, Op.operands] using hx)
      | (simp only [Option.bind_eq_bind, Option.bind_eq_some_iff, Option.pure_def] at h
         first
         | (obtain ⟨q1, _, q2, _, h⟩ := h
            (repeat' split at h) <;> first | (simp at h; done) | (simp only [Option.some.injEq] at h; subst h; intro x hx; first | (simp [SOp.operands] at hx; done) | simpa [SOp.operands, Op.operands] using hx))
         | (obtain ⟨q1, _, h⟩ := h
            (repeat' split at h) <;> first | (simp at h; done) | (simp only [Option.some.injEq] at h; subst h; intro x hx; first | (simp [SOp.operands] at hx; done) | simpa [SOp.operands, Op.operands] using hx)))))
theorem copS_operands {op : Op} : ∀ x ∈ (copS P op).operands, x ∈ op.operands := by
  unfold copS
  split
  · rename_i s hs; exact cop_operands hs
  · intro x hx; simp [SOp.operands] at hx
theorem looks_sub {n : Nat} {o : Oper} {so : SOper} (h : coper P n ops o = some so) : ∀ t ∈ so.looks, t ∈ o.looksAt ops := by
  obtain ⟨hc, _, _, hg⟩ := coper_spec h
  intro t ht
  simp only [SOper.looks, List.mem_append, List.mem_filterMap] at ht
  simp only [Oper.looksAt, List.mem_append, List.mem_filterMap]
  rcases ht with ⟨x, hx, he⟩ | ht
  · exact .inl ⟨x, by rw [← hc] at hx; simpa using copS_operands x hx, he⟩
  · rcases hg with ⟨_, h2⟩ | ⟨j, u, b, h1, h2, h3⟩
    · rw [h2] at ht; simp at ht
    · rw [h3] at ht
      simp at ht
      subst ht
      right
      rw [h1]
      simp only [h2]
      simp
theorem no_mem {op : SOp} {dst : Option Nat} {r : Res} (hm : op.mem = false) (hr : op.den P E dst = some r) : r.rd = [] ∧ r.ups = [] := by
  have hv : ∀ d : DV, val d = some r → r.rd = [] ∧ r.ups = [] := fun d h => by simp [val] at h; subst h; exact ⟨rfl, rfl⟩
  have ho : ∀ d : Option DV, opt d = some r → r.rd = [] ∧ r.ups = [] := fun d h => by obtain ⟨y, _, rfl⟩ := sound_opt h; exact ⟨rfl, rfl⟩
  have hk : ∀ x : Option Value, chk x = some r → r.rd = [] ∧ r.ups = [] := fun x h => by
    unfold chk at h
    split at h
    · split at h
      · exact hv _ h
      · simp at h
    · simp at h
  cases op <;> simp only [SOp.mem] at hm <;> first | (simp at hm; done) | skip
  all_goals simp only [SOp.den] at hr
  case mv x => exact hv _ hr
  case nilc x => (repeat' split at hr) <;> first | exact hv _ hr | (simp at hr; done)
  case pick p x y => unfold dPick at hr; (repeat' split at hr) <;> first | exact hv _ hr | (simp at hr; done)
  case bin op t x y =>
    unfold dBin at hr
    have hq : ∀ b : Bool, ((isEq op).bind fun b => val (.t (.v (.bool b)))) = some r → r.rd = [] ∧ r.ups = [] := by
      intro _ hb
      obtain ⟨b, _, hb⟩ := Option.bind_eq_some_iff.1 hb
      exact hv _ hb
    (repeat' split at hr) <;> first | exact hk _ hr | exact hq true hr | (simp at hr; done)
  case un op x => unfold dUn at hr; split at hr <;> first | exact hk _ hr | (simp at hr; done)
  case conv k x => unfold dConv at hr; split at hr <;> first | exact hv _ hr | (simp at hr; done)
  case part x o n ag => split at hr <;> first | exact ho _ hr | (simp at hr; done)
  case aidx x i l m ag => unfold dAidx at hr; (repeat' split at hr) <;> first | exact ho _ hr | (simp at hr; done)
  case sidx x i => unfold dSidx at hr; (repeat' split at hr) <;> first | exact hv _ hr | (simp at hr; done)
  case build z ps => exact ho _ hr
  case ext x i => unfold dExt at hr; split at hr <;> first | exact ho _ hr | (simp at hr; done)
  case fld x o => unfold dFld at hr; split at hr <;> first | exact hv _ hr | (simp at hr; done)
  case aadr x i l m => unfold dAadr at hr; (repeat' split at hr) <;> first | exact hv _ hr | (simp at hr; done)
  case lits ag m l z ps => unfold dLits at hr; (repeat' split at hr) <;> first | exact hv _ hr | (simp at hr; done)
  case len s x => unfold dLen at hr; split at hr <;> first | exact hv _ hr | (simp at hr; done)
  case sstr x lo hi => unfold dSstr at hr; (repeat' split at hr) <;> first | exact hv _ hr | (simp at hr; done)
  case mm mx x y => unfold dMm at hr; split at hr <;> first | exact hv _ hr | (simp at hr; done)
  case mkfn f caps => exact hv _ hr
  case mkfnb f p caps => exact hv _ hr
  case stuck => simp at hr
  case mkif t x => unfold dMkif at hr; (repeat' split at hr) <;> first | exact hv _ hr | (simp at hr; done)
theorem val_no_mem {so : SOper} {ρ : Rc} (hm : so.op.mem = false) (h : Val P C so E ρ) : ρ.rd = [] ∧ ρ.ups = [] := by
  have hop : ∀ E r, OpVal P C E so.dst r so.op → r.rd = [] ∧ r.ups = [] := by
    intro E r h
    unfold OpVal at h
    split at h
    · rename_i f args he; rw [he] at hm; simp [SOp.mem] at hm
    · rename_i x args he; rw [he] at hm; simp [SOp.mem] at hm
    · exact no_mem hm h
  cases ρ with
  | skip => exact ⟨rfl, rfl⟩
  | run r => exact hop _ _ h.2
  | und b want r => obtain ⟨_, _, _, h3, h4⟩ := h; exact ⟨(hop _ _ h4).1, rfl⟩
theorem val_step (hC : CSound P C) (h : SimA c φ E a w) {o : Oper} {so : SOper} {ρ : Rc} (hc : coper P c.n ops o = some so) (hv : Val P C so E ρ) (hng : noGlob ρ) {rd : Option Nat} {K : Act → World → Prop} {Q : Exit → Act → World → Prop}
    (hK : ∀ a' w', (∃ φ', SimA c φ' (ap so.dst ρ E) a' w') → K a' w') : if Region.wanted o (yielded ops a.tmps) then o.wpIn (FW rd) 0 P a w K Q else (∀ f, o.about P w a.eval = some f → (FW rd).fn f) ∧ K (a.put o.dst undef) w := by
  obtain ⟨hcop, hdst, hd, hg⟩ := coper_spec hc
  have hopw : ∀ E' r, OpVal P C E' so.dst r so.op → (∀ p ∈ r.ups, p.1.isGlob = false) → OpW P C [] 0 [] o.dst E' (fun r' => r' = r) so.op := by
    intro E' r h1 h2
    have hok : okLog [] 0 [] r = true := by
      unfold okLog
      simp only [List.all_nil, Bool.true_and, List.all_eq_true]
      intro p hp
      simp [h2 p hp]
    unfold OpVal at h1
    unfold OpW
    rw [← hdst]
    split at h1
    · rename_i f args he; rw [he]; exact ⟨r, h1, hok, rfl⟩
    · rename_i x args he; rw [he]; obtain ⟨f, pre, caps, h3, h4⟩ := h1; exact ⟨f, pre, caps, r, h3, h4, hok, rfl⟩
    · rename_i h3 h4
      split
      · exact absurd (by assumption) (h3 _ _)
      · exact absurd (by assumption) (h4 _ _)
      · exact ⟨r, h1, hok, rfl⟩
  cases ρ with
  | skip =>
    obtain ⟨t, want, h1, h2⟩ := hv
    rcases hg with ⟨_, hg2⟩ | ⟨j, u, b', hg1, hg2, hg3⟩
    · rw [hg2] at h1; simp at h1
    · rw [hg3] at h1
      simp at h1
      obtain ⟨rfl, rfl⟩ := h1
      have hw : Region.wanted o (yielded ops a.tmps) = false := by
        rcases h2 with h2 | ⟨b, h2, h3⟩
        · exact guard_und h hg1 hg2 h2
        · rw [guard_wanted h hg1 hg2 h2]; simpa using h3
      rw [hw, if_neg (by simp)]
      refine ⟨fun _ _ => trivial, hK _ _ ⟨φ, ?_⟩⟩
      rw [hdst]
      exact h.put hd repV_und
  | run r =>
    obtain ⟨h1, h2⟩ := hv
    have hw : Region.wanted o (yielded ops a.tmps) = true := by
      rcases hg with ⟨hg1, _⟩ | ⟨j, u, b', hg1, hg2, hg3⟩
      · simp [Region.wanted, hg1]
      · rcases h1 with h1 | ⟨t, want, h1, h3⟩
        · rw [hg3] at h1; simp at h1
        · rw [hg3] at h1
          simp at h1
          obtain ⟨rfl, rfl⟩ := h1
          rw [guard_wanted h hg1 hg2 h3]; simp
    rw [if_pos hw]
    obtain ⟨r', _, rfl, h5⟩ := op_sound (Q := Q) hC h hd hcop (hopw E r h2 hng)
    exact h5 K fun a' w' hs => hK a' w' (by rw [hdst]; exact hs)
  | und b want r =>
    obtain ⟨t, h1, h2, h3, h4⟩ := hv
    rcases hg with ⟨_, hg2⟩ | ⟨j, u, b', hg1, hg2, hg3⟩
    · rw [hg2] at h1; simp at h1
    · rw [hg3] at h1
      simp at h1
      obtain ⟨rfl, rfl⟩ := h1
      rw [guard_wanted h hg1 hg2 h2]
      by_cases hb : (b == b') = true
      · rw [if_pos hb]
        have hbe : b = b' := by simpa using hb
        obtain ⟨r', _, rfl, h5⟩ := op_sound (Q := Q) hC (h.under hbe) hd hcop (hopw _ r h4 (by rw [h3]; simp))
        refine h5 K fun a' w' hs => hK a' w' ?_
        obtain ⟨φ', hs⟩ := hs
        have : r'.apply o.dst (E.under b b') = (E.under b b').putO o.dst r'.d := by
          unfold Res.apply; rw [h3]; rfl
        rw [this] at hs
        exact ⟨φ', by rw [hdst]; exact hs.under_put⟩
      · rw [if_neg hb]
        have hbe : ¬ b = b' := by simpa using hb
        refine ⟨fun _ _ => trivial, hK _ _ ⟨φ, ?_⟩⟩
        rw [hdst]
        exact h.put hd (.wh fun e => absurd e hbe)
theorem any_sound {Rl : Ctx → Env → Prop} (hR : RlOk Rl c.n) (hC : CSound P C) {rd : Option Nat} {sl : List SOper} {G : Nat → Rc} {K : Env → Prop} {Q : Exit → Act → World → Prop} (hsl : ops.toList.mapM (coper P c.n ops) = some sl) (hng : ∀ i, noGlob (G i)) (hK : ∀ E φ a w, Rl c E → K E → SimA c φ E a w → Q .normal a w) :
    ∀ (fuel : Nat) (listed : Array Bool) (E : Env) (φ : Nm → Place) (a : Act) (w : World), Rl c E → wpAnyA P C ops sl G K fuel listed E → SimA c φ E a w → wpAnyIn (FW rd) 0 P .any ops Q fuel listed a w
  | 0, _, E, φ, a, w, hRl, h, hs => ⟨h.1, hK E φ a w hRl h.2 hs⟩
  | fuel + 1, listed, E, φ, a, w, hRl, h, hs => by
    refine ⟨fun h0 => hK E φ a w hRl (h.1 h0) hs, fun i hi => ?_⟩
    obtain ⟨so, h1, h2, h3⟩ := h.2 i hi
    obtain ⟨_, o, ho, _⟩ := mem_ready.1 hi
    obtain ⟨hlen, hget⟩ := mapM_some hsl
    have hc := hget i o so (by simpa using ho) h1
    obtain ⟨_, hdst, hd, _⟩ := coper_spec hc
    have hRl' : Rl c (ap so.dst (G i) E) := hR.put _ _ _ _ (hR.upd _ _ _ hRl) (by rw [hdst]; exact hd)
    unfold wpOpIn
    rw [ho]
    exact val_step hC hs hc h2 (hng i) fun a' w' ⟨φ', hs'⟩ => any_sound hR hC hsl hng hK fuel _ _ φ' a' w' hRl' h3 hs'
theorem getD_repl (n m : Nat) : (Array.replicate n false).getD m false = false := by
  by_cases h : m < n <;> simp [Array.getD, h]
theorem drawn_sound {Rl : Ctx → Env → Prop} (hR : RlOk Rl c.n) (hRl : Rl c E) {rd : Option Nat} (hC : CSound P C) (hL : CLocal C) (hm : P.follows .mixedOrders = true) {id : Nat} (hB : Region.lexB .any ops = true) {sl : List SOper} (hsl : ops.toList.mapM (coper P c.n ops) = some sl) {K : Env → Prop} {Q : Exit → Act → World → Prop}
    (hK : ∀ E φ a w, Rl c E → K E → SimA c φ E a w → Q .normal a w) (h : SimA c φ E a w) (hw : OpsW P C ((1000000, 1000000) :: openPairs ops (sl.map fun o => o.op.mem)) 0 [] sl E K) : (Code.region id ops true).wpIn (FW rd) 0 P Q a w := by
  obtain ⟨ρs, hch⟩ := chain_of (by simp) sl 0 [] E hw
  have hlen := chain_len _ _ _ _ _ hch
  obtain ⟨hml, hget⟩ := mapM_some hsl
  have hso : sl.length = ops.size := by rw [← hml]; simp
  have hng : ∀ i, noGlob (ρs.getD i .skip) := by
    intro i
    cases hi : ρs[i]? with
    | none => simp [List.getD, hi, noGlob, Rc.ups]
    | some ρ => simp only [List.getD, hi, Option.getD_some]; exact (chain_log _ _ _ _ _ hch i ρ hi).1
  simp only [Region.lexB, Bool.and_eq_true] at hB
  have hdrew : SimA c φ E a { w with drawn := w.drawn + 1 } := by
    have := h.upd (φ' := φ) (w' := w.drew) (ups := []) (Nat.le_refl _) rfl rfl rfl (fun b hb => .inl rfl) (fun _ _ => rfl) (fun s r hl => by simp [List.lookup] at hl) (fun s s' r r' h1 h2 => h.inj s s' r r' h1 h2) (fun b _ hM => hM) (fun g _ hg => by simp [List.lookup] at hg)
    exact this
  refine wpIn_region_any hm (any_sound hR (sl := sl) (G := fun i => ρs.getD i .skip) hC hsl hng hK _ _ E φ a _ hRl ?_ hdrew)
  have hind : ∀ (k j : Nat) (sk sj : SOper), k < j → sl[k]? = some sk → sl[j]? = some sj → k ∉ (befs ops.toList []).getD j [] → (∀ ok oj, ops[k]? = some ok → ops[j]? = some oj → ok.apart ops oj = true) → Indep P C sk (ρs.getD k .skip) sj (ρs.getD j .skip) := by
    intro k j sk sj hkj hk hj hnot hap
    have hkl : k < sl.length := (List.getElem?_eq_some_iff.1 hk).1
    have hjl : j < sl.length := (List.getElem?_eq_some_iff.1 hj).1
    have hko : k < ops.size := by omega
    have hjo : j < ops.size := by omega
    have hck := hget k ops[k] sk (by simp [hko]) hk
    have hcj := hget j ops[j] sj (by simp [hjo]) hj
    obtain ⟨a1, a2, a3⟩ := Oper.apart_spec (hap _ _ (Array.getElem?_eq_getElem hko) (Array.getElem?_eq_getElem hjo))
    have dk := (coper_spec hck).2.1
    have dj := (coper_spec hcj).2.1
    have hkρ : ρs[k]? = some (ρs.getD k .skip) := by simp [List.getD, List.getElem?_eq_getElem (show k < ρs.length by omega)]
    have hjρ : ρs[j]? = some (ρs.getD j .skip) := by simp [List.getD, List.getElem?_eq_getElem (show j < ρs.length by omega)]
    -- what they meet in memory
    have hfoot : (∀ s ∈ (ρs.getD j .skip).ups.map (·.1), s ∉ (ρs.getD k .skip).rd ∧ s ∉ (ρs.getD k .skip).ups.map (·.1)) ∧ (∀ s ∈ (ρs.getD k .skip).ups.map (·.1), s ∉ (ρs.getD j .skip).rd) := by
      have hval : ∀ (i : Nat) (si : SOper), sl[i]? = some si → si.op.mem = false → (ρs.getD i .skip).rd = [] ∧ (ρs.getD i .skip).ups = [] := by
        intro i si hi hmem
        have : ∀ (sl : List SOper) (ix : Nat) (log : List Log) (E : Env) (ρs : List Rc), Chain P C ((1000000, 1000000) :: openPairs ops (sl.map fun o => o.op.mem)) K ix log sl E ρs → True := fun _ _ _ _ _ _ => trivial
        clear this
        have key : ∀ (pr : List (Nat × Nat)) (sl : List SOper) (ix : Nat) (log : List Log) (E : Env) (ρs : List Rc), Chain P C pr K ix log sl E ρs → ∀ i si, sl[i]? = some si → ∃ E', Val P C si E' (ρs.getD i .skip) := by
          intro pr sl
          induction sl with
          | nil => intro _ _ _ _ _ i si hi; simp at hi
          | cons so sl ih =>
            intro ix log E ρs hch i si hi
            obtain ⟨ρ, rest, rfl, hv, _, _, hch⟩ := hch
            cases i with
            | zero => simp at hi; subst hi; exact ⟨E, hv⟩
            | succ i => exact ih _ _ _ _ hch i si (by simpa using hi)
        obtain ⟨E', hv⟩ := key _ _ _ _ _ _ hch i si hi
        exact val_no_mem hmem hv
      by_cases hmk : sk.op.mem = true
      · by_cases hmj : sj.op.mem = true
        · have hpr : ((1000000, 1000000) :: openPairs ops (sl.map fun o => o.op.mem)).contains (0 + k, 0 + j) = true := by
            rw [List.contains_iff_mem, Nat.zero_add, Nat.zero_add]
            refine List.mem_cons_of_mem _ ?_
            unfold openPairs
            simp only [List.mem_flatMap, List.mem_range]
            refine ⟨j, hjo, ?_⟩
            have e1 : (sl.map fun o => o.op.mem).getD j true = true := by simp [List.getD, hj, hmj]
            have e2 : (sl.map fun o => o.op.mem).getD k true = true := by simp [List.getD, hk, hmk]
            rw [if_pos e1, List.mem_filterMap]
            refine ⟨k, by simpa using hkj, ?_⟩
            rw [e2]
            have : ((befs ops.toList []).getD j []).contains k = false := by
              rw [Bool.eq_false_iff]
              intro hh
              exact hnot (List.contains_iff_mem.1 hh)
            rw [this]
            simp
          rcases chain_pair _ _ _ _ _ hch k j _ _ hkj hkρ hjρ hpr with ⟨h1, h2⟩ | h1
          · rw [h1, h2]; simp
          · unfold apartL at h1
            simp only [Bool.and_eq_true, List.all_eq_true, Bool.not_eq_true'] at h1
            obtain ⟨h2, h3⟩ := h1
            refine ⟨fun s hs => ⟨fun hr => ?_, fun hu => ?_⟩, fun s hs hr => ?_⟩
            · have := h3 s hr
              rw [List.contains_iff_mem.2 hs] at this; cases this
            · have := (h2 s hu).2
              rw [List.contains_iff_mem.2 hs] at this; cases this
            · have := (h2 s hs).1
              rw [List.contains_iff_mem.2 hr] at this; cases this
        · obtain ⟨h1, h2⟩ := hval j sj hj (by simpa using hmj)
          rw [h1, h2]; simp
      · obtain ⟨h1, h2⟩ := hval k sk hk (by simpa using hmk)
        rw [h1, h2]; simp
    refine indep_of hL (fun d hd hl => ?_) (fun d hd hl => ?_) (fun d hd he => ?_) hfoot.1 hfoot.2 (hng k) (hng j)
    · rw [dj] at hd; exact a3 d hd (looks_sub hck d hl)
    · rw [dk] at hd; exact a1 d hd (looks_sub hcj d hl)
    · rw [dk] at hd; rw [dj] at he; exact a2 d hd he
  have := wpAnyA_lex (P := P) (C := C) (ops := ops) (sl := sl) (G := fun i => ρs.getD i .skip) (K := K) hind hso sl 0 [] (Array.replicate ops.size false) E ρs (by simp) hch (fun j ρ hj => by simp [List.getD, hj]) (by rw [hso]; exact hB.2) (fun m o _ hl => by rw [getD_repl] at hl; cases hl) (fun m _ => Nat.zero_le _)
  rw [hso] at this
  exact this
end Go.Wt
