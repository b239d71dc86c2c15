/-
  No cell of these rows narrows 'for every input' (looked for: loops, veiled, ifaces, maps, wideKeys, modest, calm, conditions, laid).
  DERIVED. THE GIVEN ROWS OF THIS SEAT. 8 by the template 'for every input the law returns true; each argument reads behind the call as it read before'; 0 by the template 'total and deterministic' (their statements: YtceamgkifjmbcaaTotals.lean).
  GIVEN WITH THE SEED: the statements are not yours to turn. If you find one false, say at which input.
  Laid BY PROGRAM, IN A SANDBOX (cutbox-rows.mjs): the forced cells as the released guide's own fill.sh prints them over the translation b0ce3567bc31f2e0… (all of the seat's roots in one cut). By AI agents, Wed Nov 11 2026. No macro, syntax, notation, axiom, sorry.
-/
import Derived.Test.YtceamgkifjmbcaaChecked
import GoSem.Claim
import GoSem.ClaimJoined
import GoSem.ClaimMapViews
import Derived.JoinedTies
import Derived.KernelRfl
namespace Go.Proofs.Ytceamgkifjmbcaa
/- THE CELL 'sum', in the pinned program and in every row, IS THE sha256 OF THE DUMP (.gsa) THAT YtceamgkifjmbcaaProg.lean LOADS. Nothing in Lean hashes anything: it is a label: what it is worth is what the hold of that sum in a sandbox is worth. -/
noncomputable def Try.pinned : Pinned := { name := "ytceamgkifjmbcaa", sum := "b0ce3567bc31f2e00bcb7d690ff98b66b5fdb6f6f70cfbd7d9cd6c7db870132b", checked := Try.checked }
namespace Rows
def none {H : Type} : Left H := { results := [], args := [] }

/-- 'watermeetlaw13.CleanDoes': WHATEVER THE INPUT: true; the input reads as it did. -/
def cleanDoesSpec : ChangeSpec := { name := "cleanDoes", fn := fun _ => fun
  | [d1, d2, d3, d4, d5] => { results := [.lit (.bool true)], args := [d1, d2, d3, d4, d5] }
  | _ => none }
def cleanDoesRow : OpenClaim := { program := "ytceamgkifjmbcaa", sum := "b0ce3567bc31f2e00bcb7d690ff98b66b5fdb6f6f70cfbd7d9cd6c7db870132b", func := "watermeet/watermeetlaw13.CleanDoes", spec := "cleanDoes", unfollowed := true, recurses := true, apart := false }
def CleanDoesSaid : Prop := cleanDoesRow.holds Try.pinned (OpenSpec.ofChange cleanDoesSpec)

/-- ITS FALSE NEIGHBOUR: 'it returns false'. Refute it at one input. -/
def cleanDoesWrong : ChangeSpec := { name := "cleanDoes", fn := fun _ => fun
  | [d1, d2, d3, d4, d5] => { results := [.lit (.bool false)], args := [d1, d2, d3, d4, d5] }
  | _ => none }
def CleanDoesWrongFalsely : Prop := cleanDoesRow.holds Try.pinned (OpenSpec.ofChange cleanDoesWrong)

/-- 'watermeetlaw13.CleanKeeps': WHATEVER THE INPUT: true; the input reads as it did. -/
def cleanKeepsSpec : ChangeSpec := { name := "cleanKeeps", fn := fun _ => fun
  | [d1, d2, d3, d4, d5] => { results := [.lit (.bool true)], args := [d1, d2, d3, d4, d5] }
  | _ => none }
def cleanKeepsRow : OpenClaim := { program := "ytceamgkifjmbcaa", sum := "b0ce3567bc31f2e00bcb7d690ff98b66b5fdb6f6f70cfbd7d9cd6c7db870132b", func := "watermeet/watermeetlaw13.CleanKeeps", spec := "cleanKeeps", unfollowed := true, recurses := true, apart := false }
def CleanKeepsSaid : Prop := cleanKeepsRow.holds Try.pinned (OpenSpec.ofChange cleanKeepsSpec)

/-- ITS FALSE NEIGHBOUR: 'it returns false'. Refute it at one input. -/
def cleanKeepsWrong : ChangeSpec := { name := "cleanKeeps", fn := fun _ => fun
  | [d1, d2, d3, d4, d5] => { results := [.lit (.bool false)], args := [d1, d2, d3, d4, d5] }
  | _ => none }
def CleanKeepsWrongFalsely : Prop := cleanKeepsRow.holds Try.pinned (OpenSpec.ofChange cleanKeepsWrong)

/-- 'watermeetlaw13.CleanOnce': WHATEVER THE INPUT: true; the input reads as it did. -/
def cleanOnceSpec : ChangeSpec := { name := "cleanOnce", fn := fun _ => fun
  | [d1, d2, d3, d4, d5] => { results := [.lit (.bool true)], args := [d1, d2, d3, d4, d5] }
  | _ => none }
def cleanOnceRow : OpenClaim := { program := "ytceamgkifjmbcaa", sum := "b0ce3567bc31f2e00bcb7d690ff98b66b5fdb6f6f70cfbd7d9cd6c7db870132b", func := "watermeet/watermeetlaw13.CleanOnce", spec := "cleanOnce", unfollowed := true, recurses := true, apart := false }
def CleanOnceSaid : Prop := cleanOnceRow.holds Try.pinned (OpenSpec.ofChange cleanOnceSpec)

/-- ITS FALSE NEIGHBOUR: 'it returns false'. Refute it at one input. -/
def cleanOnceWrong : ChangeSpec := { name := "cleanOnce", fn := fun _ => fun
  | [d1, d2, d3, d4, d5] => { results := [.lit (.bool false)], args := [d1, d2, d3, d4, d5] }
  | _ => none }
def CleanOnceWrongFalsely : Prop := cleanOnceRow.holds Try.pinned (OpenSpec.ofChange cleanOnceWrong)

/-- 'watermeetlaw13.CleanDead': WHATEVER THE INPUT: true; the input reads as it did. -/
def cleanDeadSpec : ChangeSpec := { name := "cleanDead", fn := fun _ => fun
  | [d1, d2, d3] => { results := [.lit (.bool true)], args := [d1, d2, d3] }
  | _ => none }
def cleanDeadRow : OpenClaim := { program := "ytceamgkifjmbcaa", sum := "b0ce3567bc31f2e00bcb7d690ff98b66b5fdb6f6f70cfbd7d9cd6c7db870132b", func := "watermeet/watermeetlaw13.CleanDead", spec := "cleanDead", unfollowed := true, recurses := true, apart := false }
def CleanDeadSaid : Prop := cleanDeadRow.holds Try.pinned (OpenSpec.ofChange cleanDeadSpec)

/-- ITS FALSE NEIGHBOUR: 'it returns false'. Refute it at one input. -/
def cleanDeadWrong : ChangeSpec := { name := "cleanDead", fn := fun _ => fun
  | [d1, d2, d3] => { results := [.lit (.bool false)], args := [d1, d2, d3] }
  | _ => none }
def CleanDeadWrongFalsely : Prop := cleanDeadRow.holds Try.pinned (OpenSpec.ofChange cleanDeadWrong)

/-- 'watermeetlaw13.CleanRight': WHATEVER THE INPUT: true; the input reads as it did. -/
def cleanRightSpec : ChangeSpec := { name := "cleanRight", fn := fun _ => fun
  | [d1, d2, d3, d4, d5] => { results := [.lit (.bool true)], args := [d1, d2, d3, d4, d5] }
  | _ => none }
def cleanRightRow : OpenClaim := { program := "ytceamgkifjmbcaa", sum := "b0ce3567bc31f2e00bcb7d690ff98b66b5fdb6f6f70cfbd7d9cd6c7db870132b", func := "watermeet/watermeetlaw13.CleanRight", spec := "cleanRight", unfollowed := true, recurses := true, apart := false }
def CleanRightSaid : Prop := cleanRightRow.holds Try.pinned (OpenSpec.ofChange cleanRightSpec)

/-- ITS FALSE NEIGHBOUR: 'it returns false'. Refute it at one input. -/
def cleanRightWrong : ChangeSpec := { name := "cleanRight", fn := fun _ => fun
  | [d1, d2, d3, d4, d5] => { results := [.lit (.bool false)], args := [d1, d2, d3, d4, d5] }
  | _ => none }
def CleanRightWrongFalsely : Prop := cleanRightRow.holds Try.pinned (OpenSpec.ofChange cleanRightWrong)

/-- 'watermeetlaw13.CleanLazy': WHATEVER THE INPUT: true; the input reads as it did. -/
def cleanLazySpec : ChangeSpec := { name := "cleanLazy", fn := fun _ => fun
  | [d1, d2, d3, d4, d5, d6] => { results := [.lit (.bool true)], args := [d1, d2, d3, d4, d5, d6] }
  | _ => none }
def cleanLazyRow : OpenClaim := { program := "ytceamgkifjmbcaa", sum := "b0ce3567bc31f2e00bcb7d690ff98b66b5fdb6f6f70cfbd7d9cd6c7db870132b", func := "watermeet/watermeetlaw13.CleanLazy", spec := "cleanLazy", unfollowed := true, recurses := true, apart := false }
def CleanLazySaid : Prop := cleanLazyRow.holds Try.pinned (OpenSpec.ofChange cleanLazySpec)

/-- ITS FALSE NEIGHBOUR: 'it returns false'. Refute it at one input. -/
def cleanLazyWrong : ChangeSpec := { name := "cleanLazy", fn := fun _ => fun
  | [d1, d2, d3, d4, d5, d6] => { results := [.lit (.bool false)], args := [d1, d2, d3, d4, d5, d6] }
  | _ => none }
def CleanLazyWrongFalsely : Prop := cleanLazyRow.holds Try.pinned (OpenSpec.ofChange cleanLazyWrong)

/-- 'watermeetlaw13.CleanMarks': WHATEVER THE INPUT: true; the input reads as it did. -/
def cleanMarksSpec : ChangeSpec := { name := "cleanMarks", fn := fun _ => fun
  | [d1, d2] => { results := [.lit (.bool true)], args := [d1, d2] }
  | _ => none }
def cleanMarksRow : OpenClaim := { program := "ytceamgkifjmbcaa", sum := "b0ce3567bc31f2e00bcb7d690ff98b66b5fdb6f6f70cfbd7d9cd6c7db870132b", func := "watermeet/watermeetlaw13.CleanMarks", spec := "cleanMarks", unfollowed := true, recurses := true, apart := false }
def CleanMarksSaid : Prop := cleanMarksRow.holds Try.pinned (OpenSpec.ofChange cleanMarksSpec)

/-- ITS FALSE NEIGHBOUR: 'it returns false'. Refute it at one input. -/
def cleanMarksWrong : ChangeSpec := { name := "cleanMarks", fn := fun _ => fun
  | [d1, d2] => { results := [.lit (.bool false)], args := [d1, d2] }
  | _ => none }
def CleanMarksWrongFalsely : Prop := cleanMarksRow.holds Try.pinned (OpenSpec.ofChange cleanMarksWrong)

/-- 'watermeetlaw13.CleanTells': WHATEVER THE INPUT: true; the input reads as it did. -/
def cleanTellsSpec : ChangeSpec := { name := "cleanTells", fn := fun _ => fun
  | [d1, d2, d3] => { results := [.lit (.bool true)], args := [d1, d2, d3] }
  | _ => none }
def cleanTellsRow : OpenClaim := { program := "ytceamgkifjmbcaa", sum := "b0ce3567bc31f2e00bcb7d690ff98b66b5fdb6f6f70cfbd7d9cd6c7db870132b", func := "watermeet/watermeetlaw13.CleanTells", spec := "cleanTells", unfollowed := true, recurses := true, apart := false }
def CleanTellsSaid : Prop := cleanTellsRow.holds Try.pinned (OpenSpec.ofChange cleanTellsSpec)

/-- ITS FALSE NEIGHBOUR: 'it returns false'. Refute it at one input. -/
def cleanTellsWrong : ChangeSpec := { name := "cleanTells", fn := fun _ => fun
  | [d1, d2, d3] => { results := [.lit (.bool false)], args := [d1, d2, d3] }
  | _ => none }
def CleanTellsWrongFalsely : Prop := cleanTellsRow.holds Try.pinned (OpenSpec.ofChange cleanTellsWrong)

/- THE SECOND FORM. 'bulk': how many values and letters a reading holds, each counted each time it is reached (what is shared counts as often as it is met; a slice's spare places count too). A statement '..UptoSaid' is the law's where the arguments, and the package variables that the reading takes, are together of bulk at most 1048576: NARROWER than '..Said'. Prove '..Said' where nothing that the law and all that it calls make is longer than what came in: it says more and counts as full. Else prove '..UptoSaid'. A law counts once. -/
mutual
def uptoBulk {H : Type} : DataW H → Nat
  | .lit (.string bytes) => bytes.length + 1
  | .lit _ => 1
  | .nil => 1
  | .ptr d => uptoBulk d + 1
  | .slice elems spare => uptoBulkAll elems + uptoBulkAll spare + 1
  | .agg parts => uptoBulkAll parts + 1
  | .iface _ d => uptoBulk d + 1
  | .map entries => uptoBulkEntries entries + 1
  | .held _ => 1
def uptoBulkAll {H : Type} : List (DataW H) → Nat
  | [] => 0
  | d :: r => uptoBulk d + uptoBulkAll r
def uptoBulkEntries {H : Type} : List (Lit × DataW H) → Nat
  | [] => 0
  | x :: r => uptoBulkEntry x + uptoBulkEntries r
def uptoBulkEntry {H : Type} : Lit × DataW H → Nat
  | (.string bytes, d) => bytes.length + uptoBulk d + 1
  | (_, d) => uptoBulk d + 1
 end
def uptoSmall : (H : Type) → List (DataW H) → Bool := fun _ ds => decide (uptoBulkAll ds ≤ 1048576)
def OpenSpec.upto (s : _root_.Go.ChangeSpec) : _root_.Go.OpenSpec := { _root_.Go.OpenSpec.ofChange s with cond := some uptoSmall }

/-- 'watermeetlaw13.CleanDoes', WHERE WHAT IT READS IS OF BULK AT MOST 1048576: true; the input reads as it did. -/
def cleanDoesUptoRow : OpenClaim := { program := "ytceamgkifjmbcaa", sum := "b0ce3567bc31f2e00bcb7d690ff98b66b5fdb6f6f70cfbd7d9cd6c7db870132b", func := "watermeet/watermeetlaw13.CleanDoes", spec := "cleanDoes", unfollowed := true, recurses := true, apart := false, narrowed := true }
def CleanDoesUptoSaid : Prop := cleanDoesUptoRow.holds Try.pinned (OpenSpec.upto cleanDoesSpec)

/-- 'watermeetlaw13.CleanKeeps', WHERE WHAT IT READS IS OF BULK AT MOST 1048576: true; the input reads as it did. -/
def cleanKeepsUptoRow : OpenClaim := { program := "ytceamgkifjmbcaa", sum := "b0ce3567bc31f2e00bcb7d690ff98b66b5fdb6f6f70cfbd7d9cd6c7db870132b", func := "watermeet/watermeetlaw13.CleanKeeps", spec := "cleanKeeps", unfollowed := true, recurses := true, apart := false, narrowed := true }
def CleanKeepsUptoSaid : Prop := cleanKeepsUptoRow.holds Try.pinned (OpenSpec.upto cleanKeepsSpec)

/-- 'watermeetlaw13.CleanOnce', WHERE WHAT IT READS IS OF BULK AT MOST 1048576: true; the input reads as it did. -/
def cleanOnceUptoRow : OpenClaim := { program := "ytceamgkifjmbcaa", sum := "b0ce3567bc31f2e00bcb7d690ff98b66b5fdb6f6f70cfbd7d9cd6c7db870132b", func := "watermeet/watermeetlaw13.CleanOnce", spec := "cleanOnce", unfollowed := true, recurses := true, apart := false, narrowed := true }
def CleanOnceUptoSaid : Prop := cleanOnceUptoRow.holds Try.pinned (OpenSpec.upto cleanOnceSpec)

/-- 'watermeetlaw13.CleanDead', WHERE WHAT IT READS IS OF BULK AT MOST 1048576: true; the input reads as it did. -/
def cleanDeadUptoRow : OpenClaim := { program := "ytceamgkifjmbcaa", sum := "b0ce3567bc31f2e00bcb7d690ff98b66b5fdb6f6f70cfbd7d9cd6c7db870132b", func := "watermeet/watermeetlaw13.CleanDead", spec := "cleanDead", unfollowed := true, recurses := true, apart := false, narrowed := true }
def CleanDeadUptoSaid : Prop := cleanDeadUptoRow.holds Try.pinned (OpenSpec.upto cleanDeadSpec)

/-- 'watermeetlaw13.CleanRight', WHERE WHAT IT READS IS OF BULK AT MOST 1048576: true; the input reads as it did. -/
def cleanRightUptoRow : OpenClaim := { program := "ytceamgkifjmbcaa", sum := "b0ce3567bc31f2e00bcb7d690ff98b66b5fdb6f6f70cfbd7d9cd6c7db870132b", func := "watermeet/watermeetlaw13.CleanRight", spec := "cleanRight", unfollowed := true, recurses := true, apart := false, narrowed := true }
def CleanRightUptoSaid : Prop := cleanRightUptoRow.holds Try.pinned (OpenSpec.upto cleanRightSpec)

/-- 'watermeetlaw13.CleanLazy', WHERE WHAT IT READS IS OF BULK AT MOST 1048576: true; the input reads as it did. -/
def cleanLazyUptoRow : OpenClaim := { program := "ytceamgkifjmbcaa", sum := "b0ce3567bc31f2e00bcb7d690ff98b66b5fdb6f6f70cfbd7d9cd6c7db870132b", func := "watermeet/watermeetlaw13.CleanLazy", spec := "cleanLazy", unfollowed := true, recurses := true, apart := false, narrowed := true }
def CleanLazyUptoSaid : Prop := cleanLazyUptoRow.holds Try.pinned (OpenSpec.upto cleanLazySpec)

/-- 'watermeetlaw13.CleanMarks', WHERE WHAT IT READS IS OF BULK AT MOST 1048576: true; the input reads as it did. -/
def cleanMarksUptoRow : OpenClaim := { program := "ytceamgkifjmbcaa", sum := "b0ce3567bc31f2e00bcb7d690ff98b66b5fdb6f6f70cfbd7d9cd6c7db870132b", func := "watermeet/watermeetlaw13.CleanMarks", spec := "cleanMarks", unfollowed := true, recurses := true, apart := false, narrowed := true }
def CleanMarksUptoSaid : Prop := cleanMarksUptoRow.holds Try.pinned (OpenSpec.upto cleanMarksSpec)

/-- 'watermeetlaw13.CleanTells', WHERE WHAT IT READS IS OF BULK AT MOST 1048576: true; the input reads as it did. -/
def cleanTellsUptoRow : OpenClaim := { program := "ytceamgkifjmbcaa", sum := "b0ce3567bc31f2e00bcb7d690ff98b66b5fdb6f6f70cfbd7d9cd6c7db870132b", func := "watermeet/watermeetlaw13.CleanTells", spec := "cleanTells", unfollowed := true, recurses := true, apart := false, narrowed := true }
def CleanTellsUptoSaid : Prop := cleanTellsUptoRow.holds Try.pinned (OpenSpec.upto cleanTellsSpec)

end Rows
end Go.Proofs.Ytceamgkifjmbcaa
