/-
  No cell of these rows narrows 'for every input' (looked for: loops, veiled, ifaces, maps, wideKeys, modest, calm, conditions, laid).
  DERIVED. THE GIVEN ROWS OF THIS SEAT. 2 by the template 'for every input the law returns true; each argument reads behind the call as it read before'; 0 by the template 'total and deterministic' (their statements: YtbeiejanhoiodaaGreatTotals.lean).
  GIVEN WITH THE SEED: the statements are not yours to turn. If you find one false, say at which input.
  Laid BY PROGRAM, IN A SANDBOX (cutbox-rows.mjs): the forced cells as the released guide's own fill.sh prints them over the translation 202f8033a19dfe3c… (all of the seat's roots in one cut). By AI agents, Wed Nov 11 2026. No macro, syntax, notation, axiom, sorry.
-/
import Derived.Test.YtbeiejanhoiodaaGreatChecked
import GoSem.Claim
import GoSem.ClaimJoined
import GoSem.ClaimMapViews
import Derived.JoinedTies
import Derived.KernelRfl
namespace Go.Proofs.YtbeiejanhoiodaaGreat
/- THE CELL 'sum', in the pinned program and in every row, IS THE sha256 OF THE DUMP (.gsa) THAT YtbeiejanhoiodaaGreatProg.lean LOADS. Nothing in Lean hashes anything: it is a label: what it is worth is what the hold of that sum in a sandbox is worth. -/
noncomputable def Tryz.pinned : Pinned := { name := "ytbeiejanhoiodaagreat", sum := "202f8033a19dfe3c63cb10361686b6a77f9a9e0f62f4b5e995dc7e24d5204b58", checked := Tryz.checked }
namespace Rows
def none {H : Type} : Left H := { results := [], args := [] }

/-- 'watermeetlaw26.ReaderLooks': WHATEVER THE INPUT: true; the input reads as it did. -/
def readerLooksSpec : ChangeSpec := { name := "readerLooks", fn := fun _ => fun
  | [d1, d2, d3, d4] => { results := [.lit (.bool true)], args := [d1, d2, d3, d4] }
  | _ => none }
def readerLooksRow : OpenClaim := { program := "ytbeiejanhoiodaagreat", sum := "202f8033a19dfe3c63cb10361686b6a77f9a9e0f62f4b5e995dc7e24d5204b58", func := "watermeet/watermeetlaw26.ReaderLooks", spec := "readerLooks", inPlace := ["slices.overlaps[watermeet/api.Way]", "slices.overlaps[watermeet/api.Topic]", "slices.overlaps[watermeet/api.Rule]", "slices.overlaps[watermeet/api.Rate]", "slices.overlaps[watermeet/api.Slot]", "internal/bytealg.abigen_runtime_cmpstring"], unfollowed := true, recurses := true, plainKeys := false, apart := false }
def ReaderLooksSaid : Prop := readerLooksRow.holds Tryz.pinned (OpenSpec.ofChange readerLooksSpec)

/-- ITS FALSE NEIGHBOUR: 'it returns false'. Refute it at one input. -/
def readerLooksWrong : ChangeSpec := { name := "readerLooks", fn := fun _ => fun
  | [d1, d2, d3, d4] => { results := [.lit (.bool false)], args := [d1, d2, d3, d4] }
  | _ => none }
def ReaderLooksWrongFalsely : Prop := readerLooksRow.holds Tryz.pinned (OpenSpec.ofChange readerLooksWrong)

/-- 'watermeetlaw26.ReaderSits': WHATEVER THE INPUT: true; the input reads as it did. -/
def readerSitsSpec : ChangeSpec := { name := "readerSits", fn := fun _ => fun
  | [d1, d2, d3, d4] => { results := [.lit (.bool true)], args := [d1, d2, d3, d4] }
  | _ => none }
def readerSitsRow : OpenClaim := { program := "ytbeiejanhoiodaagreat", sum := "202f8033a19dfe3c63cb10361686b6a77f9a9e0f62f4b5e995dc7e24d5204b58", func := "watermeet/watermeetlaw26.ReaderSits", spec := "readerSits", inPlace := ["slices.overlaps[watermeet/api.Way]", "slices.overlaps[watermeet/api.Topic]", "slices.overlaps[watermeet/api.Rule]", "slices.overlaps[watermeet/api.Rate]", "slices.overlaps[watermeet/api.Slot]", "internal/bytealg.abigen_runtime_cmpstring"], unfollowed := true, recurses := true, plainKeys := false, apart := false }
def ReaderSitsSaid : Prop := readerSitsRow.holds Tryz.pinned (OpenSpec.ofChange readerSitsSpec)

/-- ITS FALSE NEIGHBOUR: 'it returns false'. Refute it at one input. -/
def readerSitsWrong : ChangeSpec := { name := "readerSits", fn := fun _ => fun
  | [d1, d2, d3, d4] => { results := [.lit (.bool false)], args := [d1, d2, d3, d4] }
  | _ => none }
def ReaderSitsWrongFalsely : Prop := readerSitsRow.holds Tryz.pinned (OpenSpec.ofChange readerSitsWrong)

/- THE SECOND FORM. 'bulk': how many values and letters a reading holds, each counted each time it is reached (what is shared counts as often as it is met; a slice's spare places count too). A statement '..UptoSaid' is the law's where the arguments, and the package variables that the reading takes, are together of bulk at most 1048576: NARROWER than '..Said'. Prove '..Said' where nothing that the law and all that it calls make is longer than what came in: it says more and counts as full. Else prove '..UptoSaid'. A law counts once. -/
mutual
def uptoBulk {H : Type} : DataW H → Nat
  | .lit (.string bytes) => bytes.length + 1
  | .lit _ => 1
  | .nil => 1
  | .ptr d => uptoBulk d + 1
  | .slice elems spare => uptoBulkAll elems + uptoBulkAll spare + 1
  | .agg parts => uptoBulkAll parts + 1
  | .iface _ d => uptoBulk d + 1
  | .map entries => uptoBulkEntries entries + 1
  | .held _ => 1
def uptoBulkAll {H : Type} : List (DataW H) → Nat
  | [] => 0
  | d :: r => uptoBulk d + uptoBulkAll r
def uptoBulkEntries {H : Type} : List (Lit × DataW H) → Nat
  | [] => 0
  | x :: r => uptoBulkEntry x + uptoBulkEntries r
def uptoBulkEntry {H : Type} : Lit × DataW H → Nat
  | (.string bytes, d) => bytes.length + uptoBulk d + 1
  | (_, d) => uptoBulk d + 1
 end
def uptoSmall : (H : Type) → List (DataW H) → Bool := fun _ ds => decide (uptoBulkAll ds ≤ 1048576)
def OpenSpec.upto (s : _root_.Go.ChangeSpec) : _root_.Go.OpenSpec := { _root_.Go.OpenSpec.ofChange s with cond := some uptoSmall }

/-- 'watermeetlaw26.ReaderLooks', WHERE WHAT IT READS IS OF BULK AT MOST 1048576: true; the input reads as it did. -/
def readerLooksUptoRow : OpenClaim := { program := "ytbeiejanhoiodaagreat", sum := "202f8033a19dfe3c63cb10361686b6a77f9a9e0f62f4b5e995dc7e24d5204b58", func := "watermeet/watermeetlaw26.ReaderLooks", spec := "readerLooks", inPlace := ["slices.overlaps[watermeet/api.Way]", "slices.overlaps[watermeet/api.Topic]", "slices.overlaps[watermeet/api.Rule]", "slices.overlaps[watermeet/api.Rate]", "slices.overlaps[watermeet/api.Slot]", "internal/bytealg.abigen_runtime_cmpstring"], unfollowed := true, recurses := true, plainKeys := false, apart := false, narrowed := true }
def ReaderLooksUptoSaid : Prop := readerLooksUptoRow.holds Tryz.pinned (OpenSpec.upto readerLooksSpec)

/-- 'watermeetlaw26.ReaderSits', WHERE WHAT IT READS IS OF BULK AT MOST 1048576: true; the input reads as it did. -/
def readerSitsUptoRow : OpenClaim := { program := "ytbeiejanhoiodaagreat", sum := "202f8033a19dfe3c63cb10361686b6a77f9a9e0f62f4b5e995dc7e24d5204b58", func := "watermeet/watermeetlaw26.ReaderSits", spec := "readerSits", inPlace := ["slices.overlaps[watermeet/api.Way]", "slices.overlaps[watermeet/api.Topic]", "slices.overlaps[watermeet/api.Rule]", "slices.overlaps[watermeet/api.Rate]", "slices.overlaps[watermeet/api.Slot]", "internal/bytealg.abigen_runtime_cmpstring"], unfollowed := true, recurses := true, plainKeys := false, apart := false, narrowed := true }
def ReaderSitsUptoSaid : Prop := readerSitsUptoRow.holds Tryz.pinned (OpenSpec.upto readerSitsSpec)

end Rows
end Go.Proofs.YtbeiejanhoiodaaGreat
