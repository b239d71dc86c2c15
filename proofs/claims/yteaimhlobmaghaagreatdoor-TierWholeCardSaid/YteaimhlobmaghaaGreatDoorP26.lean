/- TierWhole holds: what is moved is all there and true, and nothing is lost. No condition beside the row's own (what start-up laid). -/
import Derived.Test.YteaimhlobmaghaaGreatDoorP25
import Derived.Test.YteaimhlobmaghaaGreatDoorCards
import Derived.Test.YteaimhlobmaghaaGreatDoorTie
set_option linter.all false
set_option maxRecDepth 10000000
set_option maxHeartbeats 0
namespace Go.Proofs.YteaimhlobmaghaaGreatDoor
open Go.ChangeShapes Go.WideShapes Go.ChangeAt Go.RowKit Go.Wt
def Re:Tryz.prog.funcNamed "watermeet/watermeetlaw17.TierWhole" =some 5:=by kernel_rfl
def Rf:Rows.tierWholeRow.wfByText (OpenSpec.ofChange Rows.tierWholeSpec)=true:=by kernel_rfl
def Rg:false=Rows.tierWholeRow.goesBy Tryz.pinned.checked.prog:=by kernel_rfl
theorem whole_holds:Rows.TierWholeCardSaid:=
 Claim7.holds_tied_plain_at .later [] [.data,.data,.data,.sentinel,.sentinel,.widerDeep] true (true, "2f5f6f0e45d0dc822afc7999807d6c879bedb5611b72a16918e454af4e0011be") true
  Rd (fun _ h=>by cases h) Rf (fun _ h=>by cases h) tierWhole_row_tie rfl ⟨rfl,rfl⟩ z_main rfl
  (fun f fn hf hfn=>by
   obtain rfl:f=5:=Option.some.inj (Re.symm.trans hf)|>.symm
   obtain rfl:fn=Tryz.f5:=(Option.some.inj (Tryz.func5.symm.trans hfn)).symm
   exact⟨z_looks,fun j t ht=>by
    rw[Tryz.params5]at ht
    match j,ht with
    |0,ht=>cases ht;exact z_w24
    |1,ht=>cases ht;exact z_w31
    |2,ht=>cases ht;exact z_w9
    |3,ht=>cases ht;exact z_w3
    |4,ht=>cases ht;exact z_w27
    |j+5,ht=>simp at ht⟩)
  Rg
#print axioms whole_holds
end Go.Proofs.YteaimhlobmaghaaGreatDoor
