/-
  No cell of these rows narrows 'for every input' (looked for: loops, veiled, ifaces, maps, wideKeys, modest, calm, conditions, laid).
  DERIVED. THE GIVEN ROWS OF THIS SEAT. 8 by the template 'for every input the law returns true; each argument reads behind the call as it read before'; 0 by the template 'total and deterministic' (their statements: YtbaeddppihjgfaaTotals.lean).
  GIVEN WITH THE SEED: the statements are not yours to turn. If you find one false, say at which input.
  Laid BY PROGRAM, IN A SANDBOX (cutbox-rows.mjs): the forced cells as the released guide's own fill.sh prints them over the translation 34f47492fc6a71bf… (all of the seat's roots in one cut). By AI agents, Wed Nov 11 2026. No macro, syntax, notation, axiom, sorry.
-/
import Derived.Test.YtbaeddppihjgfaaChecked
import GoSem.Claim
import GoSem.ClaimJoined
import GoSem.ClaimMapViews
import Derived.JoinedTies
import Derived.KernelRfl
namespace Go.Proofs.Ytbaeddppihjgfaa
/- THE CELL 'sum', in the pinned program and in every row, IS THE sha256 OF THE DUMP (.gsa) THAT YtbaeddppihjgfaaProg.lean LOADS. Nothing in Lean hashes anything: it is a label: what it is worth is what the hold of that sum in a sandbox is worth. -/
noncomputable def Try.pinned : Pinned := { name := "ytbaeddppihjgfaa", sum := "34f47492fc6a71bffcfd81fff948fd702b47eed7352b9eebf30e011c2c8cf854", checked := Try.checked }
namespace Rows
def none {H : Type} : Left H := { results := [], args := [] }

/-- 'sigillaw7.BindNames': WHATEVER THE INPUT: true; the input reads as it did. -/
def bindNamesSpec : ChangeSpec := { name := "bindNames", fn := fun _ => fun
  | [] => { results := [.lit (.bool true)], args := [] }
  | _ => none }
def bindNamesRow : OpenClaim := { program := "ytbaeddppihjgfaa", sum := "34f47492fc6a71bffcfd81fff948fd702b47eed7352b9eebf30e011c2c8cf854", func := "sigil/sigillaw7.BindNames", spec := "bindNames", apart := false }
def BindNamesSaid : Prop := bindNamesRow.holds Try.pinned (OpenSpec.ofChange bindNamesSpec)

/-- ITS FALSE NEIGHBOUR: 'it returns false'. Refute it at one input. -/
def bindNamesWrong : ChangeSpec := { name := "bindNames", fn := fun _ => fun
  | [] => { results := [.lit (.bool false)], args := [] }
  | _ => none }
def BindNamesWrongFalsely : Prop := bindNamesRow.holds Try.pinned (OpenSpec.ofChange bindNamesWrong)

/-- 'sigillaw8.TreeNames': WHATEVER THE INPUT: true; the input reads as it did. -/
def treeNamesSpec : ChangeSpec := { name := "treeNames", fn := fun _ => fun
  | [] => { results := [.lit (.bool true)], args := [] }
  | _ => none }
def treeNamesRow : OpenClaim := { program := "ytbaeddppihjgfaa", sum := "34f47492fc6a71bffcfd81fff948fd702b47eed7352b9eebf30e011c2c8cf854", func := "sigil/sigillaw8.TreeNames", spec := "treeNames", apart := false }
def TreeNamesSaid : Prop := treeNamesRow.holds Try.pinned (OpenSpec.ofChange treeNamesSpec)

/-- ITS FALSE NEIGHBOUR: 'it returns false'. Refute it at one input. -/
def treeNamesWrong : ChangeSpec := { name := "treeNames", fn := fun _ => fun
  | [] => { results := [.lit (.bool false)], args := [] }
  | _ => none }
def TreeNamesWrongFalsely : Prop := treeNamesRow.holds Try.pinned (OpenSpec.ofChange treeNamesWrong)

/-- 'sigillaw17.StreamNames': WHATEVER THE INPUT: true; the input reads as it did. -/
def streamNamesSpec : ChangeSpec := { name := "streamNames", fn := fun _ => fun
  | [] => { results := [.lit (.bool true)], args := [] }
  | _ => none }
def streamNamesRow : OpenClaim := { program := "ytbaeddppihjgfaa", sum := "34f47492fc6a71bffcfd81fff948fd702b47eed7352b9eebf30e011c2c8cf854", func := "sigil/sigillaw17.StreamNames", spec := "streamNames", apart := false }
def StreamNamesSaid : Prop := streamNamesRow.holds Try.pinned (OpenSpec.ofChange streamNamesSpec)

/-- ITS FALSE NEIGHBOUR: 'it returns false'. Refute it at one input. -/
def streamNamesWrong : ChangeSpec := { name := "streamNames", fn := fun _ => fun
  | [] => { results := [.lit (.bool false)], args := [] }
  | _ => none }
def StreamNamesWrongFalsely : Prop := streamNamesRow.holds Try.pinned (OpenSpec.ofChange streamNamesWrong)

/-- 'sigillaw22.QueryNames': WHATEVER THE INPUT: true; the input reads as it did. -/
def queryNamesSpec : ChangeSpec := { name := "queryNames", fn := fun _ => fun
  | [] => { results := [.lit (.bool true)], args := [] }
  | _ => none }
def queryNamesRow : OpenClaim := { program := "ytbaeddppihjgfaa", sum := "34f47492fc6a71bffcfd81fff948fd702b47eed7352b9eebf30e011c2c8cf854", func := "sigil/sigillaw22.QueryNames", spec := "queryNames", apart := false }
def QueryNamesSaid : Prop := queryNamesRow.holds Try.pinned (OpenSpec.ofChange queryNamesSpec)

/-- ITS FALSE NEIGHBOUR: 'it returns false'. Refute it at one input. -/
def queryNamesWrong : ChangeSpec := { name := "queryNames", fn := fun _ => fun
  | [] => { results := [.lit (.bool false)], args := [] }
  | _ => none }
def QueryNamesWrongFalsely : Prop := queryNamesRow.holds Try.pinned (OpenSpec.ofChange queryNamesWrong)

/-- 'sigillaw3.DigestFrames': WHATEVER THE INPUT: true; the input reads as it did. -/
def digestFramesSpec : ChangeSpec := { name := "digestFrames", fn := fun _ => fun
  | [d] => { results := [.lit (.bool true)], args := [d] }
  | _ => none }
def digestFramesRow : OpenClaim := { program := "ytbaeddppihjgfaa", sum := "34f47492fc6a71bffcfd81fff948fd702b47eed7352b9eebf30e011c2c8cf854", func := "sigil/sigillaw3.DigestFrames", spec := "digestFrames", apart := false }
def DigestFramesSaid : Prop := digestFramesRow.holds Try.pinned (OpenSpec.ofChange digestFramesSpec)

/-- ITS FALSE NEIGHBOUR: 'it returns false'. Refute it at one input. -/
def digestFramesWrong : ChangeSpec := { name := "digestFrames", fn := fun _ => fun
  | [d] => { results := [.lit (.bool false)], args := [d] }
  | _ => none }
def DigestFramesWrongFalsely : Prop := digestFramesRow.holds Try.pinned (OpenSpec.ofChange digestFramesWrong)

/-- 'sigillaw3.DigestHexes': WHATEVER THE INPUT: true; the input reads as it did. -/
def digestHexesSpec : ChangeSpec := { name := "digestHexes", fn := fun _ => fun
  | [d1, d2] => { results := [.lit (.bool true)], args := [d1, d2] }
  | _ => none }
def digestHexesRow : OpenClaim := { program := "ytbaeddppihjgfaa", sum := "34f47492fc6a71bffcfd81fff948fd702b47eed7352b9eebf30e011c2c8cf854", func := "sigil/sigillaw3.DigestHexes", spec := "digestHexes", apart := false }
def DigestHexesSaid : Prop := digestHexesRow.holds Try.pinned (OpenSpec.ofChange digestHexesSpec)

/-- ITS FALSE NEIGHBOUR: 'it returns false'. Refute it at one input. -/
def digestHexesWrong : ChangeSpec := { name := "digestHexes", fn := fun _ => fun
  | [d1, d2] => { results := [.lit (.bool false)], args := [d1, d2] }
  | _ => none }
def DigestHexesWrongFalsely : Prop := digestHexesRow.holds Try.pinned (OpenSpec.ofChange digestHexesWrong)

/-- 'sigillaw3.DigestTwoWay': WHATEVER THE INPUT: true; the input reads as it did. -/
def digestTwoWaySpec : ChangeSpec := { name := "digestTwoWay", fn := fun _ => fun
  | [d1, d2] => { results := [.lit (.bool true)], args := [d1, d2] }
  | _ => none }
def digestTwoWayRow : OpenClaim := { program := "ytbaeddppihjgfaa", sum := "34f47492fc6a71bffcfd81fff948fd702b47eed7352b9eebf30e011c2c8cf854", func := "sigil/sigillaw3.DigestTwoWay", spec := "digestTwoWay", apart := false }
def DigestTwoWaySaid : Prop := digestTwoWayRow.holds Try.pinned (OpenSpec.ofChange digestTwoWaySpec)

/-- ITS FALSE NEIGHBOUR: 'it returns false'. Refute it at one input. -/
def digestTwoWayWrong : ChangeSpec := { name := "digestTwoWay", fn := fun _ => fun
  | [d1, d2] => { results := [.lit (.bool false)], args := [d1, d2] }
  | _ => none }
def DigestTwoWayWrongFalsely : Prop := digestTwoWayRow.holds Try.pinned (OpenSpec.ofChange digestTwoWayWrong)

/-- 'sigillaw3.DigestParts': WHATEVER THE INPUT: true; the input reads as it did. -/
def digestPartsSpec : ChangeSpec := { name := "digestParts", fn := fun _ => fun
  | [d1, d2, d3] => { results := [.lit (.bool true)], args := [d1, d2, d3] }
  | _ => none }
def digestPartsRow : OpenClaim := { program := "ytbaeddppihjgfaa", sum := "34f47492fc6a71bffcfd81fff948fd702b47eed7352b9eebf30e011c2c8cf854", func := "sigil/sigillaw3.DigestParts", spec := "digestParts", unfollowed := true, recurses := true, apart := false }
def DigestPartsSaid : Prop := digestPartsRow.holds Try.pinned (OpenSpec.ofChange digestPartsSpec)

/-- ITS FALSE NEIGHBOUR: 'it returns false'. Refute it at one input. -/
def digestPartsWrong : ChangeSpec := { name := "digestParts", fn := fun _ => fun
  | [d1, d2, d3] => { results := [.lit (.bool false)], args := [d1, d2, d3] }
  | _ => none }
def DigestPartsWrongFalsely : Prop := digestPartsRow.holds Try.pinned (OpenSpec.ofChange digestPartsWrong)

/- THE SECOND FORM. 'bulk': how many values and letters a reading holds, each counted each time it is reached (what is shared counts as often as it is met; a slice's spare places count too). A statement '..UptoSaid' is the law's where the arguments, and the package variables that the reading takes, are together of bulk at most 1048576: NARROWER than '..Said'. Prove '..Said' where nothing that the law and all that it calls make is longer than what came in: it says more and counts as full. Else prove '..UptoSaid'. A law counts once. -/
mutual
def uptoBulk {H : Type} : DataW H → Nat
  | .lit (.string bytes) => bytes.length + 1
  | .lit _ => 1
  | .nil => 1
  | .ptr d => uptoBulk d + 1
  | .slice elems spare => uptoBulkAll elems + uptoBulkAll spare + 1
  | .agg parts => uptoBulkAll parts + 1
  | .iface _ d => uptoBulk d + 1
  | .map entries => uptoBulkEntries entries + 1
  | .held _ => 1
def uptoBulkAll {H : Type} : List (DataW H) → Nat
  | [] => 0
  | d :: r => uptoBulk d + uptoBulkAll r
def uptoBulkEntries {H : Type} : List (Lit × DataW H) → Nat
  | [] => 0
  | x :: r => uptoBulkEntry x + uptoBulkEntries r
def uptoBulkEntry {H : Type} : Lit × DataW H → Nat
  | (.string bytes, d) => bytes.length + uptoBulk d + 1
  | (_, d) => uptoBulk d + 1
 end
def uptoSmall : (H : Type) → List (DataW H) → Bool := fun _ ds => decide (uptoBulkAll ds ≤ 1048576)
def OpenSpec.upto (s : _root_.Go.ChangeSpec) : _root_.Go.OpenSpec := { _root_.Go.OpenSpec.ofChange s with cond := some uptoSmall }

/-- 'sigillaw7.BindNames', WHERE WHAT IT READS IS OF BULK AT MOST 1048576: true; the input reads as it did. -/
def bindNamesUptoRow : OpenClaim := { program := "ytbaeddppihjgfaa", sum := "34f47492fc6a71bffcfd81fff948fd702b47eed7352b9eebf30e011c2c8cf854", func := "sigil/sigillaw7.BindNames", spec := "bindNames", apart := false, narrowed := true }
def BindNamesUptoSaid : Prop := bindNamesUptoRow.holds Try.pinned (OpenSpec.upto bindNamesSpec)

/-- 'sigillaw8.TreeNames', WHERE WHAT IT READS IS OF BULK AT MOST 1048576: true; the input reads as it did. -/
def treeNamesUptoRow : OpenClaim := { program := "ytbaeddppihjgfaa", sum := "34f47492fc6a71bffcfd81fff948fd702b47eed7352b9eebf30e011c2c8cf854", func := "sigil/sigillaw8.TreeNames", spec := "treeNames", apart := false, narrowed := true }
def TreeNamesUptoSaid : Prop := treeNamesUptoRow.holds Try.pinned (OpenSpec.upto treeNamesSpec)

/-- 'sigillaw17.StreamNames', WHERE WHAT IT READS IS OF BULK AT MOST 1048576: true; the input reads as it did. -/
def streamNamesUptoRow : OpenClaim := { program := "ytbaeddppihjgfaa", sum := "34f47492fc6a71bffcfd81fff948fd702b47eed7352b9eebf30e011c2c8cf854", func := "sigil/sigillaw17.StreamNames", spec := "streamNames", apart := false, narrowed := true }
def StreamNamesUptoSaid : Prop := streamNamesUptoRow.holds Try.pinned (OpenSpec.upto streamNamesSpec)

/-- 'sigillaw22.QueryNames', WHERE WHAT IT READS IS OF BULK AT MOST 1048576: true; the input reads as it did. -/
def queryNamesUptoRow : OpenClaim := { program := "ytbaeddppihjgfaa", sum := "34f47492fc6a71bffcfd81fff948fd702b47eed7352b9eebf30e011c2c8cf854", func := "sigil/sigillaw22.QueryNames", spec := "queryNames", apart := false, narrowed := true }
def QueryNamesUptoSaid : Prop := queryNamesUptoRow.holds Try.pinned (OpenSpec.upto queryNamesSpec)

/-- 'sigillaw3.DigestFrames', WHERE WHAT IT READS IS OF BULK AT MOST 1048576: true; the input reads as it did. -/
def digestFramesUptoRow : OpenClaim := { program := "ytbaeddppihjgfaa", sum := "34f47492fc6a71bffcfd81fff948fd702b47eed7352b9eebf30e011c2c8cf854", func := "sigil/sigillaw3.DigestFrames", spec := "digestFrames", apart := false, narrowed := true }
def DigestFramesUptoSaid : Prop := digestFramesUptoRow.holds Try.pinned (OpenSpec.upto digestFramesSpec)

/-- 'sigillaw3.DigestHexes', WHERE WHAT IT READS IS OF BULK AT MOST 1048576: true; the input reads as it did. -/
def digestHexesUptoRow : OpenClaim := { program := "ytbaeddppihjgfaa", sum := "34f47492fc6a71bffcfd81fff948fd702b47eed7352b9eebf30e011c2c8cf854", func := "sigil/sigillaw3.DigestHexes", spec := "digestHexes", apart := false, narrowed := true }
def DigestHexesUptoSaid : Prop := digestHexesUptoRow.holds Try.pinned (OpenSpec.upto digestHexesSpec)

/-- 'sigillaw3.DigestTwoWay', WHERE WHAT IT READS IS OF BULK AT MOST 1048576: true; the input reads as it did. -/
def digestTwoWayUptoRow : OpenClaim := { program := "ytbaeddppihjgfaa", sum := "34f47492fc6a71bffcfd81fff948fd702b47eed7352b9eebf30e011c2c8cf854", func := "sigil/sigillaw3.DigestTwoWay", spec := "digestTwoWay", apart := false, narrowed := true }
def DigestTwoWayUptoSaid : Prop := digestTwoWayUptoRow.holds Try.pinned (OpenSpec.upto digestTwoWaySpec)

/-- 'sigillaw3.DigestParts', WHERE WHAT IT READS IS OF BULK AT MOST 1048576: true; the input reads as it did. -/
def digestPartsUptoRow : OpenClaim := { program := "ytbaeddppihjgfaa", sum := "34f47492fc6a71bffcfd81fff948fd702b47eed7352b9eebf30e011c2c8cf854", func := "sigil/sigillaw3.DigestParts", spec := "digestParts", unfollowed := true, recurses := true, apart := false, narrowed := true }
def DigestPartsUptoSaid : Prop := digestPartsUptoRow.holds Try.pinned (OpenSpec.upto digestPartsSpec)

end Rows
end Go.Proofs.Ytbaeddppihjgfaa
