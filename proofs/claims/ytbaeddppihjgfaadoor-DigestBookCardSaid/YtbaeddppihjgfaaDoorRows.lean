/-
  NARROWER THAN 'FOR EVERY INPUT', by the rows' own cells (each row's printed sentence says how): DigestCrcs: laid · DigestBursts: laid · DigestMixes: laid · DigestSums: laid · DigestStreams: laid · DigestPieces: laid · DigestKnown: laid · DigestDomains: laid · DigestRebuilds: laid · DigestRoots: laid · DigestApart: laid · DigestOpens: laid · DigestBinds: laid · DigestBook: laid.
  DERIVED. THE GIVEN ROWS OF THIS SEAT. 14 by the template 'for every input the law returns true; each argument reads behind the call as it read before'; 0 by the template 'total and deterministic' (their statements: YtbaeddppihjgfaaDoorTotals.lean).
  GIVEN WITH THE SEED: the statements are not yours to turn. If you find one false, say at which input.
  Laid BY PROGRAM, IN A SANDBOX (cutbox-rows.mjs): the forced cells as the released guide's own fill.sh prints them over the translation fe716b9164439615… (all of the seat's roots in one cut). By AI agents, Wed Nov 11 2026. No macro, syntax, notation, axiom, sorry.
-/
import Derived.Test.YtbaeddppihjgfaaDoorChecked
import GoSem.Claim
import GoSem.ClaimJoined
import GoSem.ClaimMapViews
import Derived.JoinedTies
import Derived.KernelRfl
namespace Go.Proofs.YtbaeddppihjgfaaDoor
/- THE CELL 'sum', in the pinned program and in every row, IS THE sha256 OF THE DUMP (.gsa) THAT YtbaeddppihjgfaaDoorProg.lean LOADS. Nothing in Lean hashes anything: it is a label: what it is worth is what the hold of that sum in a sandbox is worth. -/
noncomputable def Tryd.pinned : Pinned := { name := "ytbaeddppihjgfaadoor", sum := "fe716b9164439615422aa125e2635f6531e08591b825a2474d76d5337f06ed55", checked := Tryd.checked }
namespace Rows
def none {H : Type} : Left H := { results := [], args := [] }

/- WHAT THE LISTED PACKAGE-LEVEL VARIABLES READ AS WHEN THE CALL BEGINS. Each datum BY PROGRAM (the guide's laid-datum.mjs) off the statement by which the dump's own 'gosem.cut.vars' lays the variable. In a bare row this is a premise. The card (YtbaeddppihjgfaaDoorCards.lean) ties it to the program's text. -/
def laid_sigil_digest_turns {H : Type} : DataW H := .agg [.lit (.int .u32 0), .lit (.int .u32 274646895), .lit (.int .u32 549293790), .lit (.int .u32 820201905), .lit (.int .u32 1098587580), .lit (.int .u32 1361435347), .lit (.int .u32 1640403810), .lit (.int .u32 1905808397), .lit (.int .u32 2197175160), .lit (.int .u32 2460548119), .lit (.int .u32 2722870694), .lit (.int .u32 2987750089), .lit (.int .u32 3280807620), .lit (.int .u32 3553878443), .lit (.int .u32 3811616794), .lit (.int .u32 4084100981)]
def laid_sigil_digest_k {H : Type} : DataW H := .agg [.lit (.int .u32 1116352408), .lit (.int .u32 1899447441), .lit (.int .u32 3049323471), .lit (.int .u32 3921009573), .lit (.int .u32 961987163), .lit (.int .u32 1508970993), .lit (.int .u32 2453635748), .lit (.int .u32 2870763221), .lit (.int .u32 3624381080), .lit (.int .u32 310598401), .lit (.int .u32 607225278), .lit (.int .u32 1426881987), .lit (.int .u32 1925078388), .lit (.int .u32 2162078206), .lit (.int .u32 2614888103), .lit (.int .u32 3248222580), .lit (.int .u32 3835390401), .lit (.int .u32 4022224774), .lit (.int .u32 264347078), .lit (.int .u32 604807628), .lit (.int .u32 770255983), .lit (.int .u32 1249150122), .lit (.int .u32 1555081692), .lit (.int .u32 1996064986), .lit (.int .u32 2554220882), .lit (.int .u32 2821834349), .lit (.int .u32 2952996808), .lit (.int .u32 3210313671), .lit (.int .u32 3336571891), .lit (.int .u32 3584528711), .lit (.int .u32 113926993), .lit (.int .u32 338241895), .lit (.int .u32 666307205), .lit (.int .u32 773529912), .lit (.int .u32 1294757372), .lit (.int .u32 1396182291), .lit (.int .u32 1695183700), .lit (.int .u32 1986661051), .lit (.int .u32 2177026350), .lit (.int .u32 2456956037), .lit (.int .u32 2730485921), .lit (.int .u32 2820302411), .lit (.int .u32 3259730800), .lit (.int .u32 3345764771), .lit (.int .u32 3516065817), .lit (.int .u32 3600352804), .lit (.int .u32 4094571909), .lit (.int .u32 275423344), .lit (.int .u32 430227734), .lit (.int .u32 506948616), .lit (.int .u32 659060556), .lit (.int .u32 883997877), .lit (.int .u32 958139571), .lit (.int .u32 1322822218), .lit (.int .u32 1537002063), .lit (.int .u32 1747873779), .lit (.int .u32 1955562222), .lit (.int .u32 2024104815), .lit (.int .u32 2227730452), .lit (.int .u32 2361852424), .lit (.int .u32 2428436474), .lit (.int .u32 2756734187), .lit (.int .u32 3204031479), .lit (.int .u32 3329325298)]
def laid_sigil_digest_first {H : Type} : DataW H := .agg [.lit (.int .u32 1779033703), .lit (.int .u32 3144134277), .lit (.int .u32 1013904242), .lit (.int .u32 2773480762), .lit (.int .u32 1359893119), .lit (.int .u32 2600822924), .lit (.int .u32 528734635), .lit (.int .u32 1541459225)]
def laid_sigil_sigilref3_keys {H : Type} : DataW H := .agg [.lit (.int .i64 1116352408), .lit (.int .i64 1899447441), .lit (.int .i64 3049323471), .lit (.int .i64 3921009573), .lit (.int .i64 961987163), .lit (.int .i64 1508970993), .lit (.int .i64 2453635748), .lit (.int .i64 2870763221), .lit (.int .i64 3624381080), .lit (.int .i64 310598401), .lit (.int .i64 607225278), .lit (.int .i64 1426881987), .lit (.int .i64 1925078388), .lit (.int .i64 2162078206), .lit (.int .i64 2614888103), .lit (.int .i64 3248222580), .lit (.int .i64 3835390401), .lit (.int .i64 4022224774), .lit (.int .i64 264347078), .lit (.int .i64 604807628), .lit (.int .i64 770255983), .lit (.int .i64 1249150122), .lit (.int .i64 1555081692), .lit (.int .i64 1996064986), .lit (.int .i64 2554220882), .lit (.int .i64 2821834349), .lit (.int .i64 2952996808), .lit (.int .i64 3210313671), .lit (.int .i64 3336571891), .lit (.int .i64 3584528711), .lit (.int .i64 113926993), .lit (.int .i64 338241895), .lit (.int .i64 666307205), .lit (.int .i64 773529912), .lit (.int .i64 1294757372), .lit (.int .i64 1396182291), .lit (.int .i64 1695183700), .lit (.int .i64 1986661051), .lit (.int .i64 2177026350), .lit (.int .i64 2456956037), .lit (.int .i64 2730485921), .lit (.int .i64 2820302411), .lit (.int .i64 3259730800), .lit (.int .i64 3345764771), .lit (.int .i64 3516065817), .lit (.int .i64 3600352804), .lit (.int .i64 4094571909), .lit (.int .i64 275423344), .lit (.int .i64 430227734), .lit (.int .i64 506948616), .lit (.int .i64 659060556), .lit (.int .i64 883997877), .lit (.int .i64 958139571), .lit (.int .i64 1322822218), .lit (.int .i64 1537002063), .lit (.int .i64 1747873779), .lit (.int .i64 1955562222), .lit (.int .i64 2024104815), .lit (.int .i64 2227730452), .lit (.int .i64 2361852424), .lit (.int .i64 2428436474), .lit (.int .i64 2756734187), .lit (.int .i64 3204031479), .lit (.int .i64 3329325298)]

/-- 'sigillaw3.DigestCrcs': WHATEVER THE INPUT: true; the input reads as it did. -/
def digestCrcsSpec : ChangeSpec := { name := "digestCrcs", fn := fun _ => fun
  | [d] => { results := [.lit (.bool true)], args := [d] }
  | _ => none }
def digestCrcsRow : OpenClaim := { program := "ytbaeddppihjgfaadoor", sum := "fe716b9164439615422aa125e2635f6531e08591b825a2474d76d5337f06ed55", func := "sigil/sigillaw3.DigestCrcs", spec := "digestCrcs", named := ["sigil/digest.turns"], apart := false, laid := [("sigil/digest.turns", laid_sigil_digest_turns)] }
def DigestCrcsSaid : Prop := digestCrcsRow.holds Tryd.pinned (OpenSpec.ofChange digestCrcsSpec)

/-- ITS FALSE NEIGHBOUR: 'it returns false'. Refute it at one input. -/
def digestCrcsWrong : ChangeSpec := { name := "digestCrcs", fn := fun _ => fun
  | [d] => { results := [.lit (.bool false)], args := [d] }
  | _ => none }
def DigestCrcsWrongFalsely : Prop := digestCrcsRow.holds Tryd.pinned (OpenSpec.ofChange digestCrcsWrong)

/-- 'sigillaw3.DigestBursts': WHATEVER THE INPUT: true; the input reads as it did. -/
def digestBurstsSpec : ChangeSpec := { name := "digestBursts", fn := fun _ => fun
  | [d1, d2, d3] => { results := [.lit (.bool true)], args := [d1, d2, d3] }
  | _ => none }
def digestBurstsRow : OpenClaim := { program := "ytbaeddppihjgfaadoor", sum := "fe716b9164439615422aa125e2635f6531e08591b825a2474d76d5337f06ed55", func := "sigil/sigillaw3.DigestBursts", spec := "digestBursts", named := ["sigil/digest.turns"], apart := false, laid := [("sigil/digest.turns", laid_sigil_digest_turns)] }
def DigestBurstsSaid : Prop := digestBurstsRow.holds Tryd.pinned (OpenSpec.ofChange digestBurstsSpec)

/-- ITS FALSE NEIGHBOUR: 'it returns false'. Refute it at one input. -/
def digestBurstsWrong : ChangeSpec := { name := "digestBursts", fn := fun _ => fun
  | [d1, d2, d3] => { results := [.lit (.bool false)], args := [d1, d2, d3] }
  | _ => none }
def DigestBurstsWrongFalsely : Prop := digestBurstsRow.holds Tryd.pinned (OpenSpec.ofChange digestBurstsWrong)

/-- 'sigillaw3.DigestMixes': WHATEVER THE INPUT: true; the input reads as it did. -/
def digestMixesSpec : ChangeSpec := { name := "digestMixes", fn := fun _ => fun
  | [d1, d2, d3] => { results := [.lit (.bool true)], args := [d1, d2, d3] }
  | _ => none }
def digestMixesRow : OpenClaim := { program := "ytbaeddppihjgfaadoor", sum := "fe716b9164439615422aa125e2635f6531e08591b825a2474d76d5337f06ed55", func := "sigil/sigillaw3.DigestMixes", spec := "digestMixes", named := ["sigil/digest.turns"], apart := false, laid := [("sigil/digest.turns", laid_sigil_digest_turns)] }
def DigestMixesSaid : Prop := digestMixesRow.holds Tryd.pinned (OpenSpec.ofChange digestMixesSpec)

/-- ITS FALSE NEIGHBOUR: 'it returns false'. Refute it at one input. -/
def digestMixesWrong : ChangeSpec := { name := "digestMixes", fn := fun _ => fun
  | [d1, d2, d3] => { results := [.lit (.bool false)], args := [d1, d2, d3] }
  | _ => none }
def DigestMixesWrongFalsely : Prop := digestMixesRow.holds Tryd.pinned (OpenSpec.ofChange digestMixesWrong)

/-- 'sigillaw3.DigestSums': WHATEVER THE INPUT: true; the input reads as it did. -/
def digestSumsSpec : ChangeSpec := { name := "digestSums", fn := fun _ => fun
  | [d] => { results := [.lit (.bool true)], args := [d] }
  | _ => none }
def digestSumsRow : OpenClaim := { program := "ytbaeddppihjgfaadoor", sum := "fe716b9164439615422aa125e2635f6531e08591b825a2474d76d5337f06ed55", func := "sigil/sigillaw3.DigestSums", spec := "digestSums", unfollowed := true, recurses := true, named := ["sigil/digest.first", "sigil/digest.k", "sigil/sigilref3.keys"], apart := false, laid := [("sigil/digest.k", laid_sigil_digest_k), ("sigil/digest.first", laid_sigil_digest_first), ("sigil/sigilref3.keys", laid_sigil_sigilref3_keys)] }
def DigestSumsSaid : Prop := digestSumsRow.holds Tryd.pinned (OpenSpec.ofChange digestSumsSpec)

/-- ITS FALSE NEIGHBOUR: 'it returns false'. Refute it at one input. -/
def digestSumsWrong : ChangeSpec := { name := "digestSums", fn := fun _ => fun
  | [d] => { results := [.lit (.bool false)], args := [d] }
  | _ => none }
def DigestSumsWrongFalsely : Prop := digestSumsRow.holds Tryd.pinned (OpenSpec.ofChange digestSumsWrong)

/-- 'sigillaw3.DigestStreams': WHATEVER THE INPUT: true; the input reads as it did. -/
def digestStreamsSpec : ChangeSpec := { name := "digestStreams", fn := fun _ => fun
  | [d] => { results := [.lit (.bool true)], args := [d] }
  | _ => none }
def digestStreamsRow : OpenClaim := { program := "ytbaeddppihjgfaadoor", sum := "fe716b9164439615422aa125e2635f6531e08591b825a2474d76d5337f06ed55", func := "sigil/sigillaw3.DigestStreams", spec := "digestStreams", unfollowed := true, recurses := true, named := ["sigil/digest.first", "sigil/digest.k", "sigil/sigilref3.keys"], apart := false, laid := [("sigil/digest.k", laid_sigil_digest_k), ("sigil/digest.first", laid_sigil_digest_first), ("sigil/sigilref3.keys", laid_sigil_sigilref3_keys)] }
def DigestStreamsSaid : Prop := digestStreamsRow.holds Tryd.pinned (OpenSpec.ofChange digestStreamsSpec)

/-- ITS FALSE NEIGHBOUR: 'it returns false'. Refute it at one input. -/
def digestStreamsWrong : ChangeSpec := { name := "digestStreams", fn := fun _ => fun
  | [d] => { results := [.lit (.bool false)], args := [d] }
  | _ => none }
def DigestStreamsWrongFalsely : Prop := digestStreamsRow.holds Tryd.pinned (OpenSpec.ofChange digestStreamsWrong)

/-- 'sigillaw3.DigestPieces': WHATEVER THE INPUT: true; the input reads as it did. -/
def digestPiecesSpec : ChangeSpec := { name := "digestPieces", fn := fun _ => fun
  | [d1, d2] => { results := [.lit (.bool true)], args := [d1, d2] }
  | _ => none }
def digestPiecesRow : OpenClaim := { program := "ytbaeddppihjgfaadoor", sum := "fe716b9164439615422aa125e2635f6531e08591b825a2474d76d5337f06ed55", func := "sigil/sigillaw3.DigestPieces", spec := "digestPieces", unfollowed := true, recurses := true, named := ["sigil/digest.first", "sigil/digest.k"], apart := false, laid := [("sigil/digest.k", laid_sigil_digest_k), ("sigil/digest.first", laid_sigil_digest_first)] }
def DigestPiecesSaid : Prop := digestPiecesRow.holds Tryd.pinned (OpenSpec.ofChange digestPiecesSpec)

/-- ITS FALSE NEIGHBOUR: 'it returns false'. Refute it at one input. -/
def digestPiecesWrong : ChangeSpec := { name := "digestPieces", fn := fun _ => fun
  | [d1, d2] => { results := [.lit (.bool false)], args := [d1, d2] }
  | _ => none }
def DigestPiecesWrongFalsely : Prop := digestPiecesRow.holds Tryd.pinned (OpenSpec.ofChange digestPiecesWrong)

/-- 'sigillaw3.DigestKnown': WHATEVER THE INPUT: true; the input reads as it did. -/
def digestKnownSpec : ChangeSpec := { name := "digestKnown", fn := fun _ => fun
  | [] => { results := [.lit (.bool true)], args := [] }
  | _ => none }
def digestKnownRow : OpenClaim := { program := "ytbaeddppihjgfaadoor", sum := "fe716b9164439615422aa125e2635f6531e08591b825a2474d76d5337f06ed55", func := "sigil/sigillaw3.DigestKnown", spec := "digestKnown", unfollowed := true, recurses := true, named := ["sigil/digest.first", "sigil/digest.k", "sigil/digest.turns"], apart := false, laid := [("sigil/digest.k", laid_sigil_digest_k), ("sigil/digest.first", laid_sigil_digest_first), ("sigil/digest.turns", laid_sigil_digest_turns)] }
def DigestKnownSaid : Prop := digestKnownRow.holds Tryd.pinned (OpenSpec.ofChange digestKnownSpec)

/-- ITS FALSE NEIGHBOUR: 'it returns false'. Refute it at one input. -/
def digestKnownWrong : ChangeSpec := { name := "digestKnown", fn := fun _ => fun
  | [] => { results := [.lit (.bool false)], args := [] }
  | _ => none }
def DigestKnownWrongFalsely : Prop := digestKnownRow.holds Tryd.pinned (OpenSpec.ofChange digestKnownWrong)

/-- 'sigillaw3.DigestDomains': WHATEVER THE INPUT: true; the input reads as it did. -/
def digestDomainsSpec : ChangeSpec := { name := "digestDomains", fn := fun _ => fun
  | [d1, d2] => { results := [.lit (.bool true)], args := [d1, d2] }
  | _ => none }
def digestDomainsRow : OpenClaim := { program := "ytbaeddppihjgfaadoor", sum := "fe716b9164439615422aa125e2635f6531e08591b825a2474d76d5337f06ed55", func := "sigil/sigillaw3.DigestDomains", spec := "digestDomains", unfollowed := true, recurses := true, named := ["sigil/digest.first", "sigil/digest.k", "sigil/sigilref3.keys"], apart := false, laid := [("sigil/digest.k", laid_sigil_digest_k), ("sigil/digest.first", laid_sigil_digest_first), ("sigil/sigilref3.keys", laid_sigil_sigilref3_keys)] }
def DigestDomainsSaid : Prop := digestDomainsRow.holds Tryd.pinned (OpenSpec.ofChange digestDomainsSpec)

/-- ITS FALSE NEIGHBOUR: 'it returns false'. Refute it at one input. -/
def digestDomainsWrong : ChangeSpec := { name := "digestDomains", fn := fun _ => fun
  | [d1, d2] => { results := [.lit (.bool false)], args := [d1, d2] }
  | _ => none }
def DigestDomainsWrongFalsely : Prop := digestDomainsRow.holds Tryd.pinned (OpenSpec.ofChange digestDomainsWrong)

/-- 'sigillaw3.DigestRebuilds': WHATEVER THE INPUT: true; the input reads as it did. -/
def digestRebuildsSpec : ChangeSpec := { name := "digestRebuilds", fn := fun _ => fun
  | [d1, d2, d3, d4, d5] => { results := [.lit (.bool true)], args := [d1, d2, d3, d4, d5] }
  | _ => none }
def digestRebuildsRow : OpenClaim := { program := "ytbaeddppihjgfaadoor", sum := "fe716b9164439615422aa125e2635f6531e08591b825a2474d76d5337f06ed55", func := "sigil/sigillaw3.DigestRebuilds", spec := "digestRebuilds", unfollowed := true, recurses := true, named := ["sigil/digest.first", "sigil/digest.k", "sigil/sigilref3.keys"], apart := false, laid := [("sigil/digest.k", laid_sigil_digest_k), ("sigil/digest.first", laid_sigil_digest_first), ("sigil/sigilref3.keys", laid_sigil_sigilref3_keys)] }
def DigestRebuildsSaid : Prop := digestRebuildsRow.holds Tryd.pinned (OpenSpec.ofChange digestRebuildsSpec)

/-- ITS FALSE NEIGHBOUR: 'it returns false'. Refute it at one input. -/
def digestRebuildsWrong : ChangeSpec := { name := "digestRebuilds", fn := fun _ => fun
  | [d1, d2, d3, d4, d5] => { results := [.lit (.bool false)], args := [d1, d2, d3, d4, d5] }
  | _ => none }
def DigestRebuildsWrongFalsely : Prop := digestRebuildsRow.holds Tryd.pinned (OpenSpec.ofChange digestRebuildsWrong)

/-- 'sigillaw3.DigestRoots': WHATEVER THE INPUT: true; the input reads as it did. -/
def digestRootsSpec : ChangeSpec := { name := "digestRoots", fn := fun _ => fun
  | [d1, d2] => { results := [.lit (.bool true)], args := [d1, d2] }
  | _ => none }
def digestRootsRow : OpenClaim := { program := "ytbaeddppihjgfaadoor", sum := "fe716b9164439615422aa125e2635f6531e08591b825a2474d76d5337f06ed55", func := "sigil/sigillaw3.DigestRoots", spec := "digestRoots", unfollowed := true, recurses := true, named := ["sigil/digest.first", "sigil/digest.k", "sigil/sigilref3.keys"], apart := false, laid := [("sigil/digest.k", laid_sigil_digest_k), ("sigil/digest.first", laid_sigil_digest_first), ("sigil/sigilref3.keys", laid_sigil_sigilref3_keys)] }
def DigestRootsSaid : Prop := digestRootsRow.holds Tryd.pinned (OpenSpec.ofChange digestRootsSpec)

/-- ITS FALSE NEIGHBOUR: 'it returns false'. Refute it at one input. -/
def digestRootsWrong : ChangeSpec := { name := "digestRoots", fn := fun _ => fun
  | [d1, d2] => { results := [.lit (.bool false)], args := [d1, d2] }
  | _ => none }
def DigestRootsWrongFalsely : Prop := digestRootsRow.holds Tryd.pinned (OpenSpec.ofChange digestRootsWrong)

/-- 'sigillaw3.DigestApart': WHATEVER THE INPUT: true; the input reads as it did. -/
def digestApartSpec : ChangeSpec := { name := "digestApart", fn := fun _ => fun
  | [d1, d2, d3, d4] => { results := [.lit (.bool true)], args := [d1, d2, d3, d4] }
  | _ => none }
def digestApartRow : OpenClaim := { program := "ytbaeddppihjgfaadoor", sum := "fe716b9164439615422aa125e2635f6531e08591b825a2474d76d5337f06ed55", func := "sigil/sigillaw3.DigestApart", spec := "digestApart", unfollowed := true, recurses := true, named := ["sigil/digest.first", "sigil/digest.k"], apart := false, laid := [("sigil/digest.k", laid_sigil_digest_k), ("sigil/digest.first", laid_sigil_digest_first)] }
def DigestApartSaid : Prop := digestApartRow.holds Tryd.pinned (OpenSpec.ofChange digestApartSpec)

/-- ITS FALSE NEIGHBOUR: 'it returns false'. Refute it at one input. -/
def digestApartWrong : ChangeSpec := { name := "digestApart", fn := fun _ => fun
  | [d1, d2, d3, d4] => { results := [.lit (.bool false)], args := [d1, d2, d3, d4] }
  | _ => none }
def DigestApartWrongFalsely : Prop := digestApartRow.holds Tryd.pinned (OpenSpec.ofChange digestApartWrong)

/-- 'sigillaw3.DigestOpens': WHATEVER THE INPUT: true; the input reads as it did. -/
def digestOpensSpec : ChangeSpec := { name := "digestOpens", fn := fun _ => fun
  | [d] => { results := [.lit (.bool true)], args := [d] }
  | _ => none }
def digestOpensRow : OpenClaim := { program := "ytbaeddppihjgfaadoor", sum := "fe716b9164439615422aa125e2635f6531e08591b825a2474d76d5337f06ed55", func := "sigil/sigillaw3.DigestOpens", spec := "digestOpens", unfollowed := true, recurses := true, named := ["sigil/digest.first", "sigil/digest.k"], apart := false, laid := [("sigil/digest.k", laid_sigil_digest_k), ("sigil/digest.first", laid_sigil_digest_first)] }
def DigestOpensSaid : Prop := digestOpensRow.holds Tryd.pinned (OpenSpec.ofChange digestOpensSpec)

/-- ITS FALSE NEIGHBOUR: 'it returns false'. Refute it at one input. -/
def digestOpensWrong : ChangeSpec := { name := "digestOpens", fn := fun _ => fun
  | [d] => { results := [.lit (.bool false)], args := [d] }
  | _ => none }
def DigestOpensWrongFalsely : Prop := digestOpensRow.holds Tryd.pinned (OpenSpec.ofChange digestOpensWrong)

/-- 'sigillaw3.DigestBinds': WHATEVER THE INPUT: true; the input reads as it did. -/
def digestBindsSpec : ChangeSpec := { name := "digestBinds", fn := fun _ => fun
  | [d1, d2, d3, d4, d5] => { results := [.lit (.bool true)], args := [d1, d2, d3, d4, d5] }
  | _ => none }
def digestBindsRow : OpenClaim := { program := "ytbaeddppihjgfaadoor", sum := "fe716b9164439615422aa125e2635f6531e08591b825a2474d76d5337f06ed55", func := "sigil/sigillaw3.DigestBinds", spec := "digestBinds", unfollowed := true, recurses := true, named := ["sigil/digest.first", "sigil/digest.k"], apart := false, laid := [("sigil/digest.k", laid_sigil_digest_k), ("sigil/digest.first", laid_sigil_digest_first)] }
def DigestBindsSaid : Prop := digestBindsRow.holds Tryd.pinned (OpenSpec.ofChange digestBindsSpec)

/-- ITS FALSE NEIGHBOUR: 'it returns false'. Refute it at one input. -/
def digestBindsWrong : ChangeSpec := { name := "digestBinds", fn := fun _ => fun
  | [d1, d2, d3, d4, d5] => { results := [.lit (.bool false)], args := [d1, d2, d3, d4, d5] }
  | _ => none }
def DigestBindsWrongFalsely : Prop := digestBindsRow.holds Tryd.pinned (OpenSpec.ofChange digestBindsWrong)

/-- 'sigillaw3.DigestBook': WHATEVER THE INPUT: true; the input reads as it did. -/
def digestBookSpec : ChangeSpec := { name := "digestBook", fn := fun _ => fun
  | [d] => { results := [.lit (.bool true)], args := [d] }
  | _ => none }
def digestBookRow : OpenClaim := { program := "ytbaeddppihjgfaadoor", sum := "fe716b9164439615422aa125e2635f6531e08591b825a2474d76d5337f06ed55", func := "sigil/sigillaw3.DigestBook", spec := "digestBook", unfollowed := true, recurses := true, named := ["sigil/digest.first", "sigil/digest.k", "sigil/sigilref3.keys"], apart := false, laid := [("sigil/digest.k", laid_sigil_digest_k), ("sigil/digest.first", laid_sigil_digest_first), ("sigil/sigilref3.keys", laid_sigil_sigilref3_keys)] }
def DigestBookSaid : Prop := digestBookRow.holds Tryd.pinned (OpenSpec.ofChange digestBookSpec)

/-- ITS FALSE NEIGHBOUR: 'it returns false'. Refute it at one input. -/
def digestBookWrong : ChangeSpec := { name := "digestBook", fn := fun _ => fun
  | [d] => { results := [.lit (.bool false)], args := [d] }
  | _ => none }
def DigestBookWrongFalsely : Prop := digestBookRow.holds Tryd.pinned (OpenSpec.ofChange digestBookWrong)

/- THE SECOND FORM. 'bulk': how many values and letters a reading holds, each counted each time it is reached (what is shared counts as often as it is met; a slice's spare places count too). A statement '..UptoSaid' is the law's where the arguments, and the package variables that the reading takes, are together of bulk at most 1048576: NARROWER than '..Said'. Prove '..Said' where nothing that the law and all that it calls make is longer than what came in: it says more and counts as full. Else prove '..UptoSaid'. A law counts once. -/
mutual
def uptoBulk {H : Type} : DataW H → Nat
  | .lit (.string bytes) => bytes.length + 1
  | .lit _ => 1
  | .nil => 1
  | .ptr d => uptoBulk d + 1
  | .slice elems spare => uptoBulkAll elems + uptoBulkAll spare + 1
  | .agg parts => uptoBulkAll parts + 1
  | .iface _ d => uptoBulk d + 1
  | .map entries => uptoBulkEntries entries + 1
  | .held _ => 1
def uptoBulkAll {H : Type} : List (DataW H) → Nat
  | [] => 0
  | d :: r => uptoBulk d + uptoBulkAll r
def uptoBulkEntries {H : Type} : List (Lit × DataW H) → Nat
  | [] => 0
  | x :: r => uptoBulkEntry x + uptoBulkEntries r
def uptoBulkEntry {H : Type} : Lit × DataW H → Nat
  | (.string bytes, d) => bytes.length + uptoBulk d + 1
  | (_, d) => uptoBulk d + 1
 end
def uptoSmall : (H : Type) → List (DataW H) → Bool := fun _ ds => decide (uptoBulkAll ds ≤ 1048576)
def OpenSpec.upto (s : _root_.Go.ChangeSpec) : _root_.Go.OpenSpec := { _root_.Go.OpenSpec.ofChange s with cond := some uptoSmall }

/-- 'sigillaw3.DigestCrcs', WHERE WHAT IT READS IS OF BULK AT MOST 1048576: true; the input reads as it did. -/
def digestCrcsUptoRow : OpenClaim := { program := "ytbaeddppihjgfaadoor", sum := "fe716b9164439615422aa125e2635f6531e08591b825a2474d76d5337f06ed55", func := "sigil/sigillaw3.DigestCrcs", spec := "digestCrcs", named := ["sigil/digest.turns"], apart := false, laid := [("sigil/digest.turns", laid_sigil_digest_turns)], narrowed := true }
def DigestCrcsUptoSaid : Prop := digestCrcsUptoRow.holds Tryd.pinned (OpenSpec.upto digestCrcsSpec)

/-- 'sigillaw3.DigestBursts', WHERE WHAT IT READS IS OF BULK AT MOST 1048576: true; the input reads as it did. -/
def digestBurstsUptoRow : OpenClaim := { program := "ytbaeddppihjgfaadoor", sum := "fe716b9164439615422aa125e2635f6531e08591b825a2474d76d5337f06ed55", func := "sigil/sigillaw3.DigestBursts", spec := "digestBursts", named := ["sigil/digest.turns"], apart := false, laid := [("sigil/digest.turns", laid_sigil_digest_turns)], narrowed := true }
def DigestBurstsUptoSaid : Prop := digestBurstsUptoRow.holds Tryd.pinned (OpenSpec.upto digestBurstsSpec)

/-- 'sigillaw3.DigestMixes', WHERE WHAT IT READS IS OF BULK AT MOST 1048576: true; the input reads as it did. -/
def digestMixesUptoRow : OpenClaim := { program := "ytbaeddppihjgfaadoor", sum := "fe716b9164439615422aa125e2635f6531e08591b825a2474d76d5337f06ed55", func := "sigil/sigillaw3.DigestMixes", spec := "digestMixes", named := ["sigil/digest.turns"], apart := false, laid := [("sigil/digest.turns", laid_sigil_digest_turns)], narrowed := true }
def DigestMixesUptoSaid : Prop := digestMixesUptoRow.holds Tryd.pinned (OpenSpec.upto digestMixesSpec)

/-- 'sigillaw3.DigestSums', WHERE WHAT IT READS IS OF BULK AT MOST 1048576: true; the input reads as it did. -/
def digestSumsUptoRow : OpenClaim := { program := "ytbaeddppihjgfaadoor", sum := "fe716b9164439615422aa125e2635f6531e08591b825a2474d76d5337f06ed55", func := "sigil/sigillaw3.DigestSums", spec := "digestSums", unfollowed := true, recurses := true, named := ["sigil/digest.first", "sigil/digest.k", "sigil/sigilref3.keys"], apart := false, laid := [("sigil/digest.k", laid_sigil_digest_k), ("sigil/digest.first", laid_sigil_digest_first), ("sigil/sigilref3.keys", laid_sigil_sigilref3_keys)], narrowed := true }
def DigestSumsUptoSaid : Prop := digestSumsUptoRow.holds Tryd.pinned (OpenSpec.upto digestSumsSpec)

/-- 'sigillaw3.DigestStreams', WHERE WHAT IT READS IS OF BULK AT MOST 1048576: true; the input reads as it did. -/
def digestStreamsUptoRow : OpenClaim := { program := "ytbaeddppihjgfaadoor", sum := "fe716b9164439615422aa125e2635f6531e08591b825a2474d76d5337f06ed55", func := "sigil/sigillaw3.DigestStreams", spec := "digestStreams", unfollowed := true, recurses := true, named := ["sigil/digest.first", "sigil/digest.k", "sigil/sigilref3.keys"], apart := false, laid := [("sigil/digest.k", laid_sigil_digest_k), ("sigil/digest.first", laid_sigil_digest_first), ("sigil/sigilref3.keys", laid_sigil_sigilref3_keys)], narrowed := true }
def DigestStreamsUptoSaid : Prop := digestStreamsUptoRow.holds Tryd.pinned (OpenSpec.upto digestStreamsSpec)

/-- 'sigillaw3.DigestPieces', WHERE WHAT IT READS IS OF BULK AT MOST 1048576: true; the input reads as it did. -/
def digestPiecesUptoRow : OpenClaim := { program := "ytbaeddppihjgfaadoor", sum := "fe716b9164439615422aa125e2635f6531e08591b825a2474d76d5337f06ed55", func := "sigil/sigillaw3.DigestPieces", spec := "digestPieces", unfollowed := true, recurses := true, named := ["sigil/digest.first", "sigil/digest.k"], apart := false, laid := [("sigil/digest.k", laid_sigil_digest_k), ("sigil/digest.first", laid_sigil_digest_first)], narrowed := true }
def DigestPiecesUptoSaid : Prop := digestPiecesUptoRow.holds Tryd.pinned (OpenSpec.upto digestPiecesSpec)

/-- 'sigillaw3.DigestKnown', WHERE WHAT IT READS IS OF BULK AT MOST 1048576: true; the input reads as it did. -/
def digestKnownUptoRow : OpenClaim := { program := "ytbaeddppihjgfaadoor", sum := "fe716b9164439615422aa125e2635f6531e08591b825a2474d76d5337f06ed55", func := "sigil/sigillaw3.DigestKnown", spec := "digestKnown", unfollowed := true, recurses := true, named := ["sigil/digest.first", "sigil/digest.k", "sigil/digest.turns"], apart := false, laid := [("sigil/digest.k", laid_sigil_digest_k), ("sigil/digest.first", laid_sigil_digest_first), ("sigil/digest.turns", laid_sigil_digest_turns)], narrowed := true }
def DigestKnownUptoSaid : Prop := digestKnownUptoRow.holds Tryd.pinned (OpenSpec.upto digestKnownSpec)

/-- 'sigillaw3.DigestDomains', WHERE WHAT IT READS IS OF BULK AT MOST 1048576: true; the input reads as it did. -/
def digestDomainsUptoRow : OpenClaim := { program := "ytbaeddppihjgfaadoor", sum := "fe716b9164439615422aa125e2635f6531e08591b825a2474d76d5337f06ed55", func := "sigil/sigillaw3.DigestDomains", spec := "digestDomains", unfollowed := true, recurses := true, named := ["sigil/digest.first", "sigil/digest.k", "sigil/sigilref3.keys"], apart := false, laid := [("sigil/digest.k", laid_sigil_digest_k), ("sigil/digest.first", laid_sigil_digest_first), ("sigil/sigilref3.keys", laid_sigil_sigilref3_keys)], narrowed := true }
def DigestDomainsUptoSaid : Prop := digestDomainsUptoRow.holds Tryd.pinned (OpenSpec.upto digestDomainsSpec)

/-- 'sigillaw3.DigestRebuilds', WHERE WHAT IT READS IS OF BULK AT MOST 1048576: true; the input reads as it did. -/
def digestRebuildsUptoRow : OpenClaim := { program := "ytbaeddppihjgfaadoor", sum := "fe716b9164439615422aa125e2635f6531e08591b825a2474d76d5337f06ed55", func := "sigil/sigillaw3.DigestRebuilds", spec := "digestRebuilds", unfollowed := true, recurses := true, named := ["sigil/digest.first", "sigil/digest.k", "sigil/sigilref3.keys"], apart := false, laid := [("sigil/digest.k", laid_sigil_digest_k), ("sigil/digest.first", laid_sigil_digest_first), ("sigil/sigilref3.keys", laid_sigil_sigilref3_keys)], narrowed := true }
def DigestRebuildsUptoSaid : Prop := digestRebuildsUptoRow.holds Tryd.pinned (OpenSpec.upto digestRebuildsSpec)

/-- 'sigillaw3.DigestRoots', WHERE WHAT IT READS IS OF BULK AT MOST 1048576: true; the input reads as it did. -/
def digestRootsUptoRow : OpenClaim := { program := "ytbaeddppihjgfaadoor", sum := "fe716b9164439615422aa125e2635f6531e08591b825a2474d76d5337f06ed55", func := "sigil/sigillaw3.DigestRoots", spec := "digestRoots", unfollowed := true, recurses := true, named := ["sigil/digest.first", "sigil/digest.k", "sigil/sigilref3.keys"], apart := false, laid := [("sigil/digest.k", laid_sigil_digest_k), ("sigil/digest.first", laid_sigil_digest_first), ("sigil/sigilref3.keys", laid_sigil_sigilref3_keys)], narrowed := true }
def DigestRootsUptoSaid : Prop := digestRootsUptoRow.holds Tryd.pinned (OpenSpec.upto digestRootsSpec)

/-- 'sigillaw3.DigestApart', WHERE WHAT IT READS IS OF BULK AT MOST 1048576: true; the input reads as it did. -/
def digestApartUptoRow : OpenClaim := { program := "ytbaeddppihjgfaadoor", sum := "fe716b9164439615422aa125e2635f6531e08591b825a2474d76d5337f06ed55", func := "sigil/sigillaw3.DigestApart", spec := "digestApart", unfollowed := true, recurses := true, named := ["sigil/digest.first", "sigil/digest.k"], apart := false, laid := [("sigil/digest.k", laid_sigil_digest_k), ("sigil/digest.first", laid_sigil_digest_first)], narrowed := true }
def DigestApartUptoSaid : Prop := digestApartUptoRow.holds Tryd.pinned (OpenSpec.upto digestApartSpec)

/-- 'sigillaw3.DigestOpens', WHERE WHAT IT READS IS OF BULK AT MOST 1048576: true; the input reads as it did. -/
def digestOpensUptoRow : OpenClaim := { program := "ytbaeddppihjgfaadoor", sum := "fe716b9164439615422aa125e2635f6531e08591b825a2474d76d5337f06ed55", func := "sigil/sigillaw3.DigestOpens", spec := "digestOpens", unfollowed := true, recurses := true, named := ["sigil/digest.first", "sigil/digest.k"], apart := false, laid := [("sigil/digest.k", laid_sigil_digest_k), ("sigil/digest.first", laid_sigil_digest_first)], narrowed := true }
def DigestOpensUptoSaid : Prop := digestOpensUptoRow.holds Tryd.pinned (OpenSpec.upto digestOpensSpec)

/-- 'sigillaw3.DigestBinds', WHERE WHAT IT READS IS OF BULK AT MOST 1048576: true; the input reads as it did. -/
def digestBindsUptoRow : OpenClaim := { program := "ytbaeddppihjgfaadoor", sum := "fe716b9164439615422aa125e2635f6531e08591b825a2474d76d5337f06ed55", func := "sigil/sigillaw3.DigestBinds", spec := "digestBinds", unfollowed := true, recurses := true, named := ["sigil/digest.first", "sigil/digest.k"], apart := false, laid := [("sigil/digest.k", laid_sigil_digest_k), ("sigil/digest.first", laid_sigil_digest_first)], narrowed := true }
def DigestBindsUptoSaid : Prop := digestBindsUptoRow.holds Tryd.pinned (OpenSpec.upto digestBindsSpec)

/-- 'sigillaw3.DigestBook', WHERE WHAT IT READS IS OF BULK AT MOST 1048576: true; the input reads as it did. -/
def digestBookUptoRow : OpenClaim := { program := "ytbaeddppihjgfaadoor", sum := "fe716b9164439615422aa125e2635f6531e08591b825a2474d76d5337f06ed55", func := "sigil/sigillaw3.DigestBook", spec := "digestBook", unfollowed := true, recurses := true, named := ["sigil/digest.first", "sigil/digest.k", "sigil/sigilref3.keys"], apart := false, laid := [("sigil/digest.k", laid_sigil_digest_k), ("sigil/digest.first", laid_sigil_digest_first), ("sigil/sigilref3.keys", laid_sigil_sigilref3_keys)], narrowed := true }
def DigestBookUptoSaid : Prop := digestBookUptoRow.holds Tryd.pinned (OpenSpec.upto digestBookSpec)

end Rows
end Go.Proofs.YtbaeddppihjgfaaDoor
