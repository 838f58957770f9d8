/-
  DERIVED. GIVEN WITH THE SEED: THE CARDS: each row of YtbaeddppihjgfaaDoorRows.lean that lists a variable, with what it lists TIED to the program's text (the seventh form; the later family's looks); each row that meets fmt, with fmt's text TOLD by the authors' own Lean function (tested against real Go, not proved from fmt's source: count such statements apart). THE CARD IS WHAT COUNTS. Prove the row's statement (the work); the ties are given (YtbaeddppihjgfaaDoorTie.lean); close each card by the builder's one call (the guide's Derived/Test/ToyasCard.lean, 'card_holds'). Laid BY PROGRAM, IN A SANDBOX (cutbox-door.mjs). By AI agents, Wed Nov 11 2026. No macro, syntax, notation, axiom, sorry.
-/
import Derived.Test.YtbaeddppihjgfaaDoorRows
import GoSem.ClaimSeven
namespace Go.Proofs.YtbaeddppihjgfaaDoor
namespace Rows

/-- THE TIED CARD OF 'sigillaw3.DigestCrcs'. -/
def digestCrcsCard : Claim7 := { stood := { row := digestCrcsRow, standIns := [], harness := (true, "20d47479dcab92b6f2405929dd83df02316f7eecf2fbd0e5b36c0db01189cbcd"), looks := false }, kinds := [], alts := [], laidByText := true, laidKinds := [.data], laidTests := true, laidLooks := .later }
def DigestCrcsCardSaid : Prop := Claim7.holds Tryd.pinned (.plain (OpenSpec.ofChange digestCrcsSpec)) digestCrcsCard

/-- THE TIED CARD OF 'sigillaw3.DigestBursts'. -/
def digestBurstsCard : Claim7 := { stood := { row := digestBurstsRow, standIns := [], harness := (true, "20d47479dcab92b6f2405929dd83df02316f7eecf2fbd0e5b36c0db01189cbcd"), looks := false }, kinds := [], alts := [], laidByText := true, laidKinds := [.data], laidTests := true, laidLooks := .later }
def DigestBurstsCardSaid : Prop := Claim7.holds Tryd.pinned (.plain (OpenSpec.ofChange digestBurstsSpec)) digestBurstsCard

/-- THE TIED CARD OF 'sigillaw3.DigestMixes'. -/
def digestMixesCard : Claim7 := { stood := { row := digestMixesRow, standIns := [], harness := (true, "20d47479dcab92b6f2405929dd83df02316f7eecf2fbd0e5b36c0db01189cbcd"), looks := false }, kinds := [], alts := [], laidByText := true, laidKinds := [.data], laidTests := true, laidLooks := .later }
def DigestMixesCardSaid : Prop := Claim7.holds Tryd.pinned (.plain (OpenSpec.ofChange digestMixesSpec)) digestMixesCard

/-- THE TIED CARD OF 'sigillaw3.DigestSums'. -/
def digestSumsCard : Claim7 := { stood := { row := digestSumsRow, standIns := [], harness := (true, "20d47479dcab92b6f2405929dd83df02316f7eecf2fbd0e5b36c0db01189cbcd"), looks := false }, kinds := [], alts := [], laidByText := true, laidKinds := [.data, .data, .data], laidTests := true, laidLooks := .later }
def DigestSumsCardSaid : Prop := Claim7.holds Tryd.pinned (.plain (OpenSpec.ofChange digestSumsSpec)) digestSumsCard

/-- THE TIED CARD OF 'sigillaw3.DigestStreams'. -/
def digestStreamsCard : Claim7 := { stood := { row := digestStreamsRow, standIns := [], harness := (true, "20d47479dcab92b6f2405929dd83df02316f7eecf2fbd0e5b36c0db01189cbcd"), looks := false }, kinds := [], alts := [], laidByText := true, laidKinds := [.data, .data, .data], laidTests := true, laidLooks := .later }
def DigestStreamsCardSaid : Prop := Claim7.holds Tryd.pinned (.plain (OpenSpec.ofChange digestStreamsSpec)) digestStreamsCard

/-- THE TIED CARD OF 'sigillaw3.DigestPieces'. -/
def digestPiecesCard : Claim7 := { stood := { row := digestPiecesRow, standIns := [], harness := (true, "20d47479dcab92b6f2405929dd83df02316f7eecf2fbd0e5b36c0db01189cbcd"), looks := false }, kinds := [], alts := [], laidByText := true, laidKinds := [.data, .data], laidTests := true, laidLooks := .later }
def DigestPiecesCardSaid : Prop := Claim7.holds Tryd.pinned (.plain (OpenSpec.ofChange digestPiecesSpec)) digestPiecesCard

/-- THE TIED CARD OF 'sigillaw3.DigestKnown'. -/
def digestKnownCard : Claim7 := { stood := { row := digestKnownRow, standIns := [], harness := (true, "20d47479dcab92b6f2405929dd83df02316f7eecf2fbd0e5b36c0db01189cbcd"), looks := false }, kinds := [], alts := [], laidByText := true, laidKinds := [.data, .data, .data], laidTests := true, laidLooks := .later }
def DigestKnownCardSaid : Prop := Claim7.holds Tryd.pinned (.plain (OpenSpec.ofChange digestKnownSpec)) digestKnownCard

/-- THE TIED CARD OF 'sigillaw3.DigestDomains'. -/
def digestDomainsCard : Claim7 := { stood := { row := digestDomainsRow, standIns := [], harness := (true, "20d47479dcab92b6f2405929dd83df02316f7eecf2fbd0e5b36c0db01189cbcd"), looks := false }, kinds := [], alts := [], laidByText := true, laidKinds := [.data, .data, .data], laidTests := true, laidLooks := .later }
def DigestDomainsCardSaid : Prop := Claim7.holds Tryd.pinned (.plain (OpenSpec.ofChange digestDomainsSpec)) digestDomainsCard

/-- THE TIED CARD OF 'sigillaw3.DigestRebuilds'. -/
def digestRebuildsCard : Claim7 := { stood := { row := digestRebuildsRow, standIns := [], harness := (true, "20d47479dcab92b6f2405929dd83df02316f7eecf2fbd0e5b36c0db01189cbcd"), looks := false }, kinds := [], alts := [], laidByText := true, laidKinds := [.data, .data, .data], laidTests := true, laidLooks := .later }
def DigestRebuildsCardSaid : Prop := Claim7.holds Tryd.pinned (.plain (OpenSpec.ofChange digestRebuildsSpec)) digestRebuildsCard

/-- THE TIED CARD OF 'sigillaw3.DigestRoots'. -/
def digestRootsCard : Claim7 := { stood := { row := digestRootsRow, standIns := [], harness := (true, "20d47479dcab92b6f2405929dd83df02316f7eecf2fbd0e5b36c0db01189cbcd"), looks := false }, kinds := [], alts := [], laidByText := true, laidKinds := [.data, .data, .data], laidTests := true, laidLooks := .later }
def DigestRootsCardSaid : Prop := Claim7.holds Tryd.pinned (.plain (OpenSpec.ofChange digestRootsSpec)) digestRootsCard

/-- THE TIED CARD OF 'sigillaw3.DigestApart'. -/
def digestApartCard : Claim7 := { stood := { row := digestApartRow, standIns := [], harness := (true, "20d47479dcab92b6f2405929dd83df02316f7eecf2fbd0e5b36c0db01189cbcd"), looks := false }, kinds := [], alts := [], laidByText := true, laidKinds := [.data, .data], laidTests := true, laidLooks := .later }
def DigestApartCardSaid : Prop := Claim7.holds Tryd.pinned (.plain (OpenSpec.ofChange digestApartSpec)) digestApartCard

/-- THE TIED CARD OF 'sigillaw3.DigestOpens'. -/
def digestOpensCard : Claim7 := { stood := { row := digestOpensRow, standIns := [], harness := (true, "20d47479dcab92b6f2405929dd83df02316f7eecf2fbd0e5b36c0db01189cbcd"), looks := false }, kinds := [], alts := [], laidByText := true, laidKinds := [.data, .data], laidTests := true, laidLooks := .later }
def DigestOpensCardSaid : Prop := Claim7.holds Tryd.pinned (.plain (OpenSpec.ofChange digestOpensSpec)) digestOpensCard

/-- THE TIED CARD OF 'sigillaw3.DigestBinds'. -/
def digestBindsCard : Claim7 := { stood := { row := digestBindsRow, standIns := [], harness := (true, "20d47479dcab92b6f2405929dd83df02316f7eecf2fbd0e5b36c0db01189cbcd"), looks := false }, kinds := [], alts := [], laidByText := true, laidKinds := [.data, .data], laidTests := true, laidLooks := .later }
def DigestBindsCardSaid : Prop := Claim7.holds Tryd.pinned (.plain (OpenSpec.ofChange digestBindsSpec)) digestBindsCard

/-- THE TIED CARD OF 'sigillaw3.DigestBook'. -/
def digestBookCard : Claim7 := { stood := { row := digestBookRow, standIns := [], harness := (true, "20d47479dcab92b6f2405929dd83df02316f7eecf2fbd0e5b36c0db01189cbcd"), looks := false }, kinds := [], alts := [], laidByText := true, laidKinds := [.data, .data, .data], laidTests := true, laidLooks := .later }
def DigestBookCardSaid : Prop := Claim7.holds Tryd.pinned (.plain (OpenSpec.ofChange digestBookSpec)) digestBookCard

/-- THE SECOND FORM's CARD OF 'sigillaw3.DigestCrcs'. -/
def digestCrcsUptoCard : Claim7 := { stood := { row := digestCrcsUptoRow, standIns := [], harness := (true, "20d47479dcab92b6f2405929dd83df02316f7eecf2fbd0e5b36c0db01189cbcd"), looks := false }, kinds := [], alts := [], laidByText := true, laidKinds := [.data], laidTests := true, laidLooks := .later }
def DigestCrcsUptoCardSaid : Prop := Claim7.holds Tryd.pinned (.plain (OpenSpec.upto digestCrcsSpec)) digestCrcsUptoCard

/-- THE SECOND FORM's CARD OF 'sigillaw3.DigestBursts'. -/
def digestBurstsUptoCard : Claim7 := { stood := { row := digestBurstsUptoRow, standIns := [], harness := (true, "20d47479dcab92b6f2405929dd83df02316f7eecf2fbd0e5b36c0db01189cbcd"), looks := false }, kinds := [], alts := [], laidByText := true, laidKinds := [.data], laidTests := true, laidLooks := .later }
def DigestBurstsUptoCardSaid : Prop := Claim7.holds Tryd.pinned (.plain (OpenSpec.upto digestBurstsSpec)) digestBurstsUptoCard

/-- THE SECOND FORM's CARD OF 'sigillaw3.DigestMixes'. -/
def digestMixesUptoCard : Claim7 := { stood := { row := digestMixesUptoRow, standIns := [], harness := (true, "20d47479dcab92b6f2405929dd83df02316f7eecf2fbd0e5b36c0db01189cbcd"), looks := false }, kinds := [], alts := [], laidByText := true, laidKinds := [.data], laidTests := true, laidLooks := .later }
def DigestMixesUptoCardSaid : Prop := Claim7.holds Tryd.pinned (.plain (OpenSpec.upto digestMixesSpec)) digestMixesUptoCard

/-- THE SECOND FORM's CARD OF 'sigillaw3.DigestSums'. -/
def digestSumsUptoCard : Claim7 := { stood := { row := digestSumsUptoRow, standIns := [], harness := (true, "20d47479dcab92b6f2405929dd83df02316f7eecf2fbd0e5b36c0db01189cbcd"), looks := false }, kinds := [], alts := [], laidByText := true, laidKinds := [.data, .data, .data], laidTests := true, laidLooks := .later }
def DigestSumsUptoCardSaid : Prop := Claim7.holds Tryd.pinned (.plain (OpenSpec.upto digestSumsSpec)) digestSumsUptoCard

/-- THE SECOND FORM's CARD OF 'sigillaw3.DigestStreams'. -/
def digestStreamsUptoCard : Claim7 := { stood := { row := digestStreamsUptoRow, standIns := [], harness := (true, "20d47479dcab92b6f2405929dd83df02316f7eecf2fbd0e5b36c0db01189cbcd"), looks := false }, kinds := [], alts := [], laidByText := true, laidKinds := [.data, .data, .data], laidTests := true, laidLooks := .later }
def DigestStreamsUptoCardSaid : Prop := Claim7.holds Tryd.pinned (.plain (OpenSpec.upto digestStreamsSpec)) digestStreamsUptoCard

/-- THE SECOND FORM's CARD OF 'sigillaw3.DigestPieces'. -/
def digestPiecesUptoCard : Claim7 := { stood := { row := digestPiecesUptoRow, standIns := [], harness := (true, "20d47479dcab92b6f2405929dd83df02316f7eecf2fbd0e5b36c0db01189cbcd"), looks := false }, kinds := [], alts := [], laidByText := true, laidKinds := [.data, .data], laidTests := true, laidLooks := .later }
def DigestPiecesUptoCardSaid : Prop := Claim7.holds Tryd.pinned (.plain (OpenSpec.upto digestPiecesSpec)) digestPiecesUptoCard

/-- THE SECOND FORM's CARD OF 'sigillaw3.DigestKnown'. -/
def digestKnownUptoCard : Claim7 := { stood := { row := digestKnownUptoRow, standIns := [], harness := (true, "20d47479dcab92b6f2405929dd83df02316f7eecf2fbd0e5b36c0db01189cbcd"), looks := false }, kinds := [], alts := [], laidByText := true, laidKinds := [.data, .data, .data], laidTests := true, laidLooks := .later }
def DigestKnownUptoCardSaid : Prop := Claim7.holds Tryd.pinned (.plain (OpenSpec.upto digestKnownSpec)) digestKnownUptoCard

/-- THE SECOND FORM's CARD OF 'sigillaw3.DigestDomains'. -/
def digestDomainsUptoCard : Claim7 := { stood := { row := digestDomainsUptoRow, standIns := [], harness := (true, "20d47479dcab92b6f2405929dd83df02316f7eecf2fbd0e5b36c0db01189cbcd"), looks := false }, kinds := [], alts := [], laidByText := true, laidKinds := [.data, .data, .data], laidTests := true, laidLooks := .later }
def DigestDomainsUptoCardSaid : Prop := Claim7.holds Tryd.pinned (.plain (OpenSpec.upto digestDomainsSpec)) digestDomainsUptoCard

/-- THE SECOND FORM's CARD OF 'sigillaw3.DigestRebuilds'. -/
def digestRebuildsUptoCard : Claim7 := { stood := { row := digestRebuildsUptoRow, standIns := [], harness := (true, "20d47479dcab92b6f2405929dd83df02316f7eecf2fbd0e5b36c0db01189cbcd"), looks := false }, kinds := [], alts := [], laidByText := true, laidKinds := [.data, .data, .data], laidTests := true, laidLooks := .later }
def DigestRebuildsUptoCardSaid : Prop := Claim7.holds Tryd.pinned (.plain (OpenSpec.upto digestRebuildsSpec)) digestRebuildsUptoCard

/-- THE SECOND FORM's CARD OF 'sigillaw3.DigestRoots'. -/
def digestRootsUptoCard : Claim7 := { stood := { row := digestRootsUptoRow, standIns := [], harness := (true, "20d47479dcab92b6f2405929dd83df02316f7eecf2fbd0e5b36c0db01189cbcd"), looks := false }, kinds := [], alts := [], laidByText := true, laidKinds := [.data, .data, .data], laidTests := true, laidLooks := .later }
def DigestRootsUptoCardSaid : Prop := Claim7.holds Tryd.pinned (.plain (OpenSpec.upto digestRootsSpec)) digestRootsUptoCard

/-- THE SECOND FORM's CARD OF 'sigillaw3.DigestApart'. -/
def digestApartUptoCard : Claim7 := { stood := { row := digestApartUptoRow, standIns := [], harness := (true, "20d47479dcab92b6f2405929dd83df02316f7eecf2fbd0e5b36c0db01189cbcd"), looks := false }, kinds := [], alts := [], laidByText := true, laidKinds := [.data, .data], laidTests := true, laidLooks := .later }
def DigestApartUptoCardSaid : Prop := Claim7.holds Tryd.pinned (.plain (OpenSpec.upto digestApartSpec)) digestApartUptoCard

/-- THE SECOND FORM's CARD OF 'sigillaw3.DigestOpens'. -/
def digestOpensUptoCard : Claim7 := { stood := { row := digestOpensUptoRow, standIns := [], harness := (true, "20d47479dcab92b6f2405929dd83df02316f7eecf2fbd0e5b36c0db01189cbcd"), looks := false }, kinds := [], alts := [], laidByText := true, laidKinds := [.data, .data], laidTests := true, laidLooks := .later }
def DigestOpensUptoCardSaid : Prop := Claim7.holds Tryd.pinned (.plain (OpenSpec.upto digestOpensSpec)) digestOpensUptoCard

/-- THE SECOND FORM's CARD OF 'sigillaw3.DigestBinds'. -/
def digestBindsUptoCard : Claim7 := { stood := { row := digestBindsUptoRow, standIns := [], harness := (true, "20d47479dcab92b6f2405929dd83df02316f7eecf2fbd0e5b36c0db01189cbcd"), looks := false }, kinds := [], alts := [], laidByText := true, laidKinds := [.data, .data], laidTests := true, laidLooks := .later }
def DigestBindsUptoCardSaid : Prop := Claim7.holds Tryd.pinned (.plain (OpenSpec.upto digestBindsSpec)) digestBindsUptoCard

/-- THE SECOND FORM's CARD OF 'sigillaw3.DigestBook'. -/
def digestBookUptoCard : Claim7 := { stood := { row := digestBookUptoRow, standIns := [], harness := (true, "20d47479dcab92b6f2405929dd83df02316f7eecf2fbd0e5b36c0db01189cbcd"), looks := false }, kinds := [], alts := [], laidByText := true, laidKinds := [.data, .data, .data], laidTests := true, laidLooks := .later }
def DigestBookUptoCardSaid : Prop := Claim7.holds Tryd.pinned (.plain (OpenSpec.upto digestBookSpec)) digestBookUptoCard
end Rows
end Go.Proofs.YtbaeddppihjgfaaDoor
