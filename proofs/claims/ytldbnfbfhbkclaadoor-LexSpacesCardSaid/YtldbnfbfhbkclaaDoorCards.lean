/-
  DERIVED. GIVEN WITH THE SEED: THE CARDS: each row of YtldbnfbfhbkclaaDoorRows.lean that lists a variable, with what it lists TIED to the program's text (the seventh form; the later family's looks); each row that meets fmt, with fmt's text TOLD by the authors' own Lean function (tested against real Go, not proved from fmt's source: count such statements apart). THE CARD IS WHAT COUNTS. Prove the row's statement (the work); the ties are given (YtldbnfbfhbkclaaDoorTie.lean); close each card by the builder's one call (the guide's Derived/Test/ToyasCard.lean, 'card_holds'). Laid BY PROGRAM, IN A SANDBOX (cutbox-door.mjs). By AI agents, Wed Nov 11 2026. No macro, syntax, notation, axiom, sorry.
-/
import Derived.Test.YtldbnfbfhbkclaaDoorRows
import GoSem.ClaimSeven
namespace Go.Proofs.YtldbnfbfhbkclaaDoor
namespace Rows

/-- THE TIED CARD OF 'fenestralaw06.LexTokens'. -/
def lexTokensCard : Claim7 := { stood := { row := lexTokensRow, standIns := [], harness := (true, "bd560684ee7d0795e6bf5cb399611cbe43af7516b35de70a139587004d16c077"), looks := true }, kinds := [], alts := [], laidByText := true, laidKinds := [.data, .data, .data, .sentinel, .sentinel], laidTests := true, laidLooks := .later }
def LexTokensCardSaid : Prop := Claim7.holds Tryd.pinned (.plain (OpenSpec.ofChange lexTokensSpec)) lexTokensCard

/-- THE TIED CARD OF 'fenestralaw06.LexSpaces'. -/
def lexSpacesCard : Claim7 := { stood := { row := lexSpacesRow, standIns := [], harness := (true, "bd560684ee7d0795e6bf5cb399611cbe43af7516b35de70a139587004d16c077"), looks := true }, kinds := [], alts := [], laidByText := true, laidKinds := [.data, .data, .data, .sentinel, .sentinel], laidTests := true, laidLooks := .later }
def LexSpacesCardSaid : Prop := Claim7.holds Tryd.pinned (.plain (OpenSpec.ofChange lexSpacesSpec)) lexSpacesCard

/-- THE TIED CARD OF 'fenestralaw06.LexNext'. -/
def lexNextCard : Claim7 := { stood := { row := lexNextRow, standIns := [], harness := (true, "bd560684ee7d0795e6bf5cb399611cbe43af7516b35de70a139587004d16c077"), looks := true }, kinds := [], alts := [], laidByText := true, laidKinds := [.data, .data, .data, .sentinel, .sentinel], laidTests := true, laidLooks := .later }
def LexNextCardSaid : Prop := Claim7.holds Tryd.pinned (.plain (OpenSpec.ofChange lexNextSpec)) lexNextCard

/-- THE SECOND FORM's CARD OF 'fenestralaw06.LexTokens'. -/
def lexTokensUptoCard : Claim7 := { stood := { row := lexTokensUptoRow, standIns := [], harness := (true, "bd560684ee7d0795e6bf5cb399611cbe43af7516b35de70a139587004d16c077"), looks := true }, kinds := [], alts := [], laidByText := true, laidKinds := [.data, .data, .data, .sentinel, .sentinel], laidTests := true, laidLooks := .later }
def LexTokensUptoCardSaid : Prop := Claim7.holds Tryd.pinned (.plain (OpenSpec.upto lexTokensSpec)) lexTokensUptoCard

/-- THE SECOND FORM's CARD OF 'fenestralaw06.LexSpaces'. -/
def lexSpacesUptoCard : Claim7 := { stood := { row := lexSpacesUptoRow, standIns := [], harness := (true, "bd560684ee7d0795e6bf5cb399611cbe43af7516b35de70a139587004d16c077"), looks := true }, kinds := [], alts := [], laidByText := true, laidKinds := [.data, .data, .data, .sentinel, .sentinel], laidTests := true, laidLooks := .later }
def LexSpacesUptoCardSaid : Prop := Claim7.holds Tryd.pinned (.plain (OpenSpec.upto lexSpacesSpec)) lexSpacesUptoCard

/-- THE SECOND FORM's CARD OF 'fenestralaw06.LexNext'. -/
def lexNextUptoCard : Claim7 := { stood := { row := lexNextUptoRow, standIns := [], harness := (true, "bd560684ee7d0795e6bf5cb399611cbe43af7516b35de70a139587004d16c077"), looks := true }, kinds := [], alts := [], laidByText := true, laidKinds := [.data, .data, .data, .sentinel, .sentinel], laidTests := true, laidLooks := .later }
def LexNextUptoCardSaid : Prop := Claim7.holds Tryd.pinned (.plain (OpenSpec.upto lexNextSpec)) lexNextUptoCard
end Rows
end Go.Proofs.YtldbnfbfhbkclaaDoor
