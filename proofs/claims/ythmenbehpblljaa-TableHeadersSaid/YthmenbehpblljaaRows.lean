/-
  No cell of these rows narrows 'for every input' (looked for: loops, veiled, ifaces, maps, wideKeys, modest, calm, conditions, laid).
  DERIVED. THE GIVEN ROWS OF THIS SEAT. 5 by the template 'for every input the law returns true; each argument reads behind the call as it read before'; 0 by the template 'total and deterministic' (their statements: YthmenbehpblljaaTotals.lean).
  GIVEN WITH THE SEED: the statements are not yours to turn. If you find one false, say at which input.
  Laid BY PROGRAM, IN A SANDBOX (cutbox-rows.mjs): the forced cells as the released guide's own fill.sh prints them over the translation 04cd346af0e1aa88… (all of the seat's roots in one cut). By AI agents, Wed Nov 11 2026. No macro, syntax, notation, axiom, sorry.
-/
import Derived.Test.YthmenbehpblljaaChecked
import GoSem.Claim
import GoSem.ClaimJoined
import GoSem.ClaimMapViews
import Derived.JoinedTies
import Derived.KernelRfl
namespace Go.Proofs.Ythmenbehpblljaa
/- THE CELL 'sum', in the pinned program and in every row, IS THE sha256 OF THE DUMP (.gsa) THAT YthmenbehpblljaaProg.lean LOADS. Nothing in Lean hashes anything: it is a label: what it is worth is what the hold of that sum in a sandbox is worth. -/
noncomputable def Try.pinned : Pinned := { name := "ythmenbehpblljaa", sum := "04cd346af0e1aa88e8be27c30706b8de386373f603f81f26875c050eeff95c92", checked := Try.checked }
namespace Rows
def none {H : Type} : Left H := { results := [], args := [] }

/-- 'fenestralaw10.TableFinds': WHATEVER THE INPUT: true; the input reads as it did. -/
def tableFindsSpec : ChangeSpec := { name := "tableFinds", fn := fun _ => fun
  | [d1, d2, d3] => { results := [.lit (.bool true)], args := [d1, d2, d3] }
  | _ => none }
def tableFindsRow : OpenClaim := { program := "ythmenbehpblljaa", sum := "04cd346af0e1aa88e8be27c30706b8de386373f603f81f26875c050eeff95c92", func := "fenestra/fenestralaw10.TableFinds", spec := "tableFinds", unfollowed := true, recurses := true, apart := false }
def TableFindsSaid : Prop := tableFindsRow.holds Try.pinned (OpenSpec.ofChange tableFindsSpec)

/-- ITS FALSE NEIGHBOUR: 'it returns false'. Refute it at one input. -/
def tableFindsWrong : ChangeSpec := { name := "tableFinds", fn := fun _ => fun
  | [d1, d2, d3] => { results := [.lit (.bool false)], args := [d1, d2, d3] }
  | _ => none }
def TableFindsWrongFalsely : Prop := tableFindsRow.holds Try.pinned (OpenSpec.ofChange tableFindsWrong)

/-- 'fenestralaw10.TableCovers': WHATEVER THE INPUT: true; the input reads as it did. -/
def tableCoversSpec : ChangeSpec := { name := "tableCovers", fn := fun _ => fun
  | [d] => { results := [.lit (.bool true)], args := [d] }
  | _ => none }
def tableCoversRow : OpenClaim := { program := "ythmenbehpblljaa", sum := "04cd346af0e1aa88e8be27c30706b8de386373f603f81f26875c050eeff95c92", func := "fenestra/fenestralaw10.TableCovers", spec := "tableCovers", unfollowed := true, recurses := true, apart := false }
def TableCoversSaid : Prop := tableCoversRow.holds Try.pinned (OpenSpec.ofChange tableCoversSpec)

/-- ITS FALSE NEIGHBOUR: 'it returns false'. Refute it at one input. -/
def tableCoversWrong : ChangeSpec := { name := "tableCovers", fn := fun _ => fun
  | [d] => { results := [.lit (.bool false)], args := [d] }
  | _ => none }
def TableCoversWrongFalsely : Prop := tableCoversRow.holds Try.pinned (OpenSpec.ofChange tableCoversWrong)

/-- 'fenestralaw03.BufLimits': WHATEVER THE INPUT: true; the input reads as it did. -/
def bufLimitsSpec : ChangeSpec := { name := "bufLimits", fn := fun _ => fun
  | [d] => { results := [.lit (.bool true)], args := [d] }
  | _ => none }
def bufLimitsRow : OpenClaim := { program := "ythmenbehpblljaa", sum := "04cd346af0e1aa88e8be27c30706b8de386373f603f81f26875c050eeff95c92", func := "fenestra/fenestralaw03.BufLimits", spec := "bufLimits", unfollowed := true, recurses := true, apart := false }
def BufLimitsSaid : Prop := bufLimitsRow.holds Try.pinned (OpenSpec.ofChange bufLimitsSpec)

/-- ITS FALSE NEIGHBOUR: 'it returns false'. Refute it at one input. -/
def bufLimitsWrong : ChangeSpec := { name := "bufLimits", fn := fun _ => fun
  | [d] => { results := [.lit (.bool false)], args := [d] }
  | _ => none }
def BufLimitsWrongFalsely : Prop := bufLimitsRow.holds Try.pinned (OpenSpec.ofChange bufLimitsWrong)

/-- 'fenestralaw02.CrcChains': WHATEVER THE INPUT: true; the input reads as it did. -/
def crcChainsSpec : ChangeSpec := { name := "crcChains", fn := fun _ => fun
  | [d1, d2] => { results := [.lit (.bool true)], args := [d1, d2] }
  | _ => none }
def crcChainsRow : OpenClaim := { program := "ythmenbehpblljaa", sum := "04cd346af0e1aa88e8be27c30706b8de386373f603f81f26875c050eeff95c92", func := "fenestra/fenestralaw02.CrcChains", spec := "crcChains", unfollowed := true, recurses := true, apart := false }
def CrcChainsSaid : Prop := crcChainsRow.holds Try.pinned (OpenSpec.ofChange crcChainsSpec)

/-- ITS FALSE NEIGHBOUR: 'it returns false'. Refute it at one input. -/
def crcChainsWrong : ChangeSpec := { name := "crcChains", fn := fun _ => fun
  | [d1, d2] => { results := [.lit (.bool false)], args := [d1, d2] }
  | _ => none }
def CrcChainsWrongFalsely : Prop := crcChainsRow.holds Try.pinned (OpenSpec.ofChange crcChainsWrong)

/-- 'fenestralaw10.TableHeaders': WHATEVER THE INPUT: true; the input reads as it did. -/
def tableHeadersSpec : ChangeSpec := { name := "tableHeaders", fn := fun _ => fun
  | [d1, d2, d3] => { results := [.lit (.bool true)], args := [d1, d2, d3] }
  | _ => none }
def tableHeadersRow : OpenClaim := { program := "ythmenbehpblljaa", sum := "04cd346af0e1aa88e8be27c30706b8de386373f603f81f26875c050eeff95c92", func := "fenestra/fenestralaw10.TableHeaders", spec := "tableHeaders", unfollowed := true, recurses := true, apart := false }
def TableHeadersSaid : Prop := tableHeadersRow.holds Try.pinned (OpenSpec.ofChange tableHeadersSpec)

/-- ITS FALSE NEIGHBOUR: 'it returns false'. Refute it at one input. -/
def tableHeadersWrong : ChangeSpec := { name := "tableHeaders", fn := fun _ => fun
  | [d1, d2, d3] => { results := [.lit (.bool false)], args := [d1, d2, d3] }
  | _ => none }
def TableHeadersWrongFalsely : Prop := tableHeadersRow.holds Try.pinned (OpenSpec.ofChange tableHeadersWrong)

/- THE SECOND FORM. 'bulk': how many values and letters a reading holds, each counted each time it is reached (what is shared counts as often as it is met; a slice's spare places count too). A statement '..UptoSaid' is the law's where the arguments, and the package variables that the reading takes, are together of bulk at most 1048576: NARROWER than '..Said'. Prove '..Said' where nothing that the law and all that it calls make is longer than what came in: it says more and counts as full. Else prove '..UptoSaid'. A law counts once. -/
mutual
def uptoBulk {H : Type} : DataW H → Nat
  | .lit (.string bytes) => bytes.length + 1
  | .lit _ => 1
  | .nil => 1
  | .ptr d => uptoBulk d + 1
  | .slice elems spare => uptoBulkAll elems + uptoBulkAll spare + 1
  | .agg parts => uptoBulkAll parts + 1
  | .iface _ d => uptoBulk d + 1
  | .map entries => uptoBulkEntries entries + 1
  | .held _ => 1
def uptoBulkAll {H : Type} : List (DataW H) → Nat
  | [] => 0
  | d :: r => uptoBulk d + uptoBulkAll r
def uptoBulkEntries {H : Type} : List (Lit × DataW H) → Nat
  | [] => 0
  | x :: r => uptoBulkEntry x + uptoBulkEntries r
def uptoBulkEntry {H : Type} : Lit × DataW H → Nat
  | (.string bytes, d) => bytes.length + uptoBulk d + 1
  | (_, d) => uptoBulk d + 1
 end
def uptoSmall : (H : Type) → List (DataW H) → Bool := fun _ ds => decide (uptoBulkAll ds ≤ 1048576)
def OpenSpec.upto (s : _root_.Go.ChangeSpec) : _root_.Go.OpenSpec := { _root_.Go.OpenSpec.ofChange s with cond := some uptoSmall }

/-- 'fenestralaw10.TableFinds', WHERE WHAT IT READS IS OF BULK AT MOST 1048576: true; the input reads as it did. -/
def tableFindsUptoRow : OpenClaim := { program := "ythmenbehpblljaa", sum := "04cd346af0e1aa88e8be27c30706b8de386373f603f81f26875c050eeff95c92", func := "fenestra/fenestralaw10.TableFinds", spec := "tableFinds", unfollowed := true, recurses := true, apart := false, narrowed := true }
def TableFindsUptoSaid : Prop := tableFindsUptoRow.holds Try.pinned (OpenSpec.upto tableFindsSpec)

/-- 'fenestralaw10.TableCovers', WHERE WHAT IT READS IS OF BULK AT MOST 1048576: true; the input reads as it did. -/
def tableCoversUptoRow : OpenClaim := { program := "ythmenbehpblljaa", sum := "04cd346af0e1aa88e8be27c30706b8de386373f603f81f26875c050eeff95c92", func := "fenestra/fenestralaw10.TableCovers", spec := "tableCovers", unfollowed := true, recurses := true, apart := false, narrowed := true }
def TableCoversUptoSaid : Prop := tableCoversUptoRow.holds Try.pinned (OpenSpec.upto tableCoversSpec)

/-- 'fenestralaw03.BufLimits', WHERE WHAT IT READS IS OF BULK AT MOST 1048576: true; the input reads as it did. -/
def bufLimitsUptoRow : OpenClaim := { program := "ythmenbehpblljaa", sum := "04cd346af0e1aa88e8be27c30706b8de386373f603f81f26875c050eeff95c92", func := "fenestra/fenestralaw03.BufLimits", spec := "bufLimits", unfollowed := true, recurses := true, apart := false, narrowed := true }
def BufLimitsUptoSaid : Prop := bufLimitsUptoRow.holds Try.pinned (OpenSpec.upto bufLimitsSpec)

/-- 'fenestralaw02.CrcChains', WHERE WHAT IT READS IS OF BULK AT MOST 1048576: true; the input reads as it did. -/
def crcChainsUptoRow : OpenClaim := { program := "ythmenbehpblljaa", sum := "04cd346af0e1aa88e8be27c30706b8de386373f603f81f26875c050eeff95c92", func := "fenestra/fenestralaw02.CrcChains", spec := "crcChains", unfollowed := true, recurses := true, apart := false, narrowed := true }
def CrcChainsUptoSaid : Prop := crcChainsUptoRow.holds Try.pinned (OpenSpec.upto crcChainsSpec)

/-- 'fenestralaw10.TableHeaders', WHERE WHAT IT READS IS OF BULK AT MOST 1048576: true; the input reads as it did. -/
def tableHeadersUptoRow : OpenClaim := { program := "ythmenbehpblljaa", sum := "04cd346af0e1aa88e8be27c30706b8de386373f603f81f26875c050eeff95c92", func := "fenestra/fenestralaw10.TableHeaders", spec := "tableHeaders", unfollowed := true, recurses := true, apart := false, narrowed := true }
def TableHeadersUptoSaid : Prop := tableHeadersUptoRow.holds Try.pinned (OpenSpec.upto tableHeadersSpec)

end Rows
end Go.Proofs.Ythmenbehpblljaa
