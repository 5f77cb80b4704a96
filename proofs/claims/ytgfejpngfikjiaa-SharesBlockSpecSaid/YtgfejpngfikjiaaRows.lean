/-
  No cell of these rows narrows 'for every input' (looked for: loops, veiled, ifaces, maps, wideKeys, modest, calm, conditions, laid).
  DERIVED. THE GIVEN ROWS OF THIS SEAT. 17 by the template 'for every input the law returns true; each argument reads behind the call as it read before'; 0 by the template 'total and deterministic' (their statements: YtgfejpngfikjiaaTotals.lean).
  GIVEN WITH THE SEED: the statements are not yours to turn. If you find one false, say at which input.
  Laid BY PROGRAM, IN A SANDBOX (cutbox-rows.mjs): the forced cells as the released guide's own fill.sh prints them over the translation 1226a6062562ad31… (all of the seat's roots in one cut). By AI agents, Wed Nov 11 2026. No macro, syntax, notation, axiom, sorry.
-/
import Derived.Test.YtgfejpngfikjiaaChecked
import GoSem.Claim
import GoSem.ClaimJoined
import GoSem.ClaimMapViews
import Derived.JoinedTies
import Derived.KernelRfl
namespace Go.Proofs.Ytgfejpngfikjiaa
/- THE CELL 'sum', in the pinned program and in every row, IS THE sha256 OF THE DUMP (.gsa) THAT YtgfejpngfikjiaaProg.lean LOADS. Nothing in Lean hashes anything: it is a label: what it is worth is what the hold of that sum in a sandbox is worth. -/
noncomputable def Try.pinned : Pinned := { name := "ytgfejpngfikjiaa", sum := "1226a6062562ad31e309f73328d5eacd4a2d04b42e96bc9ce824ef2626568b04", checked := Try.checked }
namespace Rows
def none {H : Type} : Left H := { results := [], args := [] }

/-- 'acreagelaw06.SharesGapSpec': WHATEVER THE INPUT: true; the input reads as it did. -/
def sharesGapSpecSpec : ChangeSpec := { name := "sharesGapSpec", fn := fun _ => fun
  | [d1, d2] => { results := [.lit (.bool true)], args := [d1, d2] }
  | _ => none }
def sharesGapSpecRow : OpenClaim := { program := "ytgfejpngfikjiaa", sum := "1226a6062562ad31e309f73328d5eacd4a2d04b42e96bc9ce824ef2626568b04", func := "acreage/acreagelaw06.SharesGapSpec", spec := "sharesGapSpec", unfollowed := true, recurses := true, apart := false }
def SharesGapSpecSaid : Prop := sharesGapSpecRow.holds Try.pinned (OpenSpec.ofChange sharesGapSpecSpec)

/-- ITS FALSE NEIGHBOUR: 'it returns false'. Refute it at one input. -/
def sharesGapSpecWrong : ChangeSpec := { name := "sharesGapSpec", fn := fun _ => fun
  | [d1, d2] => { results := [.lit (.bool false)], args := [d1, d2] }
  | _ => none }
def SharesGapSpecWrongFalsely : Prop := sharesGapSpecRow.holds Try.pinned (OpenSpec.ofChange sharesGapSpecWrong)

/-- 'acreagelaw06.SharesBoundsSpec': WHATEVER THE INPUT: true; the input reads as it did. -/
def sharesBoundsSpecSpec : ChangeSpec := { name := "sharesBoundsSpec", fn := fun _ => fun
  | [d1, d2, d3] => { results := [.lit (.bool true)], args := [d1, d2, d3] }
  | _ => none }
def sharesBoundsSpecRow : OpenClaim := { program := "ytgfejpngfikjiaa", sum := "1226a6062562ad31e309f73328d5eacd4a2d04b42e96bc9ce824ef2626568b04", func := "acreage/acreagelaw06.SharesBoundsSpec", spec := "sharesBoundsSpec", unfollowed := true, recurses := true, apart := false }
def SharesBoundsSpecSaid : Prop := sharesBoundsSpecRow.holds Try.pinned (OpenSpec.ofChange sharesBoundsSpecSpec)

/-- ITS FALSE NEIGHBOUR: 'it returns false'. Refute it at one input. -/
def sharesBoundsSpecWrong : ChangeSpec := { name := "sharesBoundsSpec", fn := fun _ => fun
  | [d1, d2, d3] => { results := [.lit (.bool false)], args := [d1, d2, d3] }
  | _ => none }
def SharesBoundsSpecWrongFalsely : Prop := sharesBoundsSpecRow.holds Try.pinned (OpenSpec.ofChange sharesBoundsSpecWrong)

/-- 'acreagelaw06.SharesBlockSpec': WHATEVER THE INPUT: true; the input reads as it did. -/
def sharesBlockSpecSpec : ChangeSpec := { name := "sharesBlockSpec", fn := fun _ => fun
  | [d1, d2] => { results := [.lit (.bool true)], args := [d1, d2] }
  | _ => none }
def sharesBlockSpecRow : OpenClaim := { program := "ytgfejpngfikjiaa", sum := "1226a6062562ad31e309f73328d5eacd4a2d04b42e96bc9ce824ef2626568b04", func := "acreage/acreagelaw06.SharesBlockSpec", spec := "sharesBlockSpec", unfollowed := true, recurses := true, apart := false }
def SharesBlockSpecSaid : Prop := sharesBlockSpecRow.holds Try.pinned (OpenSpec.ofChange sharesBlockSpecSpec)

/-- ITS FALSE NEIGHBOUR: 'it returns false'. Refute it at one input. -/
def sharesBlockSpecWrong : ChangeSpec := { name := "sharesBlockSpec", fn := fun _ => fun
  | [d1, d2] => { results := [.lit (.bool false)], args := [d1, d2] }
  | _ => none }
def SharesBlockSpecWrongFalsely : Prop := sharesBlockSpecRow.holds Try.pinned (OpenSpec.ofChange sharesBlockSpecWrong)

/-- 'acreagelaw06.SharesMerged': WHATEVER THE INPUT: true; the input reads as it did. -/
def sharesMergedSpec : ChangeSpec := { name := "sharesMerged", fn := fun _ => fun
  | [d1, d2, d3, d4, d5] => { results := [.lit (.bool true)], args := [d1, d2, d3, d4, d5] }
  | _ => none }
def sharesMergedRow : OpenClaim := { program := "ytgfejpngfikjiaa", sum := "1226a6062562ad31e309f73328d5eacd4a2d04b42e96bc9ce824ef2626568b04", func := "acreage/acreagelaw06.SharesMerged", spec := "sharesMerged", unfollowed := true, recurses := true, apart := false }
def SharesMergedSaid : Prop := sharesMergedRow.holds Try.pinned (OpenSpec.ofChange sharesMergedSpec)

/-- ITS FALSE NEIGHBOUR: 'it returns false'. Refute it at one input. -/
def sharesMergedWrong : ChangeSpec := { name := "sharesMerged", fn := fun _ => fun
  | [d1, d2, d3, d4, d5] => { results := [.lit (.bool false)], args := [d1, d2, d3, d4, d5] }
  | _ => none }
def SharesMergedWrongFalsely : Prop := sharesMergedRow.holds Try.pinned (OpenSpec.ofChange sharesMergedWrong)

/-- 'acreagelaw06.SharesPossibleSpec': WHATEVER THE INPUT: true; the input reads as it did. -/
def sharesPossibleSpecSpec : ChangeSpec := { name := "sharesPossibleSpec", fn := fun _ => fun
  | [d] => { results := [.lit (.bool true)], args := [d] }
  | _ => none }
def sharesPossibleSpecRow : OpenClaim := { program := "ytgfejpngfikjiaa", sum := "1226a6062562ad31e309f73328d5eacd4a2d04b42e96bc9ce824ef2626568b04", func := "acreage/acreagelaw06.SharesPossibleSpec", spec := "sharesPossibleSpec", unfollowed := true, recurses := true, apart := false }
def SharesPossibleSpecSaid : Prop := sharesPossibleSpecRow.holds Try.pinned (OpenSpec.ofChange sharesPossibleSpecSpec)

/-- ITS FALSE NEIGHBOUR: 'it returns false'. Refute it at one input. -/
def sharesPossibleSpecWrong : ChangeSpec := { name := "sharesPossibleSpec", fn := fun _ => fun
  | [d] => { results := [.lit (.bool false)], args := [d] }
  | _ => none }
def SharesPossibleSpecWrongFalsely : Prop := sharesPossibleSpecRow.holds Try.pinned (OpenSpec.ofChange sharesPossibleSpecWrong)

/-- 'acreagelaw06.SharesHoffman': WHATEVER THE INPUT: true; the input reads as it did. -/
def sharesHoffmanSpec : ChangeSpec := { name := "sharesHoffman", fn := fun _ => fun
  | [d1, d2, d3] => { results := [.lit (.bool true)], args := [d1, d2, d3] }
  | _ => none }
def sharesHoffmanRow : OpenClaim := { program := "ytgfejpngfikjiaa", sum := "1226a6062562ad31e309f73328d5eacd4a2d04b42e96bc9ce824ef2626568b04", func := "acreage/acreagelaw06.SharesHoffman", spec := "sharesHoffman", unfollowed := true, recurses := true, apart := false }
def SharesHoffmanSaid : Prop := sharesHoffmanRow.holds Try.pinned (OpenSpec.ofChange sharesHoffmanSpec)

/-- ITS FALSE NEIGHBOUR: 'it returns false'. Refute it at one input. -/
def sharesHoffmanWrong : ChangeSpec := { name := "sharesHoffman", fn := fun _ => fun
  | [d1, d2, d3] => { results := [.lit (.bool false)], args := [d1, d2, d3] }
  | _ => none }
def SharesHoffmanWrongFalsely : Prop := sharesHoffmanRow.holds Try.pinned (OpenSpec.ofChange sharesHoffmanWrong)

/-- 'acreagelaw06.SharesCheckSpec': WHATEVER THE INPUT: true; the input reads as it did. -/
def sharesCheckSpecSpec : ChangeSpec := { name := "sharesCheckSpec", fn := fun _ => fun
  | [d1, d2] => { results := [.lit (.bool true)], args := [d1, d2] }
  | _ => none }
def sharesCheckSpecRow : OpenClaim := { program := "ytgfejpngfikjiaa", sum := "1226a6062562ad31e309f73328d5eacd4a2d04b42e96bc9ce824ef2626568b04", func := "acreage/acreagelaw06.SharesCheckSpec", spec := "sharesCheckSpec", unfollowed := true, recurses := true, apart := false }
def SharesCheckSpecSaid : Prop := sharesCheckSpecRow.holds Try.pinned (OpenSpec.ofChange sharesCheckSpecSpec)

/-- ITS FALSE NEIGHBOUR: 'it returns false'. Refute it at one input. -/
def sharesCheckSpecWrong : ChangeSpec := { name := "sharesCheckSpec", fn := fun _ => fun
  | [d1, d2] => { results := [.lit (.bool false)], args := [d1, d2] }
  | _ => none }
def SharesCheckSpecWrongFalsely : Prop := sharesCheckSpecRow.holds Try.pinned (OpenSpec.ofChange sharesCheckSpecWrong)

/-- 'acreagelaw06.SharesHidden': WHATEVER THE INPUT: true; the input reads as it did. -/
def sharesHiddenSpec : ChangeSpec := { name := "sharesHidden", fn := fun _ => fun
  | [d1, d2, d3, d4, d5] => { results := [.lit (.bool true)], args := [d1, d2, d3, d4, d5] }
  | _ => none }
def sharesHiddenRow : OpenClaim := { program := "ytgfejpngfikjiaa", sum := "1226a6062562ad31e309f73328d5eacd4a2d04b42e96bc9ce824ef2626568b04", func := "acreage/acreagelaw06.SharesHidden", spec := "sharesHidden", unfollowed := true, recurses := true, apart := false }
def SharesHiddenSaid : Prop := sharesHiddenRow.holds Try.pinned (OpenSpec.ofChange sharesHiddenSpec)

/-- ITS FALSE NEIGHBOUR: 'it returns false'. Refute it at one input. -/
def sharesHiddenWrong : ChangeSpec := { name := "sharesHidden", fn := fun _ => fun
  | [d1, d2, d3, d4, d5] => { results := [.lit (.bool false)], args := [d1, d2, d3, d4, d5] }
  | _ => none }
def SharesHiddenWrongFalsely : Prop := sharesHiddenRow.holds Try.pinned (OpenSpec.ofChange sharesHiddenWrong)

/-- 'acreagelaw06.SharesTurned': WHATEVER THE INPUT: true; the input reads as it did. -/
def sharesTurnedSpec : ChangeSpec := { name := "sharesTurned", fn := fun _ => fun
  | [d1, d2, d3, d4] => { results := [.lit (.bool true)], args := [d1, d2, d3, d4] }
  | _ => none }
def sharesTurnedRow : OpenClaim := { program := "ytgfejpngfikjiaa", sum := "1226a6062562ad31e309f73328d5eacd4a2d04b42e96bc9ce824ef2626568b04", func := "acreage/acreagelaw06.SharesTurned", spec := "sharesTurned", unfollowed := true, recurses := true, apart := false }
def SharesTurnedSaid : Prop := sharesTurnedRow.holds Try.pinned (OpenSpec.ofChange sharesTurnedSpec)

/-- ITS FALSE NEIGHBOUR: 'it returns false'. Refute it at one input. -/
def sharesTurnedWrong : ChangeSpec := { name := "sharesTurned", fn := fun _ => fun
  | [d1, d2, d3, d4] => { results := [.lit (.bool false)], args := [d1, d2, d3, d4] }
  | _ => none }
def SharesTurnedWrongFalsely : Prop := sharesTurnedRow.holds Try.pinned (OpenSpec.ofChange sharesTurnedWrong)

/-- 'acreagelaw06.SharesClosed': WHATEVER THE INPUT: true; the input reads as it did. -/
def sharesClosedSpec : ChangeSpec := { name := "sharesClosed", fn := fun _ => fun
  | [d1, d2, d3, d4] => { results := [.lit (.bool true)], args := [d1, d2, d3, d4] }
  | _ => none }
def sharesClosedRow : OpenClaim := { program := "ytgfejpngfikjiaa", sum := "1226a6062562ad31e309f73328d5eacd4a2d04b42e96bc9ce824ef2626568b04", func := "acreage/acreagelaw06.SharesClosed", spec := "sharesClosed", unfollowed := true, recurses := true, apart := false }
def SharesClosedSaid : Prop := sharesClosedRow.holds Try.pinned (OpenSpec.ofChange sharesClosedSpec)

/-- ITS FALSE NEIGHBOUR: 'it returns false'. Refute it at one input. -/
def sharesClosedWrong : ChangeSpec := { name := "sharesClosed", fn := fun _ => fun
  | [d1, d2, d3, d4] => { results := [.lit (.bool false)], args := [d1, d2, d3, d4] }
  | _ => none }
def SharesClosedWrongFalsely : Prop := sharesClosedRow.holds Try.pinned (OpenSpec.ofChange sharesClosedWrong)

/-- 'acreagelaw06.SharesAttainSpec': WHATEVER THE INPUT: true; the input reads as it did. -/
def sharesAttainSpecSpec : ChangeSpec := { name := "sharesAttainSpec", fn := fun _ => fun
  | [d1, d2, d3, d4] => { results := [.lit (.bool true)], args := [d1, d2, d3, d4] }
  | _ => none }
def sharesAttainSpecRow : OpenClaim := { program := "ytgfejpngfikjiaa", sum := "1226a6062562ad31e309f73328d5eacd4a2d04b42e96bc9ce824ef2626568b04", func := "acreage/acreagelaw06.SharesAttainSpec", spec := "sharesAttainSpec", unfollowed := true, recurses := true, apart := false }
def SharesAttainSpecSaid : Prop := sharesAttainSpecRow.holds Try.pinned (OpenSpec.ofChange sharesAttainSpecSpec)

/-- ITS FALSE NEIGHBOUR: 'it returns false'. Refute it at one input. -/
def sharesAttainSpecWrong : ChangeSpec := { name := "sharesAttainSpec", fn := fun _ => fun
  | [d1, d2, d3, d4] => { results := [.lit (.bool false)], args := [d1, d2, d3, d4] }
  | _ => none }
def SharesAttainSpecWrongFalsely : Prop := sharesAttainSpecRow.holds Try.pinned (OpenSpec.ofChange sharesAttainSpecWrong)

/-- 'acreagelaw06.SharesParts': WHATEVER THE INPUT: true; the input reads as it did. -/
def sharesPartsSpec : ChangeSpec := { name := "sharesParts", fn := fun _ => fun
  | [d1, d2, d3, d4, d5, d6] => { results := [.lit (.bool true)], args := [d1, d2, d3, d4, d5, d6] }
  | _ => none }
def sharesPartsRow : OpenClaim := { program := "ytgfejpngfikjiaa", sum := "1226a6062562ad31e309f73328d5eacd4a2d04b42e96bc9ce824ef2626568b04", func := "acreage/acreagelaw06.SharesParts", spec := "sharesParts", unfollowed := true, recurses := true, apart := false }
def SharesPartsSaid : Prop := sharesPartsRow.holds Try.pinned (OpenSpec.ofChange sharesPartsSpec)

/-- ITS FALSE NEIGHBOUR: 'it returns false'. Refute it at one input. -/
def sharesPartsWrong : ChangeSpec := { name := "sharesParts", fn := fun _ => fun
  | [d1, d2, d3, d4, d5, d6] => { results := [.lit (.bool false)], args := [d1, d2, d3, d4, d5, d6] }
  | _ => none }
def SharesPartsWrongFalsely : Prop := sharesPartsRow.holds Try.pinned (OpenSpec.ofChange sharesPartsWrong)

/-- 'acreagelaw06.SharesEnds': WHATEVER THE INPUT: true; the input reads as it did. -/
def sharesEndsSpec : ChangeSpec := { name := "sharesEnds", fn := fun _ => fun
  | [d1, d2, d3] => { results := [.lit (.bool true)], args := [d1, d2, d3] }
  | _ => none }
def sharesEndsRow : OpenClaim := { program := "ytgfejpngfikjiaa", sum := "1226a6062562ad31e309f73328d5eacd4a2d04b42e96bc9ce824ef2626568b04", func := "acreage/acreagelaw06.SharesEnds", spec := "sharesEnds", unfollowed := true, recurses := true, apart := false }
def SharesEndsSaid : Prop := sharesEndsRow.holds Try.pinned (OpenSpec.ofChange sharesEndsSpec)

/-- ITS FALSE NEIGHBOUR: 'it returns false'. Refute it at one input. -/
def sharesEndsWrong : ChangeSpec := { name := "sharesEnds", fn := fun _ => fun
  | [d1, d2, d3] => { results := [.lit (.bool false)], args := [d1, d2, d3] }
  | _ => none }
def SharesEndsWrongFalsely : Prop := sharesEndsRow.holds Try.pinned (OpenSpec.ofChange sharesEndsWrong)

/-- 'acreagelaw06.SharesProofSpec': WHATEVER THE INPUT: true; the input reads as it did. -/
def sharesProofSpecSpec : ChangeSpec := { name := "sharesProofSpec", fn := fun _ => fun
  | [d1, d2, d3, d4, d5, d6] => { results := [.lit (.bool true)], args := [d1, d2, d3, d4, d5, d6] }
  | _ => none }
def sharesProofSpecRow : OpenClaim := { program := "ytgfejpngfikjiaa", sum := "1226a6062562ad31e309f73328d5eacd4a2d04b42e96bc9ce824ef2626568b04", func := "acreage/acreagelaw06.SharesProofSpec", spec := "sharesProofSpec", unfollowed := true, recurses := true, apart := false }
def SharesProofSpecSaid : Prop := sharesProofSpecRow.holds Try.pinned (OpenSpec.ofChange sharesProofSpecSpec)

/-- ITS FALSE NEIGHBOUR: 'it returns false'. Refute it at one input. -/
def sharesProofSpecWrong : ChangeSpec := { name := "sharesProofSpec", fn := fun _ => fun
  | [d1, d2, d3, d4, d5, d6] => { results := [.lit (.bool false)], args := [d1, d2, d3, d4, d5, d6] }
  | _ => none }
def SharesProofSpecWrongFalsely : Prop := sharesProofSpecRow.holds Try.pinned (OpenSpec.ofChange sharesProofSpecWrong)

/-- 'acreagelaw06.SharesNarrower': WHATEVER THE INPUT: true; the input reads as it did. -/
def sharesNarrowerSpec : ChangeSpec := { name := "sharesNarrower", fn := fun _ => fun
  | [d1, d2, d3, d4, d5, d6, d7, d8, d9] => { results := [.lit (.bool true)], args := [d1, d2, d3, d4, d5, d6, d7, d8, d9] }
  | _ => none }
def sharesNarrowerRow : OpenClaim := { program := "ytgfejpngfikjiaa", sum := "1226a6062562ad31e309f73328d5eacd4a2d04b42e96bc9ce824ef2626568b04", func := "acreage/acreagelaw06.SharesNarrower", spec := "sharesNarrower", unfollowed := true, recurses := true, apart := false }
def SharesNarrowerSaid : Prop := sharesNarrowerRow.holds Try.pinned (OpenSpec.ofChange sharesNarrowerSpec)

/-- ITS FALSE NEIGHBOUR: 'it returns false'. Refute it at one input. -/
def sharesNarrowerWrong : ChangeSpec := { name := "sharesNarrower", fn := fun _ => fun
  | [d1, d2, d3, d4, d5, d6, d7, d8, d9] => { results := [.lit (.bool false)], args := [d1, d2, d3, d4, d5, d6, d7, d8, d9] }
  | _ => none }
def SharesNarrowerWrongFalsely : Prop := sharesNarrowerRow.holds Try.pinned (OpenSpec.ofChange sharesNarrowerWrong)

/-- 'acreagelaw06.SharesTablesSpec': WHATEVER THE INPUT: true; the input reads as it did. -/
def sharesTablesSpecSpec : ChangeSpec := { name := "sharesTablesSpec", fn := fun _ => fun
  | [d1, d2, d3, d4, d5] => { results := [.lit (.bool true)], args := [d1, d2, d3, d4, d5] }
  | _ => none }
def sharesTablesSpecRow : OpenClaim := { program := "ytgfejpngfikjiaa", sum := "1226a6062562ad31e309f73328d5eacd4a2d04b42e96bc9ce824ef2626568b04", func := "acreage/acreagelaw06.SharesTablesSpec", spec := "sharesTablesSpec", unfollowed := true, recurses := true, apart := false }
def SharesTablesSpecSaid : Prop := sharesTablesSpecRow.holds Try.pinned (OpenSpec.ofChange sharesTablesSpecSpec)

/-- ITS FALSE NEIGHBOUR: 'it returns false'. Refute it at one input. -/
def sharesTablesSpecWrong : ChangeSpec := { name := "sharesTablesSpec", fn := fun _ => fun
  | [d1, d2, d3, d4, d5] => { results := [.lit (.bool false)], args := [d1, d2, d3, d4, d5] }
  | _ => none }
def SharesTablesSpecWrongFalsely : Prop := sharesTablesSpecRow.holds Try.pinned (OpenSpec.ofChange sharesTablesSpecWrong)

/-- 'acreagelaw06.SharesExact': WHATEVER THE INPUT: true; the input reads as it did. -/
def sharesExactSpec : ChangeSpec := { name := "sharesExact", fn := fun _ => fun
  | [d1, d2, d3, d4, d5, d6, d7, d8, d9, d10] => { results := [.lit (.bool true)], args := [d1, d2, d3, d4, d5, d6, d7, d8, d9, d10] }
  | _ => none }
def sharesExactRow : OpenClaim := { program := "ytgfejpngfikjiaa", sum := "1226a6062562ad31e309f73328d5eacd4a2d04b42e96bc9ce824ef2626568b04", func := "acreage/acreagelaw06.SharesExact", spec := "sharesExact", unfollowed := true, recurses := true, apart := false }
def SharesExactSaid : Prop := sharesExactRow.holds Try.pinned (OpenSpec.ofChange sharesExactSpec)

/-- ITS FALSE NEIGHBOUR: 'it returns false'. Refute it at one input. -/
def sharesExactWrong : ChangeSpec := { name := "sharesExact", fn := fun _ => fun
  | [d1, d2, d3, d4, d5, d6, d7, d8, d9, d10] => { results := [.lit (.bool false)], args := [d1, d2, d3, d4, d5, d6, d7, d8, d9, d10] }
  | _ => none }
def SharesExactWrongFalsely : Prop := sharesExactRow.holds Try.pinned (OpenSpec.ofChange sharesExactWrong)

/- THE SECOND FORM. 'bulk': how many values and letters a reading holds, each counted each time it is reached (what is shared counts as often as it is met; a slice's spare places count too). A statement '..UptoSaid' is the law's where the arguments, and the package variables that the reading takes, are together of bulk at most 1048576: NARROWER than '..Said'. Prove '..Said' where nothing that the law and all that it calls make is longer than what came in: it says more and counts as full. Else prove '..UptoSaid'. A law counts once. -/
mutual
def uptoBulk {H : Type} : DataW H → Nat
  | .lit (.string bytes) => bytes.length + 1
  | .lit _ => 1
  | .nil => 1
  | .ptr d => uptoBulk d + 1
  | .slice elems spare => uptoBulkAll elems + uptoBulkAll spare + 1
  | .agg parts => uptoBulkAll parts + 1
  | .iface _ d => uptoBulk d + 1
  | .map entries => uptoBulkEntries entries + 1
  | .held _ => 1
def uptoBulkAll {H : Type} : List (DataW H) → Nat
  | [] => 0
  | d :: r => uptoBulk d + uptoBulkAll r
def uptoBulkEntries {H : Type} : List (Lit × DataW H) → Nat
  | [] => 0
  | x :: r => uptoBulkEntry x + uptoBulkEntries r
def uptoBulkEntry {H : Type} : Lit × DataW H → Nat
  | (.string bytes, d) => bytes.length + uptoBulk d + 1
  | (_, d) => uptoBulk d + 1
 end
def uptoSmall : (H : Type) → List (DataW H) → Bool := fun _ ds => decide (uptoBulkAll ds ≤ 1048576)
def OpenSpec.upto (s : _root_.Go.ChangeSpec) : _root_.Go.OpenSpec := { _root_.Go.OpenSpec.ofChange s with cond := some uptoSmall }

/-- 'acreagelaw06.SharesGapSpec', WHERE WHAT IT READS IS OF BULK AT MOST 1048576: true; the input reads as it did. -/
def sharesGapSpecUptoRow : OpenClaim := { program := "ytgfejpngfikjiaa", sum := "1226a6062562ad31e309f73328d5eacd4a2d04b42e96bc9ce824ef2626568b04", func := "acreage/acreagelaw06.SharesGapSpec", spec := "sharesGapSpec", unfollowed := true, recurses := true, apart := false, narrowed := true }
def SharesGapSpecUptoSaid : Prop := sharesGapSpecUptoRow.holds Try.pinned (OpenSpec.upto sharesGapSpecSpec)

/-- 'acreagelaw06.SharesBoundsSpec', WHERE WHAT IT READS IS OF BULK AT MOST 1048576: true; the input reads as it did. -/
def sharesBoundsSpecUptoRow : OpenClaim := { program := "ytgfejpngfikjiaa", sum := "1226a6062562ad31e309f73328d5eacd4a2d04b42e96bc9ce824ef2626568b04", func := "acreage/acreagelaw06.SharesBoundsSpec", spec := "sharesBoundsSpec", unfollowed := true, recurses := true, apart := false, narrowed := true }
def SharesBoundsSpecUptoSaid : Prop := sharesBoundsSpecUptoRow.holds Try.pinned (OpenSpec.upto sharesBoundsSpecSpec)

/-- 'acreagelaw06.SharesBlockSpec', WHERE WHAT IT READS IS OF BULK AT MOST 1048576: true; the input reads as it did. -/
def sharesBlockSpecUptoRow : OpenClaim := { program := "ytgfejpngfikjiaa", sum := "1226a6062562ad31e309f73328d5eacd4a2d04b42e96bc9ce824ef2626568b04", func := "acreage/acreagelaw06.SharesBlockSpec", spec := "sharesBlockSpec", unfollowed := true, recurses := true, apart := false, narrowed := true }
def SharesBlockSpecUptoSaid : Prop := sharesBlockSpecUptoRow.holds Try.pinned (OpenSpec.upto sharesBlockSpecSpec)

/-- 'acreagelaw06.SharesMerged', WHERE WHAT IT READS IS OF BULK AT MOST 1048576: true; the input reads as it did. -/
def sharesMergedUptoRow : OpenClaim := { program := "ytgfejpngfikjiaa", sum := "1226a6062562ad31e309f73328d5eacd4a2d04b42e96bc9ce824ef2626568b04", func := "acreage/acreagelaw06.SharesMerged", spec := "sharesMerged", unfollowed := true, recurses := true, apart := false, narrowed := true }
def SharesMergedUptoSaid : Prop := sharesMergedUptoRow.holds Try.pinned (OpenSpec.upto sharesMergedSpec)

/-- 'acreagelaw06.SharesPossibleSpec', WHERE WHAT IT READS IS OF BULK AT MOST 1048576: true; the input reads as it did. -/
def sharesPossibleSpecUptoRow : OpenClaim := { program := "ytgfejpngfikjiaa", sum := "1226a6062562ad31e309f73328d5eacd4a2d04b42e96bc9ce824ef2626568b04", func := "acreage/acreagelaw06.SharesPossibleSpec", spec := "sharesPossibleSpec", unfollowed := true, recurses := true, apart := false, narrowed := true }
def SharesPossibleSpecUptoSaid : Prop := sharesPossibleSpecUptoRow.holds Try.pinned (OpenSpec.upto sharesPossibleSpecSpec)

/-- 'acreagelaw06.SharesHoffman', WHERE WHAT IT READS IS OF BULK AT MOST 1048576: true; the input reads as it did. -/
def sharesHoffmanUptoRow : OpenClaim := { program := "ytgfejpngfikjiaa", sum := "1226a6062562ad31e309f73328d5eacd4a2d04b42e96bc9ce824ef2626568b04", func := "acreage/acreagelaw06.SharesHoffman", spec := "sharesHoffman", unfollowed := true, recurses := true, apart := false, narrowed := true }
def SharesHoffmanUptoSaid : Prop := sharesHoffmanUptoRow.holds Try.pinned (OpenSpec.upto sharesHoffmanSpec)

/-- 'acreagelaw06.SharesCheckSpec', WHERE WHAT IT READS IS OF BULK AT MOST 1048576: true; the input reads as it did. -/
def sharesCheckSpecUptoRow : OpenClaim := { program := "ytgfejpngfikjiaa", sum := "1226a6062562ad31e309f73328d5eacd4a2d04b42e96bc9ce824ef2626568b04", func := "acreage/acreagelaw06.SharesCheckSpec", spec := "sharesCheckSpec", unfollowed := true, recurses := true, apart := false, narrowed := true }
def SharesCheckSpecUptoSaid : Prop := sharesCheckSpecUptoRow.holds Try.pinned (OpenSpec.upto sharesCheckSpecSpec)

/-- 'acreagelaw06.SharesHidden', WHERE WHAT IT READS IS OF BULK AT MOST 1048576: true; the input reads as it did. -/
def sharesHiddenUptoRow : OpenClaim := { program := "ytgfejpngfikjiaa", sum := "1226a6062562ad31e309f73328d5eacd4a2d04b42e96bc9ce824ef2626568b04", func := "acreage/acreagelaw06.SharesHidden", spec := "sharesHidden", unfollowed := true, recurses := true, apart := false, narrowed := true }
def SharesHiddenUptoSaid : Prop := sharesHiddenUptoRow.holds Try.pinned (OpenSpec.upto sharesHiddenSpec)

/-- 'acreagelaw06.SharesTurned', WHERE WHAT IT READS IS OF BULK AT MOST 1048576: true; the input reads as it did. -/
def sharesTurnedUptoRow : OpenClaim := { program := "ytgfejpngfikjiaa", sum := "1226a6062562ad31e309f73328d5eacd4a2d04b42e96bc9ce824ef2626568b04", func := "acreage/acreagelaw06.SharesTurned", spec := "sharesTurned", unfollowed := true, recurses := true, apart := false, narrowed := true }
def SharesTurnedUptoSaid : Prop := sharesTurnedUptoRow.holds Try.pinned (OpenSpec.upto sharesTurnedSpec)

/-- 'acreagelaw06.SharesClosed', WHERE WHAT IT READS IS OF BULK AT MOST 1048576: true; the input reads as it did. -/
def sharesClosedUptoRow : OpenClaim := { program := "ytgfejpngfikjiaa", sum := "1226a6062562ad31e309f73328d5eacd4a2d04b42e96bc9ce824ef2626568b04", func := "acreage/acreagelaw06.SharesClosed", spec := "sharesClosed", unfollowed := true, recurses := true, apart := false, narrowed := true }
def SharesClosedUptoSaid : Prop := sharesClosedUptoRow.holds Try.pinned (OpenSpec.upto sharesClosedSpec)

/-- 'acreagelaw06.SharesAttainSpec', WHERE WHAT IT READS IS OF BULK AT MOST 1048576: true; the input reads as it did. -/
def sharesAttainSpecUptoRow : OpenClaim := { program := "ytgfejpngfikjiaa", sum := "1226a6062562ad31e309f73328d5eacd4a2d04b42e96bc9ce824ef2626568b04", func := "acreage/acreagelaw06.SharesAttainSpec", spec := "sharesAttainSpec", unfollowed := true, recurses := true, apart := false, narrowed := true }
def SharesAttainSpecUptoSaid : Prop := sharesAttainSpecUptoRow.holds Try.pinned (OpenSpec.upto sharesAttainSpecSpec)

/-- 'acreagelaw06.SharesParts', WHERE WHAT IT READS IS OF BULK AT MOST 1048576: true; the input reads as it did. -/
def sharesPartsUptoRow : OpenClaim := { program := "ytgfejpngfikjiaa", sum := "1226a6062562ad31e309f73328d5eacd4a2d04b42e96bc9ce824ef2626568b04", func := "acreage/acreagelaw06.SharesParts", spec := "sharesParts", unfollowed := true, recurses := true, apart := false, narrowed := true }
def SharesPartsUptoSaid : Prop := sharesPartsUptoRow.holds Try.pinned (OpenSpec.upto sharesPartsSpec)

/-- 'acreagelaw06.SharesEnds', WHERE WHAT IT READS IS OF BULK AT MOST 1048576: true; the input reads as it did. -/
def sharesEndsUptoRow : OpenClaim := { program := "ytgfejpngfikjiaa", sum := "1226a6062562ad31e309f73328d5eacd4a2d04b42e96bc9ce824ef2626568b04", func := "acreage/acreagelaw06.SharesEnds", spec := "sharesEnds", unfollowed := true, recurses := true, apart := false, narrowed := true }
def SharesEndsUptoSaid : Prop := sharesEndsUptoRow.holds Try.pinned (OpenSpec.upto sharesEndsSpec)

/-- 'acreagelaw06.SharesProofSpec', WHERE WHAT IT READS IS OF BULK AT MOST 1048576: true; the input reads as it did. -/
def sharesProofSpecUptoRow : OpenClaim := { program := "ytgfejpngfikjiaa", sum := "1226a6062562ad31e309f73328d5eacd4a2d04b42e96bc9ce824ef2626568b04", func := "acreage/acreagelaw06.SharesProofSpec", spec := "sharesProofSpec", unfollowed := true, recurses := true, apart := false, narrowed := true }
def SharesProofSpecUptoSaid : Prop := sharesProofSpecUptoRow.holds Try.pinned (OpenSpec.upto sharesProofSpecSpec)

/-- 'acreagelaw06.SharesNarrower', WHERE WHAT IT READS IS OF BULK AT MOST 1048576: true; the input reads as it did. -/
def sharesNarrowerUptoRow : OpenClaim := { program := "ytgfejpngfikjiaa", sum := "1226a6062562ad31e309f73328d5eacd4a2d04b42e96bc9ce824ef2626568b04", func := "acreage/acreagelaw06.SharesNarrower", spec := "sharesNarrower", unfollowed := true, recurses := true, apart := false, narrowed := true }
def SharesNarrowerUptoSaid : Prop := sharesNarrowerUptoRow.holds Try.pinned (OpenSpec.upto sharesNarrowerSpec)

/-- 'acreagelaw06.SharesTablesSpec', WHERE WHAT IT READS IS OF BULK AT MOST 1048576: true; the input reads as it did. -/
def sharesTablesSpecUptoRow : OpenClaim := { program := "ytgfejpngfikjiaa", sum := "1226a6062562ad31e309f73328d5eacd4a2d04b42e96bc9ce824ef2626568b04", func := "acreage/acreagelaw06.SharesTablesSpec", spec := "sharesTablesSpec", unfollowed := true, recurses := true, apart := false, narrowed := true }
def SharesTablesSpecUptoSaid : Prop := sharesTablesSpecUptoRow.holds Try.pinned (OpenSpec.upto sharesTablesSpecSpec)

/-- 'acreagelaw06.SharesExact', WHERE WHAT IT READS IS OF BULK AT MOST 1048576: true; the input reads as it did. -/
def sharesExactUptoRow : OpenClaim := { program := "ytgfejpngfikjiaa", sum := "1226a6062562ad31e309f73328d5eacd4a2d04b42e96bc9ce824ef2626568b04", func := "acreage/acreagelaw06.SharesExact", spec := "sharesExact", unfollowed := true, recurses := true, apart := false, narrowed := true }
def SharesExactUptoSaid : Prop := sharesExactUptoRow.holds Try.pinned (OpenSpec.upto sharesExactSpec)

end Rows
end Go.Proofs.Ytgfejpngfikjiaa
