/-
  No cell of these rows narrows 'for every input' (looked for: loops, veiled, ifaces, maps, wideKeys, modest, calm, conditions, laid).
  DERIVED. THE GIVEN ROWS OF THIS SEAT. 11 by the template 'for every input the law returns true; each argument reads behind the call as it read before'; 0 by the template 'total and deterministic' (their statements: YtamcncpgfhfheaaTotals.lean).
  GIVEN WITH THE SEED: the statements are not yours to turn. If you find one false, say at which input.
  Laid BY PROGRAM, IN A SANDBOX (cutbox-rows.mjs): the forced cells as the released guide's own fill.sh prints them over the translation 086ea1c65b8ce0a9… (all of the seat's roots in one cut). By AI agents, Wed Nov 11 2026. No macro, syntax, notation, axiom, sorry.
-/
import Derived.Test.YtamcncpgfhfheaaChecked
import GoSem.Claim
import GoSem.ClaimJoined
import GoSem.ClaimMapViews
import Derived.JoinedTies
import Derived.KernelRfl
namespace Go.Proofs.Ytamcncpgfhfheaa
/- THE CELL 'sum', in the pinned program and in every row, IS THE sha256 OF THE DUMP (.gsa) THAT YtamcncpgfhfheaaProg.lean LOADS. Nothing in Lean hashes anything: it is a label: what it is worth is what the hold of that sum in a sandbox is worth. -/
noncomputable def Try.pinned : Pinned := { name := "ytamcncpgfhfheaa", sum := "086ea1c65b8ce0a9fcd85a5328fa4c7d4eea278c093d7d7712e9525f2948b2e5", checked := Try.checked }
namespace Rows
def none {H : Type} : Left H := { results := [], args := [] }

/-- 'acreagelaw09.LedgerTrees': WHATEVER THE INPUT: true; the input reads as it did. -/
def ledgerTreesSpec : ChangeSpec := { name := "ledgerTrees", fn := fun _ => fun
  | [d1, d2, d3, d4] => { results := [.lit (.bool true)], args := [d1, d2, d3, d4] }
  | _ => none }
def ledgerTreesRow : OpenClaim := { program := "ytamcncpgfhfheaa", sum := "086ea1c65b8ce0a9fcd85a5328fa4c7d4eea278c093d7d7712e9525f2948b2e5", func := "acreage/acreagelaw09.LedgerTrees", spec := "ledgerTrees", unfollowed := true, recurses := true, plainKeys := false, apart := false }
def LedgerTreesSaid : Prop := ledgerTreesRow.holds Try.pinned (OpenSpec.ofChange ledgerTreesSpec)

/-- ITS FALSE NEIGHBOUR: 'it returns false'. Refute it at one input. -/
def ledgerTreesWrong : ChangeSpec := { name := "ledgerTrees", fn := fun _ => fun
  | [d1, d2, d3, d4] => { results := [.lit (.bool false)], args := [d1, d2, d3, d4] }
  | _ => none }
def LedgerTreesWrongFalsely : Prop := ledgerTreesRow.holds Try.pinned (OpenSpec.ofChange ledgerTreesWrong)

/-- 'acreagelaw09.LedgerPaths': WHATEVER THE INPUT: true; the input reads as it did. -/
def ledgerPathsSpec : ChangeSpec := { name := "ledgerPaths", fn := fun _ => fun
  | [d1, d2, d3, d4, d5, d6] => { results := [.lit (.bool true)], args := [d1, d2, d3, d4, d5, d6] }
  | _ => none }
def ledgerPathsRow : OpenClaim := { program := "ytamcncpgfhfheaa", sum := "086ea1c65b8ce0a9fcd85a5328fa4c7d4eea278c093d7d7712e9525f2948b2e5", func := "acreage/acreagelaw09.LedgerPaths", spec := "ledgerPaths", unfollowed := true, recurses := true, plainKeys := false, apart := false }
def LedgerPathsSaid : Prop := ledgerPathsRow.holds Try.pinned (OpenSpec.ofChange ledgerPathsSpec)

/-- ITS FALSE NEIGHBOUR: 'it returns false'. Refute it at one input. -/
def ledgerPathsWrong : ChangeSpec := { name := "ledgerPaths", fn := fun _ => fun
  | [d1, d2, d3, d4, d5, d6] => { results := [.lit (.bool false)], args := [d1, d2, d3, d4, d5, d6] }
  | _ => none }
def LedgerPathsWrongFalsely : Prop := ledgerPathsRow.holds Try.pinned (OpenSpec.ofChange ledgerPathsWrong)

/-- 'acreagelaw09.LedgerGrowth': WHATEVER THE INPUT: true; the input reads as it did. -/
def ledgerGrowthSpec : ChangeSpec := { name := "ledgerGrowth", fn := fun _ => fun
  | [d1, d2, d3, d4, d5, d6] => { results := [.lit (.bool true)], args := [d1, d2, d3, d4, d5, d6] }
  | _ => none }
def ledgerGrowthRow : OpenClaim := { program := "ytamcncpgfhfheaa", sum := "086ea1c65b8ce0a9fcd85a5328fa4c7d4eea278c093d7d7712e9525f2948b2e5", func := "acreage/acreagelaw09.LedgerGrowth", spec := "ledgerGrowth", unfollowed := true, recurses := true, plainKeys := false, apart := false }
def LedgerGrowthSaid : Prop := ledgerGrowthRow.holds Try.pinned (OpenSpec.ofChange ledgerGrowthSpec)

/-- ITS FALSE NEIGHBOUR: 'it returns false'. Refute it at one input. -/
def ledgerGrowthWrong : ChangeSpec := { name := "ledgerGrowth", fn := fun _ => fun
  | [d1, d2, d3, d4, d5, d6] => { results := [.lit (.bool false)], args := [d1, d2, d3, d4, d5, d6] }
  | _ => none }
def LedgerGrowthWrongFalsely : Prop := ledgerGrowthRow.holds Try.pinned (OpenSpec.ofChange ledgerGrowthWrong)

/-- 'acreagelaw09.LedgerShort': WHATEVER THE INPUT: true; the input reads as it did. -/
def ledgerShortSpec : ChangeSpec := { name := "ledgerShort", fn := fun _ => fun
  | [d1, d2, d3] => { results := [.lit (.bool true)], args := [d1, d2, d3] }
  | _ => none }
def ledgerShortRow : OpenClaim := { program := "ytamcncpgfhfheaa", sum := "086ea1c65b8ce0a9fcd85a5328fa4c7d4eea278c093d7d7712e9525f2948b2e5", func := "acreage/acreagelaw09.LedgerShort", spec := "ledgerShort", unfollowed := true, recurses := true, plainKeys := false, apart := false }
def LedgerShortSaid : Prop := ledgerShortRow.holds Try.pinned (OpenSpec.ofChange ledgerShortSpec)

/-- ITS FALSE NEIGHBOUR: 'it returns false'. Refute it at one input. -/
def ledgerShortWrong : ChangeSpec := { name := "ledgerShort", fn := fun _ => fun
  | [d1, d2, d3] => { results := [.lit (.bool false)], args := [d1, d2, d3] }
  | _ => none }
def LedgerShortWrongFalsely : Prop := ledgerShortRow.holds Try.pinned (OpenSpec.ofChange ledgerShortWrong)

/-- 'acreagelaw09.LedgerDisks': WHATEVER THE INPUT: true; the input reads as it did. -/
def ledgerDisksSpec : ChangeSpec := { name := "ledgerDisks", fn := fun _ => fun
  | [d1, d2] => { results := [.lit (.bool true)], args := [d1, d2] }
  | _ => none }
def ledgerDisksRow : OpenClaim := { program := "ytamcncpgfhfheaa", sum := "086ea1c65b8ce0a9fcd85a5328fa4c7d4eea278c093d7d7712e9525f2948b2e5", func := "acreage/acreagelaw09.LedgerDisks", spec := "ledgerDisks", unfollowed := true, recurses := true, plainKeys := false, apart := false }
def LedgerDisksSaid : Prop := ledgerDisksRow.holds Try.pinned (OpenSpec.ofChange ledgerDisksSpec)

/-- ITS FALSE NEIGHBOUR: 'it returns false'. Refute it at one input. -/
def ledgerDisksWrong : ChangeSpec := { name := "ledgerDisks", fn := fun _ => fun
  | [d1, d2] => { results := [.lit (.bool false)], args := [d1, d2] }
  | _ => none }
def LedgerDisksWrongFalsely : Prop := ledgerDisksRow.holds Try.pinned (OpenSpec.ofChange ledgerDisksWrong)

/-- 'acreagelaw09.LedgerProves': WHATEVER THE INPUT: true; the input reads as it did. -/
def ledgerProvesSpec : ChangeSpec := { name := "ledgerProves", fn := fun _ => fun
  | [d1, d2, d3, d4] => { results := [.lit (.bool true)], args := [d1, d2, d3, d4] }
  | _ => none }
def ledgerProvesRow : OpenClaim := { program := "ytamcncpgfhfheaa", sum := "086ea1c65b8ce0a9fcd85a5328fa4c7d4eea278c093d7d7712e9525f2948b2e5", func := "acreage/acreagelaw09.LedgerProves", spec := "ledgerProves", unfollowed := true, recurses := true, plainKeys := false, apart := false }
def LedgerProvesSaid : Prop := ledgerProvesRow.holds Try.pinned (OpenSpec.ofChange ledgerProvesSpec)

/-- ITS FALSE NEIGHBOUR: 'it returns false'. Refute it at one input. -/
def ledgerProvesWrong : ChangeSpec := { name := "ledgerProves", fn := fun _ => fun
  | [d1, d2, d3, d4] => { results := [.lit (.bool false)], args := [d1, d2, d3, d4] }
  | _ => none }
def LedgerProvesWrongFalsely : Prop := ledgerProvesRow.holds Try.pinned (OpenSpec.ofChange ledgerProvesWrong)

/-- 'acreagelaw09.LedgerGoesOn': WHATEVER THE INPUT: true; the input reads as it did. -/
def ledgerGoesOnSpec : ChangeSpec := { name := "ledgerGoesOn", fn := fun _ => fun
  | [d1, d2, d3, d4] => { results := [.lit (.bool true)], args := [d1, d2, d3, d4] }
  | _ => none }
def ledgerGoesOnRow : OpenClaim := { program := "ytamcncpgfhfheaa", sum := "086ea1c65b8ce0a9fcd85a5328fa4c7d4eea278c093d7d7712e9525f2948b2e5", func := "acreage/acreagelaw09.LedgerGoesOn", spec := "ledgerGoesOn", unfollowed := true, recurses := true, plainKeys := false, apart := false }
def LedgerGoesOnSaid : Prop := ledgerGoesOnRow.holds Try.pinned (OpenSpec.ofChange ledgerGoesOnSpec)

/-- ITS FALSE NEIGHBOUR: 'it returns false'. Refute it at one input. -/
def ledgerGoesOnWrong : ChangeSpec := { name := "ledgerGoesOn", fn := fun _ => fun
  | [d1, d2, d3, d4] => { results := [.lit (.bool false)], args := [d1, d2, d3, d4] }
  | _ => none }
def LedgerGoesOnWrongFalsely : Prop := ledgerGoesOnRow.holds Try.pinned (OpenSpec.ofChange ledgerGoesOnWrong)

/-- 'acreagelaw09.LedgerOnce': WHATEVER THE INPUT: true; the input reads as it did. -/
def ledgerOnceSpec : ChangeSpec := { name := "ledgerOnce", fn := fun _ => fun
  | [d1, d2, d3] => { results := [.lit (.bool true)], args := [d1, d2, d3] }
  | _ => none }
def ledgerOnceRow : OpenClaim := { program := "ytamcncpgfhfheaa", sum := "086ea1c65b8ce0a9fcd85a5328fa4c7d4eea278c093d7d7712e9525f2948b2e5", func := "acreage/acreagelaw09.LedgerOnce", spec := "ledgerOnce", unfollowed := true, recurses := true, plainKeys := false, apart := false }
def LedgerOnceSaid : Prop := ledgerOnceRow.holds Try.pinned (OpenSpec.ofChange ledgerOnceSpec)

/-- ITS FALSE NEIGHBOUR: 'it returns false'. Refute it at one input. -/
def ledgerOnceWrong : ChangeSpec := { name := "ledgerOnce", fn := fun _ => fun
  | [d1, d2, d3] => { results := [.lit (.bool false)], args := [d1, d2, d3] }
  | _ => none }
def LedgerOnceWrongFalsely : Prop := ledgerOnceRow.holds Try.pinned (OpenSpec.ofChange ledgerOnceWrong)

/-- 'acreagelaw09.LedgerAgree': WHATEVER THE INPUT: true; the input reads as it did. -/
def ledgerAgreeSpec : ChangeSpec := { name := "ledgerAgree", fn := fun _ => fun
  | [d1, d2, d3] => { results := [.lit (.bool true)], args := [d1, d2, d3] }
  | _ => none }
def ledgerAgreeRow : OpenClaim := { program := "ytamcncpgfhfheaa", sum := "086ea1c65b8ce0a9fcd85a5328fa4c7d4eea278c093d7d7712e9525f2948b2e5", func := "acreage/acreagelaw09.LedgerAgree", spec := "ledgerAgree", unfollowed := true, recurses := true, plainKeys := false, apart := false }
def LedgerAgreeSaid : Prop := ledgerAgreeRow.holds Try.pinned (OpenSpec.ofChange ledgerAgreeSpec)

/-- ITS FALSE NEIGHBOUR: 'it returns false'. Refute it at one input. -/
def ledgerAgreeWrong : ChangeSpec := { name := "ledgerAgree", fn := fun _ => fun
  | [d1, d2, d3] => { results := [.lit (.bool false)], args := [d1, d2, d3] }
  | _ => none }
def LedgerAgreeWrongFalsely : Prop := ledgerAgreeRow.holds Try.pinned (OpenSpec.ofChange ledgerAgreeWrong)

/-- 'acreagelaw09.LedgerStorms': WHATEVER THE INPUT: true; the input reads as it did. -/
def ledgerStormsSpec : ChangeSpec := { name := "ledgerStorms", fn := fun _ => fun
  | [d1, d2] => { results := [.lit (.bool true)], args := [d1, d2] }
  | _ => none }
def ledgerStormsRow : OpenClaim := { program := "ytamcncpgfhfheaa", sum := "086ea1c65b8ce0a9fcd85a5328fa4c7d4eea278c093d7d7712e9525f2948b2e5", func := "acreage/acreagelaw09.LedgerStorms", spec := "ledgerStorms", unfollowed := true, recurses := true, plainKeys := false, apart := false }
def LedgerStormsSaid : Prop := ledgerStormsRow.holds Try.pinned (OpenSpec.ofChange ledgerStormsSpec)

/-- ITS FALSE NEIGHBOUR: 'it returns false'. Refute it at one input. -/
def ledgerStormsWrong : ChangeSpec := { name := "ledgerStorms", fn := fun _ => fun
  | [d1, d2] => { results := [.lit (.bool false)], args := [d1, d2] }
  | _ => none }
def LedgerStormsWrongFalsely : Prop := ledgerStormsRow.holds Try.pinned (OpenSpec.ofChange ledgerStormsWrong)

/-- 'acreagelaw09.LedgerKept': WHATEVER THE INPUT: true; the input reads as it did. -/
def ledgerKeptSpec : ChangeSpec := { name := "ledgerKept", fn := fun _ => fun
  | [d1, d2, d3, d4] => { results := [.lit (.bool true)], args := [d1, d2, d3, d4] }
  | _ => none }
def ledgerKeptRow : OpenClaim := { program := "ytamcncpgfhfheaa", sum := "086ea1c65b8ce0a9fcd85a5328fa4c7d4eea278c093d7d7712e9525f2948b2e5", func := "acreage/acreagelaw09.LedgerKept", spec := "ledgerKept", unfollowed := true, recurses := true, plainKeys := false, apart := false }
def LedgerKeptSaid : Prop := ledgerKeptRow.holds Try.pinned (OpenSpec.ofChange ledgerKeptSpec)

/-- ITS FALSE NEIGHBOUR: 'it returns false'. Refute it at one input. -/
def ledgerKeptWrong : ChangeSpec := { name := "ledgerKept", fn := fun _ => fun
  | [d1, d2, d3, d4] => { results := [.lit (.bool false)], args := [d1, d2, d3, d4] }
  | _ => none }
def LedgerKeptWrongFalsely : Prop := ledgerKeptRow.holds Try.pinned (OpenSpec.ofChange ledgerKeptWrong)

/- THE SECOND FORM. 'bulk': how many values and letters a reading holds, each counted each time it is reached (what is shared counts as often as it is met; a slice's spare places count too). A statement '..UptoSaid' is the law's where the arguments, and the package variables that the reading takes, are together of bulk at most 1048576: NARROWER than '..Said'. Prove '..Said' where nothing that the law and all that it calls make is longer than what came in: it says more and counts as full. Else prove '..UptoSaid'. A law counts once. -/
mutual
def uptoBulk {H : Type} : DataW H → Nat
  | .lit (.string bytes) => bytes.length + 1
  | .lit _ => 1
  | .nil => 1
  | .ptr d => uptoBulk d + 1
  | .slice elems spare => uptoBulkAll elems + uptoBulkAll spare + 1
  | .agg parts => uptoBulkAll parts + 1
  | .iface _ d => uptoBulk d + 1
  | .map entries => uptoBulkEntries entries + 1
  | .held _ => 1
def uptoBulkAll {H : Type} : List (DataW H) → Nat
  | [] => 0
  | d :: r => uptoBulk d + uptoBulkAll r
def uptoBulkEntries {H : Type} : List (Lit × DataW H) → Nat
  | [] => 0
  | x :: r => uptoBulkEntry x + uptoBulkEntries r
def uptoBulkEntry {H : Type} : Lit × DataW H → Nat
  | (.string bytes, d) => bytes.length + uptoBulk d + 1
  | (_, d) => uptoBulk d + 1
 end
def uptoSmall : (H : Type) → List (DataW H) → Bool := fun _ ds => decide (uptoBulkAll ds ≤ 1048576)
def OpenSpec.upto (s : _root_.Go.ChangeSpec) : _root_.Go.OpenSpec := { _root_.Go.OpenSpec.ofChange s with cond := some uptoSmall }

/-- 'acreagelaw09.LedgerTrees', WHERE WHAT IT READS IS OF BULK AT MOST 1048576: true; the input reads as it did. -/
def ledgerTreesUptoRow : OpenClaim := { program := "ytamcncpgfhfheaa", sum := "086ea1c65b8ce0a9fcd85a5328fa4c7d4eea278c093d7d7712e9525f2948b2e5", func := "acreage/acreagelaw09.LedgerTrees", spec := "ledgerTrees", unfollowed := true, recurses := true, plainKeys := false, apart := false, narrowed := true }
def LedgerTreesUptoSaid : Prop := ledgerTreesUptoRow.holds Try.pinned (OpenSpec.upto ledgerTreesSpec)

/-- 'acreagelaw09.LedgerPaths', WHERE WHAT IT READS IS OF BULK AT MOST 1048576: true; the input reads as it did. -/
def ledgerPathsUptoRow : OpenClaim := { program := "ytamcncpgfhfheaa", sum := "086ea1c65b8ce0a9fcd85a5328fa4c7d4eea278c093d7d7712e9525f2948b2e5", func := "acreage/acreagelaw09.LedgerPaths", spec := "ledgerPaths", unfollowed := true, recurses := true, plainKeys := false, apart := false, narrowed := true }
def LedgerPathsUptoSaid : Prop := ledgerPathsUptoRow.holds Try.pinned (OpenSpec.upto ledgerPathsSpec)

/-- 'acreagelaw09.LedgerGrowth', WHERE WHAT IT READS IS OF BULK AT MOST 1048576: true; the input reads as it did. -/
def ledgerGrowthUptoRow : OpenClaim := { program := "ytamcncpgfhfheaa", sum := "086ea1c65b8ce0a9fcd85a5328fa4c7d4eea278c093d7d7712e9525f2948b2e5", func := "acreage/acreagelaw09.LedgerGrowth", spec := "ledgerGrowth", unfollowed := true, recurses := true, plainKeys := false, apart := false, narrowed := true }
def LedgerGrowthUptoSaid : Prop := ledgerGrowthUptoRow.holds Try.pinned (OpenSpec.upto ledgerGrowthSpec)

/-- 'acreagelaw09.LedgerShort', WHERE WHAT IT READS IS OF BULK AT MOST 1048576: true; the input reads as it did. -/
def ledgerShortUptoRow : OpenClaim := { program := "ytamcncpgfhfheaa", sum := "086ea1c65b8ce0a9fcd85a5328fa4c7d4eea278c093d7d7712e9525f2948b2e5", func := "acreage/acreagelaw09.LedgerShort", spec := "ledgerShort", unfollowed := true, recurses := true, plainKeys := false, apart := false, narrowed := true }
def LedgerShortUptoSaid : Prop := ledgerShortUptoRow.holds Try.pinned (OpenSpec.upto ledgerShortSpec)

/-- 'acreagelaw09.LedgerDisks', WHERE WHAT IT READS IS OF BULK AT MOST 1048576: true; the input reads as it did. -/
def ledgerDisksUptoRow : OpenClaim := { program := "ytamcncpgfhfheaa", sum := "086ea1c65b8ce0a9fcd85a5328fa4c7d4eea278c093d7d7712e9525f2948b2e5", func := "acreage/acreagelaw09.LedgerDisks", spec := "ledgerDisks", unfollowed := true, recurses := true, plainKeys := false, apart := false, narrowed := true }
def LedgerDisksUptoSaid : Prop := ledgerDisksUptoRow.holds Try.pinned (OpenSpec.upto ledgerDisksSpec)

/-- 'acreagelaw09.LedgerProves', WHERE WHAT IT READS IS OF BULK AT MOST 1048576: true; the input reads as it did. -/
def ledgerProvesUptoRow : OpenClaim := { program := "ytamcncpgfhfheaa", sum := "086ea1c65b8ce0a9fcd85a5328fa4c7d4eea278c093d7d7712e9525f2948b2e5", func := "acreage/acreagelaw09.LedgerProves", spec := "ledgerProves", unfollowed := true, recurses := true, plainKeys := false, apart := false, narrowed := true }
def LedgerProvesUptoSaid : Prop := ledgerProvesUptoRow.holds Try.pinned (OpenSpec.upto ledgerProvesSpec)

/-- 'acreagelaw09.LedgerGoesOn', WHERE WHAT IT READS IS OF BULK AT MOST 1048576: true; the input reads as it did. -/
def ledgerGoesOnUptoRow : OpenClaim := { program := "ytamcncpgfhfheaa", sum := "086ea1c65b8ce0a9fcd85a5328fa4c7d4eea278c093d7d7712e9525f2948b2e5", func := "acreage/acreagelaw09.LedgerGoesOn", spec := "ledgerGoesOn", unfollowed := true, recurses := true, plainKeys := false, apart := false, narrowed := true }
def LedgerGoesOnUptoSaid : Prop := ledgerGoesOnUptoRow.holds Try.pinned (OpenSpec.upto ledgerGoesOnSpec)

/-- 'acreagelaw09.LedgerOnce', WHERE WHAT IT READS IS OF BULK AT MOST 1048576: true; the input reads as it did. -/
def ledgerOnceUptoRow : OpenClaim := { program := "ytamcncpgfhfheaa", sum := "086ea1c65b8ce0a9fcd85a5328fa4c7d4eea278c093d7d7712e9525f2948b2e5", func := "acreage/acreagelaw09.LedgerOnce", spec := "ledgerOnce", unfollowed := true, recurses := true, plainKeys := false, apart := false, narrowed := true }
def LedgerOnceUptoSaid : Prop := ledgerOnceUptoRow.holds Try.pinned (OpenSpec.upto ledgerOnceSpec)

/-- 'acreagelaw09.LedgerAgree', WHERE WHAT IT READS IS OF BULK AT MOST 1048576: true; the input reads as it did. -/
def ledgerAgreeUptoRow : OpenClaim := { program := "ytamcncpgfhfheaa", sum := "086ea1c65b8ce0a9fcd85a5328fa4c7d4eea278c093d7d7712e9525f2948b2e5", func := "acreage/acreagelaw09.LedgerAgree", spec := "ledgerAgree", unfollowed := true, recurses := true, plainKeys := false, apart := false, narrowed := true }
def LedgerAgreeUptoSaid : Prop := ledgerAgreeUptoRow.holds Try.pinned (OpenSpec.upto ledgerAgreeSpec)

/-- 'acreagelaw09.LedgerStorms', WHERE WHAT IT READS IS OF BULK AT MOST 1048576: true; the input reads as it did. -/
def ledgerStormsUptoRow : OpenClaim := { program := "ytamcncpgfhfheaa", sum := "086ea1c65b8ce0a9fcd85a5328fa4c7d4eea278c093d7d7712e9525f2948b2e5", func := "acreage/acreagelaw09.LedgerStorms", spec := "ledgerStorms", unfollowed := true, recurses := true, plainKeys := false, apart := false, narrowed := true }
def LedgerStormsUptoSaid : Prop := ledgerStormsUptoRow.holds Try.pinned (OpenSpec.upto ledgerStormsSpec)

/-- 'acreagelaw09.LedgerKept', WHERE WHAT IT READS IS OF BULK AT MOST 1048576: true; the input reads as it did. -/
def ledgerKeptUptoRow : OpenClaim := { program := "ytamcncpgfhfheaa", sum := "086ea1c65b8ce0a9fcd85a5328fa4c7d4eea278c093d7d7712e9525f2948b2e5", func := "acreage/acreagelaw09.LedgerKept", spec := "ledgerKept", unfollowed := true, recurses := true, plainKeys := false, apart := false, narrowed := true }
def LedgerKeptUptoSaid : Prop := ledgerKeptUptoRow.holds Try.pinned (OpenSpec.upto ledgerKeptSpec)

end Rows
end Go.Proofs.Ytamcncpgfhfheaa
