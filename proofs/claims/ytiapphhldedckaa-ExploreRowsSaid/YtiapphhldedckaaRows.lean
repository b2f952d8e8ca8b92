/-
  No cell of these rows narrows 'for every input' (looked for: loops, veiled, ifaces, maps, wideKeys, modest, calm, conditions, laid).
  DERIVED. THE GIVEN ROWS OF THIS SEAT. 3 by the template 'for every input the law returns true; each argument reads behind the call as it read before'; 0 by the template 'total and deterministic' (their statements: YtiapphhldedckaaTotals.lean).
  GIVEN WITH THE SEED: the statements are not yours to turn. If you find one false, say at which input.
  Laid BY PROGRAM, IN A SANDBOX (cutbox-rows.mjs): the forced cells as the released guide's own fill.sh prints them over the translation db566c243bd476bb… (all of the seat's roots in one cut). By AI agents, Wed Nov 11 2026. No macro, syntax, notation, axiom, sorry.
-/
import Derived.Test.YtiapphhldedckaaChecked
import GoSem.Claim
import GoSem.ClaimJoined
import GoSem.ClaimMapViews
import Derived.JoinedTies
import Derived.KernelRfl
namespace Go.Proofs.Ytiapphhldedckaa
/- THE CELL 'sum', in the pinned program and in every row, IS THE sha256 OF THE DUMP (.gsa) THAT YtiapphhldedckaaProg.lean LOADS. Nothing in Lean hashes anything: it is a label: what it is worth is what the hold of that sum in a sandbox is worth. -/
noncomputable def Try.pinned : Pinned := { name := "ytiapphhldedckaa", sum := "db566c243bd476bb867dd10a7124a7ed935359a6d9888c2c43efa715ba32095b", checked := Try.checked }
namespace Rows
def none {H : Type} : Left H := { results := [], args := [] }

/-- 'millstreamlaw39.ExploreRows': WHATEVER THE INPUT: true; the input reads as it did. -/
def exploreRowsSpec : ChangeSpec := { name := "exploreRows", fn := fun _ => fun
  | [d1, d2] => { results := [.lit (.bool true)], args := [d1, d2] }
  | _ => none }
def exploreRowsRow : OpenClaim := { program := "ytiapphhldedckaa", sum := "db566c243bd476bb867dd10a7124a7ed935359a6d9888c2c43efa715ba32095b", func := "millstream/millstreamlaw39.ExploreRows", spec := "exploreRows", unfollowed := true, recurses := true, apart := false }
def ExploreRowsSaid : Prop := exploreRowsRow.holds Try.pinned (OpenSpec.ofChange exploreRowsSpec)

/-- ITS FALSE NEIGHBOUR: 'it returns false'. Refute it at one input. -/
def exploreRowsWrong : ChangeSpec := { name := "exploreRows", fn := fun _ => fun
  | [d1, d2] => { results := [.lit (.bool false)], args := [d1, d2] }
  | _ => none }
def ExploreRowsWrongFalsely : Prop := exploreRowsRow.holds Try.pinned (OpenSpec.ofChange exploreRowsWrong)

/-- 'millstreamlaw39.ExploreNext': WHATEVER THE INPUT: true; the input reads as it did. -/
def exploreNextSpec : ChangeSpec := { name := "exploreNext", fn := fun _ => fun
  | [d] => { results := [.lit (.bool true)], args := [d] }
  | _ => none }
def exploreNextRow : OpenClaim := { program := "ytiapphhldedckaa", sum := "db566c243bd476bb867dd10a7124a7ed935359a6d9888c2c43efa715ba32095b", func := "millstream/millstreamlaw39.ExploreNext", spec := "exploreNext", unfollowed := true, recurses := true, apart := false }
def ExploreNextSaid : Prop := exploreNextRow.holds Try.pinned (OpenSpec.ofChange exploreNextSpec)

/-- ITS FALSE NEIGHBOUR: 'it returns false'. Refute it at one input. -/
def exploreNextWrong : ChangeSpec := { name := "exploreNext", fn := fun _ => fun
  | [d] => { results := [.lit (.bool false)], args := [d] }
  | _ => none }
def ExploreNextWrongFalsely : Prop := exploreNextRow.holds Try.pinned (OpenSpec.ofChange exploreNextWrong)

/-- 'millstreamlaw39.ExplorePicks': WHATEVER THE INPUT: true; the input reads as it did. -/
def explorePicksSpec : ChangeSpec := { name := "explorePicks", fn := fun _ => fun
  | [d] => { results := [.lit (.bool true)], args := [d] }
  | _ => none }
def explorePicksRow : OpenClaim := { program := "ytiapphhldedckaa", sum := "db566c243bd476bb867dd10a7124a7ed935359a6d9888c2c43efa715ba32095b", func := "millstream/millstreamlaw39.ExplorePicks", spec := "explorePicks", unfollowed := true, recurses := true, apart := false }
def ExplorePicksSaid : Prop := explorePicksRow.holds Try.pinned (OpenSpec.ofChange explorePicksSpec)

/-- ITS FALSE NEIGHBOUR: 'it returns false'. Refute it at one input. -/
def explorePicksWrong : ChangeSpec := { name := "explorePicks", fn := fun _ => fun
  | [d] => { results := [.lit (.bool false)], args := [d] }
  | _ => none }
def ExplorePicksWrongFalsely : Prop := explorePicksRow.holds Try.pinned (OpenSpec.ofChange explorePicksWrong)

/- THE SECOND FORM. 'bulk': how many values and letters a reading holds, each counted each time it is reached (what is shared counts as often as it is met; a slice's spare places count too). A statement '..UptoSaid' is the law's where the arguments, and the package variables that the reading takes, are together of bulk at most 1048576: NARROWER than '..Said'. Prove '..Said' where nothing that the law and all that it calls make is longer than what came in: it says more and counts as full. Else prove '..UptoSaid'. A law counts once. -/
mutual
def uptoBulk {H : Type} : DataW H → Nat
  | .lit (.string bytes) => bytes.length + 1
  | .lit _ => 1
  | .nil => 1
  | .ptr d => uptoBulk d + 1
  | .slice elems spare => uptoBulkAll elems + uptoBulkAll spare + 1
  | .agg parts => uptoBulkAll parts + 1
  | .iface _ d => uptoBulk d + 1
  | .map entries => uptoBulkEntries entries + 1
  | .held _ => 1
def uptoBulkAll {H : Type} : List (DataW H) → Nat
  | [] => 0
  | d :: r => uptoBulk d + uptoBulkAll r
def uptoBulkEntries {H : Type} : List (Lit × DataW H) → Nat
  | [] => 0
  | x :: r => uptoBulkEntry x + uptoBulkEntries r
def uptoBulkEntry {H : Type} : Lit × DataW H → Nat
  | (.string bytes, d) => bytes.length + uptoBulk d + 1
  | (_, d) => uptoBulk d + 1
 end
def uptoSmall : (H : Type) → List (DataW H) → Bool := fun _ ds => decide (uptoBulkAll ds ≤ 1048576)
def OpenSpec.upto (s : _root_.Go.ChangeSpec) : _root_.Go.OpenSpec := { _root_.Go.OpenSpec.ofChange s with cond := some uptoSmall }

/-- 'millstreamlaw39.ExploreRows', WHERE WHAT IT READS IS OF BULK AT MOST 1048576: true; the input reads as it did. -/
def exploreRowsUptoRow : OpenClaim := { program := "ytiapphhldedckaa", sum := "db566c243bd476bb867dd10a7124a7ed935359a6d9888c2c43efa715ba32095b", func := "millstream/millstreamlaw39.ExploreRows", spec := "exploreRows", unfollowed := true, recurses := true, apart := false, narrowed := true }
def ExploreRowsUptoSaid : Prop := exploreRowsUptoRow.holds Try.pinned (OpenSpec.upto exploreRowsSpec)

/-- 'millstreamlaw39.ExploreNext', WHERE WHAT IT READS IS OF BULK AT MOST 1048576: true; the input reads as it did. -/
def exploreNextUptoRow : OpenClaim := { program := "ytiapphhldedckaa", sum := "db566c243bd476bb867dd10a7124a7ed935359a6d9888c2c43efa715ba32095b", func := "millstream/millstreamlaw39.ExploreNext", spec := "exploreNext", unfollowed := true, recurses := true, apart := false, narrowed := true }
def ExploreNextUptoSaid : Prop := exploreNextUptoRow.holds Try.pinned (OpenSpec.upto exploreNextSpec)

/-- 'millstreamlaw39.ExplorePicks', WHERE WHAT IT READS IS OF BULK AT MOST 1048576: true; the input reads as it did. -/
def explorePicksUptoRow : OpenClaim := { program := "ytiapphhldedckaa", sum := "db566c243bd476bb867dd10a7124a7ed935359a6d9888c2c43efa715ba32095b", func := "millstream/millstreamlaw39.ExplorePicks", spec := "explorePicks", unfollowed := true, recurses := true, apart := false, narrowed := true }
def ExplorePicksUptoSaid : Prop := explorePicksUptoRow.holds Try.pinned (OpenSpec.upto explorePicksSpec)

end Rows
end Go.Proofs.Ytiapphhldedckaa
