/-
  No cell of these rows narrows 'for every input' (looked for: loops, veiled, ifaces, maps, wideKeys, modest, calm, conditions, laid).
  DERIVED. THE GIVEN ROWS OF THIS SEAT. 5 by the template 'for every input the law returns true; each argument reads behind the call as it read before'; 0 by the template 'total and deterministic' (their statements: YtkbbpjknakajeaaTotals.lean).
  GIVEN WITH THE SEED: the statements are not yours to turn. If you find one false, say at which input.
  Laid BY PROGRAM, IN A SANDBOX (cutbox-rows.mjs): the forced cells as the released guide's own fill.sh prints them over the translation e4b13a0b8c171772… (all of the seat's roots in one cut). By AI agents, Wed Nov 11 2026. No macro, syntax, notation, axiom, sorry.
-/
import Derived.Test.YtkbbpjknakajeaaChecked
import GoSem.Claim
import GoSem.ClaimJoined
import GoSem.ClaimMapViews
import Derived.JoinedTies
import Derived.KernelRfl
namespace Go.Proofs.Ytkbbpjknakajeaa
/- THE CELL 'sum', in the pinned program and in every row, IS THE sha256 OF THE DUMP (.gsa) THAT YtkbbpjknakajeaaProg.lean LOADS. Nothing in Lean hashes anything: it is a label: what it is worth is what the hold of that sum in a sandbox is worth. -/
noncomputable def Try.pinned : Pinned := { name := "ytkbbpjknakajeaa", sum := "e4b13a0b8c171772cbb29901db0526f4a7f9e841ee65b6d25bdd8f5b0541497e", checked := Try.checked }
namespace Rows
def none {H : Type} : Left H := { results := [], args := [] }

/-- 'millstreamlaw38.LinearTells': WHATEVER THE INPUT: true; the input reads as it did. -/
def linearTellsSpec : ChangeSpec := { name := "linearTells", fn := fun _ => fun
  | [d] => { results := [.lit (.bool true)], args := [d] }
  | _ => none }
def linearTellsRow : OpenClaim := { program := "ytkbbpjknakajeaa", sum := "e4b13a0b8c171772cbb29901db0526f4a7f9e841ee65b6d25bdd8f5b0541497e", func := "millstream/millstreamlaw38.LinearTells", spec := "linearTells", unfollowed := true, recurses := true, apart := false }
def LinearTellsSaid : Prop := linearTellsRow.holds Try.pinned (OpenSpec.ofChange linearTellsSpec)

/-- ITS FALSE NEIGHBOUR: 'it returns false'. Refute it at one input. -/
def linearTellsWrong : ChangeSpec := { name := "linearTells", fn := fun _ => fun
  | [d] => { results := [.lit (.bool false)], args := [d] }
  | _ => none }
def LinearTellsWrongFalsely : Prop := linearTellsRow.holds Try.pinned (OpenSpec.ofChange linearTellsWrong)

/-- 'millstreamlaw38.LinearRows': WHATEVER THE INPUT: true; the input reads as it did. -/
def linearRowsSpec : ChangeSpec := { name := "linearRows", fn := fun _ => fun
  | [d1, d2] => { results := [.lit (.bool true)], args := [d1, d2] }
  | _ => none }
def linearRowsRow : OpenClaim := { program := "ytkbbpjknakajeaa", sum := "e4b13a0b8c171772cbb29901db0526f4a7f9e841ee65b6d25bdd8f5b0541497e", func := "millstream/millstreamlaw38.LinearRows", spec := "linearRows", unfollowed := true, recurses := true, apart := false }
def LinearRowsSaid : Prop := linearRowsRow.holds Try.pinned (OpenSpec.ofChange linearRowsSpec)

/-- ITS FALSE NEIGHBOUR: 'it returns false'. Refute it at one input. -/
def linearRowsWrong : ChangeSpec := { name := "linearRows", fn := fun _ => fun
  | [d1, d2] => { results := [.lit (.bool false)], args := [d1, d2] }
  | _ => none }
def LinearRowsWrongFalsely : Prop := linearRowsRow.holds Try.pinned (OpenSpec.ofChange linearRowsWrong)

/-- 'millstreamlaw27.GaugeMany': WHATEVER THE INPUT: true; the input reads as it did. -/
def gaugeManySpec : ChangeSpec := { name := "gaugeMany", fn := fun _ => fun
  | [d] => { results := [.lit (.bool true)], args := [d] }
  | _ => none }
def gaugeManyRow : OpenClaim := { program := "ytkbbpjknakajeaa", sum := "e4b13a0b8c171772cbb29901db0526f4a7f9e841ee65b6d25bdd8f5b0541497e", func := "millstream/millstreamlaw27.GaugeMany", spec := "gaugeMany", inPlace := ["sync/atomic.LoadUint32", "(*internal/sync.Mutex).Lock", "internal/race.Disable", "sync/atomic.CompareAndSwapInt32", "internal/race.Enable", "internal/race.Acquire", "(*internal/sync.Mutex).lockSlow", "internal/sync.runtime_canSpin", "internal/sync.runtime_doSpin", "internal/sync.throw", "internal/sync.runtime_nanotime", "internal/sync.runtime_SemacquireMutex", "sync/atomic.AddInt32", "(*internal/sync.Mutex).Unlock", "internal/race.ReleaseMerge", "(*internal/sync.Mutex).unlockSlow", "internal/sync.fatal", "internal/sync.runtime_Semrelease", "sync/atomic.StoreUint32", "sync/atomic.AddInt64", "sync/atomic.LoadInt64", "internal/bytealg.abigen_runtime_cmpstring", "sync/atomic.CompareAndSwapInt64"], unfollowed := true, recurses := true, apart := false }
def GaugeManySaid : Prop := gaugeManyRow.holds Try.pinned (OpenSpec.ofChange gaugeManySpec)

/-- ITS FALSE NEIGHBOUR: 'it returns false'. Refute it at one input. -/
def gaugeManyWrong : ChangeSpec := { name := "gaugeMany", fn := fun _ => fun
  | [d] => { results := [.lit (.bool false)], args := [d] }
  | _ => none }
def GaugeManyWrongFalsely : Prop := gaugeManyRow.holds Try.pinned (OpenSpec.ofChange gaugeManyWrong)

/-- 'millstreamlaw27.GaugePlays': WHATEVER THE INPUT: true; the input reads as it did. -/
def gaugePlaysSpec : ChangeSpec := { name := "gaugePlays", fn := fun _ => fun
  | [d] => { results := [.lit (.bool true)], args := [d] }
  | _ => none }
def gaugePlaysRow : OpenClaim := { program := "ytkbbpjknakajeaa", sum := "e4b13a0b8c171772cbb29901db0526f4a7f9e841ee65b6d25bdd8f5b0541497e", func := "millstream/millstreamlaw27.GaugePlays", spec := "gaugePlays", inPlace := ["sync/atomic.LoadUint32", "(*internal/sync.Mutex).Lock", "internal/race.Disable", "sync/atomic.CompareAndSwapInt32", "internal/race.Enable", "internal/race.Acquire", "(*internal/sync.Mutex).lockSlow", "internal/sync.runtime_canSpin", "internal/sync.runtime_doSpin", "internal/sync.throw", "internal/sync.runtime_nanotime", "internal/sync.runtime_SemacquireMutex", "sync/atomic.AddInt32", "(*internal/sync.Mutex).Unlock", "internal/race.ReleaseMerge", "(*internal/sync.Mutex).unlockSlow", "internal/sync.fatal", "internal/sync.runtime_Semrelease", "sync/atomic.StoreUint32", "sync/atomic.AddInt64", "sync/atomic.LoadInt64", "internal/bytealg.abigen_runtime_cmpstring", "sync/atomic.CompareAndSwapInt64"], unfollowed := true, recurses := true, apart := false }
def GaugePlaysSaid : Prop := gaugePlaysRow.holds Try.pinned (OpenSpec.ofChange gaugePlaysSpec)

/-- ITS FALSE NEIGHBOUR: 'it returns false'. Refute it at one input. -/
def gaugePlaysWrong : ChangeSpec := { name := "gaugePlays", fn := fun _ => fun
  | [d] => { results := [.lit (.bool false)], args := [d] }
  | _ => none }
def GaugePlaysWrongFalsely : Prop := gaugePlaysRow.holds Try.pinned (OpenSpec.ofChange gaugePlaysWrong)

/-- 'millstreamlaw27.GaugeNames': WHATEVER THE INPUT: true; the input reads as it did. -/
def gaugeNamesSpec : ChangeSpec := { name := "gaugeNames", fn := fun _ => fun
  | [d1, d2] => { results := [.lit (.bool true)], args := [d1, d2] }
  | _ => none }
def gaugeNamesRow : OpenClaim := { program := "ytkbbpjknakajeaa", sum := "e4b13a0b8c171772cbb29901db0526f4a7f9e841ee65b6d25bdd8f5b0541497e", func := "millstream/millstreamlaw27.GaugeNames", spec := "gaugeNames", inPlace := ["sync/atomic.LoadUint32", "(*internal/sync.Mutex).Lock", "internal/race.Disable", "sync/atomic.CompareAndSwapInt32", "internal/race.Enable", "internal/race.Acquire", "(*internal/sync.Mutex).lockSlow", "internal/sync.runtime_canSpin", "internal/sync.runtime_doSpin", "internal/sync.throw", "internal/sync.runtime_nanotime", "internal/sync.runtime_SemacquireMutex", "sync/atomic.AddInt32", "(*internal/sync.Mutex).Unlock", "internal/race.ReleaseMerge", "(*internal/sync.Mutex).unlockSlow", "internal/sync.fatal", "internal/sync.runtime_Semrelease", "sync/atomic.StoreUint32", "sync/atomic.AddInt64", "sync/atomic.LoadInt64", "internal/bytealg.abigen_runtime_cmpstring", "sync/atomic.CompareAndSwapInt64"], unfollowed := true, recurses := true, apart := false }
def GaugeNamesSaid : Prop := gaugeNamesRow.holds Try.pinned (OpenSpec.ofChange gaugeNamesSpec)

/-- ITS FALSE NEIGHBOUR: 'it returns false'. Refute it at one input. -/
def gaugeNamesWrong : ChangeSpec := { name := "gaugeNames", fn := fun _ => fun
  | [d1, d2] => { results := [.lit (.bool false)], args := [d1, d2] }
  | _ => none }
def GaugeNamesWrongFalsely : Prop := gaugeNamesRow.holds Try.pinned (OpenSpec.ofChange gaugeNamesWrong)

/- THE SECOND FORM. 'bulk': how many values and letters a reading holds, each counted each time it is reached (what is shared counts as often as it is met; a slice's spare places count too). A statement '..UptoSaid' is the law's where the arguments, and the package variables that the reading takes, are together of bulk at most 1048576: NARROWER than '..Said'. Prove '..Said' where nothing that the law and all that it calls make is longer than what came in: it says more and counts as full. Else prove '..UptoSaid'. A law counts once. -/
mutual
def uptoBulk {H : Type} : DataW H → Nat
  | .lit (.string bytes) => bytes.length + 1
  | .lit _ => 1
  | .nil => 1
  | .ptr d => uptoBulk d + 1
  | .slice elems spare => uptoBulkAll elems + uptoBulkAll spare + 1
  | .agg parts => uptoBulkAll parts + 1
  | .iface _ d => uptoBulk d + 1
  | .map entries => uptoBulkEntries entries + 1
  | .held _ => 1
def uptoBulkAll {H : Type} : List (DataW H) → Nat
  | [] => 0
  | d :: r => uptoBulk d + uptoBulkAll r
def uptoBulkEntries {H : Type} : List (Lit × DataW H) → Nat
  | [] => 0
  | x :: r => uptoBulkEntry x + uptoBulkEntries r
def uptoBulkEntry {H : Type} : Lit × DataW H → Nat
  | (.string bytes, d) => bytes.length + uptoBulk d + 1
  | (_, d) => uptoBulk d + 1
 end
def uptoSmall : (H : Type) → List (DataW H) → Bool := fun _ ds => decide (uptoBulkAll ds ≤ 1048576)
def OpenSpec.upto (s : _root_.Go.ChangeSpec) : _root_.Go.OpenSpec := { _root_.Go.OpenSpec.ofChange s with cond := some uptoSmall }

/-- 'millstreamlaw38.LinearTells', WHERE WHAT IT READS IS OF BULK AT MOST 1048576: true; the input reads as it did. -/
def linearTellsUptoRow : OpenClaim := { program := "ytkbbpjknakajeaa", sum := "e4b13a0b8c171772cbb29901db0526f4a7f9e841ee65b6d25bdd8f5b0541497e", func := "millstream/millstreamlaw38.LinearTells", spec := "linearTells", unfollowed := true, recurses := true, apart := false, narrowed := true }
def LinearTellsUptoSaid : Prop := linearTellsUptoRow.holds Try.pinned (OpenSpec.upto linearTellsSpec)

/-- 'millstreamlaw38.LinearRows', WHERE WHAT IT READS IS OF BULK AT MOST 1048576: true; the input reads as it did. -/
def linearRowsUptoRow : OpenClaim := { program := "ytkbbpjknakajeaa", sum := "e4b13a0b8c171772cbb29901db0526f4a7f9e841ee65b6d25bdd8f5b0541497e", func := "millstream/millstreamlaw38.LinearRows", spec := "linearRows", unfollowed := true, recurses := true, apart := false, narrowed := true }
def LinearRowsUptoSaid : Prop := linearRowsUptoRow.holds Try.pinned (OpenSpec.upto linearRowsSpec)

/-- 'millstreamlaw27.GaugeMany', WHERE WHAT IT READS IS OF BULK AT MOST 1048576: true; the input reads as it did. -/
def gaugeManyUptoRow : OpenClaim := { program := "ytkbbpjknakajeaa", sum := "e4b13a0b8c171772cbb29901db0526f4a7f9e841ee65b6d25bdd8f5b0541497e", func := "millstream/millstreamlaw27.GaugeMany", spec := "gaugeMany", inPlace := ["sync/atomic.LoadUint32", "(*internal/sync.Mutex).Lock", "internal/race.Disable", "sync/atomic.CompareAndSwapInt32", "internal/race.Enable", "internal/race.Acquire", "(*internal/sync.Mutex).lockSlow", "internal/sync.runtime_canSpin", "internal/sync.runtime_doSpin", "internal/sync.throw", "internal/sync.runtime_nanotime", "internal/sync.runtime_SemacquireMutex", "sync/atomic.AddInt32", "(*internal/sync.Mutex).Unlock", "internal/race.ReleaseMerge", "(*internal/sync.Mutex).unlockSlow", "internal/sync.fatal", "internal/sync.runtime_Semrelease", "sync/atomic.StoreUint32", "sync/atomic.AddInt64", "sync/atomic.LoadInt64", "internal/bytealg.abigen_runtime_cmpstring", "sync/atomic.CompareAndSwapInt64"], unfollowed := true, recurses := true, apart := false, narrowed := true }
def GaugeManyUptoSaid : Prop := gaugeManyUptoRow.holds Try.pinned (OpenSpec.upto gaugeManySpec)

/-- 'millstreamlaw27.GaugePlays', WHERE WHAT IT READS IS OF BULK AT MOST 1048576: true; the input reads as it did. -/
def gaugePlaysUptoRow : OpenClaim := { program := "ytkbbpjknakajeaa", sum := "e4b13a0b8c171772cbb29901db0526f4a7f9e841ee65b6d25bdd8f5b0541497e", func := "millstream/millstreamlaw27.GaugePlays", spec := "gaugePlays", inPlace := ["sync/atomic.LoadUint32", "(*internal/sync.Mutex).Lock", "internal/race.Disable", "sync/atomic.CompareAndSwapInt32", "internal/race.Enable", "internal/race.Acquire", "(*internal/sync.Mutex).lockSlow", "internal/sync.runtime_canSpin", "internal/sync.runtime_doSpin", "internal/sync.throw", "internal/sync.runtime_nanotime", "internal/sync.runtime_SemacquireMutex", "sync/atomic.AddInt32", "(*internal/sync.Mutex).Unlock", "internal/race.ReleaseMerge", "(*internal/sync.Mutex).unlockSlow", "internal/sync.fatal", "internal/sync.runtime_Semrelease", "sync/atomic.StoreUint32", "sync/atomic.AddInt64", "sync/atomic.LoadInt64", "internal/bytealg.abigen_runtime_cmpstring", "sync/atomic.CompareAndSwapInt64"], unfollowed := true, recurses := true, apart := false, narrowed := true }
def GaugePlaysUptoSaid : Prop := gaugePlaysUptoRow.holds Try.pinned (OpenSpec.upto gaugePlaysSpec)

/-- 'millstreamlaw27.GaugeNames', WHERE WHAT IT READS IS OF BULK AT MOST 1048576: true; the input reads as it did. -/
def gaugeNamesUptoRow : OpenClaim := { program := "ytkbbpjknakajeaa", sum := "e4b13a0b8c171772cbb29901db0526f4a7f9e841ee65b6d25bdd8f5b0541497e", func := "millstream/millstreamlaw27.GaugeNames", spec := "gaugeNames", inPlace := ["sync/atomic.LoadUint32", "(*internal/sync.Mutex).Lock", "internal/race.Disable", "sync/atomic.CompareAndSwapInt32", "internal/race.Enable", "internal/race.Acquire", "(*internal/sync.Mutex).lockSlow", "internal/sync.runtime_canSpin", "internal/sync.runtime_doSpin", "internal/sync.throw", "internal/sync.runtime_nanotime", "internal/sync.runtime_SemacquireMutex", "sync/atomic.AddInt32", "(*internal/sync.Mutex).Unlock", "internal/race.ReleaseMerge", "(*internal/sync.Mutex).unlockSlow", "internal/sync.fatal", "internal/sync.runtime_Semrelease", "sync/atomic.StoreUint32", "sync/atomic.AddInt64", "sync/atomic.LoadInt64", "internal/bytealg.abigen_runtime_cmpstring", "sync/atomic.CompareAndSwapInt64"], unfollowed := true, recurses := true, apart := false, narrowed := true }
def GaugeNamesUptoSaid : Prop := gaugeNamesUptoRow.holds Try.pinned (OpenSpec.upto gaugeNamesSpec)

end Rows
end Go.Proofs.Ytkbbpjknakajeaa
