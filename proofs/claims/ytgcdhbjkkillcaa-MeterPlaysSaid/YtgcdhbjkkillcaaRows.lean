/-
  No cell of these rows narrows 'for every input' (looked for: loops, veiled, ifaces, maps, wideKeys, modest, calm, conditions, laid).
  DERIVED. THE GIVEN ROWS OF THIS SEAT. 5 by the template 'for every input the law returns true; each argument reads behind the call as it read before'; 0 by the template 'total and deterministic' (their statements: YtgcdhbjkkillcaaTotals.lean).
  GIVEN WITH THE SEED: the statements are not yours to turn. If you find one false, say at which input.
  Laid BY PROGRAM, IN A SANDBOX (cutbox-rows.mjs): the forced cells as the released guide's own fill.sh prints them over the translation 885744b2cf5d000e… (all of the seat's roots in one cut). By AI agents, Wed Nov 11 2026. No macro, syntax, notation, axiom, sorry.
-/
import Derived.Test.YtgcdhbjkkillcaaChecked
import GoSem.Claim
import GoSem.ClaimJoined
import GoSem.ClaimMapViews
import Derived.JoinedTies
import Derived.KernelRfl
namespace Go.Proofs.Ytgcdhbjkkillcaa
/- THE CELL 'sum', in the pinned program and in every row, IS THE sha256 OF THE DUMP (.gsa) THAT YtgcdhbjkkillcaaProg.lean LOADS. Nothing in Lean hashes anything: it is a label: what it is worth is what the hold of that sum in a sandbox is worth. -/
noncomputable def Try.pinned : Pinned := { name := "ytgcdhbjkkillcaa", sum := "885744b2cf5d000e430e2b1a008dd8cefc5c1837d0289012b84d34a5a105e402", checked := Try.checked }
namespace Rows
def none {H : Type} : Left H := { results := [], args := [] }

/-- 'garblerlaw03.MeterSplits': WHATEVER THE INPUT: true; the input reads as it did. -/
def meterSplitsSpec : ChangeSpec := { name := "meterSplits", fn := fun _ => fun
  | [d1, d2, d3] => { results := [.lit (.bool true)], args := [d1, d2, d3] }
  | _ => none }
def meterSplitsRow : OpenClaim := { program := "ytgcdhbjkkillcaa", sum := "885744b2cf5d000e430e2b1a008dd8cefc5c1837d0289012b84d34a5a105e402", func := "garbler/garblerlaw03.MeterSplits", spec := "meterSplits", inPlace := ["sync/atomic.LoadInt64", "sync/atomic.CompareAndSwapInt64"], apart := false }
def MeterSplitsSaid : Prop := meterSplitsRow.holds Try.pinned (OpenSpec.ofChange meterSplitsSpec)

/-- ITS FALSE NEIGHBOUR: 'it returns false'. Refute it at one input. -/
def meterSplitsWrong : ChangeSpec := { name := "meterSplits", fn := fun _ => fun
  | [d1, d2, d3] => { results := [.lit (.bool false)], args := [d1, d2, d3] }
  | _ => none }
def MeterSplitsWrongFalsely : Prop := meterSplitsRow.holds Try.pinned (OpenSpec.ofChange meterSplitsWrong)

/-- 'garblerlaw03.MeterPlays': WHATEVER THE INPUT: true; the input reads as it did. -/
def meterPlaysSpec : ChangeSpec := { name := "meterPlays", fn := fun _ => fun
  | [d1, d2] => { results := [.lit (.bool true)], args := [d1, d2] }
  | _ => none }
def meterPlaysRow : OpenClaim := { program := "ytgcdhbjkkillcaa", sum := "885744b2cf5d000e430e2b1a008dd8cefc5c1837d0289012b84d34a5a105e402", func := "garbler/garblerlaw03.MeterPlays", spec := "meterPlays", inPlace := ["sync/atomic.LoadInt64", "sync/atomic.CompareAndSwapInt64"], apart := false }
def MeterPlaysSaid : Prop := meterPlaysRow.holds Try.pinned (OpenSpec.ofChange meterPlaysSpec)

/-- ITS FALSE NEIGHBOUR: 'it returns false'. Refute it at one input. -/
def meterPlaysWrong : ChangeSpec := { name := "meterPlays", fn := fun _ => fun
  | [d1, d2] => { results := [.lit (.bool false)], args := [d1, d2] }
  | _ => none }
def MeterPlaysWrongFalsely : Prop := meterPlaysRow.holds Try.pinned (OpenSpec.ofChange meterPlaysWrong)

/-- 'garblerlaw03.MeterBounds': WHATEVER THE INPUT: true; the input reads as it did. -/
def meterBoundsSpec : ChangeSpec := { name := "meterBounds", fn := fun _ => fun
  | [d1, d2] => { results := [.lit (.bool true)], args := [d1, d2] }
  | _ => none }
def meterBoundsRow : OpenClaim := { program := "ytgcdhbjkkillcaa", sum := "885744b2cf5d000e430e2b1a008dd8cefc5c1837d0289012b84d34a5a105e402", func := "garbler/garblerlaw03.MeterBounds", spec := "meterBounds", inPlace := ["sync/atomic.LoadInt64", "sync/atomic.CompareAndSwapInt64"], apart := false }
def MeterBoundsSaid : Prop := meterBoundsRow.holds Try.pinned (OpenSpec.ofChange meterBoundsSpec)

/-- ITS FALSE NEIGHBOUR: 'it returns false'. Refute it at one input. -/
def meterBoundsWrong : ChangeSpec := { name := "meterBounds", fn := fun _ => fun
  | [d1, d2] => { results := [.lit (.bool false)], args := [d1, d2] }
  | _ => none }
def MeterBoundsWrongFalsely : Prop := meterBoundsRow.holds Try.pinned (OpenSpec.ofChange meterBoundsWrong)

/-- 'garblerlaw03.MeterGrows': WHATEVER THE INPUT: true; the input reads as it did. -/
def meterGrowsSpec : ChangeSpec := { name := "meterGrows", fn := fun _ => fun
  | [d1, d2, d3] => { results := [.lit (.bool true)], args := [d1, d2, d3] }
  | _ => none }
def meterGrowsRow : OpenClaim := { program := "ytgcdhbjkkillcaa", sum := "885744b2cf5d000e430e2b1a008dd8cefc5c1837d0289012b84d34a5a105e402", func := "garbler/garblerlaw03.MeterGrows", spec := "meterGrows", inPlace := ["sync/atomic.LoadInt64", "sync/atomic.CompareAndSwapInt64"], apart := false }
def MeterGrowsSaid : Prop := meterGrowsRow.holds Try.pinned (OpenSpec.ofChange meterGrowsSpec)

/-- ITS FALSE NEIGHBOUR: 'it returns false'. Refute it at one input. -/
def meterGrowsWrong : ChangeSpec := { name := "meterGrows", fn := fun _ => fun
  | [d1, d2, d3] => { results := [.lit (.bool false)], args := [d1, d2, d3] }
  | _ => none }
def MeterGrowsWrongFalsely : Prop := meterGrowsRow.holds Try.pinned (OpenSpec.ofChange meterGrowsWrong)

/-- 'garblerlaw03.MeterStays': WHATEVER THE INPUT: true; the input reads as it did. -/
def meterStaysSpec : ChangeSpec := { name := "meterStays", fn := fun _ => fun
  | [d1, d2] => { results := [.lit (.bool true)], args := [d1, d2] }
  | _ => none }
def meterStaysRow : OpenClaim := { program := "ytgcdhbjkkillcaa", sum := "885744b2cf5d000e430e2b1a008dd8cefc5c1837d0289012b84d34a5a105e402", func := "garbler/garblerlaw03.MeterStays", spec := "meterStays", inPlace := ["sync/atomic.LoadInt64", "sync/atomic.CompareAndSwapInt64"], apart := false }
def MeterStaysSaid : Prop := meterStaysRow.holds Try.pinned (OpenSpec.ofChange meterStaysSpec)

/-- ITS FALSE NEIGHBOUR: 'it returns false'. Refute it at one input. -/
def meterStaysWrong : ChangeSpec := { name := "meterStays", fn := fun _ => fun
  | [d1, d2] => { results := [.lit (.bool false)], args := [d1, d2] }
  | _ => none }
def MeterStaysWrongFalsely : Prop := meterStaysRow.holds Try.pinned (OpenSpec.ofChange meterStaysWrong)

/- THE SECOND FORM. 'bulk': how many values and letters a reading holds, each counted each time it is reached (what is shared counts as often as it is met; a slice's spare places count too). A statement '..UptoSaid' is the law's where the arguments, and the package variables that the reading takes, are together of bulk at most 1048576: NARROWER than '..Said'. Prove '..Said' where nothing that the law and all that it calls make is longer than what came in: it says more and counts as full. Else prove '..UptoSaid'. A law counts once. -/
mutual
def uptoBulk {H : Type} : DataW H → Nat
  | .lit (.string bytes) => bytes.length + 1
  | .lit _ => 1
  | .nil => 1
  | .ptr d => uptoBulk d + 1
  | .slice elems spare => uptoBulkAll elems + uptoBulkAll spare + 1
  | .agg parts => uptoBulkAll parts + 1
  | .iface _ d => uptoBulk d + 1
  | .map entries => uptoBulkEntries entries + 1
  | .held _ => 1
def uptoBulkAll {H : Type} : List (DataW H) → Nat
  | [] => 0
  | d :: r => uptoBulk d + uptoBulkAll r
def uptoBulkEntries {H : Type} : List (Lit × DataW H) → Nat
  | [] => 0
  | x :: r => uptoBulkEntry x + uptoBulkEntries r
def uptoBulkEntry {H : Type} : Lit × DataW H → Nat
  | (.string bytes, d) => bytes.length + uptoBulk d + 1
  | (_, d) => uptoBulk d + 1
 end
def uptoSmall : (H : Type) → List (DataW H) → Bool := fun _ ds => decide (uptoBulkAll ds ≤ 1048576)
def OpenSpec.upto (s : _root_.Go.ChangeSpec) : _root_.Go.OpenSpec := { _root_.Go.OpenSpec.ofChange s with cond := some uptoSmall }

/-- 'garblerlaw03.MeterSplits', WHERE WHAT IT READS IS OF BULK AT MOST 1048576: true; the input reads as it did. -/
def meterSplitsUptoRow : OpenClaim := { program := "ytgcdhbjkkillcaa", sum := "885744b2cf5d000e430e2b1a008dd8cefc5c1837d0289012b84d34a5a105e402", func := "garbler/garblerlaw03.MeterSplits", spec := "meterSplits", inPlace := ["sync/atomic.LoadInt64", "sync/atomic.CompareAndSwapInt64"], apart := false, narrowed := true }
def MeterSplitsUptoSaid : Prop := meterSplitsUptoRow.holds Try.pinned (OpenSpec.upto meterSplitsSpec)

/-- 'garblerlaw03.MeterPlays', WHERE WHAT IT READS IS OF BULK AT MOST 1048576: true; the input reads as it did. -/
def meterPlaysUptoRow : OpenClaim := { program := "ytgcdhbjkkillcaa", sum := "885744b2cf5d000e430e2b1a008dd8cefc5c1837d0289012b84d34a5a105e402", func := "garbler/garblerlaw03.MeterPlays", spec := "meterPlays", inPlace := ["sync/atomic.LoadInt64", "sync/atomic.CompareAndSwapInt64"], apart := false, narrowed := true }
def MeterPlaysUptoSaid : Prop := meterPlaysUptoRow.holds Try.pinned (OpenSpec.upto meterPlaysSpec)

/-- 'garblerlaw03.MeterBounds', WHERE WHAT IT READS IS OF BULK AT MOST 1048576: true; the input reads as it did. -/
def meterBoundsUptoRow : OpenClaim := { program := "ytgcdhbjkkillcaa", sum := "885744b2cf5d000e430e2b1a008dd8cefc5c1837d0289012b84d34a5a105e402", func := "garbler/garblerlaw03.MeterBounds", spec := "meterBounds", inPlace := ["sync/atomic.LoadInt64", "sync/atomic.CompareAndSwapInt64"], apart := false, narrowed := true }
def MeterBoundsUptoSaid : Prop := meterBoundsUptoRow.holds Try.pinned (OpenSpec.upto meterBoundsSpec)

/-- 'garblerlaw03.MeterGrows', WHERE WHAT IT READS IS OF BULK AT MOST 1048576: true; the input reads as it did. -/
def meterGrowsUptoRow : OpenClaim := { program := "ytgcdhbjkkillcaa", sum := "885744b2cf5d000e430e2b1a008dd8cefc5c1837d0289012b84d34a5a105e402", func := "garbler/garblerlaw03.MeterGrows", spec := "meterGrows", inPlace := ["sync/atomic.LoadInt64", "sync/atomic.CompareAndSwapInt64"], apart := false, narrowed := true }
def MeterGrowsUptoSaid : Prop := meterGrowsUptoRow.holds Try.pinned (OpenSpec.upto meterGrowsSpec)

/-- 'garblerlaw03.MeterStays', WHERE WHAT IT READS IS OF BULK AT MOST 1048576: true; the input reads as it did. -/
def meterStaysUptoRow : OpenClaim := { program := "ytgcdhbjkkillcaa", sum := "885744b2cf5d000e430e2b1a008dd8cefc5c1837d0289012b84d34a5a105e402", func := "garbler/garblerlaw03.MeterStays", spec := "meterStays", inPlace := ["sync/atomic.LoadInt64", "sync/atomic.CompareAndSwapInt64"], apart := false, narrowed := true }
def MeterStaysUptoSaid : Prop := meterStaysUptoRow.holds Try.pinned (OpenSpec.upto meterStaysSpec)

end Rows
end Go.Proofs.Ytgcdhbjkkillcaa
