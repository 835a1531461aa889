/-
  No cell of these rows narrows 'for every input' (looked for: loops, veiled, ifaces, maps, wideKeys, modest, calm, conditions, laid).
  DERIVED. THE GIVEN ROWS OF THIS SEAT. 4 by the template 'for every input the law returns true; each argument reads behind the call as it read before'; 0 by the template 'total and deterministic' (their statements: YtpofgfomccmijaaTotals.lean).
  GIVEN WITH THE SEED: the statements are not yours to turn. If you find one false, say at which input.
  Laid BY PROGRAM, IN A SANDBOX (cutbox-rows.mjs): the forced cells as the released guide's own fill.sh prints them over the translation f6e7a4200271f989… (all of the seat's roots in one cut). By AI agents, Wed Nov 11 2026. No macro, syntax, notation, axiom, sorry.
-/
import Derived.Test.YtpofgfomccmijaaChecked
import GoSem.Claim
import GoSem.ClaimJoined
import GoSem.ClaimMapViews
import Derived.JoinedTies
import Derived.KernelRfl
namespace Go.Proofs.Ytpofgfomccmijaa
/- THE CELL 'sum', in the pinned program and in every row, IS THE sha256 OF THE DUMP (.gsa) THAT YtpofgfomccmijaaProg.lean LOADS. Nothing in Lean hashes anything: it is a label: what it is worth is what the hold of that sum in a sandbox is worth. -/
noncomputable def Try.pinned : Pinned := { name := "ytpofgfomccmijaa", sum := "f6e7a4200271f98946c2f608a1c492d1fa53735b6c799a59aa8848e4fa6469e6", checked := Try.checked }
namespace Rows
def none {H : Type} : Left H := { results := [], args := [] }

/-- 'garblerlaw07.WindowLast': WHATEVER THE INPUT: true; the input reads as it did. -/
def windowLastSpec : ChangeSpec := { name := "windowLast", fn := fun _ => fun
  | [d1, d2] => { results := [.lit (.bool true)], args := [d1, d2] }
  | _ => none }
def windowLastRow : OpenClaim := { program := "ytpofgfomccmijaa", sum := "f6e7a4200271f98946c2f608a1c492d1fa53735b6c799a59aa8848e4fa6469e6", func := "garbler/garblerlaw07.WindowLast", spec := "windowLast", inPlace := ["sync/atomic.LoadInt64", "sync/atomic.CompareAndSwapInt64"], apart := false }
def WindowLastSaid : Prop := windowLastRow.holds Try.pinned (OpenSpec.ofChange windowLastSpec)

/-- ITS FALSE NEIGHBOUR: 'it returns false'. Refute it at one input. -/
def windowLastWrong : ChangeSpec := { name := "windowLast", fn := fun _ => fun
  | [d1, d2] => { results := [.lit (.bool false)], args := [d1, d2] }
  | _ => none }
def WindowLastWrongFalsely : Prop := windowLastRow.holds Try.pinned (OpenSpec.ofChange windowLastWrong)

/-- 'garblerlaw07.WindowTurns': WHATEVER THE INPUT: true; the input reads as it did. -/
def windowTurnsSpec : ChangeSpec := { name := "windowTurns", fn := fun _ => fun
  | [d1, d2, d3] => { results := [.lit (.bool true)], args := [d1, d2, d3] }
  | _ => none }
def windowTurnsRow : OpenClaim := { program := "ytpofgfomccmijaa", sum := "f6e7a4200271f98946c2f608a1c492d1fa53735b6c799a59aa8848e4fa6469e6", func := "garbler/garblerlaw07.WindowTurns", spec := "windowTurns", inPlace := ["sync/atomic.LoadInt64", "sync/atomic.CompareAndSwapInt64"], apart := false }
def WindowTurnsSaid : Prop := windowTurnsRow.holds Try.pinned (OpenSpec.ofChange windowTurnsSpec)

/-- ITS FALSE NEIGHBOUR: 'it returns false'. Refute it at one input. -/
def windowTurnsWrong : ChangeSpec := { name := "windowTurns", fn := fun _ => fun
  | [d1, d2, d3] => { results := [.lit (.bool false)], args := [d1, d2, d3] }
  | _ => none }
def WindowTurnsWrongFalsely : Prop := windowTurnsRow.holds Try.pinned (OpenSpec.ofChange windowTurnsWrong)

/-- 'garblerlaw07.WindowPlays': WHATEVER THE INPUT: true; the input reads as it did. -/
def windowPlaysSpec : ChangeSpec := { name := "windowPlays", fn := fun _ => fun
  | [d1, d2] => { results := [.lit (.bool true)], args := [d1, d2] }
  | _ => none }
def windowPlaysRow : OpenClaim := { program := "ytpofgfomccmijaa", sum := "f6e7a4200271f98946c2f608a1c492d1fa53735b6c799a59aa8848e4fa6469e6", func := "garbler/garblerlaw07.WindowPlays", spec := "windowPlays", inPlace := ["sync/atomic.LoadInt64", "sync/atomic.CompareAndSwapInt64"], apart := false }
def WindowPlaysSaid : Prop := windowPlaysRow.holds Try.pinned (OpenSpec.ofChange windowPlaysSpec)

/-- ITS FALSE NEIGHBOUR: 'it returns false'. Refute it at one input. -/
def windowPlaysWrong : ChangeSpec := { name := "windowPlays", fn := fun _ => fun
  | [d1, d2] => { results := [.lit (.bool false)], args := [d1, d2] }
  | _ => none }
def WindowPlaysWrongFalsely : Prop := windowPlaysRow.holds Try.pinned (OpenSpec.ofChange windowPlaysWrong)

/-- 'garblerlaw07.WindowMem': WHATEVER THE INPUT: true; the input reads as it did. -/
def windowMemSpec : ChangeSpec := { name := "windowMem", fn := fun _ => fun
  | [d1, d2, d3] => { results := [.lit (.bool true)], args := [d1, d2, d3] }
  | _ => none }
def windowMemRow : OpenClaim := { program := "ytpofgfomccmijaa", sum := "f6e7a4200271f98946c2f608a1c492d1fa53735b6c799a59aa8848e4fa6469e6", func := "garbler/garblerlaw07.WindowMem", spec := "windowMem", inPlace := ["sync/atomic.LoadInt64", "sync/atomic.CompareAndSwapInt64"], apart := false }
def WindowMemSaid : Prop := windowMemRow.holds Try.pinned (OpenSpec.ofChange windowMemSpec)

/-- ITS FALSE NEIGHBOUR: 'it returns false'. Refute it at one input. -/
def windowMemWrong : ChangeSpec := { name := "windowMem", fn := fun _ => fun
  | [d1, d2, d3] => { results := [.lit (.bool false)], args := [d1, d2, d3] }
  | _ => none }
def WindowMemWrongFalsely : Prop := windowMemRow.holds Try.pinned (OpenSpec.ofChange windowMemWrong)

/- THE SECOND FORM. 'bulk': how many values and letters a reading holds, each counted each time it is reached (what is shared counts as often as it is met; a slice's spare places count too). A statement '..UptoSaid' is the law's where the arguments, and the package variables that the reading takes, are together of bulk at most 1048576: NARROWER than '..Said'. Prove '..Said' where nothing that the law and all that it calls make is longer than what came in: it says more and counts as full. Else prove '..UptoSaid'. A law counts once. -/
mutual
def uptoBulk {H : Type} : DataW H → Nat
  | .lit (.string bytes) => bytes.length + 1
  | .lit _ => 1
  | .nil => 1
  | .ptr d => uptoBulk d + 1
  | .slice elems spare => uptoBulkAll elems + uptoBulkAll spare + 1
  | .agg parts => uptoBulkAll parts + 1
  | .iface _ d => uptoBulk d + 1
  | .map entries => uptoBulkEntries entries + 1
  | .held _ => 1
def uptoBulkAll {H : Type} : List (DataW H) → Nat
  | [] => 0
  | d :: r => uptoBulk d + uptoBulkAll r
def uptoBulkEntries {H : Type} : List (Lit × DataW H) → Nat
  | [] => 0
  | x :: r => uptoBulkEntry x + uptoBulkEntries r
def uptoBulkEntry {H : Type} : Lit × DataW H → Nat
  | (.string bytes, d) => bytes.length + uptoBulk d + 1
  | (_, d) => uptoBulk d + 1
 end
def uptoSmall : (H : Type) → List (DataW H) → Bool := fun _ ds => decide (uptoBulkAll ds ≤ 1048576)
def OpenSpec.upto (s : _root_.Go.ChangeSpec) : _root_.Go.OpenSpec := { _root_.Go.OpenSpec.ofChange s with cond := some uptoSmall }

/-- 'garblerlaw07.WindowLast', WHERE WHAT IT READS IS OF BULK AT MOST 1048576: true; the input reads as it did. -/
def windowLastUptoRow : OpenClaim := { program := "ytpofgfomccmijaa", sum := "f6e7a4200271f98946c2f608a1c492d1fa53735b6c799a59aa8848e4fa6469e6", func := "garbler/garblerlaw07.WindowLast", spec := "windowLast", inPlace := ["sync/atomic.LoadInt64", "sync/atomic.CompareAndSwapInt64"], apart := false, narrowed := true }
def WindowLastUptoSaid : Prop := windowLastUptoRow.holds Try.pinned (OpenSpec.upto windowLastSpec)

/-- 'garblerlaw07.WindowTurns', WHERE WHAT IT READS IS OF BULK AT MOST 1048576: true; the input reads as it did. -/
def windowTurnsUptoRow : OpenClaim := { program := "ytpofgfomccmijaa", sum := "f6e7a4200271f98946c2f608a1c492d1fa53735b6c799a59aa8848e4fa6469e6", func := "garbler/garblerlaw07.WindowTurns", spec := "windowTurns", inPlace := ["sync/atomic.LoadInt64", "sync/atomic.CompareAndSwapInt64"], apart := false, narrowed := true }
def WindowTurnsUptoSaid : Prop := windowTurnsUptoRow.holds Try.pinned (OpenSpec.upto windowTurnsSpec)

/-- 'garblerlaw07.WindowPlays', WHERE WHAT IT READS IS OF BULK AT MOST 1048576: true; the input reads as it did. -/
def windowPlaysUptoRow : OpenClaim := { program := "ytpofgfomccmijaa", sum := "f6e7a4200271f98946c2f608a1c492d1fa53735b6c799a59aa8848e4fa6469e6", func := "garbler/garblerlaw07.WindowPlays", spec := "windowPlays", inPlace := ["sync/atomic.LoadInt64", "sync/atomic.CompareAndSwapInt64"], apart := false, narrowed := true }
def WindowPlaysUptoSaid : Prop := windowPlaysUptoRow.holds Try.pinned (OpenSpec.upto windowPlaysSpec)

/-- 'garblerlaw07.WindowMem', WHERE WHAT IT READS IS OF BULK AT MOST 1048576: true; the input reads as it did. -/
def windowMemUptoRow : OpenClaim := { program := "ytpofgfomccmijaa", sum := "f6e7a4200271f98946c2f608a1c492d1fa53735b6c799a59aa8848e4fa6469e6", func := "garbler/garblerlaw07.WindowMem", spec := "windowMem", inPlace := ["sync/atomic.LoadInt64", "sync/atomic.CompareAndSwapInt64"], apart := false, narrowed := true }
def WindowMemUptoSaid : Prop := windowMemUptoRow.holds Try.pinned (OpenSpec.upto windowMemSpec)

end Rows
end Go.Proofs.Ytpofgfomccmijaa
