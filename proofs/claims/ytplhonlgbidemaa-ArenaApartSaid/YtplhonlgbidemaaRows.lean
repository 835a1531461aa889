/-
  No cell of these rows narrows 'for every input' (looked for: loops, veiled, ifaces, maps, wideKeys, modest, calm, conditions, laid).
  DERIVED. THE GIVEN ROWS OF THIS SEAT. 6 by the template 'for every input the law returns true; each argument reads behind the call as it read before'; 0 by the template 'total and deterministic' (their statements: YtplhonlgbidemaaTotals.lean).
  GIVEN WITH THE SEED: the statements are not yours to turn. If you find one false, say at which input.
  Laid BY PROGRAM, IN A SANDBOX (cutbox-rows.mjs): the forced cells as the released guide's own fill.sh prints them over the translation 3e1a21fea6c04297… (all of the seat's roots in one cut). By AI agents, Wed Nov 11 2026. No macro, syntax, notation, axiom, sorry.
-/
import Derived.Test.YtplhonlgbidemaaChecked
import GoSem.Claim
import GoSem.ClaimJoined
import GoSem.ClaimMapViews
import Derived.JoinedTies
import Derived.KernelRfl
namespace Go.Proofs.Ytplhonlgbidemaa
/- THE CELL 'sum', in the pinned program and in every row, IS THE sha256 OF THE DUMP (.gsa) THAT YtplhonlgbidemaaProg.lean LOADS. Nothing in Lean hashes anything: it is a label: what it is worth is what the hold of that sum in a sandbox is worth. -/
noncomputable def Try.pinned : Pinned := { name := "ytplhonlgbidemaa", sum := "3e1a21fea6c04297fafd63db3541a116e12ec8987a19dfb9a1eeb3644727d749", checked := Try.checked }
namespace Rows
def none {H : Type} : Left H := { results := [], args := [] }

/-- 'garblerlaw16.ArenaAgain': WHATEVER THE INPUT: true; the input reads as it did. -/
def arenaAgainSpec : ChangeSpec := { name := "arenaAgain", fn := fun _ => fun
  | [d1, d2] => { results := [.lit (.bool true)], args := [d1, d2] }
  | _ => none }
def arenaAgainRow : OpenClaim := { program := "ytplhonlgbidemaa", sum := "3e1a21fea6c04297fafd63db3541a116e12ec8987a19dfb9a1eeb3644727d749", func := "garbler/garblerlaw16.ArenaAgain", spec := "arenaAgain", inPlace := ["sync/atomic.LoadInt64", "sync/atomic.CompareAndSwapInt64"], unfollowed := true, recurses := true, apart := false }
def ArenaAgainSaid : Prop := arenaAgainRow.holds Try.pinned (OpenSpec.ofChange arenaAgainSpec)

/-- ITS FALSE NEIGHBOUR: 'it returns false'. Refute it at one input. -/
def arenaAgainWrong : ChangeSpec := { name := "arenaAgain", fn := fun _ => fun
  | [d1, d2] => { results := [.lit (.bool false)], args := [d1, d2] }
  | _ => none }
def ArenaAgainWrongFalsely : Prop := arenaAgainRow.holds Try.pinned (OpenSpec.ofChange arenaAgainWrong)

/-- 'garblerlaw16.ArenaNums': WHATEVER THE INPUT: true; the input reads as it did. -/
def arenaNumsSpec : ChangeSpec := { name := "arenaNums", fn := fun _ => fun
  | [d1, d2, d3] => { results := [.lit (.bool true)], args := [d1, d2, d3] }
  | _ => none }
def arenaNumsRow : OpenClaim := { program := "ytplhonlgbidemaa", sum := "3e1a21fea6c04297fafd63db3541a116e12ec8987a19dfb9a1eeb3644727d749", func := "garbler/garblerlaw16.ArenaNums", spec := "arenaNums", inPlace := ["sync/atomic.LoadInt64", "sync/atomic.CompareAndSwapInt64"], unfollowed := true, recurses := true, apart := false }
def ArenaNumsSaid : Prop := arenaNumsRow.holds Try.pinned (OpenSpec.ofChange arenaNumsSpec)

/-- ITS FALSE NEIGHBOUR: 'it returns false'. Refute it at one input. -/
def arenaNumsWrong : ChangeSpec := { name := "arenaNums", fn := fun _ => fun
  | [d1, d2, d3] => { results := [.lit (.bool false)], args := [d1, d2, d3] }
  | _ => none }
def ArenaNumsWrongFalsely : Prop := arenaNumsRow.holds Try.pinned (OpenSpec.ofChange arenaNumsWrong)

/-- 'garblerlaw16.ArenaText': WHATEVER THE INPUT: true; the input reads as it did. -/
def arenaTextSpec : ChangeSpec := { name := "arenaText", fn := fun _ => fun
  | [d1, d2, d3] => { results := [.lit (.bool true)], args := [d1, d2, d3] }
  | _ => none }
def arenaTextRow : OpenClaim := { program := "ytplhonlgbidemaa", sum := "3e1a21fea6c04297fafd63db3541a116e12ec8987a19dfb9a1eeb3644727d749", func := "garbler/garblerlaw16.ArenaText", spec := "arenaText", inPlace := ["sync/atomic.LoadInt64", "sync/atomic.CompareAndSwapInt64"], unfollowed := true, recurses := true, apart := false }
def ArenaTextSaid : Prop := arenaTextRow.holds Try.pinned (OpenSpec.ofChange arenaTextSpec)

/-- ITS FALSE NEIGHBOUR: 'it returns false'. Refute it at one input. -/
def arenaTextWrong : ChangeSpec := { name := "arenaText", fn := fun _ => fun
  | [d1, d2, d3] => { results := [.lit (.bool false)], args := [d1, d2, d3] }
  | _ => none }
def ArenaTextWrongFalsely : Prop := arenaTextRow.holds Try.pinned (OpenSpec.ofChange arenaTextWrong)

/-- 'garblerlaw16.ArenaMem': WHATEVER THE INPUT: true; the input reads as it did. -/
def arenaMemSpec : ChangeSpec := { name := "arenaMem", fn := fun _ => fun
  | [d1, d2] => { results := [.lit (.bool true)], args := [d1, d2] }
  | _ => none }
def arenaMemRow : OpenClaim := { program := "ytplhonlgbidemaa", sum := "3e1a21fea6c04297fafd63db3541a116e12ec8987a19dfb9a1eeb3644727d749", func := "garbler/garblerlaw16.ArenaMem", spec := "arenaMem", inPlace := ["sync/atomic.LoadInt64", "sync/atomic.CompareAndSwapInt64"], unfollowed := true, recurses := true, apart := false }
def ArenaMemSaid : Prop := arenaMemRow.holds Try.pinned (OpenSpec.ofChange arenaMemSpec)

/-- ITS FALSE NEIGHBOUR: 'it returns false'. Refute it at one input. -/
def arenaMemWrong : ChangeSpec := { name := "arenaMem", fn := fun _ => fun
  | [d1, d2] => { results := [.lit (.bool false)], args := [d1, d2] }
  | _ => none }
def ArenaMemWrongFalsely : Prop := arenaMemRow.holds Try.pinned (OpenSpec.ofChange arenaMemWrong)

/-- 'garblerlaw16.ArenaPlays': WHATEVER THE INPUT: true; the input reads as it did. -/
def arenaPlaysSpec : ChangeSpec := { name := "arenaPlays", fn := fun _ => fun
  | [d1, d2] => { results := [.lit (.bool true)], args := [d1, d2] }
  | _ => none }
def arenaPlaysRow : OpenClaim := { program := "ytplhonlgbidemaa", sum := "3e1a21fea6c04297fafd63db3541a116e12ec8987a19dfb9a1eeb3644727d749", func := "garbler/garblerlaw16.ArenaPlays", spec := "arenaPlays", inPlace := ["sync/atomic.LoadInt64", "sync/atomic.CompareAndSwapInt64"], unfollowed := true, recurses := true, apart := false }
def ArenaPlaysSaid : Prop := arenaPlaysRow.holds Try.pinned (OpenSpec.ofChange arenaPlaysSpec)

/-- ITS FALSE NEIGHBOUR: 'it returns false'. Refute it at one input. -/
def arenaPlaysWrong : ChangeSpec := { name := "arenaPlays", fn := fun _ => fun
  | [d1, d2] => { results := [.lit (.bool false)], args := [d1, d2] }
  | _ => none }
def ArenaPlaysWrongFalsely : Prop := arenaPlaysRow.holds Try.pinned (OpenSpec.ofChange arenaPlaysWrong)

/-- 'garblerlaw16.ArenaApart': WHATEVER THE INPUT: true; the input reads as it did. -/
def arenaApartSpec : ChangeSpec := { name := "arenaApart", fn := fun _ => fun
  | [d1, d2] => { results := [.lit (.bool true)], args := [d1, d2] }
  | _ => none }
def arenaApartRow : OpenClaim := { program := "ytplhonlgbidemaa", sum := "3e1a21fea6c04297fafd63db3541a116e12ec8987a19dfb9a1eeb3644727d749", func := "garbler/garblerlaw16.ArenaApart", spec := "arenaApart", inPlace := ["sync/atomic.LoadInt64", "sync/atomic.CompareAndSwapInt64"], unfollowed := true, recurses := true, apart := false }
def ArenaApartSaid : Prop := arenaApartRow.holds Try.pinned (OpenSpec.ofChange arenaApartSpec)

/-- ITS FALSE NEIGHBOUR: 'it returns false'. Refute it at one input. -/
def arenaApartWrong : ChangeSpec := { name := "arenaApart", fn := fun _ => fun
  | [d1, d2] => { results := [.lit (.bool false)], args := [d1, d2] }
  | _ => none }
def ArenaApartWrongFalsely : Prop := arenaApartRow.holds Try.pinned (OpenSpec.ofChange arenaApartWrong)

/- THE SECOND FORM. 'bulk': how many values and letters a reading holds, each counted each time it is reached (what is shared counts as often as it is met; a slice's spare places count too). A statement '..UptoSaid' is the law's where the arguments, and the package variables that the reading takes, are together of bulk at most 1048576: NARROWER than '..Said'. Prove '..Said' where nothing that the law and all that it calls make is longer than what came in: it says more and counts as full. Else prove '..UptoSaid'. A law counts once. -/
mutual
def uptoBulk {H : Type} : DataW H → Nat
  | .lit (.string bytes) => bytes.length + 1
  | .lit _ => 1
  | .nil => 1
  | .ptr d => uptoBulk d + 1
  | .slice elems spare => uptoBulkAll elems + uptoBulkAll spare + 1
  | .agg parts => uptoBulkAll parts + 1
  | .iface _ d => uptoBulk d + 1
  | .map entries => uptoBulkEntries entries + 1
  | .held _ => 1
def uptoBulkAll {H : Type} : List (DataW H) → Nat
  | [] => 0
  | d :: r => uptoBulk d + uptoBulkAll r
def uptoBulkEntries {H : Type} : List (Lit × DataW H) → Nat
  | [] => 0
  | x :: r => uptoBulkEntry x + uptoBulkEntries r
def uptoBulkEntry {H : Type} : Lit × DataW H → Nat
  | (.string bytes, d) => bytes.length + uptoBulk d + 1
  | (_, d) => uptoBulk d + 1
 end
def uptoSmall : (H : Type) → List (DataW H) → Bool := fun _ ds => decide (uptoBulkAll ds ≤ 1048576)
def OpenSpec.upto (s : _root_.Go.ChangeSpec) : _root_.Go.OpenSpec := { _root_.Go.OpenSpec.ofChange s with cond := some uptoSmall }

/-- 'garblerlaw16.ArenaAgain', WHERE WHAT IT READS IS OF BULK AT MOST 1048576: true; the input reads as it did. -/
def arenaAgainUptoRow : OpenClaim := { program := "ytplhonlgbidemaa", sum := "3e1a21fea6c04297fafd63db3541a116e12ec8987a19dfb9a1eeb3644727d749", func := "garbler/garblerlaw16.ArenaAgain", spec := "arenaAgain", inPlace := ["sync/atomic.LoadInt64", "sync/atomic.CompareAndSwapInt64"], unfollowed := true, recurses := true, apart := false, narrowed := true }
def ArenaAgainUptoSaid : Prop := arenaAgainUptoRow.holds Try.pinned (OpenSpec.upto arenaAgainSpec)

/-- 'garblerlaw16.ArenaNums', WHERE WHAT IT READS IS OF BULK AT MOST 1048576: true; the input reads as it did. -/
def arenaNumsUptoRow : OpenClaim := { program := "ytplhonlgbidemaa", sum := "3e1a21fea6c04297fafd63db3541a116e12ec8987a19dfb9a1eeb3644727d749", func := "garbler/garblerlaw16.ArenaNums", spec := "arenaNums", inPlace := ["sync/atomic.LoadInt64", "sync/atomic.CompareAndSwapInt64"], unfollowed := true, recurses := true, apart := false, narrowed := true }
def ArenaNumsUptoSaid : Prop := arenaNumsUptoRow.holds Try.pinned (OpenSpec.upto arenaNumsSpec)

/-- 'garblerlaw16.ArenaText', WHERE WHAT IT READS IS OF BULK AT MOST 1048576: true; the input reads as it did. -/
def arenaTextUptoRow : OpenClaim := { program := "ytplhonlgbidemaa", sum := "3e1a21fea6c04297fafd63db3541a116e12ec8987a19dfb9a1eeb3644727d749", func := "garbler/garblerlaw16.ArenaText", spec := "arenaText", inPlace := ["sync/atomic.LoadInt64", "sync/atomic.CompareAndSwapInt64"], unfollowed := true, recurses := true, apart := false, narrowed := true }
def ArenaTextUptoSaid : Prop := arenaTextUptoRow.holds Try.pinned (OpenSpec.upto arenaTextSpec)

/-- 'garblerlaw16.ArenaMem', WHERE WHAT IT READS IS OF BULK AT MOST 1048576: true; the input reads as it did. -/
def arenaMemUptoRow : OpenClaim := { program := "ytplhonlgbidemaa", sum := "3e1a21fea6c04297fafd63db3541a116e12ec8987a19dfb9a1eeb3644727d749", func := "garbler/garblerlaw16.ArenaMem", spec := "arenaMem", inPlace := ["sync/atomic.LoadInt64", "sync/atomic.CompareAndSwapInt64"], unfollowed := true, recurses := true, apart := false, narrowed := true }
def ArenaMemUptoSaid : Prop := arenaMemUptoRow.holds Try.pinned (OpenSpec.upto arenaMemSpec)

/-- 'garblerlaw16.ArenaPlays', WHERE WHAT IT READS IS OF BULK AT MOST 1048576: true; the input reads as it did. -/
def arenaPlaysUptoRow : OpenClaim := { program := "ytplhonlgbidemaa", sum := "3e1a21fea6c04297fafd63db3541a116e12ec8987a19dfb9a1eeb3644727d749", func := "garbler/garblerlaw16.ArenaPlays", spec := "arenaPlays", inPlace := ["sync/atomic.LoadInt64", "sync/atomic.CompareAndSwapInt64"], unfollowed := true, recurses := true, apart := false, narrowed := true }
def ArenaPlaysUptoSaid : Prop := arenaPlaysUptoRow.holds Try.pinned (OpenSpec.upto arenaPlaysSpec)

/-- 'garblerlaw16.ArenaApart', WHERE WHAT IT READS IS OF BULK AT MOST 1048576: true; the input reads as it did. -/
def arenaApartUptoRow : OpenClaim := { program := "ytplhonlgbidemaa", sum := "3e1a21fea6c04297fafd63db3541a116e12ec8987a19dfb9a1eeb3644727d749", func := "garbler/garblerlaw16.ArenaApart", spec := "arenaApart", inPlace := ["sync/atomic.LoadInt64", "sync/atomic.CompareAndSwapInt64"], unfollowed := true, recurses := true, apart := false, narrowed := true }
def ArenaApartUptoSaid : Prop := arenaApartUptoRow.holds Try.pinned (OpenSpec.upto arenaApartSpec)

end Rows
end Go.Proofs.Ytplhonlgbidemaa
