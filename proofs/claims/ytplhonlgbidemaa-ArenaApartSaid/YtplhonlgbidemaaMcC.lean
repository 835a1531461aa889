/- The meter's contracts in the form in which the laws take them. -/
import Derived.Test.YtplhonlgbidemaaMcM
namespace Go.Proofs.Ytplhonlgbidemaa
open Go.RowKit

/-- The same meter, its block untouched by what has grown elsewhere. -/
theorem Mtr.grown {w w' : World} {b : Nat} {m : Mt} {row : Option Nat} (h : Mtr w b m) (hb : w.grownBy w' row) (hg : some b ≠ row) : Mtr w' b m := Blk.grown h hb hg
/-- What a meter's own calls leave is only grown, seen from before the meter was there. -/
theorem grown_own {w w1 w2 : World} {b : Nat} (h : w.grownBy w1 none) (hb : w.heap.size ≤ b) (h2 : w1.grownBy w2 (some b)) : w.grownBy w2 none :=
  ⟨h2.os.trans h.os, h2.tape.trans h.tape, h2.output.trans h.output, Nat.le_trans h.size h2.size, fun k hk hr => (h2.block k (Nat.lt_of_lt_of_le hk h.size) (fun e => by injection e; omega)).trans (h.block k hk hr)⟩
theorem grown_two {w w1 w2 : World} (h : w.grownBy w1 none) (h2 : w1.grownBy w2 none) : w.grownBy w2 none := grown_trans h h2

theorem mem_to {w : World} {b : Nat} {m m' : Mt} (n : Int) (r : Bool) (hr : may m.cd m.qm m.um n = r) (hm : m.mem n = m') (hg : m.Good) (h : Mtr w b m) :
    Calls Try.prog 31 #[.pointer (some ⟨b, 0, none⟩), .int .i64 n] w fun e w' => e = .returned (.bool r) ∧ Mtr w' b m' ∧ w.grownBy w' (some b) ∧ w'.heap.size = w.heap.size := by
  subst hr hm; exact mem_any n h hg
theorem new_ex (a b c d e : Int) (w : World) :
    Calls Try.prog 25 #[.agg #[.int .i64 a, .int .i64 b, .int .i64 c, .int .i64 d, .int .i64 e]] w fun r w' => ∃ g, r = .returned (.pointer (some ⟨g, 0, none⟩)) ∧ w.heap.size ≤ g ∧ Mtr w' g (Mt.new a b c d e) ∧ w.grownBy w' none :=
  (new_any a b c d e w).mono fun _ _ ⟨h1, h2, h3, _⟩ => ⟨_, h1, Nat.le_succ _, h2, h3⟩
theorem free_to {w : World} {b : Nat} {m m' : Mt} (n : Int) (hn : n ≤ 9223372036854775807) (hm : m.free n = m') (hg : m.Good) (h : Mtr w b m) :
    Calls Try.prog 39 #[.pointer (some ⟨b, 0, none⟩), .int .i64 n] w fun e w' => e = .returned (.tuple #[]) ∧ Mtr w' b m' ∧ w.grownBy w' (some b) ∧ w'.heap.size = w.heap.size := by
  subst hm; exact free_any n hn h hg
theorem code_to {w : World} {b : Nat} {m : Mt} (c : Int) (hc : m.cd = c) (h : Mtr w b m) :
    Calls Try.prog 32 #[.pointer (some ⟨b, 0, none⟩)] w fun e w' => e = .returned (.int .i64 c) ∧ w = w' := by
  subst hc; exact code_any h
theorem used_to {w : World} {b : Nat} {m : Mt} (v : Value) (hv : m.usedV = v) (h : Mtr w b m) :
    Calls Try.prog 26 #[.pointer (some ⟨b, 0, none⟩)] w fun e w' => e = .returned v ∧ w.grownBy w' none := by
  subst hv; exact used_any h

/-- A field of what Used told. -/
theorem used_f0 (a0 a1 a2 a3 a4 a5 : Value) (w : World) : (Instr.field 59 (.agg #[a0, a1, a2, a3, a4, a5]) 0).run Try.prog w = .ok a0 w := by kernel_rfl
theorem used_f1 (a0 a1 a2 a3 a4 a5 : Value) (w : World) : (Instr.field 59 (.agg #[a0, a1, a2, a3, a4, a5]) 1).run Try.prog w = .ok a1 w := by kernel_rfl
theorem used_f2 (a0 a1 a2 a3 a4 a5 : Value) (w : World) : (Instr.field 59 (.agg #[a0, a1, a2, a3, a4, a5]) 2).run Try.prog w = .ok a2 w := by kernel_rfl
theorem used_f3 (a0 a1 a2 a3 a4 a5 : Value) (w : World) : (Instr.field 59 (.agg #[a0, a1, a2, a3, a4, a5]) 3).run Try.prog w = .ok a3 w := by kernel_rfl
theorem used_f4 (a0 a1 a2 a3 a4 a5 : Value) (w : World) : (Instr.field 59 (.agg #[a0, a1, a2, a3, a4, a5]) 4).run Try.prog w = .ok a4 w := by kernel_rfl
theorem used_f5 (a0 a1 a2 a3 a4 a5 : Value) (w : World) : (Instr.field 59 (.agg #[a0, a1, a2, a3, a4, a5]) 5).run Try.prog w = .ok a5 w := by kernel_rfl

end Go.Proofs.Ytplhonlgbidemaa
