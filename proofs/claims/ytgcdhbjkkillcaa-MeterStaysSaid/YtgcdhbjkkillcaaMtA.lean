/- The first look of the meter's laws (awake), walked. -/
import Derived.Test.YtgcdhbjkkillcaaMtM
namespace Go.Proofs.Ytgcdhbjkkillcaa
open Go.RowKit

/-- The same meter, its block untouched by what has grown elsewhere. -/
theorem Mtr.grown {w w' : World} {b : Nat} {m : Mt} {row : Option Nat} (h : Mtr w b m) (hb : w.grownBy w' row) (hg : some b ≠ row) : Mtr w' b m := Blk.grown h hb hg
theorem new_good0 : (Mt.new 10 0 0 0 0).Good := new_good _ _ _ _ _ (by omega) (by omega) (by omega) (by omega) (by omega)
/-- What a meter's own calls leave is only grown, seen from before the meter was there. -/
theorem grown_own {w w1 w2 : World} {b : Nat} (h : w.grownBy w1 none) (hb : w.heap.size ≤ b) (h2 : w1.grownBy w2 (some b)) : w.grownBy w2 none :=
  ⟨h2.os.trans h.os, h2.tape.trans h.tape, h2.output.trans h.output, Nat.le_trans h.size h2.size, fun k hk hr => (h2.block k (Nat.lt_of_lt_of_le hk h.size) (fun e => by injection e; omega)).trans (h.block k hk hr)⟩
theorem grown_two {w w1 w2 : World} (h : w.grownBy w1 none) (h2 : w1.grownBy w2 none) : w.grownBy w2 none := grown_trans h h2

theorem mem_to {w : World} {b : Nat} {m m' : Mt} (n : Int) (r : Bool) (hr : may m.cd m.qm m.um n = r) (hm : m.mem n = m') (hg : m.Good) (h : Mtr w b m) :
    Calls Try.prog 16 #[.pointer (some ⟨b, 0, none⟩), .int .i64 n] w fun e w' => e = .returned (.bool r) ∧ Mtr w' b m' ∧ w.grownBy w' (some b) ∧ w'.heap.size = w.heap.size := by
  subst hr hm; exact mem_any n h hg
theorem new_ex (a b c d e : Int) (w : World) :
    Calls Try.prog 9 #[.agg #[.int .i64 a, .int .i64 b, .int .i64 c, .int .i64 d, .int .i64 e]] w fun r w' => ∃ g, r = .returned (.pointer (some ⟨g, 0, none⟩)) ∧ w.heap.size ≤ g ∧ Mtr w' g (Mt.new a b c d e) ∧ w.grownBy w' none :=
  (new_any a b c d e w).mono fun _ _ ⟨h1, h2, h3, _⟩ => ⟨_, h1, Nat.le_succ _, h2, h3⟩
theorem out_to {w : World} {b : Nat} {m m' : Mt} (n : Int) (r : Bool) (hr : may m.cd m.qo m.uo n = r) (hm : m.out n = m') (hg : m.Good) (h : Mtr w b m) :
    Calls Try.prog 10 #[.pointer (some ⟨b, 0, none⟩), .int .i64 n] w fun e w' => e = .returned (.bool r) ∧ Mtr w' b m' ∧ w.grownBy w' (some b) ∧ w'.heap.size = w.heap.size := by
  subst hr hm; exact out_any n h hg
theorem free_to {w : World} {b : Nat} {m m' : Mt} (n : Int) (hn : n ≤ 9223372036854775807) (hm : m.free n = m') (hg : m.Good) (h : Mtr w b m) :
    Calls Try.prog 17 #[.pointer (some ⟨b, 0, none⟩), .int .i64 n] w fun e w' => e = .returned (.tuple #[]) ∧ Mtr w' b m' ∧ w.grownBy w' (some b) ∧ w'.heap.size = w.heap.size := by
  subst hm; exact free_any n hn h hg
theorem code_to {w : World} {b : Nat} {m : Mt} (c : Int) (hc : m.cd = c) (h : Mtr w b m) :
    Calls Try.prog 15 #[.pointer (some ⟨b, 0, none⟩)] w fun e w' => e = .returned (.int .i64 c) ∧ w = w' := by
  subst hc; exact code_any h
theorem used_to {w : World} {b : Nat} {m : Mt} (v : Value) (hv : m.usedV = v) (h : Mtr w b m) :
    Calls Try.prog 11 #[.pointer (some ⟨b, 0, none⟩)] w fun e w' => e = .returned v ∧ w.grownBy w' none := by
  subst hv; exact used_any h

/-- A field of what Used told. -/
theorem used_f0 (a0 a1 a2 a3 a4 a5 : Value) (w : World) : (Instr.field 30 (.agg #[a0, a1, a2, a3, a4, a5]) 0).run Try.prog w = .ok a0 w := by kernel_rfl
theorem used_f1 (a0 a1 a2 a3 a4 a5 : Value) (w : World) : (Instr.field 30 (.agg #[a0, a1, a2, a3, a4, a5]) 1).run Try.prog w = .ok a1 w := by kernel_rfl
theorem used_f2 (a0 a1 a2 a3 a4 a5 : Value) (w : World) : (Instr.field 30 (.agg #[a0, a1, a2, a3, a4, a5]) 2).run Try.prog w = .ok a2 w := by kernel_rfl
theorem used_f3 (a0 a1 a2 a3 a4 a5 : Value) (w : World) : (Instr.field 30 (.agg #[a0, a1, a2, a3, a4, a5]) 3).run Try.prog w = .ok a3 w := by kernel_rfl
theorem used_f4 (a0 a1 a2 a3 a4 a5 : Value) (w : World) : (Instr.field 30 (.agg #[a0, a1, a2, a3, a4, a5]) 4).run Try.prog w = .ok a4 w := by kernel_rfl
theorem used_f5 (a0 a1 a2 a3 a4 a5 : Value) (w : World) : (Instr.field 30 (.agg #[a0, a1, a2, a3, a4, a5]) 5).run Try.prog w = .ok a5 w := by kernel_rfl

/-- The four states of the meter that awake looks at. -/
def M1 : Mt := (Mt.new 10 0 0 0 0).mem 6
def M2 : Mt := M1.mem 5
def M3 : Mt := M2.free 6
def M4 : Mt := M3.mem 1

set_option maxHeartbeats 1000000 in
theorem awake_any (w : World) : Calls Try.prog 8 #[] w fun e w' => e = .returned (.bool true) ∧ w.grownBy w' none := by
  have g0 := new_good0
  have F := used_f1
  have g1 : M1.Good := mem_good g0 6
  have g2 : M2.Good := mem_good g1 5
  have g3 : M3.Good := free_good g2 6
  go_enter Try.func8, Try.ntmps8
  go_wp2_with fail
  refine (new_any 10 0 0 0 0 w).mono ?_; rintro e w1 ⟨rfl, h1, hg1, hs1⟩
  have Hs := Lib.hid hs1; clear hs1
  go_wp2_with fail
  refine (mem_to (m' := M1) 6 true (by decide) rfl g0 h1).mono ?_; rintro e w2 ⟨rfl, h2, hg2, _⟩
  have hg2 := grown_own hg1 (by omega) hg2
  go_wp2_with fail
  refine (mem_to (m' := M2) 5 false (by decide) rfl g1 h2).mono ?_; rintro e w3 ⟨rfl, h3, hg3, _⟩
  have hg3 := grown_own hg2 (by omega) hg3
  go_wp2_with fail
  refine (free_to (m' := M3) 6 (by omega) rfl g2 h3).mono ?_; rintro e w4 ⟨rfl, h4, hg4, _⟩
  have hg4 := grown_own hg3 (by omega) hg4
  go_wp2_with fail
  refine (mem_to (m' := M4) 1 false (by decide) rfl g3 h4).mono ?_; rintro e w5 ⟨rfl, h5, hg5, _⟩
  have hg5 := grown_own hg4 (by omega) hg5
  go_wp2_with fail
  refine (code_to 101 (by decide) h5).mono ?_; rintro e w6 ⟨rfl, rfl⟩
  go_wp2_with fail
  refine (used_to (.agg #[.int .i64 0, .int .i64 6, .int .i64 0, .int .i64 0, .int .i64 0, .int .i64 0]) rfl h5).mono ?_; rintro e w7 ⟨rfl, hg7⟩
  go_wp2_with fail
  go_ret
  exact ⟨rfl, grown_two hg5 hg7⟩
end Go.Proofs.Ytgcdhbjkkillcaa
