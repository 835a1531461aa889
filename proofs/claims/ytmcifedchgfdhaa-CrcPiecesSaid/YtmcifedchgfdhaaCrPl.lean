/- The check sum in plain words: no program is spoken of. -/
import Derived.Test.YtmcifedchgfdhaaRows
import Derived.Laws.BitsAllLaws
import Derived.WalkKit
namespace Go.Proofs.Ytmcifedchgfdhaa

/-- One bit's step of the register. -/
def st (x : Nat) : Nat := x / 2 ^^^ (if x % 2 = 1 then 3988292384 else 0)
/-- So many steps. -/
def sts : Nat → Nat → Nat
  | 0, x => x
  | k + 1, x => st (sts k x)
/-- The table's entry. -/
def tab (i : Nat) : Nat := sts 8 i
/-- The register behind a byte, by the table. -/
def upd (x b : Nat) : Nat := tab (x % 256 ^^^ b) ^^^ x / 256
/-- The register behind the first n bytes. -/
def reg (X : Nat → Nat) : Nat → Nat → Nat
  | 0, x => x
  | n + 1, x => upd (reg X n x) (X n)
/-- The sum of n bytes. -/
def crcOf (X : Nat → Nat) (n : Nat) : Nat := 4294967295 - reg X n 4294967295

theorem st_lt {x : Nat} (h : x < 4294967296) : st x < 4294967296 := by
  unfold st
  refine Nat.xor_lt_two_pow (n := 32) (by omega) ?_
  split <;> omega
theorem sts_lt {x : Nat} (k : Nat) (h : x < 4294967296) : sts k x < 4294967296 := by
  induction k with
  | zero => exact h
  | succ k ih => exact st_lt ih
theorem tab_lt {i : Nat} (h : i < 256) : tab i < 4294967296 := sts_lt 8 (by omega)
theorem ix_lt {x b : Nat} (h : b < 256) : x % 256 ^^^ b < 256 := Nat.xor_lt_two_pow (n := 8) (by omega) h
theorem upd_lt {x b : Nat} (hx : x < 4294967296) (h : b < 256) : upd x b < 4294967296 :=
  Nat.xor_lt_two_pow (n := 32) (tab_lt (ix_lt h)) (by omega)
theorem reg_lt {X : Nat → Nat} {x : Nat} (hx : x < 4294967296) (n : Nat) (h : ∀ i, i < n → X i < 256) : reg X n x < 4294967296 := by
  induction n with
  | zero => exact hx
  | succ n ih => exact upd_lt (ih fun i hi => h i (by omega)) (h n (by omega))

theorem not32 (x : Nat) (h : x < 4294967296) : 4294967295 ^^^ x = 4294967295 - x := by
  have := (BitVec.ofNat 32 x).toNat_not
  have e := BitVec.not_def (x := BitVec.ofNat 32 x)
  have e2 := congrArg BitVec.toNat e
  simp [Nat.mod_eq_of_lt h] at e2 this
  omega
theorem and_one (x : Nat) : x &&& 1 = x % 2 := Nat.and_one_is_mod x
/-- The step as the program's text has it. -/
theorem st_bits {x : Nat} (h : x < 4294967296) :
    bits .xor .u32 ((x : Int) / 2) (bits .and .u32 3988292384 (IntKind.u32.wrap (-(bits .and .u32 (x : Int) 1)))) = ((st x : Nat) : Int) := by
  have e1 : bits .and .u32 (x : Int) 1 = ((x % 2 : Nat) : Int) := by
    have := u32_and_nat x 1 h (by omega)
    rw [and_one] at this
    exact this
  have e2 : (x : Int) / 2 = ((x / 2 : Nat) : Int) := by omega
  rw [e1, e2]
  rcases Nat.mod_two_eq_zero_or_one x with h0 | h0
  · rw [h0]
    have e3 : bits .and .u32 3988292384 (IntKind.u32.wrap (-((0 : Nat) : Int))) = ((0 : Nat) : Int) := by decide
    rw [e3, u32_xor_nat _ _ (by omega) (by omega)]
    simp [st, h0]
  · rw [h0]
    have e3 : bits .and .u32 3988292384 (IntKind.u32.wrap (-((1 : Nat) : Int))) = ((3988292384 : Nat) : Int) := by decide
    rw [e3, u32_xor_nat _ _ (by omega) (by omega)]
    simp [st, h0]
end Go.Proofs.Ytmcifedchgfdhaa
