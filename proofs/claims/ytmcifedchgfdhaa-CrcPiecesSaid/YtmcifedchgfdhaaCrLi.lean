/- The step is linear; the table does as eight steps do. -/
import Derived.Test.YtmcifedchgfdhaaCrPl
namespace Go.Proofs.Ytmcifedchgfdhaa

theorem half_xor (a b : Nat) : (a ^^^ b) / 2 = a / 2 ^^^ b / 2 := by
  apply Nat.eq_of_testBit_eq
  intro i
  simp [Nat.testBit_div_two, Nat.testBit_xor]
theorem odd_xor (a b : Nat) : (a ^^^ b) % 2 = (a % 2 + b % 2) % 2 := by
  have h := Nat.testBit_xor a b 0
  rw [Nat.testBit_zero, Nat.testBit_zero, Nat.testBit_zero] at h
  generalize a ^^^ b = m at *
  rcases Nat.mod_two_eq_zero_or_one a with ha | ha <;> rcases Nat.mod_two_eq_zero_or_one b with hb | hb <;> rcases Nat.mod_two_eq_zero_or_one m with hm | hm <;> rw [ha, hb, hm] at h <;> simp_all
theorem st_xor (a b : Nat) : st (a ^^^ b) = st a ^^^ st b := by
  unfold st
  rw [half_xor, odd_xor]
  rcases Nat.mod_two_eq_zero_or_one a with h | h <;> rcases Nat.mod_two_eq_zero_or_one b with k | k <;> rw [h, k]
  · simp
  · simp [Nat.xor_assoc]
  · simp [Nat.xor_assoc]
    rw [Nat.xor_comm (b / 2)]
  · simp only [if_pos]
    apply Nat.eq_of_testBit_eq
    intro i
    simp [Nat.testBit_xor]
    cases (a / 2).testBit i <;> cases (b / 2).testBit i <;> cases Nat.testBit 3988292384 i <;> rfl
theorem sts_xor (k a b : Nat) : sts k (a ^^^ b) = sts k a ^^^ sts k b := by
  induction k with
  | zero => rfl
  | succ k ih => simp only [sts]; rw [ih, st_xor]
theorem st_even (h : Nat) : st (2 * h) = h := by
  have e1 : 2 * h / 2 = h := by omega
  have e2 : ¬ 2 * h % 2 = 1 := by omega
  simp [st, e1]
theorem sts_succ' (k x : Nat) : sts (k + 1) x = sts k (st x) := by
  induction k with
  | zero => rfl
  | succ k ih => show st (sts (k + 1) x) = st (sts k (st x)); rw [ih]
theorem sts_high (h : Nat) : sts 8 (256 * h) = h := by
  rw [show 256 * h = 2 * (2 * (2 * (2 * (2 * (2 * (2 * (2 * h))))))) by omega]
  rw [sts_succ', st_even, sts_succ', st_even, sts_succ', st_even, sts_succ', st_even, sts_succ', st_even, sts_succ', st_even, sts_succ', st_even, sts_succ', st_even]
  rfl
theorem low_high (x : Nat) : x % 256 ^^^ 256 * (x / 256) = x := by
  have h := Nat.two_pow_add_eq_or_of_lt (i := 8) (b := x % 256) (by omega) (x / 256)
  have h2 : 256 * (x / 256) ^^^ x % 256 = 256 * (x / 256) ||| x % 256 := by
    apply Nat.eq_of_testBit_eq
    intro i
    rw [Nat.testBit_xor, Nat.testBit_or]
    have e1 : (256 * (x / 256)).testBit i = (decide (8 ≤ i) && (x / 256).testBit (i - 8)) := by
      have := Nat.testBit_two_pow_mul (i := 8) (a := x / 256) (j := i)
      simpa using this
    have e2 : (x % 256).testBit i = (decide (i < 8) && x.testBit i) := Nat.testBit_mod_two_pow x 8 i
    rw [e1, e2]
    by_cases hi : i < 8
    · simp [hi, show ¬ 8 ≤ i by omega]
    · simp [hi]
  rw [Nat.xor_comm, h2, ← show 2 ^ 8 * (x / 256) + x % 256 = 256 * (x / 256) ||| x % 256 from h]
  omega
/-- The register behind a byte, by the table, is that behind eight steps. -/
theorem upd_steps (x b : Nat) : upd x b = sts 8 (x ^^^ b) := by
  unfold upd tab
  have e : x ^^^ b = (x % 256 ^^^ b) ^^^ 256 * (x / 256) := by
    have := low_high x
    rw [Nat.xor_assoc, Nat.xor_comm b, ← Nat.xor_assoc, this]
  rw [e, sts_xor 8 (x % 256 ^^^ b), sts_high]
end Go.Proofs.Ytmcifedchgfdhaa
