/- CrcTurns' plain law, and its argument. -/
import Derived.Test.YtmcifedchgfdhaaCrTail
import Derived.Lib.SmallJoins
import Derived.Deep.Fields
namespace Go.Proofs.Ytmcifedchgfdhaa
open Go.ChangeShapes Go.WideShapes Go.ChangeAt Go.RowKit Go.Deep Go.Joins

theorem bd32 {n : Int} (h : (Lit.int .u32 n).wf = true) : 0 ≤ n ∧ n ≤ 4294967295 := by
  have h1 : IntKind.u32.min = 0 := rfl
  have h2 : IntKind.u32.max = 4294967295 := rfl
  simp only [Lit.wf, Bool.and_eq_true, decide_eq_true_eq] at h
  omega
theorem turn_open {H : Type} {enc : TypeId × Value → H} {W : World} {base b0 : Nat} {spare : Nat → Bool} {held : Bool} {r : Reach} {v : Value} {d : DataW H} {p : List MemPlace}
    (hv : Value.okWide Try.prog W r b0 29 v) (h : DataW.Trod enc Try.prog W base spare held 29 v d p) :
    ∃ a b c : Nat, v = .agg #[.int .u16 a, .int .u32 b, .int .u8 c] ∧ a ≤ 65535 ∧ b ≤ 4294967295 ∧ c ≤ 255 := by
  have hs := Try.underlying29
  have hC : Try.prog.cellsOf 29 = 3 := by kernel_rfl
  have h1 : Try.prog.cellsOf 27 = 1 := by kernel_rfl
  have h2 : Try.prog.cellsOf 24 = 1 := by kernel_rfl
  have h3 : Try.prog.cellsOf 5 = 1 := by kernel_rfl
  obtain ⟨cs, rfl, hsz⟩ := okWide_struct hs hv
  obtain ⟨l⟩ := cs
  match l, hsz.trans hC with
  | [c0, c1, c2], _ =>
    obtain ⟨fuel, hf⟩ := h
    obtain ⟨xs, n, _, hx, _, hlen, hg⟩ := DataW.trod_struct hs hf
    match xs, hlen with
    | [y0, y1, y2], _ =>
      have g0 : DataW.trod enc Try.prog W base spare held n 27 (([c0, c1, c2].drop 0).take (Try.prog.cellsOf 27)) = some y0 := hg 0 _ rfl
      have g1 : DataW.trod enc Try.prog W base spare held n 24 (([c0, c1, c2].drop 1).take (Try.prog.cellsOf 24)) = some y1 := hg 1 _ rfl
      have g2 : DataW.trod enc Try.prog W base spare held n 5 (([c0, c1, c2].drop 2).take (Try.prog.cellsOf 5)) = some y2 := hg 2 _ rfl
      rw [h1] at g0
      rw [h2] at g1
      rw [h3] at g2
      obtain ⟨a, e0, _, wa⟩ := DataW.trod_int Try.underlying27 g0
      obtain ⟨b, e1, _, wb⟩ := DataW.trod_int Try.underlying24 g1
      obtain ⟨c, e2, _, wc⟩ := DataW.trod_int Try.underlying5 g2
      simp at e0 e1 e2
      subst e0 e1 e2
      have ba := bdU16 wa
      have bb := bd32 wb
      have bc := bdU8 wc
      refine ⟨a.toNat, b.toNat, c.toNat, ?_, by omega, by omega, by omega⟩
      rw [Int.toNat_of_nonneg ba.1, Int.toNat_of_nonneg bb.1, Int.toNat_of_nonneg bc.1]

theorem reg_two (X D : Nat → Nat) (n x y : Nat) : reg (fun i => X i ^^^ D i) n (x ^^^ y) = reg X n x ^^^ reg D n y := by
  induction n with
  | zero => rfl
  | succ n ih =>
    simp only [reg]
    rw [ih, upd_steps, upd_steps, upd_steps, ← sts_xor]
    congr 1
    apply Nat.eq_of_testBit_eq
    intro i
    simp only [Nat.testBit_xor]
    cases (reg X n x).testBit i <;> cases (reg D n y).testBit i <;> cases (X n).testBit i <;> cases (D n).testBit i <;> rfl
theorem st_zero {x : Nat} (hx : x < 4294967296) (h : st x = 0) : x = 0 := by
  unfold st at h
  rcases Nat.mod_two_eq_zero_or_one x with k | k
  · rw [k] at h; simp at h; omega
  · rw [k, if_pos rfl] at h
    have e : x / 2 = 3988292384 := by
      have : x / 2 ^^^ 3988292384 ^^^ 3988292384 = 0 ^^^ 3988292384 := by rw [h]
      rw [Nat.xor_assoc, Nat.xor_self, Nat.xor_zero, Nat.zero_xor] at this
      exact this
    omega
theorem sts_zero {x : Nat} (k : Nat) (hx : x < 4294967296) (h : sts k x = 0) : x = 0 := by
  induction k with
  | zero => exact h
  | succ k ih => exact ih (st_zero (sts_lt k hx) h)
theorem sts_shift (s b : Nat) : sts s (b * 2 ^ s) = b := by
  induction s with
  | zero => simp [sts]
  | succ s ih =>
    rw [sts_succ', show b * 2 ^ (s + 1) = 2 * (b * 2 ^ s) by rw [Nat.pow_succ]; ac_rfl, st_even, ih]
theorem five_bytes {x : Nat} (hx : x < 1099511627776) :
    x = x % 256 ^^^ 256 * (x / 256 % 256) ^^^ 256 * (256 * (x / 65536 % 256)) ^^^ 256 * (256 * (256 * (x / 16777216 % 256))) ^^^ 256 * (256 * (256 * (256 * (x / 4294967296 % 256)))) := by
  have h1 := low_high x
  have h2 := low_high (x / 256)
  have h3 := low_high (x / 256 / 256)
  have h4 := low_high (x / 256 / 256 / 256)
  have e1 : x / 256 / 256 = x / 65536 := by omega
  have e2 : x / 65536 / 256 = x / 16777216 := by omega
  have e4 : x / 16777216 / 256 = x / 4294967296 := by omega
  have e3 : x / 4294967296 % 256 = x / 4294967296 := by omega
  rw [e1] at h2 h3 h4
  rw [e2] at h3 h4
  rw [e4] at h4
  rw [e3, Nat.xor_assoc, ← mul_xor, ← mul_xor, ← mul_xor, h4, Nat.xor_assoc, ← mul_xor, ← mul_xor, h3, Nat.xor_assoc, ← mul_xor, h2, h1]
theorem upd_five (r a b c d e : Nat) : upd (upd (upd (upd (upd r a) b) c) d) e = sts 40 (r ^^^ a ^^^ 256 * b ^^^ 256 * (256 * c) ^^^ 256 * (256 * (256 * d)) ^^^ 256 * (256 * (256 * (256 * e)))) := by
  have e4 : ∀ y b, sts 32 y ^^^ b = sts 32 (y ^^^ 256 * (256 * (256 * (256 * b)))) := fun y b => by
    rw [sts_xor, show (32 : Nat) = 8 + 24 from rfl, ← sts_add 24 8 (256 * (256 * (256 * (256 * b)))), sts_high, show (24 : Nat) = 8 + 16 from rfl, ← sts_add 16 8 (256 * (256 * (256 * b))), sts_high, show (16 : Nat) = 8 + 8 from rfl, ← sts_add 8 8 (256 * (256 * b)), sts_high, sts_high]
  rw [upd_four r a b c d, upd_steps, e4, sts_add]
/-- The five bytes of a number. -/
def fiveByte (x : Nat) (i : Nat) : Nat := if i = 0 then x % 256 else if i = 1 then x / 256 % 256 else if i = 2 then x / 65536 % 256 else if i = 3 then x / 16777216 % 256 else x / 4294967296 % 256
theorem fiveByte_lt (x i : Nat) : fiveByte x i < 256 := by unfold fiveByte; split <;> (try split) <;> (try split) <;> (try split) <;> omega
/-- What is changed. -/
def chg (x k m : Nat) : Nat := if k ≤ m ∧ m < k + 5 then fiveByte x (m - k) else 0
theorem upd_00 : upd 0 0 = 0 := by decide
theorem chg_before (x k m : Nat) (h : m ≤ k) : reg (chg x k) m 0 = 0 := by
  induction m with
  | zero => rfl
  | succ m ih =>
    simp only [reg]
    rw [ih (by omega), show chg x k m = 0 from if_neg (by omega), upd_00]
theorem chg_at (x k : Nat) (hx : x < 1099511627776) : reg (chg x k) (k + 5) 0 = sts 40 x := by
  have h0 := chg_before x k k (Nat.le_refl _)
  simp only [reg]
  rw [h0]
  have c : ∀ j, j < 5 → chg x k (k + j) = fiveByte x j := fun j hj => by unfold chg; rw [if_pos (by omega)]; congr 1; omega
  rw [show chg x k k = fiveByte x 0 from c 0 (by omega), c 1 (by omega), c 2 (by omega), c 3 (by omega), c 4 (by omega), upd_five, Nat.zero_xor]
  congr 1
  exact (five_bytes hx).symm
theorem chg_behind (x k m : Nat) (hx : x < 1099511627776) (hl : sts 40 x < 4294967296) (h : sts 40 x ≠ 0) : reg (chg x k) (k + 5 + m) 0 ≠ 0 ∧ reg (chg x k) (k + 5 + m) 0 < 4294967296 := by
  induction m with
  | zero => rw [Nat.add_zero, chg_at x k hx]; exact ⟨h, hl⟩
  | succ m ih =>
    have e : reg (chg x k) (k + 5 + (m + 1)) 0 = sts 8 (reg (chg x k) (k + 5 + m) 0) := by
      show upd (reg (chg x k) (k + 5 + m) 0) (chg x k (k + 5 + m)) = _
      rw [show chg x k (k + 5 + m) = 0 from if_neg (by omega), upd_steps, Nat.xor_zero]
    rw [e]
    exact ⟨fun h0 => ih.1 (sts_zero 8 ih.2 h0), sts_lt 8 ih.2⟩
theorem turn_law (X : Nat → Nat) (n k b s : Nat) (hX : ∀ i, i < n → X i < 256) (hk : k + 5 ≤ n) (hb : b < 4294967296) (hb0 : b ≠ 0) (hs : s < 8) :
    crcOf (fun i => X i ^^^ chg (b * 2 ^ s) k i) n ≠ crcOf X n := by
  have hp : (2 : Nat) ^ s ≤ 128 := Nat.pow_le_pow_right (n := 2) (by omega) (show s ≤ 7 by omega)
  have hx : b * 2 ^ s < 1099511627776 := by
    have := Nat.mul_le_mul (show b ≤ 4294967295 by omega) hp
    omega
  have e40 : sts 40 (b * 2 ^ s) = sts (40 - s) b := by
    have := sts_add (40 - s) s (b * 2 ^ s)
    rw [show s + (40 - s) = 40 by omega, sts_shift] at this
    exact this.symm
  have hl : sts 40 (b * 2 ^ s) < 4294967296 := by rw [e40]; exact sts_lt _ hb
  have h0 : sts 40 (b * 2 ^ s) ≠ 0 := by rw [e40]; exact fun h => hb0 (sts_zero _ hb h)
  obtain ⟨m, rfl⟩ : ∃ m, n = k + 5 + m := ⟨n - (k + 5), by omega⟩
  obtain ⟨r0, rl⟩ := chg_behind (b * 2 ^ s) k m hx hl h0
  have h := reg_two X (chg (b * 2 ^ s) k) (k + 5 + m) 4294967295 0
  rw [Nat.xor_zero] at h
  have l1 := reg_lt (X := X) (x := 4294967295) (by omega) (k + 5 + m) hX
  have l2 : reg (fun i => X i ^^^ chg (b * 2 ^ s) k i) (k + 5 + m) 4294967295 < 4294967296 := by rw [h]; exact Nat.xor_lt_two_pow (n := 32) l1 rl
  intro e
  unfold crcOf at e
  have e2 : reg (fun i => X i ^^^ chg (b * 2 ^ s) k i) (k + 5 + m) 4294967295 = reg X (k + 5 + m) 4294967295 := by omega
  rw [e2] at h
  apply r0
  have h3 : reg X (k + 5 + m) 4294967295 ^^^ reg X (k + 5 + m) 4294967295 = reg X (k + 5 + m) 4294967295 ^^^ (reg X (k + 5 + m) 4294967295 ^^^ reg (chg (b * 2 ^ s) k) (k + 5 + m) 0) := by rw [← h]
  rw [Nat.xor_self, ← Nat.xor_assoc, Nat.xor_self, Nat.zero_xor] at h3
  exact h3.symm
end Go.Proofs.Ytmcifedchgfdhaa
