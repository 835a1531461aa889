/- Bytes and numbers of the arena. -/
import Derived.Test.YtplhonlgbidemaaArP
namespace Go.Proofs.Ytplhonlgbidemaa
open Go.RowKit

section
variable {w w' : World} {g gm : Nat} {mt : Value} {A : AM} {F M : Nat → Nat}
theorem byte_in (h : Ar w g gm mt A F M) {p : Nat} (hp : p < A.size + 13) :
    Calls Try.prog 17 #[.pointer (some ⟨g, 0, none⟩), .int .i64 (p : Nat)] w fun e w' => e = .returned (.int .u8 (M p : Nat)) ∧ w' = w := by
  have c0 := h.mem
  have c1 := h.byte hp
  have h1 := h.small
  have hc : ¬ ((A.size : Int) + 13 ≤ p) := by omega
  go_enter Try.func17, Try.ntmps17
  go_wp2_with fail
  go_ret
  exact ⟨rfl, rfl⟩
theorem byte_out (h : Ar w g gm mt A F M) {p : Int} (hp : p < 0 ∨ ((A.size : Int) + 13 ≤ p)) :
    Calls Try.prog 17 #[.pointer (some ⟨g, 0, none⟩), .int .i64 p] w fun e w' => e = .returned (.int .u8 0) ∧ w' = w := by
  have c0 := h.mem
  by_cases hn : p < 0
  · go_enter Try.func17, Try.ntmps17
    go_wp2_with fail
    go_ret
    exact ⟨rfl, rfl⟩
  · have hp : ((A.size : Int) + 13 ≤ p) := by omega
    go_enter Try.func17, Try.ntmps17
    go_wp2_with fail
    go_ret
    exact ⟨rfl, rfl⟩
theorem setByte_in (h : Ar w g gm mt A F M) {p b : Nat} (hp : p < A.size + 13) (hb : b < 256) :
    Calls Try.prog 16 #[.pointer (some ⟨g, 0, none⟩), .int .i64 (p : Nat), .int .u8 (b : Nat)] w fun e w' =>
      e = .returned (.tuple #[]) ∧ Ar w' g gm mt A F (fun i => if i = p then b else M i) ∧ On (two g gm) w w' := by
  have c0 := h.mem
  have c1 := h.byte hp
  have h1 := h.small
  have hf := h.freem p
  have hc : (p : Int) < (A.size : Int) + 13 := by omega
  have P := h.putByte p b hb
  have O : On (two g gm) w (w.setCell ⟨gm, p, none⟩ (.int .u8 (b : Nat))) := (on_refl _ w).put (.inr rfl) _
  go_enter Try.func16, Try.ntmps16
  go_wp2_with fail
  go_end0
  exact ⟨rfl, P, O⟩
theorem setByte_out (h : Ar w g gm mt A F M) {p b : Int} (hp : p < 0 ∨ ((A.size : Int) + 13 ≤ p)) :
    Calls Try.prog 16 #[.pointer (some ⟨g, 0, none⟩), .int .i64 p, .int .u8 b] w fun e w' => e = .returned (.tuple #[]) ∧ w' = w := by
  have c0 := h.mem
  by_cases hn : p < 0
  · have hn' : ¬ (0 ≤ p) := by omega
    go_enter Try.func16, Try.ntmps16
    go_wp2_with fail
    go_end0
    exact ⟨rfl, rfl⟩
  · have hp : ¬ (p < (A.size : Int) + 13) := by omega
    have hn' : 0 ≤ p := by omega
    go_enter Try.func16, Try.ntmps16
    go_wp2_with fail
    go_end0
    exact ⟨rfl, rfl⟩

/-- The first k bytes from p on as a number. -/
def numK (M : Nat → Nat) (p : Nat) : Nat → Nat
  | 0 => 0
  | k + 1 => numK M p k + M (p + k) * 2 ^ (8 * k)
theorem numK_lt {M : Nat → Nat} {p k : Nat} (h : ∀ i, i < k → M (p + i) < 256) : numK M p k < 2 ^ (8 * k) := by
  induction k with
  | zero => simp [numK]
  | succ k ih =>
    have h1 := ih fun i hi => h i (by omega)
    have h2 := h k (by omega)
    have e : (2 : Nat) ^ (8 * (k + 1)) = 256 * 2 ^ (8 * k) := by rw [show 8 * (k + 1) = 8 + 8 * k by omega, Nat.pow_add]
    unfold numK
    rw [e]
    have h3 : M (p + k) * 2 ^ (8 * k) ≤ 255 * 2 ^ (8 * k) := Nat.mul_le_mul_right _ (by omega)
    omega
theorem numK_four (M : Nat → Nat) (p : Nat) : numK M p 4 = num4 M p := by
  simp only [numK, num4, Nat.add_zero]
  omega
theorem or_i64 (a b : Nat) (ha : a < 9223372036854775808) (hb : b < 9223372036854775808) : bits .or .i64 (a : Int) (b : Int) = ((a ||| b : Nat) : Int) := by
  have hx : a ||| b < 2 ^ 63 := Nat.or_lt_two_pow (by omega) (by omega)
  show IntKind.i64.wrap ((BitVec.ofInt 64 (a : Int) ||| BitVec.ofInt 64 (b : Int)).toNat : Int) = _
  rw [BitVec.toNat_or, ofInt_u64 a (by omega), ofInt_u64 b (by omega), IntKind.wrap_i64]
  omega
theorem or_step {a b j : Nat} (ha : a < 2 ^ (8 * j)) (hb : b < 256) (hj : j ≤ 3) : bits .or .i64 (a : Int) (wrap64 ((b : Int) * 2 ^ (8 * j))) = ((a + b * 2 ^ (8 * j) : Nat) : Int) := by
  have h1 : b * 2 ^ (8 * j) ≤ 255 * 16777216 := Nat.mul_le_mul (by omega) (Nat.pow_le_pow_right (n := 2) (by omega) (show 8 * j ≤ 24 by omega))
  have h2 : (2 : Nat) ^ (8 * j) ≤ 16777216 := Nat.pow_le_pow_right (n := 2) (by omega) (show 8 * j ≤ 24 by omega)
  have e : ((b : Int) * 2 ^ (8 * j)) = ((b * 2 ^ (8 * j) : Nat) : Int) := by simp
  have e2 : wrap64 ((b * 2 ^ (8 * j) : Nat) : Int) = ((b * 2 ^ (8 * j) : Nat) : Int) := by unfold wrap64; omega
  rw [e, e2, or_i64 _ _ (by omega) (by omega), Nat.or_comm, nat_join (8 * j) _ _ (by simp) ha, Nat.add_comm]
def NuL (p : Nat) (M : Nat → Nat) (k : Nat) (v i : Value) : Prop := ∃ j : Nat, j ≤ k ∧ i = .int .i64 j ∧ v = .int .i64 (numK M p j : Nat)
theorem num_any (h : Ar w g gm mt A F M) {p k : Nat} (hp : p + k ≤ A.size + 13) (hk : k ≤ 4) :
    Calls Try.prog 20 #[.pointer (some ⟨g, 0, none⟩), .int .i64 (p : Nat), .int .i64 (k : Nat)] w fun e w' => e = .returned (.int .i64 (numK M p k : Nat)) ∧ w' = w := by
  have hs := h.small
  go_enter Try.func20, Try.ntmps20
  go_wp2_with fail
  go_loopw [7, 10] (fun v i wr => NuL p M k v i ∧ wr = w) (fun _ i _ => k - (intOf i).toNat)
  case atStart => exact ⟨⟨0, by omega, rfl, rfl⟩, rfl⟩
  case round =>
    obtain ⟨⟨j, hj, rfl, rfl⟩, rfl⟩ := hrel
    by_cases hjk : j < k
    · have B := byte_in h (p := p + j) (by omega)
      rw [Int.natCast_add] at B
      have hb := h.bd (i := p + j) (by omega)
      have hl := numK_lt (M := M) (p := p) (k := j) fun i hi => h.bd (by omega)
      go_wp2_with fail
      refine B.mono ?_; rintro e w2 ⟨rfl, rfl⟩
      go_wp2_with fail
      have e := or_step (b := M (p + j)) hl hb (by omega)
      go_roundw
      case rel => exact ⟨⟨j + 1, by omega, by go_num, by rw [e]; rfl⟩, trivial⟩
      case measure => simp [intOf]; omega
    · obtain rfl : j = k := by omega
      go_wp2_with fail
      go_ret
      exact ⟨rfl, rfl⟩
/-- The byte i of a number that is written. -/
def byteOf (v : Int) (i : Nat) : Nat := (v / (2 : Int) ^ (8 * i) % 256).toNat
theorem byteOf_int (v : Int) (i : Nat) : ((byteOf v i : Nat) : Int) = v / (2 : Int) ^ (8 * i) % 256 := by unfold byteOf; omega
theorem byteOf_lt (v : Int) (i : Nat) : byteOf v i < 256 := by unfold byteOf; omega
/-- A number of four bytes is read as it was. -/
theorem num4_set {M : Nat → Nat} {p v : Nat} (hv : v < 4294967296) : num4 (fun i => if p ≤ i ∧ i < p + 4 then byteOf (v : Int) (i - p) else M i) p = v := by
  unfold num4
  dsimp only
  rw [if_pos (by omega), if_pos (by omega), if_pos (by omega), if_pos (by omega), show p - p = 0 by omega, show p + 1 - p = 1 by omega, show p + 2 - p = 2 by omega, show p + 3 - p = 3 by omega]
  unfold byteOf
  simp only [Nat.mul_zero, Nat.mul_one, Int.pow_zero, Nat.reduceMul]
  omega
theorem num4_far {M : Nat → Nat} {p x : Nat} {v : Int} (h : x + 4 ≤ p ∨ p + 4 ≤ x) : num4 (fun i => if p ≤ i ∧ i < p + 4 then byteOf v (i - p) else M i) x = num4 M x := by
  unfold num4
  dsimp only
  rw [if_neg (by omega), if_neg (by omega), if_neg (by omega), if_neg (by omega)]
def SnL (w : World) (g gm : Nat) (mt : Value) (A : AM) (F M : Nat → Nat) (p k : Nat) (v : Int) (i : Value) (wr : World) : Prop :=
  ∃ j : Nat, j ≤ k ∧ i = .int .i64 j ∧ Ar wr g gm mt A F (fun i => if p ≤ i ∧ i < p + j then byteOf v (i - p) else M i) ∧ On (two g gm) w wr
theorem setNum_any (h : Ar w g gm mt A F M) {p k : Nat} (v : Int) (hp : p + k ≤ A.size + 13) (hk : k ≤ 4) :
    Calls Try.prog 18 #[.pointer (some ⟨g, 0, none⟩), .int .i64 (p : Nat), .int .i64 (k : Nat), .int .i64 v] w fun e w' =>
      e = .returned (.tuple #[]) ∧ Ar w' g gm mt A F (fun i => if p ≤ i ∧ i < p + k then byteOf v (i - p) else M i) ∧ On (two g gm) w w' := by
  have hs := h.small
  go_enter Try.func18, Try.ntmps18
  go_wp2_with fail
  go_loopw [10] (fun i wr => SnL w g gm mt A F M p k v i wr) (fun i _ => k - (intOf i).toNat)
  case atStart => exact ⟨0, by omega, rfl, h.cong rfl rfl rfl rfl rfl rfl (fun _ _ => rfl) (fun i _ => by rw [if_neg (by omega)]), on_refl _ _⟩
  case round =>
    obtain ⟨j, hj, rfl, hA, hO⟩ := hrel
    by_cases hjk : j < k
    · have S := setByte_in hA (p := p + j) (b := byteOf v j) (by omega) (byteOf_lt v j)
      rw [Int.natCast_add, byteOf_int] at S
      go_wp2_with fail
      refine S.mono ?_; rintro e w2 ⟨rfl, hA2, hO2⟩
      go_wp2_with fail
      go_roundw
      case rel =>
        refine ⟨j + 1, by omega, by go_num, hA2.cong rfl rfl rfl rfl rfl rfl (fun _ _ => rfl) (fun i _ => ?_), hO.trans hO2⟩
        by_cases e : i = p + j
        · subst e
          rw [if_pos (by omega), if_pos rfl, show p + j - p = j by omega]
        · rw [if_neg e]
          by_cases e2 : p ≤ i ∧ i < p + j
          · rw [if_pos e2, if_pos (by omega)]
          · rw [if_neg e2, if_neg (by omega)]
      case measure => simp [intOf]; omega
    · obtain rfl : j = k := by omega
      go_wp2_with fail
      go_end0
      exact ⟨rfl, hA, hO⟩
end
end Go.Proofs.Ytplhonlgbidemaa
