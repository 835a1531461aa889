/- The document's answer, walked. -/
import Derived.Test.YtmcifedchgfdhaaCrAd
import Derived.Test.YtmcifedchgfdhaaCrLi
namespace Go.Proofs.Ytmcifedchgfdhaa
open Go.RowKit

/-- What Step's loop keeps. -/
def StL (y : Nat) (x i : Value) : Prop := ∃ k : Nat, k ≤ 8 ∧ i = .int .i64 k ∧ x = .int .u32 ((sts k y : Nat) : Int)
theorem step_any (x b : Nat) (hx : x < 4294967296) (hb : b < 256) (w : World) :
    Calls Try.prog 16 #[.int .u32 x, .int .u8 b] w fun e w' => e = .returned (.int .u32 ((upd x b : Nat) : Int)) ∧ w' = w := by
  have q1 := u32_xor_nat x b hx (by omega)
  have hy : x ^^^ b < 4294967296 := Nat.xor_lt_two_pow (n := 32) hx (by omega)
  have qb : IntKind.u32.wrap (b : Int) = (b : Int) := by rw [IntKind.wrap_u32']; omega
  rw [upd_steps]
  generalize x ^^^ b = y at *
  go_enter Try.func16, Try.ntmps16
  go_wp2_with fail
  go_loopw [0, 5] (fun x i wr => StL y x i ∧ wr = w) (fun _ i _ => 8 - (intOf i).toNat)
  case atStart => exact ⟨⟨0, by omega, rfl, rfl⟩, rfl⟩
  case round =>
    obtain ⟨⟨k, hk, rfl, rfl⟩, rfl⟩ := hrel
    have hl : sts k y < 4294967296 := sts_lt k hy
    by_cases hlt : k < 8
    · have e : st (sts k y) = sts (k + 1) y := rfl
      have e0 : st (sts k y) = sts k y / 2 ^^^ (if sts k y % 2 = 1 then 3988292384 else 0) := rfl
      rw [e] at e0
      rcases Nat.mod_two_eq_zero_or_one (sts k y) with h0 | h0
      · rw [if_neg (by omega), Nat.xor_zero] at e0
        clear e
        have z1 : ((sts k y : Nat) : Int).tmod 2 = 0 := by rw [Int.tmod_eq_emod_of_nonneg (by omega)]; omega
        have z2 : ((sts k y : Nat) : Int).tdiv 2 = ((sts (k + 1) y : Nat) : Int) := by rw [Int.tdiv_eq_ediv_of_nonneg (by omega)]; omega
        generalize hV : sts (k + 1) y = v at *
        generalize sts k y = u at *
        go_wp2_with fail
        go_roundw
        case rel => exact ⟨⟨k + 1, by omega, by go_num, by rw [hV, e0]; congr 1⟩, trivial⟩
        case measure => simp [intOf]; omega
      · rw [if_pos h0] at e0
        clear e
        have z1 : ((sts k y : Nat) : Int).tmod 2 = 1 := by rw [Int.tmod_eq_emod_of_nonneg (by omega)]; omega
        have z2 : ((sts k y : Nat) : Int).tdiv 2 = ((sts k y / 2 : Nat) : Int) := by rw [Int.tdiv_eq_ediv_of_nonneg (by omega)]; omega
        have q2 := u32_xor_nat (sts k y / 2) 3988292384 (by omega) (by omega)
        rw [← e0] at q2
        generalize hV : sts (k + 1) y = v at *
        generalize hU : sts k y / 2 = uh at *
        generalize sts k y = u at *
        go_wp2_with fail
        go_roundw
        case rel => exact ⟨⟨k + 1, by omega, by go_num, by rw [hV]; congr 1⟩, trivial⟩
        case measure => simp [intOf]; omega
    · obtain rfl : k = 8 := by omega
      go_wp2_with fail
      go_ret
      exact ⟨rfl, rfl⟩

/-- What the reference's loop keeps. -/
def RfL (W : World) (n : Nat) (X : Nat → Nat) (x i : Value) (wr : World) : Prop :=
  ∃ k : Nat, k ≤ n ∧ i = .int .i64 k ∧ x = .int .u32 ((reg X k 4294967295 : Nat) : Int) ∧ W.grownBy wr none
theorem ref_any {A : Option Addr} {n : Nat} {X : Nat → Nat} (cap : Nat) (w : World) {g : Nat} (hR : Rd w g A n X) (hn : n ≤ 9223372036854775807) :
    Calls Try.prog 10 #[.slice A n cap] w fun e w' => e = .returned (.int .u32 ((crcOf X n : Nat) : Int)) ∧ w.grownBy w' none := by
  have hX : ∀ i, i < n → X i < 256 := fun i hi => (hR i hi).1
  go_enter Try.func10, Try.ntmps10
  go_wp2_with fail
  go_loopw [3, 4] (fun x i wr => RfL w n X x i wr) (fun _ i _ => n - (intOf i).toNat)
  case atStart => exact ⟨0, by omega, rfl, rfl, grown_refl _ _⟩
  case round =>
    obtain ⟨k, hk, rfl, rfl, hG⟩ := hrel
    have hl := reg_lt (X := X) (x := 4294967295) (by omega) k (fun i hi => hX i (by omega))
    by_cases hlt : k < n
    · obtain ⟨hXk, b, off, rfl, hb, d0⟩ := (hR.keep (grown_none hG)) k hlt
      have P := step_any (reg X k 4294967295) (X k) hl hXk
      have er : upd (reg X k 4294967295) (X k) = reg X (k + 1) 4294967295 := rfl
      rw [er] at P
      generalize hV : reg X (k + 1) 4294967295 = v at *
      go_wp2_with fail
      refine (P _).mono ?_; rintro e w3 ⟨rfl, rfl⟩
      go_wp2_with fail
      go_roundw
      case rel => exact ⟨k + 1, by omega, by go_num, by rw [hV], hG⟩
      case measure => simp [intOf]; omega
    · obtain rfl : k = n := by omega
      have z1 : IntKind.u32.wrap (4294967295 - (reg X k 4294967295 : Int)) = ((crcOf X k : Nat) : Int) := by
        unfold crcOf
        rw [IntKind.wrap_u32']
        omega
      go_wp2_with fail
      go_ret
      exact ⟨by rw [← z1]; rfl, hG⟩
end Go.Proofs.Ytmcifedchgfdhaa
