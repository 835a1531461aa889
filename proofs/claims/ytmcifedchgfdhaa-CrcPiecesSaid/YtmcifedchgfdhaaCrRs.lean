/- The document's answer leaves the world as it is. -/
import Derived.Test.YtmcifedchgfdhaaCrRf
namespace Go.Proofs.Ytmcifedchgfdhaa
open Go.RowKit

/-- What the reference's loop keeps. -/
def RsL (n : Nat) (X : Nat → Nat) (x i : Value) : Prop :=
  ∃ k : Nat, k ≤ n ∧ i = .int .i64 k ∧ x = .int .u32 ((reg X k 4294967295 : Nat) : Int)
theorem ref_same {A : Option Addr} {n : Nat} {X : Nat → Nat} (cap : Nat) (w : World) {g : Nat} (hR : Rd w g A n X) (hn : n ≤ 9223372036854775807) :
    Calls Try.prog 10 #[.slice A n cap] w fun e w' => e = .returned (.int .u32 ((crcOf X n : Nat) : Int)) ∧ w' = w := by
  have hX : ∀ i, i < n → X i < 256 := fun i hi => (hR i hi).1
  go_enter Try.func10, Try.ntmps10
  go_wp2_with fail
  go_loopw [3, 4] (fun x i wr => RsL n X x i ∧ wr = w) (fun _ i _ => n - (intOf i).toNat)
  case atStart => exact ⟨⟨0, by omega, rfl, rfl⟩, rfl⟩
  case round =>
    obtain ⟨⟨k, hk, rfl, rfl⟩, rfl⟩ := hrel
    have hl := reg_lt (X := X) (x := 4294967295) (by omega) k (fun i hi => hX i (by omega))
    by_cases hlt : k < n
    · obtain ⟨hXk, b, off, rfl, hb, d0⟩ := hR k hlt
      have P := step_any (reg X k 4294967295) (X k) hl hXk
      have er : upd (reg X k 4294967295) (X k) = reg X (k + 1) 4294967295 := rfl
      rw [er] at P
      generalize hV : reg X (k + 1) 4294967295 = v at *
      go_wp2_with fail
      refine (P _).mono ?_; rintro e w3 ⟨rfl, rfl⟩
      go_wp2_with fail
      go_roundw
      case rel => exact ⟨⟨k + 1, by omega, by go_num, by rw [hV]⟩, trivial⟩
      case measure => simp [intOf]; omega
    · obtain rfl : k = n := by omega
      have z1 : IntKind.u32.wrap (4294967295 - (reg X k 4294967295 : Int)) = ((crcOf X k : Nat) : Int) := by
        unfold crcOf
        rw [IntKind.wrap_u32']
        omega
      go_wp2_with fail
      go_ret
      exact ⟨by rw [← z1]; rfl, rfl⟩
end Go.Proofs.Ytmcifedchgfdhaa
