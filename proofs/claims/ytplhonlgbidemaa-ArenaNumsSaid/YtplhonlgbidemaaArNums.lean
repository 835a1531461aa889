/- ArenaNums, walked. -/
import Derived.Test.YtplhonlgbidemaaArX
namespace Go.Proofs.Ytplhonlgbidemaa
open Go.RowKit

theorem numK_bytes (M : Nat → Nat) (p : Nat) (v : Int) (k : Nat) (h1 : 1 ≤ k) (h4 : k ≤ 4) (h : ∀ i, i < k → M (p + i) = byteOf v i) : ((numK M p k : Nat) : Int) = v % (2 : Int) ^ (8 * k) := by
  have b0 := byteOf_int v 0
  have b1 := byteOf_int v 1
  have b2 := byteOf_int v 2
  have b3 := byteOf_int v 3
  simp at b0 b1 b2 b3
  rcases (by omega : k = 1 ∨ k = 2 ∨ k = 3 ∨ k = 4) with rfl | rfl | rfl | rfl
  · have g0 := h 0 (by omega)
    simp [numK] at g0 ⊢
    omega
  · have g0 := h 0 (by omega)
    have g1 := h 1 (by omega)
    simp [numK] at g0 g1 ⊢
    omega
  · have g0 := h 0 (by omega)
    have g1 := h 1 (by omega)
    have g2 := h 2 (by omega)
    simp [numK] at g0 g1 g2 ⊢
    omega
  · have g0 := h 0 (by omega)
    have g1 := h 1 (by omega)
    have g2 := h 2 (by omega)
    have g3 := h 3 (by omega)
    simp [numK] at g0 g1 g2 g3 ⊢
    omega
theorem numK_cong {M M' : Nat → Nat} {p p' : Nat} (k : Nat) (h : ∀ i, i < k → M (p + i) = M' (p' + i)) : numK M p k = numK M' p' k := by
  induction k with
  | zero => rfl
  | succ k ih => unfold numK; rw [ih fun i hi => h i (by omega), h k (by omega)]
theorem and_low (v : Int) (j m : Nat) (hm : m = 2 ^ j - 1) (hj : j ≤ 32) : bits .and .i64 v (m : Int) = v % ((2 ^ j : Nat) : Int) := by
  have hp : (2 : Nat) ^ j ≤ 4294967296 := Nat.pow_le_pow_right (n := 2) (by omega) hj
  have hp0 := Nat.two_pow_pos j
  have hml : m < 18446744073709551616 := by omega
  show IntKind.i64.wrap ((BitVec.ofInt 64 v &&& BitVec.ofInt 64 (m : Int)).toNat : Int) = _
  rw [BitVec.toNat_and, ofInt_u64 m hml, hm, Nat.and_two_pow_sub_one_eq_mod, BitVec.toNat_ofInt]
  have e1 : (((v % ((2 ^ 64 : Nat) : Int)).toNat % 2 ^ j : Nat) : Int) = v % ((2 ^ j : Nat) : Int) := by
    rw [Int.natCast_emod, Int.toNat_of_nonneg (Int.emod_nonneg _ (by decide))]
    refine Int.emod_emod_of_dvd v ?_
    refine Int.natCast_dvd_natCast.2 (Nat.pow_dvd_pow 2 (by omega))
  rw [e1, IntKind.wrap_i64]
  have h1 := Int.emod_nonneg v (b := ((2 ^ j : Nat) : Int)) (by omega)
  have h2 := Int.emod_lt_of_pos v (b := ((2 ^ j : Nat) : Int)) (by omega)
  omega
theorem and_mask (v : Int) (k : Nat) (h1 : 1 ≤ k) (h4 : k ≤ 4) : bits .and .i64 v (wrap64 (wrap64 ((2 : Int) ^ (8 * k)) - 1)) = v % (2 : Int) ^ (8 * k) := by
  have c1 := and_low v 8 255 rfl (by omega)
  have c2 := and_low v 16 65535 rfl (by omega)
  have c3 := and_low v 24 16777215 rfl (by omega)
  have c4 := and_low v 32 4294967295 rfl (by omega)
  rcases (by omega : k = 1 ∨ k = 2 ∨ k = 3 ∨ k = 4) with rfl | rfl | rfl | rfl
  · rw [show wrap64 (wrap64 ((2 : Int) ^ (8 * 1)) - 1) = ((255 : Nat) : Int) by kernel_rfl, show (2 : Int) ^ (8 * 1) = ((2 ^ 8 : Nat) : Int) by kernel_rfl]; exact c1
  · rw [show wrap64 (wrap64 ((2 : Int) ^ (8 * 2)) - 1) = ((65535 : Nat) : Int) by kernel_rfl, show (2 : Int) ^ (8 * 2) = ((2 ^ 16 : Nat) : Int) by kernel_rfl]; exact c2
  · rw [show wrap64 (wrap64 ((2 : Int) ^ (8 * 3)) - 1) = ((16777215 : Nat) : Int) by kernel_rfl, show (2 : Int) ^ (8 * 3) = ((2 ^ 24 : Nat) : Int) by kernel_rfl]; exact c3
  · rw [show wrap64 (wrap64 ((2 : Int) ^ (8 * 4)) - 1) = ((4294967295 : Nat) : Int) by kernel_rfl, show (2 : Int) ^ (8 * 4) = ((2 ^ 32 : Nat) : Int) by kernel_rfl]; exact c4

section
set_option maxRecDepth 100000 in
set_option maxHeartbeats 2000000 in
theorem nums_walk (at_ v n : Int) (ha : -9223372036854775808 ≤ at_ ∧ at_ ≤ 9223372036854775807) (hn : 0 ≤ n ∧ n ≤ 255) (w : World) :
    Calls Try.prog 4 #[.int .i64 at_, .int .i64 v, .int .u8 n] w fun e w' => e = .returned (.bool true) ∧ w.grownBy w' none := by
  go_enter Try.func4, Try.ntmps4
  go_wp2_with fail
  refine (awake_any _).mono ?_; rintro e w0 ⟨rfl, hG0⟩
  go_wp2_with fail
  refine (much_any _).mono ?_; rintro e w1 ⟨b, rfl, hb, hm, hG1⟩
  have hG1 := grown_trans hG0 hG1
  have N := anew_much (size := 2048) (by omega) (by omega) hm
  have e2048 : ((2048 : Nat) : Int) = 2048 := rfl
  rw [e2048] at N
  have hb : w.heap.size ≤ b := by have := hG0.size; omega
  clear hm hG0
  go_wp2_with fail
  refine N.mono ?_; rintro e w2 ⟨g, gm, rfl, hg, hgm, hx2, hG2⟩
  have hG := grown_own hG1 hb hG2
  have hsz := hG1.size
  have hg : w.heap.size ≤ g := by omega
  have hgm : w.heap.size ≤ gm := by omega
  have hfr : ∀ k, two g gm k → w.heap.size ≤ k := by unfold two; omega
  clear N hG1 hG2 hsz
  obtain ⟨F, M, hA⟩ := hx2.ar
  have hS : (freshM 2048).size = 2048 := rfl
  clear hx2
  generalize freshM 2048 = A at *
  by_cases hr : at_ < 1 ∨ 1500 < at_
  · have K : ∃ (A' : AM) (F' M' : Nat → Nat), A'.size = 2048 ∧ Calls Try.prog 16 #[.pointer (some ⟨g, 0, none⟩), .int .i64 at_, .int .u8 7] w2 fun e w' => e = .returned (.tuple #[]) ∧ Ar w' g gm (.pointer (some ⟨b, 0, none⟩)) A' F' M' ∧ On (two g gm) w2 w' := by
      by_cases hin : 0 ≤ at_ ∧ at_ < 2061
      · obtain ⟨p, rfl⟩ := Int.eq_ofNat_of_zero_le hin.1
        exact ⟨A, F, _, hS, setByte_in hA (p := p) (b := 7) (by omega) (by omega)⟩
      · refine ⟨A, F, M, hS, (setByte_out hA (p := at_) (b := 7) (by omega)).mono ?_⟩
        rintro e w' ⟨rfl, rfl⟩
        exact ⟨rfl, hA, on_refl _ _⟩
    obtain ⟨A', F', M', hS', K⟩ := K
    clear hA
    by_cases hlo : at_ < 1
    · go_wp2_with fail
      refine K.mono ?_; rintro e w3 ⟨rfl, hA3, hO3⟩
      by_cases hneg : at_ < 0
      · have B := byte_out hA3 (p := at_) (.inl hneg)
        have h4 : ¬ (4000 : Int) < at_ := by omega
        go_wp2_with fail
        refine B.mono ?_; rintro e w4 ⟨rfl, rfl⟩
        go_wp2_with fail
        go_ret
        exact ⟨rfl, hO3.grown hG hfr⟩
      · have h4 : ¬ (4000 : Int) < at_ := by omega
        go_wp2_with fail
        go_ret
        exact ⟨rfl, hO3.grown hG hfr⟩
    · have hhi : (1500 : Int) < at_ := by omega
      go_wp2_with fail
      refine K.mono ?_; rintro e w3 ⟨rfl, hA3, hO3⟩
      by_cases h4 : (4000 : Int) < at_
      · have B := byte_out hA3 (p := at_) (.inr (by omega))
        go_wp2_with fail
        refine B.mono ?_; rintro e w4 ⟨rfl, rfl⟩
        go_wp2_with fail
        go_ret
        exact ⟨rfl, hO3.grown hG hfr⟩
      · have h5 : ¬ at_ < 0 := by omega
        go_wp2_with fail
        go_ret
        exact ⟨rfl, hO3.grown hG hfr⟩
  · obtain ⟨p, rfl⟩ := Int.eq_ofNat_of_zero_le (show 0 ≤ at_ by omega)
    have hp1 : 1 ≤ p := by omega
    have hp2 : p ≤ 1500 := by omega
    obtain ⟨k, hk⟩ : ∃ k : Nat, k = 1 + n.toNat % 4 := ⟨_, rfl⟩
    have hk1 : 1 ≤ k := by omega
    have hk4 : k ≤ 4 := by omega
    have b1 : ¬ (p : Int) < 1 := by omega
    have b2 : ¬ (1500 : Int) < p := by omega
    have S := setNum_any hA (p := p) (k := k) v (by omega) hk4
    have hw : (IntKind.i64.wrap (1 + n % 4)) = (k : Int) := by rw [IntKind.wrap_i64]; omega
    have hw2 : 1 + n % 4 = (k : Int) := by omega
    have hn4 : 0 ≤ n % 4 ∧ n % 4 ≤ 3 := by omega
    clear hr hk hw
    generalize hnn : n % 4 = n4 at *
    obtain ⟨n5, rfl⟩ := Int.eq_ofNat_of_zero_le hn4.1
    obtain rfl : k = 1 + n5 := by omega
    have hn6 : n5 ≤ 3 := by omega
    have ek : (((1 + n5 : Nat)) : Int) = 1 + (n5 : Int) := by omega
    rw [ek] at S
    clear hw2
    go_wp2_with fail
    refine S.mono ?_; rintro e w3 ⟨rfl, hA3, hO3⟩
    clear S hA b1 b2
    go_wp2_with fail
    go_loopw [10] (fun i wr => (∃ j : Nat, j ≤ 1 + n5 ∧ i = .int .i64 j) ∧ wr = w3) (fun i _ => 1 + n5 - (intOf i).toNat)
    case atStart => exact ⟨⟨0, by omega, rfl⟩, rfl⟩
    case round =>
      obtain ⟨⟨j, hj, rfl⟩, rfl⟩ := hrel
      by_cases hjk : j < 1 + n5
      · have B := byte_in hA3 (p := p + j) (by omega)
        rw [if_pos (by omega), show p + j - p = j by omega, byteOf_int, Int.natCast_add] at B
        have hjk' : (j : Int) < 1 + n5 := by omega
        go_wp2_with fail
        refine B.mono ?_; rintro e w4 ⟨rfl, rfl⟩
        go_wp2_with fail
        go_roundw
        case rel => exact ⟨⟨j + 1, by omega, by go_num⟩, trivial⟩
        case measure => simp [intOf]; omega
      · obtain rfl : j = 1 + n5 := by omega
        have hjk' : ¬ (((1 + n5 : Nat)) : Int) < 1 + n5 := by omega
        have MV := move_any hA3 (p := p + 36) (q := p) (n := 2) (by omega) (by omega) (by omega)
        have e36 : ((p + 36 : Nat) : Int) = (p : Int) + 36 := by omega
        have e2 : ((2 : Nat) : Int) = 2 := rfl
        rw [e36, e2] at MV
        go_wp2_with fail
        refine MV.mono ?_; rintro e w5 ⟨rfl, hA5, hO5⟩
        have N1 := num_any hA5 (p := p) (k := 1 + n5) (by omega) (by omega)
        have N2 := num_any hA5 (p := p + 36) (k := 1 + n5) (by omega) (by omega)
        rw [ek] at N1 N2
        rw [e36] at N2
        have q1 := numK_bytes _ p v (1 + n5) hk1 hk4 (show ∀ i, i < 1 + n5 → mov (fun i => if p ≤ i ∧ i < p + (1 + n5) then byteOf v (i - p) else M i) (p + 36) p (12 * 2) (p + i) = byteOf v i from fun i hi => by
          unfold mov
          rw [if_neg (by omega)]
          dsimp only
          rw [if_pos (by omega), show p + i - p = i by omega])
        have q2 := numK_cong (M := mov (fun i => if p ≤ i ∧ i < p + (1 + n5) then byteOf v (i - p) else M i) (p + 36) p (12 * 2)) (M' := mov (fun i => if p ≤ i ∧ i < p + (1 + n5) then byteOf v (i - p) else M i) (p + 36) p (12 * 2)) (p := p + 36) (p' := p) (1 + n5) (fun i hi => by
          unfold mov
          rw [if_pos (by omega), if_neg (by omega)]
          dsimp only
          rw [show p + (p + 36 + i - (p + 36)) = p + i by omega])
        rw [q2] at N2
        have hm := and_mask v (1 + n5) hk1 hk4
        rw [← q1] at hm
        have hO := hO3.trans hO5
        clear MV hA3 hA5 q1 q2
        generalize numK (mov (fun i => if p ≤ i ∧ i < p + (1 + n5) then byteOf v (i - p) else M i) (p + 36) p (12 * 2)) p (1 + n5) = V at *
        go_wp2_with fail
        refine N1.mono ?_; rintro e w6 ⟨rfl, rfl⟩
        go_wp2_with fail
        refine N2.mono ?_; rintro e w7 ⟨rfl, rfl⟩
        go_wp2_with fail
        refine N1.mono ?_; rintro e w8 ⟨rfl, rfl⟩
        go_wp2_with fail
        go_ret
        exact ⟨rfl, hO.grown hG hfr⟩
end
end Go.Proofs.Ytplhonlgbidemaa
