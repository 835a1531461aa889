/- WindowTurns, walked. -/
import Derived.Test.YtpofgfomccmijaaLast
namespace Go.Proofs.Ytpofgfomccmijaa
open Go.RowKit

/-- The list behind i copies from the distance k. -/
def turnOf (X : Nat → Int) (len k : Nat) : Nat → List Int
  | 0 => revOf X len
  | i + 1 => (turnOf X len k i).getD k 0 :: turnOf X len k i
theorem turnOf_length (X : Nat → Int) (len k i : Nat) : (turnOf X len k i).length = len + i := by induction i with
  | zero => simp [turnOf, revOf_length]
  | succ i ih => simp [turnOf, ih]; omega
theorem turnOf_get (X : Nat → Int) (len k i : Nat) (hk : k < len) : ∀ e, e ≤ k → (turnOf X len k i).getD e 0 = X (len - 1 - k + (i + k - e) % (k + 1)) := by
  induction i with
  | zero =>
    intro e he
    rw [turnOf, revOf_get X len e (by omega), Nat.zero_add, Nat.mod_eq_of_lt (by omega)]
    congr 1; omega
  | succ i ih =>
    intro e he
    cases e with
    | zero =>
      have := ih k (Nat.le_refl _)
      simp only [turnOf, List.getD_cons_zero]
      rw [this]
      congr 2
      rw [show i + k - k = i by omega, show i + 1 + k - 0 = i + (k + 1) by omega, Nat.add_mod_right]
    | succ e =>
      have := ih e (by omega)
      simp only [turnOf, List.getD_cons_succ]
      rw [this]
      congr 2
      congr 1; omega

/-- What the second loop keeps. -/
def Trn (W : World) (gw gr gm len kk t : Nat) (X : Nat → Int) (i : Value) (wr : World) : Prop :=
  ∃ k : Nat, k ≤ t ∧ i = .int .i64 k ∧ Wnd wr gw gr gm 1000 (turnOf X len kk k) ∧ W.grownBy wr none

section
attribute [local go_sem ↓] run_mn
set_option maxRecDepth 100000 in
set_option maxHeartbeats 4000000 in
theorem turns_walk (A : Option Addr) (len cap : Nat) (X : Nat → Int) (hlen : len ≤ 9223372036854775807) (d t : Int) (hd : 0 ≤ d ∧ d ≤ 255) (ht : 0 ≤ t ∧ t ≤ 255) (w : World) (hB : Bytes w w.heap.size A len X) :
    Calls Try.prog 4 #[.slice A len cap, .int .u8 d, .int .u8 t] w fun e w' => e = .returned (.bool true) ∧ w.grownBy w' none := by
  obtain ⟨hd0, hd1⟩ := hd
  obtain ⟨ht0, ht1⟩ := ht
  by_cases hsm : len < 1
  · go_enter Try.func4, Try.ntmps4
    go_wp2_with fail
    refine (awake_any _).mono ?_; rintro e w1 ⟨rfl, hw1⟩
    go_wp2_with fail
    go_ret
    exact ⟨rfl, hw1⟩
  by_cases hbig : 500 < len
  · go_enter Try.func4, Try.ntmps4
    go_wp2_with fail
    refine (awake_any _).mono ?_; rintro e w1 ⟨rfl, hw1⟩
    go_wp2_with fail
    go_ret
    exact ⟨rfl, hw1⟩
  obtain ⟨d, rfl⟩ := Int.eq_ofNat_of_zero_le hd0
  obtain ⟨t, rfl⟩ := Int.eq_ofNat_of_zero_le ht0
  obtain ⟨kk, hkk⟩ : ∃ kk : Nat, kk = d % len := ⟨_, rfl⟩
  have hkl : kk < len := by rw [hkk]; exact Nat.mod_lt _ (by omega)
  have hmod : (d : Int) % (len : Int) = (kk : Int) := by rw [hkk]; omega
  have hmod2 : (d : Int).tmod (len : Int) = (kk : Int) := by rw [Int.tmod_eq_emod_of_nonneg (by omega)]; exact hmod
  clear hkk
  have g0 := new_good1 1000 (by omega)
  have y0 := new_may 1000 1000 (by omega) (by omega)
  have N := fun w => new_ex 1000 0 0 0 0 w
  generalize Mt.new 1000 0 0 0 0 = m0 at *
  go_enter Try.func4, Try.ntmps4
  go_wp2_with fail
  refine (awake_any _).mono ?_; rintro e w0 ⟨rfl, hw0⟩
  go_wp2_with fail
  refine (N w0).mono ?_; rintro e w1 ⟨gm, rfl, l1, m1, hw1⟩
  have WN := wnew_yes 1000 1000 (by omega) (by omega) m1 g0 y0
  have lm := Blk.lt m1
  have l0 := hw0.size
  have l9 := hw1.size
  have hw1 := grown_two hw0 hw1
  clear N y0 g0 hw0
  go_wp2_with fail
  refine WN.mono ?_; rintro e w2 ⟨gw, gr, rfl, l2, l3, h2, -, hw2⟩
  have hG := grown_own hw1 (by omega) hw2
  have l4 : w.heap.size ≤ gr := by omega
  clear WN hw1 hw2 m1 l2 l1 lm l0 l9
  go_wp2_with fail
  go_loopw [9] (fun i wr => Lst1 w gw gr gm 1000 len X i wr) (fun i _ => len - (intOf i).toNat)
  case atStart => exact ⟨0, by omega, rfl, h2, hG⟩
  case round =>
    obtain ⟨k, hk, rfl, hW, hgr⟩ := hrel
    clear h2 hG
    by_cases hlt : k < len
    · obtain ⟨hX, b, off, rfl, hb, d0⟩ := (hB.keep hgr (Nat.le_refl _)) k hlt
      have P := put_any (X k) hX hW
      clear hW
      go_wp2_with fail
      refine P.mono ?_; rintro e w3 ⟨rfl, h3, hf3⟩
      have hG := hf3.own hgr (by intro g hg; simp at hg; omega)
      clear P hf3 d0
      go_wp2_with fail
      go_roundw
      case rel => exact ⟨k + 1, by omega, by go_num, h3, hG⟩
      case measure => simp [intOf]; omega
    · obtain rfl : k = len := by omega
      have h5 := hW
      clear hW hk
      go_wp2_with fail
      obtain ⟨wo, rfl⟩ : ∃ wo : World, wo = wr := ⟨_, rfl⟩
      go_loopw [11] (fun i wr => Trn w gw gr gm k kk t X i wr) (fun i _ => t - (intOf i).toNat)
      case atStart => exact ⟨0, by omega, rfl, h5, hgr⟩
      case round =>
        obtain ⟨i, hi, rfl, hW, hgr2⟩ := hrel
        clear h5 hgr
        by_cases hit : i < t
        · have hmlt : i % (kk + 1) < kk + 1 := Nat.mod_lt _ (by omega)
          obtain ⟨r, hr⟩ : ∃ r, r = i % (kk + 1) := ⟨_, rfl⟩
          have hmi : (i : Int) % ((kk : Int) + 1) = (r : Int) := by rw [hr]; exact (Int.natCast_emod i (kk + 1)).symm
          obtain ⟨x, hx⟩ : ∃ x, x = k - 1 - kk + i % (kk + 1) := ⟨_, rfl⟩
          have hxr : x = k - 1 - kk + r := by rw [hx, hr]
          have hxl : x < k := by omega
          obtain ⟨hX, b, off, rfl, hb, d0⟩ := (hB.keep hgr2 (Nat.le_refl _)) x hxl
          have ea : atOf 1000 (turnOf X k kk i) kk = X x := by
            unfold atOf
            have hl := turnOf_length X k kk i
            rw [if_pos ⟨by omega, by unfold cntOf; rw [hl]; omega⟩]
            have := turnOf_get X k kk i hkl kk (Nat.le_refl _)
            rw [show ((kk : Nat) : Int).toNat = kk from rfl, this, hx]
            congr 3
            omega
          have eh : hasOf 1000 (turnOf X k kk i) kk = true := by
            have hl := turnOf_length X k kk i
            simp only [hasOf, decide_eq_true_eq]
            unfold cntOf; rw [hl]; omega
          have ec : copyOf 1000 (turnOf X k kk i) kk = turnOf X k kk (i + 1) := by
            unfold copyOf
            rw [eh, ea]
            simp only [turnOf, if_true]
            congr 1
            rw [← ea]
            unfold atOf
            have hl := turnOf_length X k kk i
            rw [if_pos ⟨by omega, by unfold cntOf; rw [hl]; omega⟩]
            rfl
          have CC := copy_any (w := wr.drew) (kk : Int) (hW.fr (gs := []) (Fr.refl _ wr).drew (by simp) (by simp))
          rw [ea, ec] at CC
          have z1 : IntKind.i64.wrap ((k : Int) - 1) = (k : Int) - 1 := by rw [IntKind.wrap_i64]; omega
          have z2 : IntKind.i64.wrap ((k : Int) - 1 - (kk : Int)) = (k : Int) - 1 - (kk : Int) := by rw [IntKind.wrap_i64]; omega
          have z3 : IntKind.i64.wrap ((kk : Int) + 1) = (kk : Int) + 1 := by rw [IntKind.wrap_i64]; omega
          have z4 : (i : Int).tmod ((kk : Int) + 1) = (r : Int) := by
            rw [Int.tmod_eq_emod_of_nonneg (by omega)]; exact hmi
          have z5 : IntKind.i64.wrap ((k : Int) - 1 - (kk : Int) + (r : Int)) = (x : Int) := by rw [IntKind.wrap_i64]; omega
          have z6 : (k : Int) - 1 - (kk : Int) + (r : Int) = (x : Int) := by omega
          have z9 : IntKind.i64.wrap (x : Int) = (x : Int) := by rw [IntKind.wrap_i64]; omega
          clear z5
          have z7 : (0 : Int) ≤ (x : Int) := by omega
          have z8 : (x : Int) < (k : Int) := by omega
          clear ea eh ec hW hx hmlt hr hxr
          go_wp2_with fail
          go_region_with (go_at_call 14; refine CC.mono ?_; rintro e w3 ⟨rfl, h3, hf3⟩; have e0 := (hf3.block b (by have := hgr2.size; simp; omega) (by simp; omega)); have e1 := (World.cell?_of_block (a := ⟨b, off + x, none⟩) e0).trans d0)
          all_goals
            have hG := hf3.own (grown_drew hgr2) (by intro g hg; simp at hg; omega)
            clear CC hf3 e0 e1 d0 z1 z2 z3 z4 z6 z7 z8 z9
            go_wp2_with fail
            go_roundw
            case rel => exact ⟨i + 1, by omega, by go_num, h3, hG⟩
            case measure => simp [intOf]; omega
        · obtain rfl : i = t := by omega
          have ec : (cntOf 1000 (turnOf X k kk i) : Nat) = mn 1000 ((k : Int) + (i : Int)) := by
            unfold cntOf; rw [turnOf_length]; unfold mn; omega
          have CC := count_any hW
          rw [ec] at CC
          clear ec hW
          go_wp2_with fail
          refine CC.mono ?_; rintro e w3 ⟨rfl, rfl⟩
          go_wp2_with fail
          go_ret
          exact ⟨by simp, hgr2⟩
end
end Go.Proofs.Ytpofgfomccmijaa
