/- The first look of the window's laws (awake), walked. -/
import Derived.Test.YtpofgfomccmijaaWnN
namespace Go.Proofs.Ytpofgfomccmijaa
open Go.RowKit

/-- The letters that awake puts. -/
def abc : Nat → List Int
  | 0 => []
  | k + 1 => (97 + (k : Int)) :: abc k

theorem new_good1 (a : Int) (h : a ≤ 9223372036854775807) : (Mt.new a 0 0 0 0).Good := new_good _ _ _ _ _ h (by omega) (by omega) (by omega) (by omega)
theorem new_may (a n : Int) (h : n ≤ a) (_h0 : 0 ≤ n) : may (Mt.new a 0 0 0 0).cd (Mt.new a 0 0 0 0).qm (Mt.new a 0 0 0 0).um n = true := by
  show (((0 : Int) == 0) && decide (max n 0 ≤ max a 0 - 0)) = true
  rw [Bool.and_eq_true]
  exact ⟨by decide, decide_eq_true (by omega)⟩

/-- What a round of awake keeps. -/
def Awk (W : World) (gw gr gm : Nat) (i : Value) (wr : World) : Prop := ∃ k : Nat, k ≤ 4 ∧ i = .int .u8 k ∧ Wnd wr gw gr gm 3 (abc k) ∧ W.grownBy wr none

set_option maxHeartbeats 2000000 in
theorem awake_any (w : World) : Calls Try.prog 7 #[] w fun e w' => e = .returned (.bool true) ∧ w.grownBy w' none := by
  have g0 := new_good1 3 (by omega)
  have y0 := new_may 3 3 (by omega) (by omega)
  have N := new_ex 3 0 0 0 0 w
  generalize Mt.new 3 0 0 0 0 = m0 at *
  go_enter Try.func7, Try.ntmps7
  go_wp2_with fail
  refine N.mono ?_; rintro e w1 ⟨gm, rfl, l1, m1, hw1⟩
  have WN := wnew_yes 3 3 (by omega) (by omega) m1 g0 y0
  clear N y0 g0
  go_wp2_with fail
  refine WN.mono ?_; rintro e w2 ⟨gw, gr, rfl, l2, l3, h2, -, hw2⟩
  have hG := grown_own hw1 l1 hw2
  have lm := Blk.lt m1
  have l4 : w.heap.size ≤ gr := Nat.le_trans hw1.size l2
  clear WN hw1 hw2 m1 l2
  go_wp2_with fail
  go_loopw [3] (fun i wr => Awk w gw gr gm i wr) (fun i _ => 4 - (intOf i).toNat)
  case atStart => exact ⟨0, by omega, rfl, h2, hG⟩
  case round =>
    obtain ⟨k, hk, rfl, hW, hgr⟩ := hrel
    clear h2 hG
    by_cases hlt : k < 4
    · have P := put_any (97 + (k : Int)) (by omega) hW
      clear hW
      go_wp2_with fail
      refine P.mono ?_; rintro e w3 ⟨rfl, h3, hf3⟩
      have hG := hf3.own hgr (by intro g hg; simp at hg; omega)
      clear P hf3
      go_wp2_with fail
      go_roundw
      case rel => exact ⟨k + 1, by omega, by go_num, h3, hG⟩
      case measure => simp [intOf]; omega
    · obtain rfl : k = 4 := by omega
      have e0 : atOf 3 (abc 4) 0 = 100 := by decide
      have e2 : atOf 3 (abc 4) 2 = 98 := by decide
      have e3 : hasOf 3 (abc 4) 3 = false := by decide
      have e1 : atOf 3 (abc 4) 1 = 99 := by decide
      have ec : cntOf 3 (copyOf 3 (abc 4) 1) = 3 := by decide
      have A0 := fun wx (h : Wnd wx gw gr gm 3 (abc 4)) => at_any 0 h
      have A2 := fun wx (h : Wnd wx gw gr gm 3 (abc 4)) => at_any 2 h
      have A3 := fun wx (h : Wnd wx gw gr gm 3 (abc 4)) => has_any 3 h
      have A1 := fun wx (h : Wnd wx gw gr gm 3 (abc 4)) => copy_any 1 h
      have AC := fun wx (h : Wnd wx gw gr gm 3 (copyOf 3 (abc 4) 1)) => count_any h
      rw [e0] at A0
      rw [e2] at A2
      rw [e3] at A3
      rw [e1] at A1
      rw [ec] at AC
      have B0 := Lib.hid A0; have B1 := Lib.hid A1; have B2 := Lib.hid A2; have B3 := Lib.hid A3; have BC := Lib.hid AC
      clear A0 A1 A2 A3 AC e0 e1 e2 e3 ec hlt hk
      go_wp2_with fail
      refine (B0.out _ hW).mono ?_; rintro e w3 ⟨k0, rfl, rfl⟩
      have h3 : Wnd (wr.drewN k0) gw gr gm 3 (abc 4) := hW.fr (gs := []) ((Fr.refl _ _).drewN k0) (by simp) (by simp)
      have hg3 := grown_drewN hgr k0
      go_wp2_with fail
      refine (B2.out _ h3).mono ?_; rintro e w4 ⟨k1, rfl, rfl⟩
      have h4 : Wnd ((wr.drewN k0).drewN k1) gw gr gm 3 (abc 4) := h3.fr (gs := []) ((Fr.refl _ _).drewN k1) (by simp) (by simp)
      have hg4 := grown_drewN hg3 k1
      generalize (wr.drewN k0).drewN k1 = w4 at *
      go_wp2_with fail
      refine (B3.out _ h4).mono ?_; rintro e w5 ⟨rfl, rfl⟩
      go_wp2_with fail
      refine (B1.out _ h4).mono ?_; rintro e w5 ⟨rfl, h5, hf5⟩
      have hg5 := hf5.own hg4 (by intro g hg; simp at hg; omega)
      go_wp2_with fail
      refine (BC.out _ h5).mono ?_; rintro e w6 ⟨rfl, rfl⟩
      go_wp2_with fail
      go_ret
      exact ⟨by simp, hg5⟩
end Go.Proofs.Ytpofgfomccmijaa
