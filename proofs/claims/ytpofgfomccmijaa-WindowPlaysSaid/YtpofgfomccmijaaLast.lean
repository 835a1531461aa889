/- WindowLast, walked. -/
import Derived.Test.YtpofgfomccmijaaWnA
import Derived.Test.YtpofgfomccmijaaBytes
namespace Go.Proofs.Ytpofgfomccmijaa
open Go.RowKit

/-- The first k bytes, the last first. -/
def revOf (X : Nat → Int) : Nat → List Int
  | 0 => []
  | k + 1 => X k :: revOf X k
theorem revOf_length (X : Nat → Int) (k : Nat) : (revOf X k).length = k := by induction k with
  | zero => rfl
  | succ k ih => simp [revOf, ih]
theorem revOf_get (X : Nat → Int) (k d : Nat) (h : d < k) : (revOf X k).getD d 0 = X (k - 1 - d) := by
  induction k generalizing d with
  | zero => omega
  | succ k ih =>
    cases d with
    | zero => simp [revOf]
    | succ d =>
      have := ih d (by omega)
      simp only [revOf, List.getD_cons_succ]
      rw [this]
      congr 1
      omega
theorem revOf_cnt (X : Nat → Int) (k n : Nat) : cntOf n (revOf X k) = min k n := by unfold cntOf; rw [revOf_length]
theorem revOf_at (X : Nat → Int) (k n d : Nat) (h : d < k) (h2 : d < n) : atOf n (revOf X k) d = X (k - 1 - d) := by
  unfold atOf
  rw [if_pos ⟨by omega, by rw [revOf_cnt]; omega⟩]
  exact revOf_get X k d h

section
variable {w : World} {gw gr gm n : Nat} {M : List Int}
theorem has_quiet (d : Int) (q : Nat) (r : Bool) (hr : hasOf n M d = r) (h : Wnd w gw gr gm n M) :
    Calls Try.prog 11 #[.pointer (some ⟨gw, 0, none⟩), .int .i64 d] (w.drewN q) fun e w'' => e = .returned (.bool r) ∧ ∃ m, w'' = w.drewN m := by
  subst hr
  have h' : Wnd (w.drewN q) gw gr gm n M := h.fr (gs := []) ((Fr.refl _ _).drewN q) (by simp) (by simp)
  exact (has_any d h').mono fun _ _ hh => ⟨hh.1, q, hh.2.symm⟩
theorem at_quiet (d : Int) (q : Nat) (v : Int) (hv : atOf n M d = v) (h : Wnd w gw gr gm n M) :
    Calls Try.prog 12 #[.pointer (some ⟨gw, 0, none⟩), .int .i64 d] (w.drewN q) fun e w'' => e = .returned (.int .u8 v) ∧ ∃ m, w'' = w.drewN m := by
  subst hv
  have h' : Wnd (w.drewN q) gw gr gm n M := h.fr (gs := []) ((Fr.refl _ _).drewN q) (by simp) (by simp)
  refine Calls.quiet_of ((at_any d h').mono ?_)
  rintro e w' ⟨k, rfl, rfl⟩
  exact ⟨rfl, k, rfl⟩
end

/-- What the first loop keeps. -/
def Lst1 (W : World) (gw gr gm n len : Nat) (X : Nat → Int) (i : Value) (wr : World) : Prop :=
  ∃ k : Nat, k ≤ len ∧ i = .int .i64 k ∧ Wnd wr gw gr gm n (revOf X k) ∧ W.grownBy wr none
/-- What the second loop keeps. -/
def Lst2 (W : World) (gw gr gm n len : Nat) (X : Nat → Int) (i : Value) (wr : World) : Prop :=
  ∃ k : Nat, k ≤ len ∧ i = .int .i64 k ∧ Wnd wr gw gr gm n (revOf X len) ∧ W.grownBy wr none

section
attribute [local go_sem ↓] run_mn
set_option maxRecDepth 100000 in
set_option maxHeartbeats 4000000 in
theorem last_walk (s : Int) (hs : 0 ≤ s ∧ s ≤ 65535) (A : Option Addr) (len cap : Nat) (X : Nat → Int) (hlen : len ≤ 9223372036854775807) (w : World) (hB : Bytes w w.heap.size A len X) :
    Calls Try.prog 3 #[.int .u16 s, .slice A len cap] w fun e w' => e = .returned (.bool true) ∧ w.grownBy w' none := by
  obtain ⟨hs0, hs1⟩ := hs
  by_cases hbig : 4000 < len
  · go_enter Try.func3, Try.ntmps3
    go_wp2_with fail
    refine (awake_any _).mono ?_; rintro e w1 ⟨rfl, hw1⟩
    go_wp2_with fail
    go_ret
    exact ⟨rfl, hw1⟩
  obtain ⟨n, hn⟩ : ∃ n : Nat, (n : Int) = 1 + s % 4000 := ⟨(1 + s % 4000).toNat, by omega⟩
  have hn1 : 1 ≤ n ∧ n ≤ 4000 := by omega
  obtain ⟨hn1, hn2⟩ := hn1
  have g0 := new_good1 (n : Int) (by omega)
  have y0 := new_may (n : Int) (n : Int) (by omega) (by omega)
  have N := fun w => new_ex (n : Int) 0 0 0 0 w
  generalize Mt.new (n : Int) 0 0 0 0 = m0 at *
  have hmod : 1 + s % 4000 = (n : Int) := hn.symm
  clear hn
  go_enter Try.func3, Try.ntmps3
  go_wp2_with fail
  refine (awake_any _).mono ?_; rintro e w0 ⟨rfl, hw0⟩
  go_wp2_with fail
  refine (N w0).mono ?_; rintro e w1 ⟨gm, rfl, l1, m1, hw1⟩
  have WN := wnew_yes (n : Int) n (by omega) (by omega) m1 g0 y0
  have lm := Blk.lt m1
  have l0 := hw0.size
  have l9 := hw1.size
  have hw1 := grown_two hw0 hw1
  clear N y0 g0 hw0
  go_wp2_with fail
  refine WN.mono ?_; rintro e w2 ⟨gw, gr, rfl, l2, l3, h2, -, hw2⟩
  have hG := grown_own hw1 (by omega) hw2
  have l4 : w.heap.size ≤ gr := by omega
  clear WN hw1 hw2 m1 l2 l1 lm l0 l9
  have HM := Lib.hid hmod
  clear hmod
  go_wp2_with fail
  go_loopw [8] (fun i wr => Lst1 w gw gr gm n len X i wr) (fun i _ => len - (intOf i).toNat)
  case atStart => exact ⟨0, by omega, rfl, h2, hG⟩
  case round =>
    obtain ⟨k, hk, rfl, hW, hgr⟩ := hrel
    clear h2 hG
    by_cases hlt : k < len
    · obtain ⟨hX, b, off, rfl, hb, d0⟩ := (hB.keep hgr (Nat.le_refl _)) k hlt
      have P := put_any (X k) hX hW
      clear hW
      go_wp2_with fail
      refine P.mono ?_; rintro e w3 ⟨rfl, h3, hf3⟩
      have hG := hf3.own hgr (by intro g hg; simp at hg; omega)
      clear P hf3 d0
      go_wp2_with fail
      go_roundw
      case rel => exact ⟨k + 1, by omega, by go_num, h3, hG⟩
      case measure => simp [intOf]; omega
    · obtain rfl : k = len := by omega
      have h5 := hW
      clear hW hlt hk
      go_wp2_with fail
      obtain ⟨wo, rfl⟩ : ∃ wo : World, wo = wr := ⟨_, rfl⟩
      go_loopw [9] (fun i wr => Lst2 w gw gr gm n k X i wr) (fun i _ => k - (intOf i).toNat)
      case atStart => exact ⟨0, by omega, rfl, h5, hgr⟩
      case round =>
        obtain ⟨d, hd, rfl, hW, hgr2⟩ := hrel
        clear h5 hgr
        by_cases hlt : d < k
        · obtain ⟨hX, b, off, rfl, hb, d0⟩ := (hB.keep hgr2 (Nat.le_refl _)) (k - 1 - d) (by omega)
          by_cases hdn : d < n
          · have eh : hasOf n (revOf X k) d = true := by simp only [hasOf, decide_eq_true_eq]; rw [revOf_cnt]; omega
            have ea := revOf_at X k n d hlt hdn
            have J1 := Lib.hid eh
            have J2 := Lib.hid ea
            have hi : k - 1 - d < k := by omega
            have hc : ((k : Int) - 1 - (d : Int)) = ((k - 1 - d : Nat) : Int) := by omega
            clear eh ea
            have z1 : IntKind.i64.wrap ((k : Int) - 1) = (k : Int) - 1 := by rw [IntKind.wrap_i64]; omega
            have z2 : IntKind.i64.wrap ((k : Int) - 1 - (d : Int)) = (k : Int) - 1 - (d : Int) := by rw [IntKind.wrap_i64]; omega
            have z3 : (d : Int) ≤ (k : Int) - 1 := by omega
            have z4 : (k : Int) - 1 - (d : Int) < (k : Int) := by omega
            have z5 : ((k : Int) - 1 - (d : Int)).toNat = k - 1 - d := by omega
            clear hc hi
            go_wp2_with fail
            go_quiet ((first | (go_at_call 11; exact has_quiet _ _ _ J1.out hW) | (go_at_call 12; exact at_quiet _ _ _ J2.out hW)))
            clear z1 z2 z3 z4 z5
            have h6 : Wnd (wr.drewN nq) gw gr gm n (revOf X k) := hW.fr (gs := []) ((Fr.refl _ _).drewN nq) (by simp) (by simp)
            have hg6 := grown_drewN hgr2 nq
            clear hW hgr2 d0
            go_wp2_with fail
            go_roundw
            case rel => exact ⟨d + 1, by omega, by go_num, h6, hg6⟩
            case measure => simp [intOf]; omega
          · have eh : hasOf n (revOf X k) d = false := by simp only [hasOf, decide_eq_false_iff_not]; rw [revOf_cnt]; omega
            have J1 := Lib.hid eh
            have hd1 : decide ((d : Int) < (n : Int)) = false := by simp; omega
            clear eh
            go_wp2_with fail
            go_quiet ((go_at_call 11; exact has_quiet _ _ _ J1.out hW))
            have h6 : Wnd (wr.drewN nq) gw gr gm n (revOf X k) := hW.fr (gs := []) ((Fr.refl _ _).drewN nq) (by simp) (by simp)
            have hg6 := grown_drewN hgr2 nq
            clear hW hgr2 d0
            go_wp2_with fail
            go_roundw
            case rel => exact ⟨d + 1, by omega, by go_num, h6, hg6⟩
            case measure => simp [intOf]; omega
        · have e1 : hasOf n (revOf X k) k = false := by simp only [hasOf, decide_eq_false_iff_not]; rw [revOf_cnt]; omega
          have e2 : hasOf n (revOf X k) (-1) = false := by simp [hasOf]
          have e3 : hasOf n (revOf X k) n = false := by simp only [hasOf, decide_eq_false_iff_not]; rw [revOf_cnt]; omega
          have e4 : (cntOf n (revOf X k) : Nat) = mn (n : Int) (k : Int) := by rw [revOf_cnt]; unfold mn; omega
          have A1 := has_any (k : Int) hW
          have A2 := has_any (-1) hW
          have A3 := has_any (n : Int) hW
          have A4 := count_any hW
          rw [e1] at A1
          rw [e2] at A2
          rw [e3] at A3
          rw [e4] at A4
          clear e1 e2 e3 e4 hW
          go_wp2_with fail
          refine A1.mono ?_; rintro e w3 ⟨rfl, rfl⟩
          go_wp2_with fail
          refine A2.mono ?_; rintro e w3 ⟨rfl, rfl⟩
          go_wp2_with fail
          refine A3.mono ?_; rintro e w3 ⟨rfl, rfl⟩
          go_wp2_with fail
          refine A4.mono ?_; rintro e w3 ⟨rfl, rfl⟩
          go_wp2_with fail
          go_ret
          exact ⟨by simp, hgr2⟩
end
end Go.Proofs.Ytpofgfomccmijaa
