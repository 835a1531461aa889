/- CrcTwice, walked. -/
import Derived.Test.YtmcifedchgfdhaaCrAw
import Derived.Test.YtmcifedchgfdhaaCrLi
import Derived.StillTailTactics
import Derived.Deep.OwnRows
import Derived.Deep.RegionWith
namespace Go.Proofs.Ytmcifedchgfdhaa
open Go.RowKit

theorem xor3 (a b c d e f : Nat) : (a ^^^ b ^^^ c) ^^^ (d ^^^ e ^^^ f) = (a ^^^ d) ^^^ (b ^^^ e) ^^^ (c ^^^ f) := by
  apply Nat.eq_of_testBit_eq
  intro i
  simp only [Nat.testBit_xor]
  cases a.testBit i <;> cases b.testBit i <;> cases c.testBit i <;> cases d.testBit i <;> cases e.testBit i <;> cases f.testBit i <;> rfl
theorem reg_three (a b c : Nat → Nat) (n : Nat) (x y z : Nat) :
    reg (fun i => a i ^^^ b i ^^^ c i) n (x ^^^ y ^^^ z) = reg a n x ^^^ reg b n y ^^^ reg c n z := by
  induction n with
  | zero => rfl
  | succ n ih =>
    simp only [reg]
    rw [ih, upd_steps, upd_steps, upd_steps, upd_steps, xor3, sts_xor, sts_xor]
theorem crc_three (a b c : Nat → Nat) (n : Nat) (ha : ∀ i, i < n → a i < 256) (hb : ∀ i, i < n → b i < 256) (hc : ∀ i, i < n → c i < 256) :
    crcOf a n ^^^ crcOf b n ^^^ crcOf c n = crcOf (fun i => a i ^^^ b i ^^^ c i) n := by
  have h := reg_three a b c n 4294967295 4294967295 4294967295
  have la := reg_lt (X := a) (x := 4294967295) (by omega) n ha
  have lb := reg_lt (X := b) (x := 4294967295) (by omega) n hb
  have lc := reg_lt (X := c) (x := 4294967295) (by omega) n hc
  rw [show 4294967295 ^^^ 4294967295 ^^^ 4294967295 = 4294967295 by decide] at h
  have lx : reg (fun i => a i ^^^ b i ^^^ c i) n 4294967295 < 4294967296 := by rw [h]; exact Nat.xor_lt_two_pow (n := 32) (Nat.xor_lt_two_pow (n := 32) la lb) lc
  unfold crcOf
  rw [← not32 _ la, ← not32 _ lb, ← not32 _ lc, ← not32 _ lx, h]
  apply Nat.eq_of_testBit_eq
  intro i
  simp only [Nat.testBit_xor]
  cases Nat.testBit 4294967295 i <;> cases (reg a n 4294967295).testBit i <;> cases (reg b n 4294967295).testBit i <;> cases (reg c n 4294967295).testBit i <;> rfl
theorem crcOf_lt (X : Nat → Nat) (n : Nat) : crcOf X n < 4294967296 := by unfold crcOf; omega

theorem run_min3 (P : Program) (ts : Array TypeId) (t : TypeId) (k : IntKind) (x y z : Int) (w : World) : (Builtin.min_ ts t #[.int k x, .int k y, .int k z]).run P w = .ok (.int k (min (min x y) z)) w := by
  have e : min (min x y) z = if z < (if y < x then y else x) then z else (if y < x then y else x) := by split <;> split <;> omega
  rw [e]
  by_cases h1 : y < x <;> by_cases h2 : z < (if y < x then y else x) <;> simp_all [Builtin.min_, Builtin.min2]

theorem info8 : (Try.prog.info? 5).map (fun i => (i.zero, i.size, i.bytes)) = some (some (.int .u8 0), 1, 1) := by kernel_rfl
theorem run_made (n : Nat) (hn : n ≤ 1073741824) (w : World) :
    (Instr.makeSlice 22 (.int .i64 (n : Int)) (.int .i64 (n : Int))).run Try.prog w = .ok (.slice (some ⟨w.heap.size, 0, none⟩) n n) (w.alloc (.cells (madeCells #[.int .u8 0] n) 5)) :=
  run_make_row' 22 5 (.int .u8 0) 1 Try.underlying22 info8 rfl .i64 .i64 n (by omega) (by omega) w

/-- Of, behind what has grown: of bytes that were there before. -/
theorem of_grown {W w : World} {A : Option Addr} {n : Nat} {X : Nat → Nat} (cap : Nat) (hB : Bytes W W.heap.size A n (fun i => (X i : Int))) (hn : n ≤ 9223372036854775807) (hG : W.grownBy w none) :
    Calls Try.prog 9 #[.slice A n cap] w fun e w' => e = .returned (.int .u32 ((crcOf X n : Nat) : Int)) ∧ W.grownBy w' none := by
  have h1 := hB.keep hG (Nat.le_refl _)
  refine (of_any cap (X := X) (fun i hi => ⟨(h1 i hi).1, ?_⟩) hn).mono ?_
  · obtain ⟨-, b, off, e, hlt, hc⟩ := h1 i hi
    exact ⟨b, off, e, Nat.lt_of_lt_of_le hlt hG.size, hc⟩
  · rintro e w' ⟨rfl, h⟩
    exact ⟨rfl, grown_trans hG h⟩

/-- What the loop keeps. -/
def TwL (W : World) (g n : Nat) (Y : Nat → Nat) (i : Value) (wr : World) : Prop :=
  ∃ (k : Nat) (cs : Array Value), k ≤ n ∧ i = .int .i64 k ∧ Blk wr g 5 cs ∧ cs.size = n ∧ (∀ j, j < k → cs[j]? = some (.int .u8 (Y j : Nat))) ∧ W.grownBy wr none

section
attribute [local go_sem ↓] run_min3
set_option maxRecDepth 100000 in
set_option maxHeartbeats 4000000 in
theorem twice_walk (A0 : Option Addr) (n0 c0 : Nat) (A1 : Option Addr) (n1 c1 : Nat) (A2 : Option Addr) (n2 c2 : Nat) (X0 X1 X2 : Nat → Nat)
    (h0 : n0 ≤ 9223372036854775807) (h1 : n1 ≤ 9223372036854775807) (h2 : n2 ≤ 9223372036854775807) (hc0 : n0 ≤ c0) (hc1 : n1 ≤ c1) (hc2 : n2 ≤ c2) (w : World)
    (hB0 : Bytes w w.heap.size A0 n0 (fun i => (X0 i : Int))) (hB1 : Bytes w w.heap.size A1 n1 (fun i => (X1 i : Int))) (hB2 : Bytes w w.heap.size A2 n2 (fun i => (X2 i : Int))) :
    Calls Try.prog 5 #[.slice A0 n0 c0, .slice A1 n1 c1, .slice A2 n2 c2] w fun e w' => e = .returned (.bool true) ∧ w.grownBy w' none := by
  obtain ⟨n, hn⟩ : ∃ n : Nat, min (n0 : Int) (min (n1 : Int) n2) = (n : Int) := ⟨(min (n0 : Int) (min (n1 : Int) n2)).toNat, by omega⟩
  by_cases hbig : 16384 < n
  · go_enter Try.func5, Try.ntmps5
    go_wp2_with fail
    refine (awake_any _).mono ?_; rintro e w1 ⟨rfl, hw1⟩
    go_wp2_with fail
    go_ret
    exact ⟨rfl, hw1⟩
  have hmk := run_made n (by omega)
  have l0 : n ≤ n0 := by omega
  have l1 : n ≤ n1 := by omega
  have l2 : n ≤ n2 := by omega
  go_enter Try.func5, Try.ntmps5
  go_wp2_with fail
  refine (awake_any _).mono ?_; rintro e w1 ⟨rfl, hw1⟩
  have hb := Blk.new w1 5 (madeCells #[.int .u8 0] n)
  have hG := grown_alloc hw1 (.cells (madeCells #[.int .u8 0] n) 5)
  have hz : (madeCells #[.int .u8 0] n).size = n := by simp [madeCells]
  have hg := hw1.size
  go_wp2_with fail
  generalize madeCells #[.int .u8 0] n = cs0 at *
  generalize w1.alloc (.cells cs0 5) = w2 at *
  generalize w1.heap.size = g at *
  clear hmk hw1 hn
  go_loopw [9] (fun i wr => TwL w g n (fun i => X0 i ^^^ X1 i ^^^ X2 i) i wr) (fun i _ => n - (intOf i).toNat)
  case atStart => exact ⟨0, cs0, by omega, rfl, hb, hz, fun j hj => by omega, hG⟩
  case round =>
    obtain ⟨k, cs, hk, rfl, hC, hsz, hY, hgr⟩ := hrel
    clear hb hG hz
    by_cases hlt : k < n
    · obtain ⟨hX0, b0, off0, rfl, -, d0⟩ := (hB0.keep hgr (Nat.le_refl _)) k (by omega)
      obtain ⟨hX1, b1, off1, rfl, -, d1⟩ := (hB1.keep hgr (Nat.le_refl _)) k (by omega)
      obtain ⟨hX2, b2, off2, rfl, -, d2⟩ := (hB2.keep hgr (Nat.le_refl _)) k (by omega)
      dsimp only at hX0 hX1 hX2 d0 d1 d2
      have q1 := u8_xor_nat (X0 k) (X1 k) (by omega) (by omega)
      have q2 := u8_xor_nat (X0 k ^^^ X1 k) (X2 k) (Nat.xor_lt_two_pow (n := 8) (by omega) (by omega)) (by omega)
      have i0 : (k : Int) < n0 := by omega
      have i1 : (k : Int) < n1 := by omega
      have i2 : (k : Int) < n2 := by omega
      have i3 : (k : Int) < n := by omega
      have p0 : (X0 k : Int) < 256 := by omega
      obtain ⟨v, hW⟩ : ∃ v, X0 k ^^^ X1 k ^^^ X2 k = v := ⟨_, rfl⟩
      rw [hW] at q2
      generalize X0 k ^^^ X1 k = v1 at q1 q2
      generalize X0 k = x0 at d0 q1 p0 hX0
      generalize X1 k = x1 at d1 q1 hX1
      generalize X2 k = x2 at d2 q2 hX2
      go_wp2_with fail
      refine wp_region_still_tail 17 (by kernel_rfl) (by kernel_rfl) ?_
      change wpStill _ _ wr.drew (fun a' => wpList _ _ _ _ a' wr.drew) _ _
      change wr.drew.cell? _ = _ at d0
      change wr.drew.cell? _ = _ at d1
      change wr.drew.cell? _ = _ at d2
      have hC := hC.drew
      have hgr := grown_drew hgr
      generalize wr.drew = w3 at *
      have c3 := hC.cell k
      have f3 := hC.free k
      rw [Array.getElem?_eq_getElem (by omega)] at c3
      simp only [List.take_succ_cons, List.take_zero, List.drop_succ_cons, List.drop_zero]
      repeat still_step
      refine wpStill_nil ?_
      go_wp2_with fail
      go_roundw
      case rel =>
        refine ⟨k + 1, _, by omega, by go_num, hC.put k _, by simp [hsz], fun j hj => ?_, grown_putNew hgr hg _⟩
        by_cases e : j = k
        · subst e
          rw [get_set cs _ (y := cs[j]'(by omega)) (Array.getElem?_eq_getElem (by omega)), if_pos rfl]
          dsimp only
          rw [hW]
        · rw [get_set cs _ (hY j (by omega)), if_neg (fun h => e h.symm)]
      case measure => simp [intOf]; omega
    · obtain rfl : k = n := by omega
      have hX : Bytes wr wr.heap.size (some ⟨g, 0, none⟩) k (fun i => ((X0 i ^^^ X1 i ^^^ X2 i : Nat) : Int)) := by
        intro i hi
        have b0 := bytes_lt hB0 i (by omega)
        have b1 := bytes_lt hB1 i (by omega)
        have b2 := bytes_lt hB2 i (by omega)
        have b3 : X0 i ^^^ X1 i ^^^ X2 i < 256 := Nat.xor_lt_two_pow (n := 8) (Nat.xor_lt_two_pow (n := 8) b0 b1) b2
        refine ⟨by dsimp only; omega, g, 0, rfl, hC.lt, ?_⟩
        rw [Nat.zero_add, hC.cell]
        exact hY i hi
      have U0 : Bytes w w.heap.size A0 k (fun i => (X0 i : Int)) := fun i hi => hB0 i (by omega)
      have U1 : Bytes w w.heap.size A1 k (fun i => (X1 i : Int)) := fun i hi => hB1 i (by omega)
      have U2 : Bytes w w.heap.size A2 k (fun i => (X2 i : Int)) := fun i hi => hB2 i (by omega)
      have V0 := fun w' => of_grown (w := w') c0 U0 (by omega)
      have V1 := fun w' => of_grown (w := w') c1 U1 (by omega)
      have V2 := fun w' => of_grown (w := w') c2 U2 (by omega)
      have VX : ∀ w', wr.grownBy w' none → Calls Try.prog 9 #[.slice (some ⟨g, 0, none⟩) k k] w' fun e w'' => e = .returned (.int .u32 ((crcOf (fun i => X0 i ^^^ X1 i ^^^ X2 i) k : Nat) : Int)) ∧ w.grownBy w'' none := fun w' h =>
        (of_grown k hX (by omega) h).mono (by rintro e w'' ⟨rfl, h⟩; exact ⟨rfl, grown_trans hgr h⟩)
      have y1 := crcOf_lt X0 k
      have y2 := crcOf_lt X1 k
      have y3 := crcOf_lt X2 k
      have z1 := crc_three X0 X1 X2 k (fun i hi => bytes_lt hB0 i (by omega)) (fun i hi => bytes_lt hB1 i (by omega)) (fun i hi => bytes_lt hB2 i (by omega))
      have q1 := u32_xor_nat (crcOf X0 k) (crcOf X1 k) y1 y2
      have q2 := u32_xor_nat (crcOf X0 k ^^^ crcOf X1 k) (crcOf X2 k) (Nat.xor_lt_two_pow (n := 32) y1 y2) y3
      rw [z1] at q2
      generalize crcOf (fun i => X0 i ^^^ X1 i ^^^ X2 i) k = rx at *
      generalize crcOf X0 k ^^^ crcOf X1 k = r01 at *
      generalize crcOf X0 k = r0 at *
      generalize crcOf X1 k = r1 at *
      generalize crcOf X2 k = r2 at *
      have j0 : (k : Int) ≤ c0 := by omega
      have j1 : (k : Int) ≤ c1 := by omega
      have j2 : (k : Int) ≤ c2 := by omega
      have hd : wr.grownBy wr.drew none := grown_drew (grown_refl _ _)
      have hgd := grown_drew hgr
      clear hX U0 U1 U2 hB0 hB1 hB2 hC hY y1 y2 y3 z1 hgr
      go_wp2_with fail
      go_region_with (first | (go_at_call_of 9 (Value.slice (some ⟨g, 0, none⟩) k k); refine (VX _ ?_).mono ?_; assumption; rintro e w4 ⟨rfl, hw4⟩) | (go_at_call_of 9 (Value.slice A0 k c0); refine (V0 _ ?_).mono ?_; assumption; rintro e w5 ⟨rfl, hw5⟩) | (go_at_call_of 9 (Value.slice A1 k c1); refine (V1 _ ?_).mono ?_; assumption; rintro e w6 ⟨rfl, hw6⟩) | (go_at_call_of 9 (Value.slice A2 k c2); refine (V2 _ ?_).mono ?_; assumption; rintro e w7 ⟨rfl, hw7⟩))
      all_goals
        go_wp2_with fail
        go_ret
        exact ⟨rfl, by assumption⟩
end
end Go.Proofs.Ytmcifedchgfdhaa
