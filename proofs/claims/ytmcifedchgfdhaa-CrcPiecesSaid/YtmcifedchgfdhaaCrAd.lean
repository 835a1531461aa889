/- Add, Of. -/
import Derived.Test.YtmcifedchgfdhaaCrBy
namespace Go.Proofs.Ytmcifedchgfdhaa
open Go.RowKit

/-- The slice value (A, n) reads as the bytes X i, none of them in block g. -/
def Rd (w : World) (g : Nat) (A : Option Addr) (n : Nat) (X : Nat → Nat) : Prop :=
  ∀ i, i < n → X i < 256 ∧ ∃ b off, A = some ⟨b, off, none⟩ ∧ b ≠ g ∧ w.cell? ⟨b, off + i, none⟩ = some (.int .u8 (X i : Nat))

theorem grown_own {w w1 w2 : World} {b : Nat} (h : w.grownBy w1 none) (hb : w.heap.size ≤ b) (h2 : w1.grownBy w2 (some b)) : w.grownBy w2 none :=
  ⟨h2.os.trans h.os, h2.tape.trans h.tape, h2.output.trans h.output, Nat.le_trans h.size h2.size, fun k hk hr => (h2.block k (Nat.lt_of_lt_of_le hk h.size) (fun e => by injection e; omega)).trans (h.block k hk hr)⟩

section
variable {w w' : World} {g : Nat} {A : Option Addr} {n : Nat} {X : Nat → Nat} {x : Nat} {c : Int}
theorem Rd.keep (h : Rd w g A n X) (hb : w.grownBy w' (some g)) : Rd w' g A n X := by
  intro i hi
  obtain ⟨hn, b, off, e, hlt, h1⟩ := h i hi
  have hs := World.block_lt_of_cell? _ _ h1
  exact ⟨hn, b, off, e, hlt, by rw [World.cell?_of_block (w := w) (hb.block b hs (by simp [hlt]))]; exact h1⟩
theorem rd_of {B : Nat} (h : Bytes w B A n (fun i => (X i : Int))) (hg : B ≤ g) : Rd w g A n X := by
  intro i hi
  obtain ⟨hn, b, off, e, hlt, h1⟩ := h i hi
  dsimp only at hn h1
  exact ⟨by omega, b, off, e, by omega, h1⟩
theorem bytes_nat {B : Nat} {Y : Nat → Int} (h : Bytes w B A n Y) : Bytes w B A n (fun i => ((Y i).toNat : Int)) := by
  intro i hi
  obtain ⟨hn, b, off, e, hlt, h1⟩ := h i hi
  have e1 : ((Y i).toNat : Int) = Y i := by omega
  dsimp only
  rw [e1]
  exact ⟨hn, b, off, e, hlt, h1⟩
theorem bytes_lt {B : Nat} (h : Bytes w B A n (fun i => (X i : Int))) : ∀ i, i < n → X i < 256 := by
  intro i hi
  obtain ⟨hn, -⟩ := h i hi
  dsimp only at hn
  omega

/-- What Add's loop keeps. -/
def AdL (w : World) (g : Nat) (n : Nat) (X : Nat → Nat) (x : Nat) (c : Int) (i : Value) (wr : World) : Prop :=
  ∃ k : Nat, k ≤ n ∧ i = .int .i64 k ∧ Crc wr g (reg X k x) (c + k) ∧ w.grownBy wr (some g)

set_option maxRecDepth 100000 in
set_option maxHeartbeats 1600000 in
theorem add_any (cap : Nat) (hR : Rd w g A n X) (hx : x < 4294967296) (hn : n ≤ 9223372036854775807) (hc : 0 ≤ c ∧ c + n ≤ 9223372036854775807) (h : Crc w g x c) :
    Calls Try.prog 13 #[.pointer (some ⟨g, 0, none⟩), .slice A n cap] w fun e w' => e = .returned (.tuple #[]) ∧ Crc w' g (reg X n x) (c + n) ∧ w.grownBy w' (some g) := by
  obtain ⟨hc0, hc1⟩ := hc
  go_enter Try.func13, Try.ntmps13
  go_wp2_with fail
  go_loopw [8] (fun i wr => AdL w g n X x c i wr) (fun i _ => n - (intOf i).toNat)
  case atStart => exact ⟨0, by omega, rfl, by simpa [reg] using h, grown_refl _ _⟩
  case round =>
    obtain ⟨k, hk, rfl, hS, hG⟩ := hrel
    clear h
    by_cases hlt : k < n
    · obtain ⟨hX, b, off, rfl, hb, d0⟩ := (hR.keep hG) k hlt
      have P := byte_any (X k) hX (reg_lt hx k fun i hi => (hR i (by omega)).1) (by omega) hS
      have er : upd (reg X k x) (X k) = reg X (k + 1) x := rfl
      rw [er] at P
      clear hS er
      go_wp2_with fail
      refine P.mono ?_; rintro e w3 ⟨rfl, h3, hG3⟩
      have hG := grown_trans hG hG3
      clear P hG3 d0
      go_wp2_with fail
      go_roundw
      case rel => exact ⟨k + 1, by omega, by go_num, by rw [show c + ((k + 1 : Nat) : Int) = c + k + 1 by omega]; exact h3, hG⟩
      case measure => simp [intOf]; omega
    · obtain rfl : k = n := by omega
      go_wp2_with fail
      go_end0
      exact ⟨rfl, hS, hG⟩

set_option maxRecDepth 100000 in
theorem of_any (cap : Nat) (hB : Bytes w w.heap.size A n (fun i => (X i : Int))) (hn : n ≤ 9223372036854775807) :
    Calls Try.prog 9 #[.slice A n cap] w fun e w' => e = .returned (.int .u32 ((crcOf X n : Nat) : Int)) ∧ w.grownBy w' none := by
  have hX := bytes_lt hB
  have N := new_any w
  go_enter Try.func9, Try.ntmps9
  go_wp2_with fail
  refine N.mono ?_; rintro e w1 ⟨g, rfl, hg, h1, hG1⟩
  have Ad := add_any cap (rd_of (hB.keep hG1 (Nat.le_refl _)) hg) (by omega) hn (by omega) h1
  have hs := hG1.size
  clear N h1 hB
  go_wp2_with fail
  refine Ad.mono ?_; rintro e w2 ⟨rfl, h2, hG2⟩
  have V := value_any (reg_lt (by omega) n hX) h2
  clear Ad h2
  go_wp2_with fail
  refine V.mono ?_; rintro e w3 ⟨rfl, rfl⟩
  clear V
  go_wp2_with fail
  go_ret
  exact ⟨rfl, grown_own hG1 hg hG2⟩
end
end Go.Proofs.Ytmcifedchgfdhaa
