/- CrcTurns, walked. -/
import Derived.Test.YtmcifedchgfdhaaCrTuP
namespace Go.Proofs.Ytmcifedchgfdhaa
open Go.RowKit

/-- The bytes when the first j of the five are changed. -/
def part (X : Nat → Nat) (x k j i : Nat) : Nat := if k ≤ i ∧ i < k + j then X i ^^^ fiveByte x (i - k) else X i
theorem part_lt {X : Nat → Nat} {n : Nat} (hX : ∀ i, i < n → X i < 256) (x k j i : Nat) (h : i < n) : part X x k j i < 256 := by
  unfold part
  split
  · exact Nat.xor_lt_two_pow (n := 8) (hX i h) (fiveByte_lt _ _)
  · exact hX i h
theorem part_five (X : Nat → Nat) (x k i : Nat) : part X x k 5 i = X i ^^^ chg x k i := by
  unfold part chg
  split
  · rfl
  · rw [Nat.xor_zero]

/-- What the loop keeps: block g has the bytes, the first j of the five changed. -/
def TuL (W : World) (g n : Nat) (X : Nat → Nat) (x k : Nat) (i : Value) (wr : World) : Prop :=
  ∃ (j : Nat) (cs : Array Value), j ≤ 5 ∧ i = .int .i64 j ∧ Blk wr g 5 cs ∧ (∀ m, m < n → cs[m]? = some (.int .u8 (part X x k j m : Nat))) ∧ W.grownBy wr none

section
set_option maxRecDepth 100000 in
set_option maxHeartbeats 4000000 in
theorem turns_walk (A : Option Addr) (n c : Nat) (X : Nat → Nat) (hn : n ≤ 9223372036854775807) (hA : A = none → n = 0 ∧ c = 0) (ta tb ts : Nat) (ha : ta ≤ 65535) (hb : tb ≤ 4294967295) (hs : ts ≤ 255) (w : World) (hB : Bytes w w.heap.size A n (fun i => (X i : Int))) :
    Calls Try.prog 4 #[.slice A n c, .agg #[.int .u16 ta, .int .u32 tb, .int .u8 ts]] w fun e w' => e = .returned (.bool true) ∧ w.grownBy w' none := by
  have hb0 := Blk.new w 29 #[.int .u16 ta, .int .u32 tb, .int .u8 ts]
  have hG0 := grown_alloc (grown_refl w none) (.cells #[.int .u16 ta, .int .u32 tb, .int .u8 ts] 29)
  by_cases hbig : 16384 < n
  · go_enter Try.func4, Try.ntmps4
    go_wp2_with fail
    refine (awake_any _).mono ?_; rintro e w1 ⟨rfl, hw1⟩
    go_wp2_with fail
    go_ret
    exact ⟨rfl, grown_trans hG0 hw1⟩
  by_cases hsm : n < 5
  · go_enter Try.func4, Try.ntmps4
    go_wp2_with fail
    refine (awake_any _).mono ?_; rintro e w1 ⟨rfl, hw1⟩
    go_wp2_with fail
    go_ret
    exact ⟨rfl, grown_trans hG0 hw1⟩
  by_cases hz : tb = 0
  · subst hz
    go_enter Try.func4, Try.ntmps4
    go_wp2_with fail
    refine (awake_any _).mono ?_; rintro e w1 ⟨rfl, hw1⟩
    have c1 := (hb0.grown hw1 (by simp)).cell 1
    simp at c1
    go_wp2_with fail
    go_ret
    exact ⟨rfl, grown_trans hG0 hw1⟩
  obtain ⟨k, hk⟩ : ∃ k, k = ta % (n - 4) := ⟨_, rfl⟩
  have hk5 : k + 5 ≤ n := by have := Nat.mod_lt ta (show n - 4 > 0 by omega); omega
  obtain ⟨x, hx⟩ : ∃ x, x = tb * 2 ^ (ts % 8) := ⟨_, rfl⟩
  have hX := bytes_lt hB
  have T := turn_law X n k tb (ts % 8) hX hk5 (by omega) hz (by omega)
  rw [← hx] at T
  have hp : (2 : Nat) ^ (ts % 8) ≤ 128 := Nat.pow_le_pow_right (n := 2) (by omega) (show ts % 8 ≤ 7 by omega)
  have hx40 : x < 1099511627776 := by
    have := Nat.mul_le_mul (show tb ≤ 4294967295 by omega) hp
    omega
  have O := fun w' h => of_grown (w := w') c hB hn h
  have z0 : ((tb : Int) == 0) = false := by simp [hz]
  have z5 : ¬ (n : Int) < 5 := by omega
  have z16 : ¬ (16384 : Int) < (n : Int) := by omega
  have hk' : (ta : Int) % ((n : Int) - 4) = (k : Int) := by
    rw [hk, Int.natCast_emod, Int.ofNat_sub (by omega)]; rfl
  have hx' : IntKind.u64.wrap ((tb : Int) * 2 ^ (ts % 8)) = (x : Int) := by
    have e : ((2 : Int) ^ (ts % 8)) = ((2 ^ (ts % 8) : Nat) : Int) := by simp
    rw [e, ← Int.natCast_mul, ← hx, IntKind.wrap_u64]
    omega
  go_enter Try.func4, Try.ntmps4
  go_wp2_with fail
  refine (awake_any _).mono ?_; rintro e w1 ⟨rfl, hw1⟩
  have hb1 := hb0.grown hw1 (by simp)
  have c0 : w1.cell? ⟨w.heap.size, 0, none⟩ = some (.int .u16 ta) := hb1.cell 0
  have c1 : w1.cell? ⟨w.heap.size, 1, none⟩ = some (.int .u32 tb) := hb1.cell 1
  have c2 : w1.cell? ⟨w.heap.size, 2, none⟩ = some (.int .u8 ts) := hb1.cell 2
  have hG := grown_trans hG0 hw1
  clear hb0 hG0 hw1 hb1 hp hx hk
  have l2 := hG.size
  have hF : (w1.alloc (.cells #[] 5)).ownsRow w.heap.size 5 1 (.slice (some ⟨w1.heap.size, 0, none⟩) 0 0) 0 [] := World.ownsRow_made w1 #[] 0 (by omega) (by unfold maxLen; omega) (by simp)
  have hG1 : w.grownBy (w1.alloc (.cells #[] 5)) none := grown_alloc hG _
  have hR := rd_of (hB.keep hG1 (Nat.le_refl _)) (Nat.le_refl _)
  clear hB
  go_wp2_with (at_builtin; refine append_rd rfl (.tmp 38) (.tmp 39) rfl w.heap.size _ 0 [] rfl hF hR hA rfl (by omega) (by simp; omega) ?_)
  intro v1 w3 ho1 hg1
  have hG3 := grown_new hG1 hg1 (by intro k hk; simp [Value.ownBlock] at hk; omega)
  have ho2 := ho1
  obtain ⟨gg, cap, rfl, hgg, hgl⟩ := ho1.form (by omega)
  obtain ⟨-, h | ⟨gl, cp, cur, hv, hgl2, hcur, hn2, hcap, hsz, htake⟩⟩ := ho1
  · exact absurd h.1 (by simp)
  simp at hv
  obtain ⟨rfl, rfl⟩ := hv
  have hcs : ∀ m, m < n → cur[m]? = some (.int .u8 (part X x k 0 m : Nat)) := by
    intro m hm
    have e := ho2.cellAt m (by omega)
    have e2 : part X x k 0 m = X m := if_neg (by omega)
    rw [e2, ← cell_of_row w3 gg m cur _ _ hcur, e]
    exact vals_get X (by omega)
  have hblk : Blk w3 gg 5 cur := hcur
  clear hcur hsz htake ho2 hF hR hg1 hG1 hG c0 c1 c2 hx' hk'
  go_wp2_with fail
  go_loopw [8] (fun i wr => TuL w gg n X x k i wr) (fun i _ => 5 - (intOf i).toNat)
  case atStart => exact ⟨0, cur, by omega, rfl, hblk, hcs, hG3⟩
  case round =>
    obtain ⟨j, cs, hj, rfl, hC, hcs2, hgr⟩ := hrel
    clear hblk hcs hG3
    by_cases hlt : j < 5
    · have hcell := hC.cell (k + j)
      rw [hcs2 (k + j) (by omega)] at hcell
      have hfr := hC.free (k + j)
      have pl := part_lt hX x k j (k + j) (by omega)
      have hP := hC.put (k + j) (.int .u8 (part X x k (j + 1) (k + j) : Nat))
      have hnew : ∀ m, m < n → (cs.setIfInBounds (k + j) (.int .u8 (part X x k (j + 1) (k + j) : Nat)))[m]? = some (.int .u8 (part X x k (j + 1) m : Nat)) := by
        intro m hm
        rw [get_set cs _ (hcs2 m hm)]
        by_cases e : k + j = m
        · subst e; rw [if_pos rfl]
        · rw [if_neg e]
          congr 3
          unfold part
          by_cases h1 : k ≤ m ∧ m < k + j
          · rw [if_pos h1, if_pos (by omega)]
          · rw [if_neg h1, if_neg (by omega)]
      have hGn := grown_putNew hgr (p := ⟨gg, k + j, none⟩) hgg (.int .u8 (part X x k (j + 1) (k + j) : Nat))
      have e1 : part X x k (j + 1) (k + j) = part X x k j (k + j) ^^^ fiveByte x j := by
        unfold part
        rw [if_pos (by omega), if_neg (by omega), show k + j - k = j by omega]
      have q1 := u8_xor_nat (part X x k j (k + j)) (fiveByte x j) pl (fiveByte_lt _ _)
      rw [← e1] at q1
      have z1 : IntKind.i64.wrap ((k : Int) + (j : Int)) = ((k + j : Nat) : Int) := by rw [IntKind.wrap_i64]; omega
      have f0 : fiveByte x j = x / 2 ^ (8 * j) % 256 := by
        rcases (by omega : j = 0 ∨ j = 1 ∨ j = 2 ∨ j = 3 ∨ j = 4) with rfl | rfl | rfl | rfl | rfl <;> simp [fiveByte]
      generalize part X x k (j + 1) (k + j) = vn at *
      generalize part X x k j (k + j) = vo at *
      generalize fiveByte x j = fb at *
      go_wp2_with fail
      have qe : (x : Int) / 2 ^ (8 * j) % 256 = (fb : Int) := by rw [f0]; simp
      rw [qe, q1]
      go_roundw
      case rel => exact ⟨j + 1, _, by omega, by go_num, hP, hnew, hGn⟩
      case measure => simp [intOf]; omega
    · obtain rfl : j = 5 := by omega
      have hBn : Bytes wr wr.heap.size (some ⟨gg, 0, none⟩) n (fun i => ((X i ^^^ chg x k i : Nat) : Int)) := by
        intro i hi
        have hp := part_lt hX x k 5 i hi
        rw [part_five] at hp
        refine ⟨by dsimp only; omega, gg, 0, rfl, hC.lt, ?_⟩
        rw [Nat.zero_add, hC.cell, hcs2 i hi, part_five]
      have O1 := of_any cap hBn hn
      have hne : ¬ ((crcOf (fun i => X i ^^^ chg x k i) n : Nat) : Int) = ((crcOf X n : Nat) : Int) := by omega
      clear hC hcs2 hBn T
      go_wp2_with fail
      refine O1.mono ?_; rintro e w6 ⟨rfl, hG6⟩
      have hG := grown_trans hgr hG6
      have O2 := O w6 hG
      clear O O1
      go_wp2_with fail
      refine O2.mono ?_; rintro e w7 ⟨rfl, hG7⟩
      go_wp2_with fail
      go_ret
      exact ⟨by simp [hne], hG7⟩
end
end Go.Proofs.Ytmcifedchgfdhaa
