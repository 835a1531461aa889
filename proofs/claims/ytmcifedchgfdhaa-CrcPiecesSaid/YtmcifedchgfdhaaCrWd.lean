/- The check sum's memory, and fill. -/
import Derived.Test.YtmcifedchgfdhaaCrOnce
import Derived.Test.YtmcifedchgfdhaaCrPl
import Derived.Lib.Hide
namespace Go.Proofs.Ytmcifedchgfdhaa
open Go.RowKit

/-- The sum's cells: once done d, its lock s, the table T, the register x, the count c. -/
def Sm (w : World) (g : Nat) (d s : Int) (T : Nat → Nat) (x : Nat) (c : Int) : Prop :=
  ∃ cs, Blk w g 55 cs ∧ cs[0]? = some (.int .u32 d) ∧ cs[1]? = some (.int .i32 s) ∧ (∀ i, i < 256 → cs[3 + i]? = some (.int .u32 (T i : Nat))) ∧ cs[259]? = some (.int .u32 x) ∧ cs[260]? = some (.int .i64 c)

section
variable {w w' : World} {g : Nat} {d s : Int} {T : Nat → Nat} {x : Nat} {c : Int}
theorem Sm.done (h : Sm w g d s T x c) : w.cell? ⟨g, 0, none⟩ = some (.int .u32 d) := by obtain ⟨cs, hb, h0, -⟩ := h; rw [hb.cell]; exact h0
theorem Sm.lock (h : Sm w g d s T x c) : w.cell? ⟨g, 1, none⟩ = some (.int .i32 s) := by obtain ⟨cs, hb, -, h0, -⟩ := h; rw [hb.cell]; exact h0
theorem Sm.row (h : Sm w g d s T x c) (i : Nat) (hi : i < 256) : w.cell? ⟨g, 3 + i, none⟩ = some (.int .u32 (T i : Nat)) := by obtain ⟨cs, hb, -, -, h0, -⟩ := h; rw [hb.cell]; exact h0 i hi
theorem Sm.now (h : Sm w g d s T x c) : w.cell? ⟨g, 259, none⟩ = some (.int .u32 x) := by obtain ⟨cs, hb, -, -, -, h0, -⟩ := h; rw [hb.cell]; exact h0
theorem Sm.cnt (h : Sm w g d s T x c) : w.cell? ⟨g, 260, none⟩ = some (.int .i64 c) := by obtain ⟨cs, hb, -, -, -, -, h0⟩ := h; rw [hb.cell]; exact h0
theorem Sm.free (h : Sm w g d s T x c) (i : Nat) : w.frozen? ⟨g, i, none⟩ = false := by obtain ⟨cs, hb, -⟩ := h; exact hb.free i
theorem Sm.lt (h : Sm w g d s T x c) : g < w.heap.size := by obtain ⟨cs, hb, -⟩ := h; exact hb.lt
theorem Sm.grown {row : Option Nat} (h : Sm w g d s T x c) (hb : w.grownBy w' row) (hg : some g ≠ row) : Sm w' g d s T x c := by
  obtain ⟨cs, h1, h2⟩ := h; exact ⟨cs, h1.grown hb hg, h2⟩
theorem Sm.drewN (h : Sm w g d s T x c) (n : Nat) : Sm (w.drewN n) g d s T x c := h
theorem Sm.drew (h : Sm w g d s T x c) : Sm w.drew g d s T x c := h

theorem get_set (cs : Array Value) {i j : Nat} (v : Value) {y : Value} (hj : cs[j]? = some y) : (cs.setIfInBounds i v)[j]? = some (if i = j then v else y) := by
  have hlt : j < cs.size := by
    rcases Nat.lt_or_ge j cs.size with h | h
    · exact h
    · rw [Array.getElem?_eq_none h] at hj; cases hj
  rw [Array.getElem?_setIfInBounds]
  by_cases h : i = j
  · subst h; simp [hlt]
  · simp [h, hj]

theorem Sm.putDone (h : Sm w g d s T x c) (v : Int) : Sm (w.setCell ⟨g, 0, none⟩ (.int .u32 v)) g v s T x c := by
  obtain ⟨cs, hb, h0, h1, h2, h3, h4⟩ := h
  refine ⟨_, hb.put 0 _, ?_, ?_, fun i hi => ?_, ?_, ?_⟩
  · rw [get_set cs _ h0]; rfl
  · rw [get_set cs _ h1]; rfl
  · rw [get_set cs _ (h2 i hi), if_neg (by omega)]
  · rw [get_set cs _ h3]; rfl
  · rw [get_set cs _ h4]; rfl
theorem Sm.putLock (h : Sm w g d s T x c) (v : Int) : Sm (w.setCell ⟨g, 1, none⟩ (.int .i32 v)) g d v T x c := by
  obtain ⟨cs, hb, h0, h1, h2, h3, h4⟩ := h
  refine ⟨_, hb.put 1 _, ?_, ?_, fun i hi => ?_, ?_, ?_⟩
  · rw [get_set cs _ h0]; rfl
  · rw [get_set cs _ h1]; rfl
  · rw [get_set cs _ (h2 i hi), if_neg (by omega)]
  · rw [get_set cs _ h3]; rfl
  · rw [get_set cs _ h4]; rfl
theorem Sm.putRow (h : Sm w g d s T x c) (k v : Nat) : Sm (w.setCell ⟨g, 3 + k, none⟩ (.int .u32 v)) g d s (fun i => if i = k then v else T i) x c ∨ 256 ≤ k := by
  by_cases hk : 256 ≤ k
  · exact .inr hk
  refine .inl ?_
  obtain ⟨cs, hb, h0, h1, h2, h3, h4⟩ := h
  refine ⟨_, hb.put (3 + k) _, ?_, ?_, fun i hi => ?_, ?_, ?_⟩
  · rw [get_set cs _ h0, if_neg (by omega)]
  · rw [get_set cs _ h1, if_neg (by omega)]
  · rw [get_set cs _ (h2 i hi)]
    by_cases e : i = k
    · subst e; simp
    · simp [e, show ¬ k = i from fun h => e h.symm]
  · rw [get_set cs _ h3, if_neg (by omega)]
  · rw [get_set cs _ h4, if_neg (by omega)]
theorem Sm.putNow (h : Sm w g d s T x c) (v : Nat) : Sm (w.setCell ⟨g, 259, none⟩ (.int .u32 v)) g d s T v c := by
  obtain ⟨cs, hb, h0, h1, h2, h3, h4⟩ := h
  refine ⟨_, hb.put 259 _, ?_, ?_, fun i hi => ?_, ?_, ?_⟩
  · rw [get_set cs _ h0]; rfl
  · rw [get_set cs _ h1]; rfl
  · rw [get_set cs _ (h2 i hi), if_neg (by omega)]
  · rw [get_set cs _ h3]; rfl
  · rw [get_set cs _ h4]; rfl
theorem Sm.putCnt (h : Sm w g d s T x c) (v : Int) : Sm (w.setCell ⟨g, 260, none⟩ (.int .i64 v)) g d s T x v := by
  obtain ⟨cs, hb, h0, h1, h2, h3, h4⟩ := h
  refine ⟨_, hb.put 260 _, ?_, ?_, fun i hi => ?_, ?_, ?_⟩
  · rw [get_set cs _ h0]; rfl
  · rw [get_set cs _ h1]; rfl
  · rw [get_set cs _ (h2 i hi), if_neg (by omega)]
  · rw [get_set cs _ h3]; rfl
  · rw [get_set cs _ h4]; rfl
theorem Sm.tabs (h : Sm w g d s T x c) {T' : Nat → Nat} (e : ∀ i, i < 256 → T i = T' i) : Sm w g d s T' x c := by
  obtain ⟨cs, hb, h0, h1, h2, h3⟩ := h
  exact ⟨cs, hb, h0, h1, fun i hi => (e i hi) ▸ h2 i hi, h3⟩
end

/-- What fill's outer loop keeps. -/
def FlO (w : World) (g : Nat) (d s : Int) (x : Nat) (c : Int) (i : Value) (wr : World) : Prop :=
  ∃ (k : Nat) (T : Nat → Nat), k ≤ 256 ∧ i = .int .i64 k ∧ (∀ j, j < k → T j = tab j) ∧ Sm wr g d s T x c ∧ w.grownBy wr (some g)
/-- What fill's inner loop keeps. -/
def FlI (k : Nat) (y j : Value) : Prop := ∃ m : Nat, m ≤ 8 ∧ j = .int .i64 m ∧ y = .int .u32 ((sts m k : Nat) : Int)

section
variable {w : World} {g : Nat} {d s : Int} {T : Nat → Nat} {x : Nat} {c : Int}
set_option maxRecDepth 100000 in
set_option maxHeartbeats 1000000 in
theorem fill_any (h : Sm w g d s T x c) :
    Calls Try.prog 18 #[.pointer (some ⟨g, 0, none⟩)] w fun e w' => e = .returned (.tuple #[]) ∧ Sm w' g d s tab x c ∧ w.grownBy w' (some g) := by
  go_enter Try.func18, Try.ntmps18
  go_wp2_with fail
  go_loopw [4] (fun i wr => FlO w g d s x c i wr) (fun i _ => 256 - (intOf i).toNat)
  case atStart => exact ⟨0, T, by omega, rfl, fun j hj => by omega, h, grown_refl _ _⟩
  case round =>
    obtain ⟨k, T1, hk, rfl, hT, hS, hG⟩ := hrel
    clear h
    by_cases hlt : k < 256
    · have hw : IntKind.u32.wrap (k : Int) = (k : Int) := by rw [IntKind.wrap_u32']; omega
      go_wp2_with fail
      obtain ⟨wo, rfl⟩ : ∃ wo : World, wo = wr := ⟨_, rfl⟩
      go_loopw [3, 9] (fun y j wr' => FlI k y j ∧ wr' = wo) (fun _ j _ => 8 - (intOf j).toNat)
      case atStart => exact ⟨⟨0, by omega, rfl, rfl⟩, rfl⟩
      case round =>
        obtain ⟨⟨m, hm, rfl, rfl⟩, rfl⟩ := hrel
        have hsl : sts m k < 4294967296 := sts_lt m (by omega)
        by_cases hlm : m < 8
        · have hb := st_bits hsl
          have hs1 : st (sts m k) = sts (m + 1) k := rfl
          rw [hs1] at hb
          rw [IntKind.wrap_u32'] at hb
          generalize sts m k = y at *
          go_wp2_with fail
          go_roundw
          case rel => exact ⟨⟨m + 1, by omega, by go_num, rfl⟩, trivial⟩
          case measure => simp [intOf]; omega
        · obtain rfl : m = 8 := by omega
          have ht : sts 8 k = tab k := rfl
          rw [ht] at hsl ⊢
          have hc := hS.row k hlt
          have hf := hS.free (3 + k)
          go_wp2_with fail
          go_roundw
          case rel =>
            refine ⟨k + 1, fun i => if i = k then tab k else T1 i, by omega, by go_num, fun j hj => ?_, (hS.putRow k (tab k)).resolve_right (by omega), grown_put hG _ _⟩
            show (if j = k then tab k else T1 j) = tab j
            by_cases e : j = k
            · subst e; simp
            · rw [if_neg e]; exact hT j (by omega)
          case measure => simp [intOf]; omega
    · obtain rfl : k = 256 := by omega
      go_wp2_with fail
      go_end0
      exact ⟨rfl, hS.tabs hT, hG⟩
end
end Go.Proofs.Ytmcifedchgfdhaa
