/- awake. -/
import Derived.Test.YtmcifedchgfdhaaCrAd
import Derived.Lib.SlBytesConst
namespace Go.Proofs.Ytmcifedchgfdhaa
open Go.RowKit

/-- The nine digits. -/
def nine (i : Nat) : Nat := if i < 9 then 49 + i else 0
theorem nine_sum : crcOf nine 9 = 3421780262 := by kernel_rfl
set_option maxRecDepth 100000 in
theorem awake_any (w : World) : Calls Try.prog 8 #[] w fun e w' => e = .returned (.bool true) ∧ w.grownBy w' none := by
  have kc := fun (w : World) (C : Array Value) (n c : Nat) => Lib.run_convert_bytes_const (P := Try.prog) w 22 5 C n c Try.underlying22 Try.underlying5
  have hb := heap_alloc_new w (.cells #[.int .u8 49, .int .u8 50, .int .u8 51, .int .u8 52, .int .u8 53, .int .u8 54, .int .u8 55, .int .u8 56, .int .u8 57] 5 (9, 10))
  have hG := grown_alloc (grown_refl w none) (.cells #[.int .u8 49, .int .u8 50, .int .u8 51, .int .u8 52, .int .u8 53, .int .u8 54, .int .u8 55, .int .u8 56, .int .u8 57] 5 (9, 10))
  have hs := World.size_alloc w (.cells #[.int .u8 49, .int .u8 50, .int .u8 51, .int .u8 52, .int .u8 53, .int .u8 54, .int .u8 55, .int .u8 56, .int .u8 57] 5 (9, 10))
  generalize hw1 : w.alloc (.cells #[.int .u8 49, .int .u8 50, .int .u8 51, .int .u8 52, .int .u8 53, .int .u8 54, .int .u8 55, .int .u8 56, .int .u8 57] 5 (9, 10)) = w1 at *
  have hB : Bytes w1 w1.heap.size (some ⟨w.heap.size, 0, none⟩) 9 (fun i => (nine i : Int)) := by
    intro i hi
    have e : nine i = 49 + i := if_pos hi
    dsimp only
    rw [e]
    refine ⟨by omega, w.heap.size, 0, rfl, by omega, ?_⟩
    rw [cell_of_row w1 _ _ _ _ _ hb]
    rcases (by omega : i = 0 ∨ i = 1 ∨ i = 2 ∨ i = 3 ∨ i = 4 ∨ i = 5 ∨ i = 6 ∨ i = 7 ∨ i = 8) with rfl | rfl | rfl | rfl | rfl | rfl | rfl | rfl | rfl <;> rfl
  have O := of_any 9 hB (by omega)
  rw [nine_sum] at O
  go_enter Try.func8, Try.ntmps8
  go_wp2_with fail
  refine O.mono ?_; rintro e w2 ⟨rfl, hw2⟩
  have hG2 := grown_trans hG hw2
  have O2 := of_any (w := w2) (A := none) (n := 0) (X := nine) 0 (fun i hi => by omega) (by omega)
  have e0 : crcOf nine 0 = 0 := by kernel_rfl
  rw [e0] at O2
  clear O hG hb hB hs hw1
  go_wp2_with fail
  refine O2.mono ?_; rintro e w3 ⟨rfl, hw3⟩
  go_wp2_with fail
  go_ret
  exact ⟨rfl, grown_trans hG2 hw3⟩
end Go.Proofs.Ytmcifedchgfdhaa
