/- CrcSums, walked. -/
import Derived.Test.YtmcifedchgfdhaaCrAw
import Derived.Test.YtmcifedchgfdhaaCrRf
namespace Go.Proofs.Ytmcifedchgfdhaa
open Go.RowKit
set_option maxRecDepth 100000 in
theorem sums_walk (A : Option Addr) (n cap : Nat) (X : Nat → Nat) (hn : n ≤ 9223372036854775807) (w : World) (hB : Bytes w w.heap.size A n (fun i => (X i : Int))) :
    Calls Try.prog 3 #[.slice A n cap] w fun e w' => e = .returned (.bool true) ∧ w.grownBy w' none := by
  by_cases hbig : 65536 < n
  · go_enter Try.func3, Try.ntmps3
    go_wp2_with fail
    refine (awake_any _).mono ?_; rintro e w1 ⟨rfl, hw1⟩
    go_wp2_with fail
    go_ret
    exact ⟨rfl, hw1⟩
  go_enter Try.func3, Try.ntmps3
  go_wp2_with fail
  refine (awake_any _).mono ?_; rintro e w1 ⟨rfl, hw1⟩
  have h1 := hB.keep hw1 (Nat.le_refl _)
  have O := of_any cap (fun i hi => ⟨(h1 i hi).1, by obtain ⟨-, b, off, e, hlt, hc⟩ := h1 i hi; exact ⟨b, off, e, Nat.lt_of_lt_of_le hlt hw1.size, hc⟩⟩) hn
  go_wp2_with fail
  refine O.mono ?_; rintro e w2 ⟨rfl, hw2⟩
  have hG := grown_trans hw1 hw2
  have h2 := hB.keep hG (Nat.le_refl _)
  have R := ref_any (g := w.heap.size) cap w2 (rd_of h2 (Nat.le_refl _)) hn
  clear O hw1 hw2 h1
  go_wp2_with fail
  refine R.mono ?_; rintro e w3 ⟨rfl, hw3⟩
  have hG := grown_trans hG hw3
  clear R
  go_wp2_with fail
  go_ret
  exact ⟨rfl, hG⟩
end Go.Proofs.Ytmcifedchgfdhaa
