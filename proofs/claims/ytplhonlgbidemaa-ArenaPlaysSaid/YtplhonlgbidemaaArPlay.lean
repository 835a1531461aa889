/- ArenaPlays, walked. -/
import Derived.Test.YtplhonlgbidemaaArDa
import Derived.Test.YtplhonlgbidemaaArSc
namespace Go.Proofs.Ytplhonlgbidemaa
open Go.RowKit
set_option maxRecDepth 100000 in
set_option maxHeartbeats 4000000 in
theorem plays_walk (s : Nat) (hs : s ≤ 65535) (S0 : Option Addr) (len c : Nat) (K N Q : Nat → Int) (hlen : len ≤ 9223372036854775807) (w : World) (hS : Script w w.heap.size S0 len K N Q) :
    Calls Try.prog 7 #[.int .u16 (s : Nat), .slice S0 len c] w fun e w' => e = .returned (.bool true) ∧ w.grownBy w' none := by
  obtain ⟨n, hn⟩ : ∃ n, n = 2048 + s % 12000 := ⟨_, rfl⟩
  have hn1 : 2048 ≤ n := by omega
  have hn2 : n ≤ 1000000 := by omega
  go_enter Try.func7, Try.ntmps7
  go_wp2_with fail
  refine (awake_any _).mono ?_; rintro e w0 ⟨rfl, hG0⟩
  have BG := begin_any w0 hs
  rw [← hn] at BG
  clear hn
  go_wp2_with fail
  refine BG.mono ?_; rintro e w1 ⟨x, g, gm, r, b, rfl, hx, hg, hgm, hr, hbx, hax, hrf, hG1⟩
  have hsz := hG0.size
  have hG := grown_trans hG0 hG1
  have hW := begun (w := w) ⟨by omega, by omega, by omega, by omega⟩ hn1 hn2 hbx hax hrf
  clear BG hG0 hG1 hbx hax hrf hx hg hgm hr hsz
  go_wp2_with fail
  go_loopw [6] (fun i wr => PlL w w.heap.size x g gm r (.pointer (some ⟨b, 0, none⟩)) n len i wr) (fun i _ => len - (intOf i).toNat)
  case atStart => exact ⟨0, _, _, _, _, by omega, by omega, rfl, by simp, hW, hG⟩
  case round =>
    clear hW hG
    obtain ⟨k, A, L, full, lv, hk, hk2, rfl, hL, hW, hG⟩ := hrel
    by_cases hkl : k < len
    · have hkI : (k : Int) < (len : Int) := by omega
      by_cases hkm : k < 1500
      · have hkM : (k : Int) < 1500 := by omega
        obtain ⟨bs, os, rfl, hbs, c0, c1, c2⟩ := step_at (hS.keep hG (Nat.le_refl _)) hkl
        have DO := does_any hW (by omega) (K k) (N k) (Q k)
        go_wp2_with fail
        refine DO.mono ?_; rintro e w2 ⟨rfl, ho, A', L', full', lv', hW2, hL2⟩
        have hG2 := ho.grown hG (fun _ h => h)
        clear DO ho hW hG c0 c1 c2
        go_wp2_with fail
        go_roundw
        case rel => exact ⟨k + 1, _, _, _, _, by omega, by omega, by go_num, by omega, hW2, hG2⟩
        case measure => simp [intOf]; omega
      · have hkM : decide ((k : Int) < 1500) = false := by rw [decide_eq_false_iff_not]; omega
        have hkM2 : decide (k < 1500) = false := by rw [decide_eq_false_iff_not]; omega
        go_wp2_with fail
        go_ret
        exact ⟨rfl, hG⟩
    · have hkI : decide ((k : Int) < (len : Int)) = false := by rw [decide_eq_false_iff_not]; omega
      have hkI2 : decide (k < len) = false := by rw [decide_eq_false_iff_not]; omega
      go_wp2_with fail
      go_ret
      exact ⟨rfl, hG⟩
theorem plays_int (s : Int) (hs : 0 ≤ s ∧ s ≤ 65535) (S0 : Option Addr) (len c : Nat) (K N Q : Nat → Int) (hlen : len ≤ 9223372036854775807) (w : World) (hS : Script w w.heap.size S0 len K N Q) :
    Calls Try.prog 7 #[.int .u16 s, .slice S0 len c] w fun e w' => e = .returned (.bool true) ∧ w.grownBy w' none := by
  obtain ⟨s, rfl⟩ := Int.eq_ofNat_of_zero_le hs.1
  exact plays_walk s (by omega) S0 len c K N Q hlen w hS
end Go.Proofs.Ytplhonlgbidemaa
