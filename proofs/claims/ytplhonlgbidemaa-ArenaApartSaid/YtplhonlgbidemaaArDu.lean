/- The document's Shrink. -/
import Derived.Test.YtplhonlgbidemaaArDt
namespace Go.Proofs.Ytplhonlgbidemaa
open Go.RowKit
/-- A quiet call in a region that draws its order. -/
theorem drawn {f : Nat} {args : Array Value} {v : Value} {w : World} {q : Nat} (h : Calls Try.prog f args (w.drewN q) fun e w' => e = .returned v ∧ w' = w.drewN q) :
    Calls Try.prog f args (w.drewN q) fun e w' => e = .returned v ∧ ∃ m, w' = w.drewN m := h.mono (fun _ _ h => ⟨h.1, q, h.2⟩)
section
variable {w w' : World} {r : Nat} {A : AM}
set_option maxRecDepth 100000 in
set_option maxHeartbeats 2000000 in
theorem rshrink_any (h : Rf w r A) {p o n : Nat} (hF : Few A 2) (h1 : 1 ≤ n) (h2 : n ≤ o) (h3 : o ≤ 128) (hp : p ≤ 16777216) :
    Calls Try.prog 44 #[.pointer (some ⟨r, 0, none⟩), .int .i64 (p : Nat), .int .i64 (o : Nat), .int .i64 (n : Nat)] w fun e w' => e = .returned (.int .i64 ((shrinkM A p o n).1 : Nat)) ∧ Rf w' r (shrinkM A p o n).2 ∧ On (fun k => k = r) w w' := by
  have FO := fun w => for_any w o (by omega) h3
  have FN := fun w => for_any w n h1 (by omega)
  have hfo := fr_lt h3
  have hfn : fr n < 38 := fr_lt (by omega)
  have SO := fun w => size_any w (fr o) (by omega)
  have SN := fun w => size_any w (fr n) (by omega)
  have hlo := sz_le hfo
  have hln := sz_le hfn
  obtain ⟨R, hR⟩ : ∃ R, R = shrinkM A p o n := ⟨_, rfl⟩
  rw [← hR]
  unfold shrinkM at hR
  obtain ⟨x, hx⟩ : ∃ x, x = fr o := ⟨_, rfl⟩
  obtain ⟨y, hy⟩ : ∃ y, y = fr n := ⟨_, rfl⟩
  rw [← hx] at FO hfo SO hlo hR
  rw [← hy] at FN hfn SN hln hR
  have hxy : y ≤ x := by rw [hx, hy]; exact fr_mono h2
  have HX := Lib.hid hx
  have HY := Lib.hid hy
  clear hx hy
  go_enter Try.func44, Try.ntmps44
  by_cases hxe : x = y
  · have g1 : ((x : Int) == (y : Int)) = true := by simp; omega
    have g2 : (x == y) = true := by simp; omega
    have g3 : decide (x = y) = true := by simp; omega
    rw [if_pos hxe] at hR
    subst hR
    clear hxe
    go_wp2_with fail
    refine (FO _).mono ?_; rintro e w1 ⟨rfl, rfl⟩
    go_wp2_with fail
    refine (FN _).mono ?_; rintro e w1 ⟨rfl, rfl⟩
    go_wp2_with fail
    go_ret
    exact ⟨rfl, h, on_refl _ _⟩
  · have g1 : ((x : Int) == (y : Int)) = false := by simp; omega
    have g2 : (x == y) = false := by simp; omega
    have g3 : decide (x = y) = false := by simp; omega
    rw [if_neg hxe] at hR
    obtain ⟨ra, rc, hrow⟩ := rlen_any h hfn
    have hi1 : (0 : Int) ≤ (y : Int) := by omega
    have hi2 : (y : Int) < 38 := by omega
    go_wp2_with fail
    refine (FO _).mono ?_; rintro e w1 ⟨rfl, rfl⟩
    go_wp2_with fail
    refine (FN _).mono ?_; rintro e w1 ⟨rfl, rfl⟩
    obtain ⟨m, hm⟩ : ∃ m, m = (A.rows y).length := ⟨_, rfl⟩
    rw [← hm] at hrow
    by_cases hz : A.rows y = []
    · rw [if_pos hz] at hR
      have hm0 : m = 0 := by rw [hm, hz]; rfl
      have g4 : decide ((0 : Int) < (m : Int)) = false := by rw [decide_eq_false_iff_not]; omega
      have g5 : decide (0 < m) = false := by rw [decide_eq_false_iff_not]; omega
      have hlt : sz y < sz x := sz_lt (by omega)
      obtain ⟨a, ha⟩ : ∃ a, a = sz x := ⟨_, rfl⟩
      obtain ⟨b, hb⟩ : ∃ b, b = sz y := ⟨_, rfl⟩
      rw [← ha, ← hb] at hlt
      rw [← ha, ← hb] at hR
      rw [← ha] at SO hlo
      rw [← hb] at SN hln
      clear hm hz hxe hm0 ha hb
      go_wp2_with fail
      go_quiet ((go_at_call 30; exact drawn (FN _)))
      have R1 := rrest_any (w := w1.drewN nq) (p := p + 12 * b) (n := a - b) h hF (by omega) (by omega) (by omega)
      have e1 : ((p + 12 * b : Nat) : Int) = (p : Int) + 12 * (b : Int) := by omega
      have e2 : ((a - b : Nat) : Int) = (a : Int) - (b : Int) := by omega
      rw [e1, e2] at R1
      subst hR
      clear hrow e1 e2
      go_wp2_with fail
      refine (FN _).mono ?_; rintro e w2 ⟨rfl, rfl⟩
      go_wp2_with fail
      refine (SN _).mono ?_; rintro e w2 ⟨rfl, rfl⟩
      go_wp2_with fail
      refine (FO _).mono ?_; rintro e w2 ⟨rfl, rfl⟩
      go_wp2_with fail
      refine (SO _).mono ?_; rintro e w2 ⟨rfl, rfl⟩
      go_wp2_with fail
      refine (FN _).mono ?_; rintro e w2 ⟨rfl, rfl⟩
      go_wp2_with fail
      refine (SN _).mono ?_; rintro e w2 ⟨rfl, rfl⟩
      go_wp2_with fail
      refine R1.mono ?_; rintro e w2 ⟨rfl, hr2, ho2⟩
      go_wp2_with fail
      go_ret
      exact ⟨rfl, hr2, ((on_refl _ w1).drewN nq).trans ho2⟩
    · rw [if_neg hz] at hR
      have hm1 : 0 < m := by rw [hm]; exact List.length_pos_iff.2 hz
      have g4 : decide ((0 : Int) < (m : Int)) = true := by rw [decide_eq_true_iff]; omega
      have g5 : decide (0 < m) = true := by rw [decide_eq_true_iff]; omega
      have hle : (A.rows y).length ≤ 16777216 := by have := hF y hfn; omega
      have hF1 := (hF.take y).le (j := 1) (by omega) x hfo
      have T1 := fun q => rtake_any (w := w1.drewN q) h hfn hle hz
      clear hm hxe hm1
      go_wp2_with fail
      go_quiet ((go_at_call 30; exact drawn (FN _)))
      subst hR
      clear hrow
      go_wp2_with fail
      refine (FN _).mono ?_; rintro e w2 ⟨rfl, rfl⟩
      go_wp2_with fail
      refine (T1 _).mono ?_; rintro e w2 ⟨rfl, hr2, ho2⟩
      have P1 := rput_any hr2 p hfo (by omega)
      go_wp2_with fail
      refine (FO _).mono ?_; rintro e w3 ⟨rfl, rfl⟩
      go_wp2_with fail
      refine P1.mono ?_; rintro e w4 ⟨rfl, hr4, ho4⟩
      go_wp2_with fail
      go_ret
      exact ⟨rfl, hr4, (((on_refl _ w1).drewN nq).trans ho2).trans ho4⟩
end
end Go.Proofs.Ytplhonlgbidemaa
