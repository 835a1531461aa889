/- The document's Units and One. -/
import Derived.Test.YtplhonlgbidemaaArDk
namespace Go.Proofs.Ytplhonlgbidemaa
open Go.RowKit
section
variable {w w' : World} {r : Nat} {A : AM} {H : List Bk}
theorem runits_no (w : World) (r : Nat) {n : Int} (hn : n < 1 ∨ 128 < n) :
    Calls Try.prog 40 #[.pointer (some ⟨r, 0, none⟩), .int .i64 n] w fun e w' => e = .returned (.int .i64 0) ∧ w' = w := by
  by_cases h1 : n < 1
  · go_enter Try.func40, Try.ntmps40
    go_wp2_with fail
    go_ret
    exact ⟨rfl, rfl⟩
  · have h2 : 128 < n := by omega
    go_enter Try.func40, Try.ntmps40
    go_wp2_with fail
    go_ret
    exact ⟨rfl, rfl⟩
set_option maxRecDepth 100000 in
set_option maxHeartbeats 2000000 in
theorem runits_any (h : Rf w r A) (hi : Inv A H) (hs : A.size ≤ 1000000) {n : Nat} (hn1 : 1 ≤ n) (hn2 : n ≤ 128) :
    Calls Try.prog 40 #[.pointer (some ⟨r, 0, none⟩), .int .i64 (n : Nat)] w fun e w' => e = .returned (.int .i64 ((unitsM A n).1 : Nat)) ∧ Rf w' r (unitsM A n).2 ∧ On (fun k => k = r) w w' := by
  obtain ⟨R, hR⟩ : ∃ R, R = unitsM A n := ⟨_, rfl⟩
  rw [← hR]
  unfold unitsM at hR
  have hsh := hi.short hs 2 (by omega)
  have hf := fr_lt hn2
  have FN := for_any w n hn1 hn2
  have SN := fun w => size_any w (fr n) (by omega)
  have hlp := sz_pos (fr n)
  have hln := sz_le hf
  have ho := hi.ord
  have hsz := hi.size
  obtain ⟨y, hy⟩ : ∃ y, y = fr n := ⟨_, rfl⟩
  obtain ⟨b, hb⟩ : ∃ b, b = sz y := ⟨_, rfl⟩
  rw [← hy] at hR hf FN SN hlp hln
  rw [← hb] at SN hlp hln hR
  have hyI : (y : Int) < 38 := by omega
  have hy0 : (0 : Int) ≤ (y : Int) := by omega
  have b1 : ¬ (n : Int) < 1 := by omega
  have b2 : ¬ (128 : Int) < n := by omega
  obtain ⟨ra, rc, cr⟩ := rlen_any h hf
  obtain ⟨m, hm⟩ : ∃ m, m = (A.rows y).length := ⟨_, rfl⟩
  rw [← hm] at cr
  have HB := Lib.hid hb
  have HY := Lib.hid hy
  clear hb hy
  by_cases hz : A.rows y = []
  · rw [if_pos hz] at hR
    have hm0 : m = 0 := by rw [hm, hz]; rfl
    have g4 : decide ((0 : Int) < (m : Int)) = false := by rw [decide_eq_false_iff_not]; omega
    have g5 : decide (0 < m) = false := by rw [decide_eq_false_iff_not]; omega
    have ch := h.high
    have cl := h.low
    have fl := h.free 41
    clear hm hz hm0
    by_cases hle : 12 * b ≤ A.high - A.low
    · rw [if_pos hle] at hR
      have hleI : decide ((12 : Int) * (b : Int) ≤ (A.high : Int) - (A.low : Int)) = true := by rw [decide_eq_true_iff]; omega
      have el : ((A.low + 12 * b : Nat) : Int) = (A.low : Int) + 12 * (b : Int) := by omega
      have HR := Lib.hid hR
      clear hR
      go_enter Try.func40, Try.ntmps40
      go_wp2_with fail
      refine FN.mono ?_; rintro e w1 ⟨rfl, hw1⟩
      rw [hw1]
      clear hw1
      go_wp2_with fail
      go_quiet ((go_at_call 29; exact drawn (SN _)))
      have h4 : Rf (World.drewN w nq) r A := h
      have ho4 := (on_refl (fun k => k = r) w).drewN nq
      generalize World.drewN w nq = w4 at *
      have cl4 := h4.low
      clear ch cl fl
      go_wp2_with fail
      have h5 : Rf w4.drew r A := h4
      have ho5 := ho4.drew
      refine wp_region_still_tail 11 (by kernel_rfl) (by kernel_rfl) ?_
      change wpStill _ _ w4.drew (fun a' => wpList _ _ _ _ a' w4.drew) _ _
      generalize w4.drew = w5 at *
      have cl5 := h5.low
      have fl5 := h5.free 41
      have h6 := h5.putLow (A.low + 12 * b)
      have ho6 := ho5.put (g := r) (i := 41) rfl (.int .i64 ((A.low + 12 * b : Nat) : Int))
      rw [el] at h6 ho6
      simp only [List.take_succ_cons, List.take_zero, List.drop_succ_cons, List.drop_zero]
      repeat (first | still_step | still_call (SN _))
      refine wpStill_nil ?_
      go_wp2_with fail
      go_ret
      rw [HR.out]
      exact ⟨rfl, h6, ho6⟩
    · rw [if_neg hle] at hR
      have hleI : decide ((12 : Int) * (b : Int) ≤ (A.high : Int) - (A.low : Int)) = false := by rw [decide_eq_false_iff_not]; omega
      have RA := fun k => rrarely_any (w := w.drewN k) h hi hs hf
      have HR := Lib.hid hR
      clear hR
      go_enter Try.func40, Try.ntmps40
      go_wp2_with fail
      refine FN.mono ?_; rintro e w1 ⟨rfl, hw1⟩
      rw [hw1]
      clear hw1
      go_wp2_with fail
      go_quiet ((go_at_call 29; exact drawn (SN _)))
      go_wp2_with fail
      refine (RA _).mono ?_; rintro e w2 ⟨rfl, hx2, ho2⟩
      go_wp2_with fail
      go_ret
      rw [HR.out]
      exact ⟨rfl, hx2, ((on_refl _ _).drewN _).trans ho2⟩
  · rw [if_neg hz] at hR
    have hm1 : 0 < m := by rw [hm]; exact List.length_pos_iff.2 hz
    have g4 : decide ((0 : Int) < (m : Int)) = true := by rw [decide_eq_true_iff]; omega
    have g5 : decide (0 < m) = true := by rw [decide_eq_true_iff]; omega
    have T := rtake_any h hf (by have := hsh y hf; omega) hz
    have HR := Lib.hid hR
    clear hR hm hz hm1
    go_enter Try.func40, Try.ntmps40
    go_wp2_with fail
    refine FN.mono ?_; rintro e w1 ⟨rfl, hw1⟩
    rw [hw1]
    clear hw1
    go_wp2_with fail
    refine T.mono ?_; rintro e w2 ⟨rfl, hx2, ho2⟩
    go_wp2_with fail
    go_ret
    rw [HR.out]
    exact ⟨rfl, hx2, ho2⟩
set_option maxRecDepth 100000 in
set_option maxHeartbeats 2000000 in
theorem rone_any (h : Rf w r A) (hi : Inv A H) (hs : A.size ≤ 1000000) :
    Calls Try.prog 41 #[.pointer (some ⟨r, 0, none⟩)] w fun e w' => e = .returned (.int .i64 ((oneM A).1 : Nat)) ∧ Rf w' r (oneM A).2 ∧ On (fun k => k = r) w w' := by
  obtain ⟨R, hR⟩ : ∃ R, R = oneM A := ⟨_, rfl⟩
  rw [← hR]
  unfold oneM at hR
  have hsh := hi.short hs 2 (by omega)
  have ho := hi.ord
  have hst := hi.text
  have hsz := hi.size
  have hgap := hi.gap
  have cl := h.low
  have ch := h.high
  by_cases hne : A.high = A.low
  · rw [if_pos hne] at hR
    rw [hne] at ch
    have g0 : ((A.low : Int) != (A.low : Int)) = false := by simp
    obtain ⟨ra, rc, cr⟩ := rlen_any h (i := 0) (by omega)
    obtain ⟨m, hm⟩ : ∃ m, m = (A.rows 0).length := ⟨_, rfl⟩
    rw [← hm] at cr
    by_cases hz : A.rows 0 = []
    · rw [if_pos hz] at hR
      have hm0 : m = 0 := by rw [hm, hz]; rfl
      have g4 : decide ((0 : Int) < (m : Int)) = false := by rw [decide_eq_false_iff_not]; omega
      have g5 : decide (0 < m) = false := by rw [decide_eq_false_iff_not]; omega
      have RA := fun k => rrarely_any (w := w.drewN k) (row := 0) h hi hs (by omega)
      have HR := Lib.hid hR
      clear hR hm hz hm0 hne
      go_enter Try.func41, Try.ntmps41
      go_wp2_with fail
      go_quiet (fail)
      go_wp2_with fail
      refine (RA _).mono ?_; rintro e w2 ⟨rfl, hx2, ho2⟩
      go_wp2_with fail
      go_ret
      rw [HR.out]
      exact ⟨rfl, hx2, ((on_refl _ _).drewN _).trans ho2⟩
    · rw [if_neg hz] at hR
      have hm1 : 0 < m := by rw [hm]; exact List.length_pos_iff.2 hz
      have g4 : decide ((0 : Int) < (m : Int)) = true := by rw [decide_eq_true_iff]; omega
      have g5 : decide (0 < m) = true := by rw [decide_eq_true_iff]; omega
      have T := fun k => rtake_any (w := w.drewN k) (i := 0) h (by omega) (by have := hsh 0 (by omega); omega) hz
      have HR := Lib.hid hR
      clear hR hm hz hm1 hne
      go_enter Try.func41, Try.ntmps41
      go_wp2_with fail
      go_quiet (fail)
      go_wp2_with fail
      refine (T _).mono ?_; rintro e w2 ⟨rfl, hx2, ho2⟩
      go_wp2_with fail
      go_ret
      rw [HR.out]
      exact ⟨rfl, hx2, ((on_refl _ _).drewN _).trans ho2⟩
  · rw [if_neg hne] at hR
    have hneI : ((A.high : Int) == (A.low : Int)) = false := by simp; omega
    have hneI2 : ¬ (A.high : Int) = (A.low : Nat) := by omega
    have HR := Lib.hid hR
    have fl := h.free 42
    have el : ((A.high - 12 : Nat) : Int) = (A.high : Int) - 12 := by omega
    have h2 := fun k => (show Rf (w.drewN k) r A from h).putHigh (A.high - 12)
    have ho2 := fun k => ((on_refl (fun k => k = r) w).drewN k).put (g := r) (i := 42) rfl (.int .i64 ((A.high - 12 : Nat) : Int))
    rw [el] at h2 ho2
    clear hR hne
    go_enter Try.func41, Try.ntmps41
    go_wp2_with fail
    go_quiet (fail)
    go_wp2_with fail
    go_ret
    rw [HR.out]
    refine ⟨?_, h2 _, ho2 _⟩
    dsimp only; rw [el]; rfl
end
end Go.Proofs.Ytplhonlgbidemaa
