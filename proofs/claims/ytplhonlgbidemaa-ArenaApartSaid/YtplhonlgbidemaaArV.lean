/- Units, One, Free, Push, Text, Pop. -/
import Derived.Test.YtplhonlgbidemaaArU
namespace Go.Proofs.Ytplhonlgbidemaa
open Go.RowKit

section
variable {w : World} {g gm : Nat} {mt : Value} {A : AM} {H : List Bk}
theorem units_no (w : World) (g : Nat) {n : Int} (hn : n < 1 ∨ 128 < n) :
    Calls Try.prog 12 #[.pointer (some ⟨g, 0, none⟩), .int .i64 n] w fun e w' => e = .returned (.int .i64 0) ∧ w' = w := by
  by_cases h1 : n < 1
  · go_enter Try.func12, Try.ntmps12
    go_wp2_with fail
    go_ret
    exact ⟨rfl, rfl⟩
  · have h2 : 128 < n := by omega
    go_enter Try.func12, Try.ntmps12
    go_wp2_with fail
    go_ret
    exact ⟨rfl, rfl⟩
set_option maxRecDepth 100000 in
set_option maxHeartbeats 2000000 in
theorem units_any {n : Nat} (h : Ax w g gm mt A H) (hn1 : 1 ≤ n) (hn2 : n ≤ 128) :
    Calls Try.prog 12 #[.pointer (some ⟨g, 0, none⟩), .int .i64 (n : Nat)] w fun e w' =>
      e = .returned (.int .i64 ((unitsM A n).1 : Nat)) ∧ Ax w' g gm mt (unitsM A n).2 (got (unitsM A n).1 (sz (fr n)) H) ∧ On (two g gm) w w' := by
  obtain ⟨R, hR⟩ : ∃ R, R = unitsM A n := ⟨_, rfl⟩
  rw [← hR]
  unfold unitsM at hR
  have hf := fr_lt hn2
  have hfI : ((fr n : Nat) : Int) < 38 := by omega
  have SH := shut_no h
  have hi := h.inv
  have ho := hi.ord
  have hst := hi.text
  have hsz := hi.size
  have hs1 := sz_pos (fr n)
  have hs2 := sz_le hf
  obtain ⟨M, ha, hc⟩ := h.2
  have cw := ha.which hn1 hn2
  have cu := ha.units hf
  have cr := ha.row hf
  have b1 : ¬ (n : Int) < 1 := by omega
  have b2 : ¬ (128 : Int) < n := by omega
  have b3 : (n : Int) < 129 := by omega
  cases hrow : A.rows (fr n) with
  | cons x l =>
    have T := take_any h hf hrow
    have hx0 := hi.free hf (x := x) (by rw [hrow]; simp)
    have hxn : x ≠ 0 := by omega
    rw [hrow] at cr
    have e0 : hd (x :: l) = x := rfl
    rw [e0] at cr
    rw [hrow, if_neg (by simp), e0] at hR
    have HR := Lib.hid hR
    clear hR ha hc h hrow
    go_enter Try.func12, Try.ntmps12
    go_wp2_with fail
    refine SH.mono ?_; rintro e w1 ⟨rfl, rfl⟩
    go_wp2_with fail
    refine T.mono ?_; rintro e w2 ⟨rfl, hx2, ho2⟩
    go_wp2_with fail
    go_ret
    rw [HR.out]
    refine ⟨rfl, ?_, ho2⟩
    unfold got
    dsimp only
    rw [if_neg hxn]
    exact hx2
  | nil =>
    rw [hrow] at cr
    have e0 : hd [] = 0 := rfl
    rw [e0] at cr
    rw [hrow, if_pos rfl] at hR
    by_cases hle : 12 * sz (fr n) ≤ A.high - A.low
    · rw [if_pos hle] at hR
      have hleI : ((sz (fr n) : Nat) : Int) * 12 ≤ (A.high : Int) - (A.low : Nat) := by omega
      have HU := Lib.hid (hi.upLow hs1 hle)
      have HR := Lib.hid hR
      have cl := ha.low
      have ch := ha.high
      have fl := ha.free 210
      have el : ((A.low + 12 * sz (fr n) : Nat) : Int) = (A.low : Int) + (sz (fr n) : Nat) * 12 := by omega
      have ha2 := fun k => (ha.drewN k).putLow (A.low + 12 * sz (fr n))
      have ho2 := fun k => ((on_refl (two g gm) w).drewN k).put (g := g) (i := 210) (.inl rfl) (.int .i64 ((A.low + 12 * sz (fr n) : Nat) : Int))
      rw [el] at ha2 ho2
      clear hR h hrow ha el
      go_enter Try.func12, Try.ntmps12
      go_wp2_with fail
      refine SH.mono ?_; rintro e w1 ⟨rfl, rfl⟩
      go_wp2_with fail
      go_quiet (fail)
      go_wp2_with fail
      go_ret
      rw [HR.out]
      refine ⟨?_, ?_, ho2 _⟩
      · rfl
      · unfold got
        dsimp only
        rw [if_neg (by omega)]
        exact ⟨HU.out, M, ha2 _, hc⟩
    · rw [if_neg hle] at hR
      have hleI : decide (((sz (fr n) : Nat) : Int) * 12 ≤ (A.high : Int) - (A.low : Nat)) = false := by rw [decide_eq_false_iff_not]; omega
      have HR := Lib.hid hR
      have cl := ha.low
      have ch := ha.high
      have RA := fun k => rarely_any (h.drewN k) hf
      clear hR hrow ha h hc
      go_enter Try.func12, Try.ntmps12
      go_wp2_with fail
      refine SH.mono ?_; rintro e w1 ⟨rfl, rfl⟩
      go_wp2_with fail
      go_quiet (fail)
      go_wp2_with fail
      refine (RA _).mono ?_; rintro e w2 ⟨rfl, hx2, ho2⟩
      go_wp2_with fail
      go_ret
      rw [HR.out]
      exact ⟨rfl, hx2, ((on_refl _ _).drewN _).trans ho2⟩
set_option maxRecDepth 100000 in
set_option maxHeartbeats 2000000 in
theorem one_any (h : Ax w g gm mt A H) :
    Calls Try.prog 13 #[.pointer (some ⟨g, 0, none⟩)] w fun e w' =>
      e = .returned (.int .i64 ((oneM A).1 : Nat)) ∧ Ax w' g gm mt (oneM A).2 (got (oneM A).1 1 H) ∧ On (two g gm) w w' := by
  obtain ⟨R, hR⟩ : ∃ R, R = oneM A := ⟨_, rfl⟩
  rw [← hR]
  unfold oneM at hR
  have SH := shut_no h
  have hi := h.inv
  have ho := hi.ord
  have hst := hi.text
  have hsz := hi.size
  have hgap := hi.gap
  obtain ⟨M, ha, hc⟩ := h.2
  have cl := ha.low
  have ch := ha.high
  by_cases hne : A.high = A.low
  · rw [if_pos hne] at hR
    rw [hne] at ch
    have cr := ha.row (i := 0) (by omega)
    cases hrow : A.rows 0 with
    | cons x l =>
      have T := fun k => take_any (h.drewN k) (show 0 < 38 by omega) hrow
      have hx0 := hi.free (show 0 < 38 by omega) (x := x) (by rw [hrow]; simp)
      have hxn : x ≠ 0 := by omega
      rw [hrow] at cr
      have e0 : hd (x :: l) = x := rfl
      rw [e0] at cr
      rw [hrow, if_neg (by simp), e0] at hR
      have HR := Lib.hid hR
      clear hR ha hc h hrow hne
      go_enter Try.func13, Try.ntmps13
      go_wp2_with fail
      refine SH.mono ?_; rintro e w1 ⟨rfl, rfl⟩
      go_wp2_with fail
      go_quiet (fail)
      go_wp2_with fail
      refine (T _).mono ?_; rintro e w2 ⟨rfl, hx2, ho2⟩
      go_wp2_with fail
      go_ret
      rw [HR.out]
      refine ⟨rfl, ?_, ((on_refl _ _).drewN _).trans ho2⟩
      unfold got
      dsimp only
      rw [if_neg hxn]
      exact hx2
    | nil =>
      rw [hrow] at cr
      have e0 : hd [] = 0 := rfl
      rw [e0] at cr
      rw [hrow, if_pos rfl] at hR
      have HR := Lib.hid hR
      have RA := fun k => rarely_any (h.drewN k) (show 0 < 38 by omega)
      clear hR hrow ha h hc hne
      go_enter Try.func13, Try.ntmps13
      go_wp2_with fail
      refine SH.mono ?_; rintro e w1 ⟨rfl, rfl⟩
      go_wp2_with fail
      go_quiet (fail)
      go_wp2_with fail
      refine (RA _).mono ?_; rintro e w2 ⟨rfl, hx2, ho2⟩
      go_wp2_with fail
      go_ret
      rw [HR.out]
      exact ⟨rfl, hx2, ((on_refl _ _).drewN _).trans ho2⟩
  · rw [if_neg hne] at hR
    have hneI : ((A.high : Int) == (A.low : Nat)) = false := by simp; omega
    have hneI2 : ¬ (A.high : Int) = (A.low : Nat) := by omega
    have HU := Lib.hid (hi.downHigh hne)
    have HR := Lib.hid hR
    have fl := ha.free 211
    have el : ((A.high - 12 : Nat) : Int) = (A.high : Int) - 12 := by omega
    have ha2 := fun k => (ha.drewN k).putHigh (A.high - 12)
    have ho2 := fun k => ((on_refl (two g gm) w).drewN k).put (g := g) (i := 211) (.inl rfl) (.int .i64 ((A.high - 12 : Nat) : Int))
    rw [el] at ha2 ho2
    clear hR h ha
    go_enter Try.func13, Try.ntmps13
    go_wp2_with fail
    refine SH.mono ?_; rintro e w1 ⟨rfl, rfl⟩
    go_wp2_with fail
    go_quiet (fail)
    go_wp2_with fail
    go_ret
    rw [HR.out]
    refine ⟨?_, ?_, ho2 _⟩
    · dsimp only; rw [el]; rfl
    · unfold got
      dsimp only
      rw [if_neg (by omega)]
      exact ⟨HU.out, M, ha2 _, hc⟩
theorem release_any {p n : Nat} (h : Ax w g gm mt A (⟨p, sz (fr n), false⟩ :: H)) (hn1 : 1 ≤ n) (hn2 : n ≤ 128) :
    Calls Try.prog 14 #[.pointer (some ⟨g, 0, none⟩), .int .i64 (p : Nat), .int .i64 (n : Nat)] w fun e w' =>
      e = .returned (.tuple #[]) ∧ Ax w' g gm mt (putM A p (fr n)) H ∧ On (two g gm) w w' := by
  have P := put_any h (fr_lt hn2) rfl
  obtain ⟨M, ha, hc⟩ := h.2
  have cw := ha.which hn1 hn2
  clear ha hc h
  go_enter Try.func14, Try.ntmps14
  go_wp2_with fail
  refine P.mono ?_; rintro e w1 ⟨rfl, hx, ho⟩
  go_wp2_with fail
  go_end0
  exact ⟨rfl, hx, ho⟩
end
end Go.Proofs.Ytplhonlgbidemaa
