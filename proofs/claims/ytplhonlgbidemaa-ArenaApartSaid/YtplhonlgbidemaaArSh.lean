/- Shrink. -/
import Derived.Test.YtplhonlgbidemaaArX
import Derived.Test.YtplhonlgbidemaaArV
namespace Go.Proofs.Ytplhonlgbidemaa
open Go.RowKit
section
variable {w : World} {g gm : Nat} {mt : Value} {A : AM} {H : List Bk}
/-- Move, into a loose block. -/
theorem moved_any {x a q n : Nat} (h : Ax w g gm mt A (⟨x, a, false⟩ :: H)) (hn1 : 1 ≤ n) (hna : n ≤ a) (hq : q + 12 * n ≤ A.size + 13) :
    Calls Try.prog 19 #[.pointer (some ⟨g, 0, none⟩), .int .i64 (x : Nat), .int .i64 (q : Nat), .int .i64 (n : Nat)] w fun e w' =>
      e = .returned (.tuple #[]) ∧ Ax w' g gm mt A (⟨x, a, false⟩ :: H) ∧ On (two g gm) w w' := by
  obtain ⟨hi, M, ha, hc⟩ := h
  have hl := hi.loose
  refine (move_any ha hn1 (p := x) (q := q) (by omega) hq).mono ?_
  rintro e w' ⟨rfl, ha', ho⟩
  refine ⟨rfl, ⟨hi, _, ha', fun i hi38 => (hc i hi38).keep fun z hz => ?_⟩, ho⟩
  have hap := hi.apart hi38 hz
  have hsp := sz_pos i
  have e : ∀ j, j < 4 → mov M x q (12 * n) (z + j) = M (z + j) := fun j hj => if_neg (by omega)
  unfold num4
  have e0 := e 0 (by omega)
  rw [Nat.add_zero] at e0
  rw [e0, e 1 (by omega), e 2 (by omega), e 3 (by omega)]
set_option maxRecDepth 100000 in
set_option maxHeartbeats 2000000 in
theorem shrink_any {p o n : Nat} (h : Ax w g gm mt A (⟨p, sz (fr o), false⟩ :: H)) (h1 : 1 ≤ n) (h2 : n ≤ o) (h3 : o ≤ 128) :
    Calls Try.prog 43 #[.pointer (some ⟨g, 0, none⟩), .int .i64 (p : Nat), .int .i64 (o : Nat), .int .i64 (n : Nat)] w fun e w' =>
      e = .returned (.int .i64 ((shrinkM A p o n).1 : Nat)) ∧ Ax w' g gm mt (shrinkM A p o n).2 (⟨(shrinkM A p o n).1, sz (fr n), false⟩ :: H) ∧ On (two g gm) w w' := by
  obtain ⟨R, hR⟩ : ∃ R, R = shrinkM A p o n := ⟨_, rfl⟩
  rw [← hR]
  unfold shrinkM at hR
  have hl := h.inv.loose
  have hnx := sz_fr n
  have hno := sz_fr o
  have hfo := fr_lt h3
  have hfn : fr n < 38 := fr_lt (by omega)
  have hmon := fr_mono h2
  have hst := h.inv.text
  have SH := fun k => shut_no (h.drewN k)
  obtain ⟨M, ha, hc⟩ := h.2
  have co := ha.which (n := o) (by omega) h3
  have cn := ha.which (n := n) h1 (by omega)
  obtain ⟨x, hx⟩ : ∃ x, x = fr o := ⟨_, rfl⟩
  obtain ⟨y, hy⟩ : ∃ y, y = fr n := ⟨_, rfl⟩
  rw [← hx] at h co hfo hmon hR hl hno
  rw [← hy] at cn hfn hmon hR hnx ⊢
  have cr := ha.row hfn
  have bo : (o : Int) < 129 := by omega
  have bn : (n : Int) < 129 := by omega
  have by38 : (y : Int) < 38 := by omega
  have HX := Lib.hid hx
  have HY := Lib.hid hy
  clear ha hc hx hy
  go_enter Try.func43, Try.ntmps43
  by_cases hxe : x = y
  · have g1 : ((x : Int) == (y : Int)) = true := by simp; omega
    have g2 : (x == y) = true := by simp; omega
    rw [if_pos hxe] at hR
    have HR := Lib.hid hR
    have HE := Lib.hid hxe
    clear hR hxe
    go_wp2_with fail
    go_quiet (fail)
    go_wp2_with fail
    refine (SH _).mono ?_; rintro e w1 ⟨rfl, rfl⟩
    go_wp2_with fail
    go_ret
    rw [HR.out]
    refine ⟨rfl, ?_, (on_refl _ _).drewN _⟩
    rw [← HE.out]
    exact h
  · have g1 : ((x : Int) == (y : Int)) = false := by simp; omega
    have g2 : (x == y) = false := by simp; omega
    have g3 : ¬ x = y := hxe
    rw [if_neg hxe] at hR
    cases hrow : A.rows y with
    | nil =>
      rw [hrow] at cr
      have e0 : hd [] = 0 := rfl
      rw [e0] at cr
      rw [hrow, if_pos rfl] at hR
      have HR := Lib.hid hR
      have PT := fun k => part_any (w := w.drewN k) h (show y < x by omega) hfo
      clear hR hrow hxe
      go_wp2_with fail
      go_quiet (fail)
      go_wp2_with fail
      refine (SH _).mono ?_; rintro e w1 ⟨rfl, rfl⟩
      go_wp2_with fail
      refine (PT _).mono ?_; rintro e w2 ⟨rfl, hx2, ho2⟩
      go_wp2_with fail
      go_ret
      rw [HR.out]
      exact ⟨rfl, hx2, ((on_refl _ _).drewN _).trans ho2⟩
    | cons z l =>
      have T := fun k => take_any (w := w.drewN k) h hfn hrow
      have hz0 := h.inv.free hfn (x := z) (by rw [hrow]; simp)
      have hzn : z ≠ 0 := by omega
      have hznI : ¬ (z : Int) = 0 := by omega
      have hznB : ((z : Int) != 0) = true := by simp; omega
      rw [hrow] at cr
      have e0 : hd (z :: l) = z := rfl
      rw [e0] at cr
      rw [hrow, if_neg (by simp), e0] at hR
      have HR := Lib.hid hR
      clear hR hrow hxe
      go_wp2_with fail
      go_quiet (fail)
      go_wp2_with fail
      refine (SH _).mono ?_; rintro e w1 ⟨rfl, rfl⟩
      go_wp2_with fail
      refine (T _).mono ?_; rintro e w2 ⟨rfl, hx2, ho2⟩
      have MV := moved_any (q := p) (n := n) hx2 h1 (by omega) (by show _ ≤ A.size + 13; omega)
      clear T hx2
      go_wp2_with fail
      refine MV.mono ?_; rintro e w3 ⟨rfl, hx3, ho3⟩
      have PU := put_any (hx3.swap (List.Perm.swap _ _ _)) hfo rfl
      clear MV hx3
      go_wp2_with fail
      refine PU.mono ?_; rintro e w4 ⟨rfl, hx4, ho4⟩
      go_wp2_with fail
      go_ret
      rw [HR.out]
      exact ⟨rfl, hx4, ((((on_refl _ _).drewN _).trans ho2).trans ho3).trans ho4⟩
end
end Go.Proofs.Ytplhonlgbidemaa
