/- Much, Text, awake. -/
import Derived.Test.YtplhonlgbidemaaArN
namespace Go.Proofs.Ytplhonlgbidemaa
open Go.RowKit

theorem much_any (w : World) : Calls Try.prog 11 #[] w fun e w' => ∃ b, e = .returned (.pointer (some ⟨b, 0, none⟩)) ∧ w.heap.size ≤ b ∧
    Mtr w' b (Mt.new 1099511627776 1099511627776 1099511627776 1099511627776 1099511627776) ∧ w.grownBy w' none := by
  have N := new_ex 1099511627776 1099511627776 1099511627776 1099511627776 1099511627776 w
  go_enter Try.func11, Try.ntmps11
  go_wp2_with fail
  refine N.mono ?_; rintro e w1 ⟨b, rfl, h1, h2, h3⟩
  go_wp2_with fail
  go_ret
  exact ⟨b, rfl, h1, h2, h3⟩
theorem much_good : (Mt.new 1099511627776 1099511627776 1099511627776 1099511627776 1099511627776).Good := new_good _ _ _ _ _ (by omega) (by omega) (by omega) (by omega) (by omega)
theorem much_may {n : Nat} (hn : n ≤ 16777216) : may (Mt.new 1099511627776 1099511627776 1099511627776 1099511627776 1099511627776).cd (Mt.new 1099511627776 1099511627776 1099511627776 1099511627776 1099511627776).qm (Mt.new 1099511627776 1099511627776 1099511627776 1099511627776 1099511627776).um ((n : Int) + 12) = true := by
  simp [may, Mt.new]
  omega
/-- A new arena, with its own meter. -/
theorem anew_much {w : World} {b size : Nat} (h1 : 2048 ≤ size) (h2 : size ≤ 16777216) (hm : Mtr w b (Mt.new 1099511627776 1099511627776 1099511627776 1099511627776 1099511627776)) :
    Calls Try.prog 10 #[.int .i64 (size : Nat), .pointer (some ⟨b, 0, none⟩)] w fun e w' => ∃ g gm, e = .returned (.tuple #[.pointer (some ⟨g, 0, none⟩), .int .i64 0]) ∧
      w.heap.size ≤ g ∧ w.heap.size ≤ gm ∧ Ax w' g gm (.pointer (some ⟨b, 0, none⟩)) (freshM size) [] ∧ w.grownBy w' (some b) :=
  (anew_any h1 h2 hm much_good (much_may h2)).mono fun _ _ ⟨g, gm, e, a, b, c, _, d⟩ => ⟨g, gm, e, a, b, c, d⟩
theorem text_any {w : World} {g gm : Nat} {mt : Value} {A : AM} {F M : Nat → Nat} (ha : Ar w g gm mt A F M) :
    Calls Try.prog 24 #[.pointer (some ⟨g, 0, none⟩)] w fun e w' => e = .returned (.int .i64 (A.text : Nat)) ∧ w' = w := by
  have c := ha.text
  go_enter Try.func24, Try.ntmps24
  go_wp2_with fail
  go_ret
  exact ⟨rfl, rfl⟩
def A1 : AM := { freshM 2048 with high := 2037 }
def A2 : AM := { A1 with low := 309 }
def A3 : AM := { A2 with low := 381 }
theorem one1 : oneM (freshM 2048) = (2037, A1) := rfl
theorem units1 : unitsM A1 2 = (285, A2) := rfl
theorem units2 : unitsM A2 5 = (309, A3) := rfl
set_option maxRecDepth 100000 in
set_option maxHeartbeats 1000000 in
theorem awake_any (w : World) : Calls Try.prog 9 #[] w fun e w' => e = .returned (.bool true) ∧ w.grownBy w' none := by
  go_enter Try.func9, Try.ntmps9
  go_wp2_with fail
  refine (much_any _).mono ?_; rintro e w1 ⟨b, rfl, hb, hm, hG1⟩
  have N := anew_much (size := 2048) (by omega) (by omega) hm
  have e2048 : ((2048 : Nat) : Int) = 2048 := rfl
  rw [e2048] at N
  clear hm
  go_wp2_with fail
  refine N.mono ?_; rintro e w2 ⟨g, gm, rfl, hg, hgm, hx2, hG2⟩
  have hG := grown_own hG1 hb hG2
  have hsz := hG1.size
  clear N hG1 hG2
  have O := one_any hx2
  rw [one1] at O
  go_wp2_with fail
  refine O.mono ?_; rintro e w3 ⟨rfl, hx3, ho3⟩
  clear O hx2
  have U := units_any (n := 2) hx3 (by omega) (by omega)
  rw [units1] at U
  go_wp2_with fail
  refine U.mono ?_; rintro e w4 ⟨rfl, hx4, ho4⟩
  clear U hx3
  have U := units_any (n := 5) hx4 (by omega) (by omega)
  rw [units2] at U
  go_wp2_with fail
  refine U.mono ?_; rintro e w5 ⟨rfl, hx5, ho5⟩
  clear U hx4
  obtain ⟨F, M, ha⟩ := hx5.ar
  have T := text_any ha
  go_wp2_with fail
  refine T.mono ?_; rintro e w6 ⟨rfl, rfl⟩
  go_wp2_with fail
  go_ret
  exact ⟨rfl, ((ho3.trans ho4).trans ho5).grown hG (by unfold two; omega)⟩
end Go.Proofs.Ytplhonlgbidemaa
