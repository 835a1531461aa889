/- A quota that came in as an argument: five numbers that fit. -/
import Derived.Test.YtgcdhbjkkillcaaEnd
import Derived.Lib.SmallJoins
import Derived.Deep.Fields
namespace Go.Proofs.Ytgcdhbjkkillcaa
open Go.ChangeShapes Go.WideShapes Go.ChangeAt Go.RowKit Go.Deep Go.Joins

theorem bd64 {n : Int} (h : (Lit.int .i64 n).wf = true) : -9223372036854775808 ≤ n ∧ n ≤ 9223372036854775807 := by
  have h1 : IntKind.i64.min = -9223372036854775808 := rfl
  have h2 : IntKind.i64.max = 9223372036854775807 := rfl
  simp only [Lit.wf, Bool.and_eq_true, decide_eq_true_eq] at h
  omega
theorem bd32 {n : Int} (h : (Lit.int .u32 n).wf = true) : 0 ≤ n ∧ n ≤ 4294967295 := by
  have h1 : IntKind.u32.min = 0 := rfl
  have h2 : IntKind.u32.max = 4294967295 := rfl
  simp only [Lit.wf, Bool.and_eq_true, decide_eq_true_eq] at h
  omega

theorem quota_open {H : Type} {enc : TypeId × Value → H} {W : World} {base b0 : Nat} {spare : Nat → Bool} {held : Bool} {r : Reach} {v : Value} {d : DataW H} {p : List MemPlace}
    (hv : Value.okWide Try.prog W r b0 23 v) (h : DataW.Trod enc Try.prog W base spare held 23 v d p) :
    ∃ a b c e f : Int, v = .agg #[.int .i64 a, .int .i64 b, .int .i64 c, .int .i64 e, .int .i64 f] ∧ a ≤ 9223372036854775807 ∧ b ≤ 9223372036854775807 ∧ c ≤ 9223372036854775807 ∧ e ≤ 9223372036854775807 ∧ f ≤ 9223372036854775807 := by
  have hs := Try.underlying23
  have hC : Try.prog.cellsOf 23 = 5 := by kernel_rfl
  have h1 : Try.prog.cellsOf 3 = 1 := by kernel_rfl
  obtain ⟨cs, rfl, hsz⟩ := okWide_struct hs hv
  obtain ⟨l⟩ := cs
  match l, hsz.trans hC with
  | [c0, c1, c2, c3, c4], _ =>
    obtain ⟨fuel, hf⟩ := h
    obtain ⟨xs, n, _, hx, _, hlen, hg⟩ := DataW.trod_struct hs hf
    match xs, hlen with
    | [y0, y1, y2, y3, y4], _ =>
      have g0 : DataW.trod enc Try.prog W base spare held n 3 (([c0, c1, c2, c3, c4].drop 0).take (Try.prog.cellsOf 3)) = some y0 := hg 0 _ rfl
      have g1 : DataW.trod enc Try.prog W base spare held n 3 (([c0, c1, c2, c3, c4].drop 1).take (Try.prog.cellsOf 3)) = some y1 := hg 1 _ rfl
      have g2 : DataW.trod enc Try.prog W base spare held n 3 (([c0, c1, c2, c3, c4].drop 2).take (Try.prog.cellsOf 3)) = some y2 := hg 2 _ rfl
      have g3 : DataW.trod enc Try.prog W base spare held n 3 (([c0, c1, c2, c3, c4].drop 3).take (Try.prog.cellsOf 3)) = some y3 := hg 3 _ rfl
      have g4 : DataW.trod enc Try.prog W base spare held n 3 (([c0, c1, c2, c3, c4].drop 4).take (Try.prog.cellsOf 3)) = some y4 := hg 4 _ rfl
      rw [h1] at g0 g1 g2 g3 g4
      obtain ⟨a, e0, _, wa⟩ := DataW.trod_int Try.underlying3 g0
      obtain ⟨b, e1, _, wb⟩ := DataW.trod_int Try.underlying3 g1
      obtain ⟨c, e2, _, wc⟩ := DataW.trod_int Try.underlying3 g2
      obtain ⟨e, e3, _, we⟩ := DataW.trod_int Try.underlying3 g3
      obtain ⟨f, e4, _, wf⟩ := DataW.trod_int Try.underlying3 g4
      simp at e0 e1 e2 e3 e4
      subst e0 e1 e2 e3 e4
      exact ⟨a, b, c, e, f, rfl, (bd64 wa).2, (bd64 wb).2, (bd64 wc).2, (bd64 we).2, (bd64 wf).2⟩
end Go.Proofs.Ytgcdhbjkkillcaa
