/- ArenaNums answers true for every three numbers. No condition. -/
import Derived.Test.YtplhonlgbidemaaArNums
import Derived.Test.YtplhonlgbidemaaBytes
namespace Go.Proofs.Ytplhonlgbidemaa
open Go.ChangeShapes Go.WideShapes Go.ChangeAt Go.RowKit

set_option maxRecDepth 100000 in
theorem arenaNums_lifted (os : Os) (started : os.Started) (H : Type) (enc : TypeId × Value → H) :
    ReturnsInHanded {} Try.checked os 4 .any (Rows.arenaNumsSpec.pre6 enc Try.prog Try.f4 Rows.arenaNumsRow.domain false) (Rows.arenaNumsSpec.post enc Try.prog Try.f4 false true false false) := by
  refine returnsInHanded_of_change (C := Try.checked) own started (by kernel_rfl) Try.func4
    (ChangeSpec.witness6 (enc := enc) (C := Try.checked) false ⟨#[], #[.int .i64 0, .int .i64 0, .int .u8 0], []⟩ 8 (by kernel_rfl) (by kernel_rfl) (by kernel_rfl) (by kernel_rfl)) ?_
  intro W base args ds gs before hval0 hW hcnd _
  have hval : ∀ (j : Nat) t v, Try.f4.params[j]? = some t → args[j]? = some v → Value.okWide Try.prog W .any base t v := hval0
  have hW' := hW
  obtain ⟨p, q, hA0, hV, rfl, hfz, hnd⟩ := hW
  have hA : DataW.TrodAll enc Try.prog W 0 (fun _ => true) true Try.f4.params.toList args.toList ds p := hA0
  rw [Try.params4] at hA hval
  obtain ⟨v0, v1, v2, d0, d1, d2, p0, p1, p2, rfl, rfl, rfl, h0, h1, h2⟩ := trodAll_three hA
  obtain ⟨rfl, rfl⟩ := trodVars_none hV
  have hlt := fun x hx => hW'.lt x hx
  have hl0 : ∀ x ∈ p0, x.block < W.heap.size := fun x hx => by have := hlt x (by simp [hx]); simpa using this
  obtain ⟨a, rfl, rfl, rfl, wa⟩ := open_int Try.underlying3 (hval 0 _ _ rfl rfl) h0
  have hl1 : ∀ x ∈ p1, x.block < W.heap.size := fun x hx => by have := hlt x (by simp [hx]); simpa using this
  obtain ⟨v, rfl, rfl, rfl, wv⟩ := open_int Try.underlying3 (hval 1 _ _ rfl rfl) h1
  have hl2 : ∀ x ∈ p2, x.block < W.heap.size := fun x hx => by have := hlt x (by simp [hx]); simpa using this
  obtain ⟨n, rfl, rfl, rfl, wn⟩ := open_int Try.underlying5 (hval 2 _ _ rfl rfl) h2
  clear hA0 hval0
  refine (nums_walk a v n (bdI64 wa) (bdU8 wn) W).mono fun r W' ⟨he, hg⟩ => ?_
  subst he
  exact ⟨_, rfl, law_post hW' (fun x hx => by have := hlt x hx; simpa using this) (by kernel_rfl) (by kernel_rfl) rfl rfl rfl rfl (below_own hg)⟩

/-- ArenaNums: true, whatever the input. -/
theorem arenaNums_holds : Rows.ArenaNumsSaid :=
  OpenClaim.holds_of_wide 4 Try.f4 rfl rfl rfl rfl rfl rfl rfl ⟨rfl, rfl, rfl, rfl, rfl⟩ rfl rfl rfl rfl rfl (by kernel_rfl) Try.func4 (by kernel_rfl)
    (of_decide_eq_true (by kernel_rfl)) (by unfold Func.isWrapper; first | (rw [if_pos (by decide +kernel)]; kernel_rfl) | (rw [if_neg (by decide +kernel)]; exact ⟨rfl, rfl⟩))
    (fun os started H enc _ => arenaNums_lifted os started H enc)
#print axioms arenaNums_holds
end Go.Proofs.Ytplhonlgbidemaa
