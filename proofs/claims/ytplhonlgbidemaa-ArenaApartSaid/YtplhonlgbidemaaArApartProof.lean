/- ArenaApart answers true for every size and every script. No condition. -/
import Derived.Test.YtplhonlgbidemaaArApart
namespace Go.Proofs.Ytplhonlgbidemaa
open Go.ChangeShapes Go.WideShapes Go.ChangeAt Go.RowKit

set_option maxRecDepth 100000 in
theorem arenaApart_lifted (os : Os) (started : os.Started) (H : Type) (enc : TypeId × Value → H) :
    ReturnsInHanded {} Try.checked os 8 .any (Rows.arenaApartSpec.pre6 enc Try.prog Try.f8 Rows.arenaApartRow.domain false) (Rows.arenaApartSpec.post enc Try.prog Try.f8 false true false false) := by
  refine returnsInHanded_of_change (C := Try.checked) own started (by kernel_rfl) Try.func8
    (ChangeSpec.witness6 (enc := enc) (C := Try.checked) false ⟨#[], #[.int .u16 0, .slice none 0 0], []⟩ 8 (by kernel_rfl) (by kernel_rfl) (by kernel_rfl) (by kernel_rfl)) ?_
  intro W base args ds gs before hval0 hW hcnd _
  have hval : ∀ (j : Nat) t v, Try.f8.params[j]? = some t → args[j]? = some v → Value.okWide Try.prog W .any base t v := hval0
  have hW' := hW
  obtain ⟨p, q, hA0, hV, rfl, hfz, hnd⟩ := hW
  have hA : DataW.TrodAll enc Try.prog W 0 (fun _ => true) true Try.f8.params.toList args.toList ds p := hA0
  rw [Try.params8] at hA hval
  obtain ⟨v0, v1, d0, d1, p0, p1, rfl, rfl, rfl, h0, h1⟩ := trodAll_two hA
  obtain ⟨rfl, rfl⟩ := trodVars_none hV
  have hlt := fun x hx => hW'.lt x hx
  have hl0 : ∀ x ∈ p0, x.block < W.heap.size := fun x hx => by have := hlt x (by simp [hx]); simpa using this
  obtain ⟨s, rfl, rfl, rfl, ws⟩ := open_int Try.underlying22 (hval 0 _ _ rfl rfl) h0
  have hl1 : ∀ x ∈ p1, x.block < W.heap.size := fun x hx => by have := hlt x (by simp [hx]); simpa using this
  obtain ⟨A, n, c, K, N, Q, rfl, hn, hS⟩ := script_open (hval 1 _ _ rfl rfl) h1 hl1
  clear hA0 hval0
  refine (apart_int s (bdU16 ws) A n c K N Q hn W hS).mono fun r W' ⟨he, hg⟩ => ?_
  subst he
  exact ⟨_, rfl, law_post hW' (fun x hx => by have := hlt x hx; simpa using this) (by kernel_rfl) (by kernel_rfl) rfl rfl rfl rfl (below_own hg)⟩

/-- ArenaApart: true, whatever the input. -/
theorem arenaApart_holds : Rows.ArenaApartSaid :=
  OpenClaim.holds_of_wide 8 Try.f8 rfl rfl rfl rfl rfl rfl rfl ⟨rfl, rfl, rfl, rfl, rfl⟩ rfl rfl rfl rfl rfl (by kernel_rfl) Try.func8 (by kernel_rfl)
    (of_decide_eq_true (by kernel_rfl)) (by unfold Func.isWrapper; first | (rw [if_pos (by decide +kernel)]; kernel_rfl) | (rw [if_neg (by decide +kernel)]; exact ⟨rfl, rfl⟩))
    (fun os started H enc _ => arenaApart_lifted os started H enc)
#print axioms arenaApart_holds
end Go.Proofs.Ytplhonlgbidemaa
