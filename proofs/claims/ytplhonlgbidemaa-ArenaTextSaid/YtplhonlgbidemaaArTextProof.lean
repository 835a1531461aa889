/- ArenaText answers true for every size, every row of bytes and every number. No condition. -/
import Derived.Test.YtplhonlgbidemaaArText
namespace Go.Proofs.Ytplhonlgbidemaa
open Go.ChangeShapes Go.WideShapes Go.ChangeAt Go.RowKit

set_option maxRecDepth 100000 in
theorem arenaText_lifted (os : Os) (started : os.Started) (H : Type) (enc : TypeId × Value → H) :
    ReturnsInHanded {} Try.checked os 5 .any (Rows.arenaTextSpec.pre6 enc Try.prog Try.f5 Rows.arenaTextRow.domain false) (Rows.arenaTextSpec.post enc Try.prog Try.f5 false true false false) := by
  refine returnsInHanded_of_change (C := Try.checked) own started (by kernel_rfl) Try.func5
    (ChangeSpec.witness6 (enc := enc) (C := Try.checked) false ⟨#[], #[.int .u16 0, .slice none 0 0, .int .u8 0], []⟩ 8 (by kernel_rfl) (by kernel_rfl) (by kernel_rfl) (by kernel_rfl)) ?_
  intro W base args ds gs before hval0 hW hcnd _
  have hval : ∀ (j : Nat) t v, Try.f5.params[j]? = some t → args[j]? = some v → Value.okWide Try.prog W .any base t v := hval0
  have hW' := hW
  obtain ⟨p, q, hA0, hV, rfl, hfz, hnd⟩ := hW
  have hA : DataW.TrodAll enc Try.prog W 0 (fun _ => true) true Try.f5.params.toList args.toList ds p := hA0
  rw [Try.params5] at hA hval
  obtain ⟨v0, v1, v2, d0, d1, d2, p0, p1, p2, rfl, rfl, rfl, h0, h1, h2⟩ := trodAll_three hA
  obtain ⟨rfl, rfl⟩ := trodVars_none hV
  have hlt := fun x hx => hW'.lt x hx
  have hl0 : ∀ x ∈ p0, x.block < W.heap.size := fun x hx => by have := hlt x (by simp [hx]); simpa using this
  obtain ⟨s, rfl, rfl, rfl, ws⟩ := open_int Try.underlying22 (hval 0 _ _ rfl rfl) h0
  have hl1 : ∀ x ∈ p1, x.block < W.heap.size := fun x hx => by have := hlt x (by simp [hx]); simpa using this
  obtain ⟨A, n, c, X, rfl, hnc, hcm, hnil, hX⟩ := bytes_open (hval 1 _ _ rfl rfl) h1
  have hl2 : ∀ x ∈ p2, x.block < W.heap.size := fun x hx => by have := hlt x (by simp [hx]); simpa using this
  obtain ⟨o, rfl, rfl, rfl, wo⟩ := open_int Try.underlying5 (hval 2 _ _ rfl rfl) h2
  clear hA0 hval0
  refine (text_int s o (bdU16 ws) (bdU8 wo) A n c X (by omega) W hX).mono fun r W' ⟨he, hg⟩ => ?_
  subst he
  exact ⟨_, rfl, law_post hW' (fun x hx => by have := hlt x hx; simpa using this) (by kernel_rfl) (by kernel_rfl) rfl rfl rfl rfl (below_own hg)⟩

/-- ArenaText: true, whatever the input. -/
theorem arenaText_holds : Rows.ArenaTextSaid :=
  OpenClaim.holds_of_wide 5 Try.f5 rfl rfl rfl rfl rfl rfl rfl ⟨rfl, rfl, rfl, rfl, rfl⟩ rfl rfl rfl rfl rfl (by kernel_rfl) Try.func5 (by kernel_rfl)
    (of_decide_eq_true (by kernel_rfl)) (by unfold Func.isWrapper; first | (rw [if_pos (by decide +kernel)]; kernel_rfl) | (rw [if_neg (by decide +kernel)]; exact ⟨rfl, rfl⟩))
    (fun os started H enc _ => arenaText_lifted os started H enc)
#print axioms arenaText_holds
end Go.Proofs.Ytplhonlgbidemaa
