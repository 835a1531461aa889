/- CrcTail answers true for every row of bytes. No condition. -/
import Derived.Test.YtmcifedchgfdhaaCrTail
namespace Go.Proofs.Ytmcifedchgfdhaa
open Go.ChangeShapes Go.WideShapes Go.ChangeAt Go.RowKit

set_option maxRecDepth 100000 in
theorem crcTail_lifted (os : Os) (started : os.Started) (H : Type) (enc : TypeId × Value → H) :
    ReturnsInHanded {} Try.checked os 6 .any (Rows.crcTailSpec.pre6 enc Try.prog Try.f6 Rows.crcTailRow.domain false) (Rows.crcTailSpec.post enc Try.prog Try.f6 false true false false) := by
  refine returnsInHanded_of_change (C := Try.checked) own started (by kernel_rfl) Try.func6
    (ChangeSpec.witness6 (enc := enc) (C := Try.checked) false ⟨#[], #[.slice none 0 0], []⟩ 8 (by kernel_rfl) (by kernel_rfl) (by kernel_rfl) (by kernel_rfl)) ?_
  intro W base args ds gs before hval0 hW hcnd _
  have hval : ∀ (j : Nat) t v, Try.f6.params[j]? = some t → args[j]? = some v → Value.okWide Try.prog W .any base t v := hval0
  have hW' := hW
  obtain ⟨p, q, hA0, hV, rfl, hfz, hnd⟩ := hW
  have hA : DataW.TrodAll enc Try.prog W 0 (fun _ => true) true Try.f6.params.toList args.toList ds p := hA0
  rw [Try.params6] at hA hval
  obtain ⟨v0, d0, rfl, rfl, h0⟩ := trodAll_one hA
  obtain ⟨rfl, rfl⟩ := trodVars_none hV
  have hlt := fun x hx => hW'.lt x hx
  have hl0 : ∀ x ∈ p, x.block < W.heap.size := fun x hx => by have := hlt x (by simp [hx]); simpa using this
  obtain ⟨A, n, c, X, rfl, hnc, hcm, hnil, hX⟩ := bytes_open (hval 0 _ _ rfl rfl) h0
  clear hA0 hval0
  refine (tail_walk A n c _ (by omega) (fun h => by have := hnil h; omega) W (bytes_nat hX)).mono fun r W' ⟨he, hg⟩ => ?_
  subst he
  exact ⟨_, rfl, law_post hW' (fun x hx => by have := hlt x hx; simpa using this) (by kernel_rfl) (by kernel_rfl) rfl rfl rfl rfl (below_own hg)⟩

/-- CrcTail: true, whatever the input. -/
theorem crcTail_holds : Rows.CrcTailSaid :=
  OpenClaim.holds_of_wide 6 Try.f6 rfl rfl rfl rfl rfl rfl rfl ⟨rfl, rfl, rfl, rfl, rfl⟩ rfl rfl rfl rfl rfl (by kernel_rfl) Try.func6 (by kernel_rfl)
    (of_decide_eq_true (by kernel_rfl)) (by unfold Func.isWrapper; first | (rw [if_pos (by decide +kernel)]; kernel_rfl) | (rw [if_neg (by decide +kernel)]; exact ⟨rfl, rfl⟩))
    (fun os started H enc _ => crcTail_lifted os started H enc)
#print axioms crcTail_holds
end Go.Proofs.Ytmcifedchgfdhaa
