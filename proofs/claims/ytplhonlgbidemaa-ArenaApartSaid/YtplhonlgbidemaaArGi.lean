/- Gluing keeps the blocks apart, without the program. -/
import Derived.Test.YtplhonlgbidemaaArDj
namespace Go.Proofs.Ytplhonlgbidemaa

section
variable {A : AM} {H : List Bk} {P N : Nat → Nat} {G : Nat → Bool} {len : Nat}
theorem inv_grow (f : Nat) : ∀ (N : Nat → Nat) (G : Nat → Bool) (i : Nat), i < len → G i = false → Inv A (mkB P N G len ++ H) → Inv A (mkB P (grow P len f N G i).1 (grow P len f N G i).2 len ++ H) := by
  induction f with
  | zero => intro N G i _ _ h; exact h
  | succ f ih =>
    intro N G i hi hg h
    unfold grow
    split
    · exact h
    · rename_i k hk
      obtain ⟨hne, h2⟩ := h.merge hi hg hk
      exact ih _ _ _ hi (by unfold upf; rw [if_neg (fun e => hne e.symm)]; exact hg) h2
theorem inv_join (k : Nat) : ∀ s : (Nat → Nat) × (Nat → Bool), k ≤ len → Inv A (mkB P s.1 s.2 len ++ H) → Inv A (mkB P (joinM P len k s).1 (joinM P len k s).2 len ++ H) := by
  induction k with
  | zero => intro s _ h; exact h
  | succ k ih =>
    intro s hk h
    unfold joinM
    refine ih _ (by omega) ?_
    by_cases e : s.2 k = true
    · rw [if_pos e]; exact h
    · rw [if_neg e]
      exact inv_grow _ _ _ _ (by omega) (by simpa using e) h
end
theorem inv_lay (f : Nat) : ∀ (A : AM) (H : List Bk) (p n : Nat), 1 ≤ n → n ≤ f → Inv A (⟨p, n, false⟩ :: H) → Inv (layF f A p n) H := by
  induction f with
  | zero => intro A H p n h1 h2; omega
  | succ f ih =>
    intro A H p n h1 h2 h
    unfold layF
    split
    · exact h.rest h1 (by assumption)
    · have h' : Inv A (⟨p, 128 + (n - 128), false⟩ :: H) := by rw [show 128 + (n - 128) = n by omega]; exact h
      exact ih _ _ _ _ (by omega) (by omega) ((h'.split (by omega) (by omega)).put (r := 37) (by omega) rfl)
theorem inv_stick {P N : Nat → Nat} {G : Nat → Bool} {H : List Bk} (k : Nat) : ∀ A : AM, Inv A (mkB P N G k ++ H) → Inv (stickM P N G k A) H := by
  induction k with
  | zero => intro A h; exact h
  | succ k ih =>
    intro A h
    unfold stickM
    rw [mk_more, List.append_assoc] at h
    have h := h.swap List.perm_middle
    by_cases e : G k = true
    · rw [if_pos e]
      exact ih _ h.drop
    · rw [if_neg e]
      have e : G k = false := by simpa using e
      rw [e] at h
      exact ih _ (inv_lay _ _ _ _ _ h.loose.1 (Nat.le_refl _) h)
theorem Inv.glued {A : AM} {H : List Bk} (h : Inv A H) : Inv (glueM A) H := by
  have hb := h.bare
  rw [mk_of (frees A.rows)] at hb
  exact inv_stick _ _ (inv_join (P := plc (frees A.rows)) _ (uns (frees A.rows), gns (frees A.rows)) (Nat.le_refl _) hb)
end Go.Proofs.Ytplhonlgbidemaa
