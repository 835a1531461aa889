/- ArenaAgain, without the program. -/
import Derived.Test.YtplhonlgbidemaaArF
namespace Go.Proofs.Ytplhonlgbidemaa

def blks (L : List (Nat × Nat)) : List Bk := L.map fun x => ⟨x.1, sz (fr x.2), false⟩
theorem blks_app (L L' : List (Nat × Nat)) : blks (L ++ L') = blks L ++ blks L' := by simp [blks]
/-- Who has got x for n units holds it. -/
def holdM (L : List (Nat × Nat)) (x n : Nat) : List (Nat × Nat) := if x = 0 then L else L ++ [(x, n)]
theorem got_hold (L : List (Nat × Nat)) (x n : Nat) : (got x (sz (fr n)) (blks L)).Perm (blks (holdM L x n)) := by
  unfold got holdM
  split
  · exact List.Perm.refl _
  · rw [blks_app]
    exact (List.perm_append_comm (l₁ := [⟨x, sz (fr n), false⟩]) (l₂ := blks L))
/-- A step: what is given out; the arena and the blocks that are held behind it. -/
def agStep (A : AM) (L : List (Nat × Nat)) (k n : Int) : Nat × AM × List (Nat × Nat) :=
  if k = 0 then (if n < 1 ∨ 128 < n then (0, A, L) else ((unitsM A n.toNat).1, (unitsM A n.toNat).2, holdM L (unitsM A n.toNat).1 n.toNat))
  else if k = 1 then ((oneM A).1, (oneM A).2, holdM L (oneM A).1 1)
  else if k = 2 then (match L with | [] => (0, A, []) | x :: L => (0, putM A x.1 (fr x.2), L))
  else (0, A, L)
def agS (K N : Nat → Int) (A0 : AM) : Nat → AM × List (Nat × Nat)
  | 0 => (A0, [])
  | k + 1 => (agStep (agS K N A0 k).1 (agS K N A0 k).2 (K k) (N k)).2
def agX (K N : Nat → Int) (A0 : AM) (k : Nat) : Nat := (agStep (agS K N A0 k).1 (agS K N A0 k).2 (K k) (N k)).1
def Fine (L : List (Nat × Nat)) : Prop := ∀ x ∈ L, 1 ≤ x.2 ∧ x.2 ≤ 128
theorem fine_hold {L : List (Nat × Nat)} {x n : Nat} (h : Fine L) (h1 : 1 ≤ n) (h2 : n ≤ 128) : Fine (holdM L x n) := by
  unfold holdM
  split
  · exact h
  · intro y hy
    rcases List.mem_append.1 hy with hy | hy
    · exact h y hy
    · rw [List.mem_singleton.1 hy]; exact ⟨h1, h2⟩
theorem hold_len (L : List (Nat × Nat)) (x n : Nat) : (holdM L x n).length ≤ L.length + 1 := by unfold holdM; split <;> simp
theorem agS_fine (K N : Nat → Int) (A0 : AM) (k : Nat) : Fine (agS K N A0 k).2 ∧ (agS K N A0 k).2.length ≤ k := by
  induction k with
  | zero => exact ⟨fun x hx => (by cases hx), Nat.le_refl _⟩
  | succ k ih =>
    obtain ⟨i1, i2⟩ := ih
    show Fine (agStep (agS K N A0 k).1 (agS K N A0 k).2 (K k) (N k)).2.2 ∧ (agStep (agS K N A0 k).1 (agS K N A0 k).2 (K k) (N k)).2.2.length ≤ k + 1
    unfold agStep
    split
    · split
      · exact ⟨i1, by dsimp only; omega⟩
      · have := hold_len (agS K N A0 k).2 (unitsM (agS K N A0 k).1 (N k).toNat).1 (N k).toNat
        exact ⟨fine_hold i1 (by omega) (by omega), by dsimp only; omega⟩
    · split
      · have := hold_len (agS K N A0 k).2 (oneM (agS K N A0 k).1).1 1
        exact ⟨fine_hold i1 (by omega) (by omega), by dsimp only; omega⟩
      · split
        · split
          · exact ⟨fun x hx => (by cases hx), by simp⟩
          · rename_i x L he
            rw [he] at i1 i2
            exact ⟨fun y hy => i1 y (List.mem_cons_of_mem _ hy), by simp at i2 ⊢; omega⟩
        · exact ⟨i1, by dsimp only; omega⟩
end Go.Proofs.Ytplhonlgbidemaa
