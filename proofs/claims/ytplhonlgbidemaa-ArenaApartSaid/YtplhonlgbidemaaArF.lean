/- What is given out and taken back, without the program. -/
import Derived.Test.YtplhonlgbidemaaArG
namespace Go.Proofs.Ytplhonlgbidemaa

/-- Only the rows and the glue differ. -/
structure Sm (A A' : AM) : Prop where
  size : A'.size = A.size
  text : A'.text = A.text
  start : A'.start = A.start
  low : A'.low = A.low
  high : A'.high = A.high
theorem sm_refl (A : AM) : Sm A A := ⟨rfl, rfl, rfl, rfl, rfl⟩
theorem Sm.trans {A B C : AM} (h : Sm A B) (k : Sm B C) : Sm A C := ⟨k.size.trans h.size, k.text.trans h.text, k.start.trans h.start, k.low.trans h.low, k.high.trans h.high⟩
theorem sm_put (A : AM) (p r : Nat) : Sm A (putM A p r) := ⟨rfl, rfl, rfl, rfl, rfl⟩
theorem sm_take (A : AM) (r : Nat) : Sm A (takeM A r) := ⟨rfl, rfl, rfl, rfl, rfl⟩
theorem sm_bare (A : AM) : Sm A (bare A) := ⟨rfl, rfl, rfl, rfl, rfl⟩
theorem sm_rest (A : AM) (p n : Nat) : Sm A (restM A p n) := by unfold restM; split <;> exact ⟨rfl, rfl, rfl, rfl, rfl⟩
theorem rest_glue (A : AM) (p n : Nat) : (restM A p n).glue = A.glue := by unfold restM; split <;> rfl
theorem sm_layF (f : Nat) : ∀ (A : AM) (p n : Nat), Sm A (layF f A p n) ∧ (layF f A p n).glue = A.glue := by
  induction f with
  | zero => intro A p n; exact ⟨sm_refl A, rfl⟩
  | succ f ih =>
    intro A p n
    unfold layF
    split
    · exact ⟨sm_rest _ _ _, rest_glue _ _ _⟩
    · have := ih (putM A p 37) (p + 1536) (n - 128)
      exact ⟨(sm_put A p 37).trans this.1, this.2⟩
theorem sm_stick (P N : Nat → Nat) (G : Nat → Bool) (k : Nat) : ∀ A : AM, Sm A (stickM P N G k A) ∧ (stickM P N G k A).glue = A.glue := by
  induction k with
  | zero => intro A; exact ⟨sm_refl A, rfl⟩
  | succ k ih =>
    intro A
    unfold stickM
    split
    · exact ih A
    · have h1 := sm_layF (N k) A (P k) (N k)
      have h2 := ih (layM A (P k) (N k))
      exact ⟨h1.1.trans h2.1, h2.2.trans h1.2⟩
theorem sm_glue (A : AM) : Sm A (glueM A) ∧ (glueM A).glue = 255 := by
  unfold glueM
  have h := sm_stick (plc (frees A.rows)) (joinM (plc (frees A.rows)) (frees A.rows).length (frees A.rows).length (uns (frees A.rows), gns (frees A.rows))).1 (joinM (plc (frees A.rows)) (frees A.rows).length (frees A.rows).length (uns (frees A.rows), gns (frees A.rows))).2 (frees A.rows).length (bare A)
  exact ⟨(sm_bare A).trans h.1, h.2⟩

/-- The first row with a block, from row i on, k rows. -/
def findM (rows : Nat → List Nat) : Nat → Nat → Option Nat
  | 0, _ => none
  | k + 1, i => if rows i = [] then findM rows k (i + 1) else some i
theorem findM_some {rows : Nat → List Nat} {k i j : Nat} (h : findM rows k i = some j) : i ≤ j ∧ j < i + k ∧ rows j ≠ [] := by
  induction k generalizing i with
  | zero => cases h
  | succ k ih =>
    unfold findM at h
    split at h
    · have := ih h; exact ⟨by omega, by omega, this.2.2⟩
    · injection h with h; subst h; exact ⟨by omega, by omega, by assumption⟩
/-- No row gives a block: from below the gap. -/
def lastM (A : AM) (r : Nat) : Nat × AM :=
  if A.start - A.text ≤ 12 * sz r then (0, { A with glue := A.glue - 1 }) else (A.start - 12 * sz r, { A with glue := A.glue - 1, start := A.start - 12 * sz r })
def rest2 (A : AM) (r : Nat) : Nat × AM :=
  match findM A.rows (37 - r) (r + 1) with
  | some i => (hd (A.rows i), restM (takeM A i) (hd (A.rows i) + 12 * sz r) (sz i - sz r))
  | none => lastM A r
/-- A block where there is no easy one. -/
def rareM (A : AM) (r : Nat) : Nat × AM :=
  if A.glue = 0 then (if (glueM A).rows r = [] then rest2 (glueM A) r else (hd ((glueM A).rows r), takeM (glueM A) r)) else rest2 A r
def unitsM (A : AM) (n : Nat) : Nat × AM :=
  if A.rows (fr n) = [] then (if 12 * sz (fr n) ≤ A.high - A.low then (A.low, { A with low := A.low + 12 * sz (fr n) }) else rareM A (fr n)) else (hd (A.rows (fr n)), takeM A (fr n))
def oneM (A : AM) : Nat × AM :=
  if A.high = A.low then (if A.rows 0 = [] then rareM A 0 else (hd (A.rows 0), takeM A 0)) else (A.high - 12, { A with high := A.high - 12 })
def shrinkM (A : AM) (p o n : Nat) : Nat × AM :=
  if fr o = fr n then (p, A) else if A.rows (fr n) = [] then (p, restM A (p + 12 * sz (fr n)) (sz (fr o) - sz (fr n))) else (hd (A.rows (fr n)), putM (takeM A (fr n)) p (fr o))
/-- What is loose when x has been given out. -/
def got (x n : Nat) (H : List Bk) : List Bk := if x = 0 then H else ⟨x, n, false⟩ :: H

theorem Inv.glue1 {A : AM} {H : List Bk} (h : Inv A H) (v : Nat) (hv : v ≤ 255) : Inv { A with glue := v } H := ⟨h.dj, h.inn, h.text, h.ord, h.gap, hv, h.size⟩
theorem Inv.lower {A : AM} {H : List Bk} {n : Nat} (h : Inv A H) (hn : 1 ≤ n) (ht : 12 * n < A.start - A.text) (v : Nat) (hv : v ≤ 255) : Inv { A with glue := v, start := A.start - 12 * n } (⟨A.start - 12 * n, n, false⟩ :: H) := by
  have ho := h.ord
  have htx := h.text
  have hin : ∀ b ∈ frees A.rows ++ H, b.g = true ∨ A.start ≤ b.p := by
    intro b hb
    rcases h.inn b hb with e | e
    · exact .inl e
    · exact .inr e.2.1
  have hdj : ∀ b ∈ frees A.rows ++ H, Dj b ⟨A.start - 12 * n, n, false⟩ := by
    intro b hb
    rcases hin b hb with e | e
    · exact .inl e
    · exact .inr (.inr (.inr (by dsimp only; omega)))
  have hp := List.pairwise_append.1 h.dj
  refine ⟨List.pairwise_append.2 ⟨hp.1, List.pairwise_cons.2 ⟨fun b hb => (hdj b (List.mem_append.2 (.inr hb))).symm, hp.2.1⟩, fun a ha b hb => ?_⟩, fun b hb => ?_, ⟨htx.1, by dsimp only; omega⟩, ⟨by dsimp only; omega, ho.2⟩, h.gap, hv, h.size⟩
  · rcases List.mem_cons.1 hb with rfl | hb
    · exact hdj a (List.mem_append.2 (.inl ha))
    · exact hp.2.2 a ha b hb
  · have key : ∀ b, In A b → In { A with glue := v, start := A.start - 12 * n } b := by
      intro b hb
      rcases hb with e | ⟨e1, e2, e3, e4⟩
      · exact .inl e
      · exact .inr ⟨e1, by dsimp only; omega, e3, e4⟩
    rcases List.mem_append.1 hb with hb | hb
    · exact key b (h.inn b (List.mem_append.2 (.inl hb)))
    · rcases List.mem_cons.1 hb with rfl | hb
      · exact .inr ⟨hn, Nat.le_refl _, by dsimp only; omega, .inr (.inl (by dsimp only; omega))⟩
      · exact key b (h.inn b (List.mem_append.2 (.inr hb)))
theorem Inv.upLow {A : AM} {H : List Bk} {n : Nat} (h : Inv A H) (hn : 1 ≤ n) (ht : 12 * n ≤ A.high - A.low) : Inv { A with low := A.low + 12 * n } (⟨A.low, n, false⟩ :: H) := by
  have ho := h.ord
  have hdj : ∀ b ∈ frees A.rows ++ H, Dj b ⟨A.low, n, false⟩ := by
    intro b hb
    rcases h.inn b hb with e | ⟨e1, e2, e3, e4⟩
    · exact .inl e
    · rcases e4 with e4 | e4 | e4
      · omega
      · exact .inr (.inr (.inl e4))
      · exact .inr (.inr (.inr (by dsimp only; omega)))
  have hp := List.pairwise_append.1 h.dj
  refine ⟨List.pairwise_append.2 ⟨hp.1, List.pairwise_cons.2 ⟨fun b hb => (hdj b (List.mem_append.2 (.inr hb))).symm, hp.2.1⟩, fun a ha b hb => ?_⟩, fun b hb => ?_, h.text, ⟨by dsimp only; omega, by dsimp only; omega, ho.2.2⟩, ?_, h.glue, h.size⟩
  · rcases List.mem_cons.1 hb with rfl | hb
    · exact hdj a (List.mem_append.2 (.inl ha))
    · exact hp.2.2 a ha b hb
  · have key : ∀ b, In A b → In { A with low := A.low + 12 * n } b := by
      intro b hb
      rcases hb with e | ⟨e1, e2, e3, e4⟩
      · exact .inl e
      · exact .inr ⟨e1, e2, e3, by dsimp only; omega⟩
    rcases List.mem_append.1 hb with hb | hb
    · exact key b (h.inn b (List.mem_append.2 (.inl hb)))
    · rcases List.mem_cons.1 hb with rfl | hb
      · exact .inr ⟨hn, by dsimp only; omega, by dsimp only; omega, .inr (.inl (Nat.le_refl _))⟩
      · exact key b (h.inn b (List.mem_append.2 (.inr hb)))
  · have := h.gap
    show (A.high - (A.low + 12 * n)) % 12 = 0
    omega
theorem Inv.downHigh {A : AM} {H : List Bk} (h : Inv A H) (hne : A.high ≠ A.low) : Inv { A with high := A.high - 12 } (⟨A.high - 12, 1, false⟩ :: H) := by
  have ho := h.ord
  have hg := h.gap
  have h12 : A.low + 12 ≤ A.high := by omega
  have hdj : ∀ b ∈ frees A.rows ++ H, Dj b ⟨A.high - 12, 1, false⟩ := by
    intro b hb
    rcases h.inn b hb with e | ⟨e1, e2, e3, e4⟩
    · exact .inl e
    · rcases e4 with e4 | e4 | e4
      · omega
      · exact .inr (.inr (.inl (by dsimp only; omega)))
      · exact .inr (.inr (.inr (by dsimp only; omega)))
  have hp := List.pairwise_append.1 h.dj
  refine ⟨List.pairwise_append.2 ⟨hp.1, List.pairwise_cons.2 ⟨fun b hb => (hdj b (List.mem_append.2 (.inr hb))).symm, hp.2.1⟩, fun a ha b hb => ?_⟩, fun b hb => ?_, h.text, ⟨ho.1, by dsimp only; omega, by dsimp only; omega⟩, ?_, h.glue, h.size⟩
  · rcases List.mem_cons.1 hb with rfl | hb
    · exact hdj a (List.mem_append.2 (.inl ha))
    · exact hp.2.2 a ha b hb
  · have key : ∀ b, In A b → In { A with high := A.high - 12 } b := by
      intro b hb
      rcases hb with e | ⟨e1, e2, e3, e4⟩
      · exact .inl e
      · exact .inr ⟨e1, e2, e3, by dsimp only; omega⟩
    rcases List.mem_append.1 hb with hb | hb
    · exact key b (h.inn b (List.mem_append.2 (.inl hb)))
    · rcases List.mem_cons.1 hb with rfl | hb
      · exact .inr ⟨Nat.le_refl _, by dsimp only; omega, by dsimp only; omega, .inr (.inr (Nat.le_refl _))⟩
      · exact key b (h.inn b (List.mem_append.2 (.inr hb)))
  · show (A.high - 12 - A.low) % 12 = 0
    omega
end Go.Proofs.Ytplhonlgbidemaa
