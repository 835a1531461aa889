/- The document's glue: three rows, written in place. -/
import Derived.Test.YtplhonlgbidemaaArDg
namespace Go.Proofs.Ytplhonlgbidemaa
open Go.RowKit

/-- The first len cells of block b. -/
def Cl (w : World) (b : Nat) (t : TypeId) (len : Nat) (X : Nat → Value) : Prop := ∃ cs, Blk w b t cs ∧ ∀ i, i < len → cs[i]? = some (X i)
theorem Cl.cell {w : World} {b len : Nat} {t : TypeId} {X : Nat → Value} (h : Cl w b t len X) {i : Nat} (hi : i < len) : w.cell? ⟨b, i, none⟩ = some (X i) := by
  obtain ⟨cs, hb, hx⟩ := h; rw [hb.cell]; exact hx i hi
theorem Cl.free {w : World} {b len : Nat} {t : TypeId} {X : Nat → Value} (h : Cl w b t len X) (i : Nat) : w.frozen? ⟨b, i, none⟩ = false := by
  obtain ⟨cs, hb, -⟩ := h; exact hb.free i
theorem Cl.lt {w : World} {b len : Nat} {t : TypeId} {X : Nat → Value} (h : Cl w b t len X) : b < w.heap.size := by
  obtain ⟨cs, hb, -⟩ := h; exact hb.lt
theorem Cl.on {s : Nat → Prop} {w w' : World} {b len : Nat} {t : TypeId} {X : Nat → Value} (h : Cl w b t len X) (ho : On s w w') (hs : ¬ s b) : Cl w' b t len X := by
  obtain ⟨cs, hb, hx⟩ := h; exact ⟨cs, hb.on ho hs, hx⟩
theorem Cl.put {w : World} {b len : Nat} {t : TypeId} {X : Nat → Value} (h : Cl w b t len X) {i : Nat} (v : Value) : Cl (w.setCell ⟨b, i, none⟩ v) b t len (upf X i v) := by
  obtain ⟨cs, hb, hx⟩ := h
  refine ⟨_, hb.put i v, fun j hj => ?_⟩
  rw [get_set cs _ (hx j hj)]
  unfold upf
  by_cases e : i = j
  · rw [if_pos e, if_pos e.symm]
  · rw [if_neg e, if_neg (fun h => e h.symm)]
theorem Cl.far {w : World} {b b' len : Nat} {t : TypeId} {X : Nat → Value} (h : Cl w b t len X) (hb : b ≠ b') (i : Nat) (v : Value) : Cl (w.setCell ⟨b', i, none⟩ v) b t len X :=
  h.on ((on_refl (fun k => k = b') w).put (g := b') (i := i) rfl v) hb
theorem Cl.cong {w : World} {b len : Nat} {t : TypeId} {X Y : Nat → Value} (h : Cl w b t len X) (hxy : ∀ i, i < len → X i = Y i) : Cl w b t len Y := by
  obtain ⟨cs, hb, hx⟩ := h; exact ⟨cs, hb, fun i hi => by rw [hx i hi, hxy i hi]⟩
/-- A row of one's own that is not empty, as its cells. -/
theorem own_cl {w : World} {base : Nat} {e : TypeId} {v : Value} {xs : List Value} (h : w.ownsRow base e 1 v xs.length xs) (h0 : 0 < xs.length) (X : Nat → Value) (hX : ∀ i, i < xs.length → xs[i]? = some (X i)) :
    ∃ b c, v = .slice (some ⟨b, 0, none⟩) xs.length c ∧ base ≤ b ∧ Cl w b e xs.length X := by
  obtain ⟨hl, ⟨-, h⟩ | ⟨gl, cap, cur, h1, h2, h3, h4, h5, h6, h7⟩⟩ := h
  · omega
  · refine ⟨gl, cap, h1, h2, cur, h3, fun i hi => ?_⟩
    rw [← hX i hi]
    conv => rhs; rw [← h7]
    rw [List.getElem?_take, if_pos (by omega), Array.getElem?_toList]
/-- The three rows: places, units, who counts no more. -/
structure Tri (w : World) (ba bn bi len : Nat) (P N : Nat → Nat) (G : Nat → Bool) : Prop where
  a : Cl w ba 3 len fun i => .int .i64 (P i : Nat)
  n : Cl w bn 3 len fun i => .int .i64 (N i : Nat)
  g : Cl w bi 4 len fun i => .bool (G i)
  ne : ba ≠ bn
section
variable {w w' : World} {ba bn bi len : Nat} {P N : Nat → Nat} {G : Nat → Bool}
theorem Tri.ne2 (h : Tri w ba bn bi len P N G) : ba ≠ bi ∧ bn ≠ bi := by
  obtain ⟨⟨c1, h1, -⟩, ⟨c2, h2, -⟩, ⟨c3, h3, -⟩, -⟩ := h
  exact ⟨h1.apart h3 (by decide), h2.apart h3 (by decide)⟩
theorem Tri.on {s : Nat → Prop} (h : Tri w ba bn bi len P N G) (ho : On s w w') (h1 : ¬ s ba) (h2 : ¬ s bn) (h3 : ¬ s bi) : Tri w' ba bn bi len P N G :=
  ⟨h.a.on ho h1, h.n.on ho h2, h.g.on ho h3, h.ne⟩
theorem Tri.putA (h : Tri w ba bn bi len P N G) (i v : Nat) : Tri (w.setCell ⟨ba, i, none⟩ (.int .i64 (v : Nat))) ba bn bi len (upf P i v) N G :=
  ⟨(h.a.put (i := i) (.int .i64 (v : Nat))).cong (fun j _ => by unfold upf; split <;> rfl), h.n.far (fun e => h.ne e.symm) _ _, h.g.far (fun e => h.ne2.1 e.symm) _ _, h.ne⟩
theorem Tri.putN (h : Tri w ba bn bi len P N G) (i v : Nat) : Tri (w.setCell ⟨bn, i, none⟩ (.int .i64 (v : Nat))) ba bn bi len P (upf N i v) G :=
  ⟨h.a.far h.ne _ _, (h.n.put (i := i) (.int .i64 (v : Nat))).cong (fun j _ => by unfold upf; split <;> rfl), h.g.far (fun e => h.ne2.2 e.symm) _ _, h.ne⟩
theorem Tri.putG (h : Tri w ba bn bi len P N G) (i : Nat) (v : Bool) : Tri (w.setCell ⟨bi, i, none⟩ (.bool v)) ba bn bi len P N (upf G i v) :=
  ⟨h.a.far h.ne2.1 _ _, h.n.far h.ne2.2 _ _, (h.g.put (i := i) (.bool v)).cong (fun j _ => by unfold upf; split <;> rfl), h.ne⟩
end
/-- No block below k is taken in by block i. -/
def Dry (P N : Nat → Nat) (G : Nat → Bool) (i k : Nat) : Prop := ∀ j, j < k → ¬ (G j = false ∧ P j = P i + 12 * N i ∧ N i + N j < 65536)
theorem Dry.more {P N : Nat → Nat} {G : Nat → Bool} {i k : Nat} (h : Dry P N G i k) (hk : ¬ (G k = false ∧ P k = P i + 12 * N i ∧ N i + N k < 65536)) : Dry P N G i (k + 1) := by
  intro j hj
  by_cases e : j = k
  · subst e; exact hk
  · exact h j (by omega)
theorem Dry.all {P N : Nat → Nat} {G : Nat → Bool} {i len : Nat} (h : Dry P N G i len) : nxt P len N G i = none := by
  cases hn : nxt P len N G i with
  | none => rfl
  | some k =>
    obtain ⟨h1, h2, h3, h4⟩ := nxt_some hn
    exact absurd ⟨h3, h2, h4⟩ (h k h1)
end Go.Proofs.Ytplhonlgbidemaa
