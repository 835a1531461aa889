/- The document's glue: the first part. -/
import Derived.Test.YtplhonlgbidemaaArRb
import Derived.Test.YtplhonlgbidemaaArJ
namespace Go.Proofs.Ytplhonlgbidemaa
open Go.RowKit

theorem infoBo : (Try.prog.info? 4).map (fun i => (i.zero, i.size, i.bytes)) = some (some (.bool false), 1, 1) := by kernel_rfl
def pof (L : List Bk) : List Value := L.map fun b => .int .i64 (b.p : Nat)
def nof (L : List Bk) : List Value := L.map fun b => .int .i64 (b.n : Nat)
def gof (L : List Bk) : List Value := L.map fun b => .bool b.g
theorem own_over {s : Nat → Prop} {w w' : World} {base n : Nat} {e : TypeId} {v : Value} {xs : List Value} (h : w.ownsRow base e 1 v n xs) (ho : On s w w') (hs : ∀ k, v.ownBlock = some k → ¬ s k) : w'.ownsRow base e 1 v n xs := by
  obtain ⟨hl, h | ⟨gl, cap, cur, h1, h2, h3, h4⟩⟩ := h
  · exact ⟨hl, .inl h⟩
  · exact ⟨hl, .inr ⟨gl, cap, cur, h1, h2, (show Blk w gl e cur from h3).on ho (hs gl (by rw [h1]; rfl)), h4⟩⟩
theorem own_block {w : World} {base n : Nat} {e : TypeId} {v : Value} {xs : List Value} (h : w.ownsRow base e 1 v n xs) : ∀ k, v.ownBlock = some k → k < w.heap.size ∧ ∃ cs, Blk w k e cs := by
  obtain ⟨hl, ⟨rfl, -⟩ | ⟨gl, cap, cur, rfl, h2, h3, -⟩⟩ := h
  · intro k hk; cases hk
  · intro k hk
    injection hk with hk
    subst hk
    exact ⟨(show Blk w gl e cur from h3).lt, cur, h3⟩
/-- The arena while its rows are emptied: the rows below k are. -/
def Rg (wr : World) (r : Nat) (A : AM) (k : Nat) (V : Nat → Value) : Prop :=
  ∃ cs, Blk wr r 85 cs ∧ cs[0]? = some (.int .i64 (A.size : Nat)) ∧ (∀ i, i < 38 → cs[1 + i]? = some (if i < k then .slice none 0 0 else V i))
    ∧ cs[39]? = some (.int .i64 (A.text : Nat)) ∧ cs[40]? = some (.int .i64 (A.start : Nat)) ∧ cs[41]? = some (.int .i64 (A.low : Nat)) ∧ cs[42]? = some (.int .i64 (A.high : Nat)) ∧ cs[43]? = some (.int .i64 ((255 : Nat) : Int))
theorem Rg.on {s : Nat → Prop} {w w' : World} {r k : Nat} {A : AM} {V : Nat → Value} (h : Rg w r A k V) (ho : On s w w') (hr : ¬ s r) : Rg w' r A k V := by
  obtain ⟨cs, hb, h0⟩ := h; exact ⟨cs, hb.on ho hr, h0⟩
theorem Rg.cell {w : World} {r k : Nat} {A : AM} {V : Nat → Value} (h : Rg w r A k V) (hk : k < 38) : w.cell? ⟨r, 1 + k, none⟩ = some (V k) := by
  obtain ⟨cs, hb, h0, h1, h2⟩ := h; rw [hb.cell, h1 k hk, if_neg (Nat.lt_irrefl k)]
theorem Rg.free {w : World} {r k : Nat} {A : AM} {V : Nat → Value} (h : Rg w r A k V) (i : Nat) : w.frozen? ⟨r, i, none⟩ = false := by
  obtain ⟨cs, hb, -⟩ := h; exact hb.free i
theorem Rg.next {w : World} {r k : Nat} {A : AM} {V : Nat → Value} (h : Rg w r A k V) (hk : k < 38) : Rg (w.setCell ⟨r, 1 + k, none⟩ (.slice none 0 0)) r A (k + 1) V := by
  obtain ⟨cs, hb, h0, h1, h2, h3, h4, h5, h6⟩ := h
  refine ⟨_, hb.put (1 + k) _, by rw [get_set cs _ h0, if_neg (by omega)], fun i hi => ?_, by rw [get_set cs _ h2, if_neg (by omega)], by rw [get_set cs _ h3, if_neg (by omega)], by rw [get_set cs _ h4, if_neg (by omega)], by rw [get_set cs _ h5, if_neg (by omega)], by rw [get_set cs _ h6, if_neg (by omega)]⟩
  rw [get_set cs _ (h1 i hi)]
  by_cases e : k = i
  · rw [if_pos (by omega), if_pos (by omega)]
  · rw [if_neg (by omega)]
    by_cases e2 : i < k
    · rw [if_pos e2, if_pos (by omega)]
    · rw [if_neg e2, if_neg (by omega)]
theorem Rg.bare {w : World} {r : Nat} {A : AM} {V : Nat → Value} (h : Rg w r A 38 V) (B : Nat → Prop) : RfB w B r (bare A) := by
  obtain ⟨cs, hb, h0, h1, h2⟩ := h
  exact ⟨cs, hb, h0, fun i hi => ⟨_, by rw [h1 i hi, if_pos hi], RowB.nil w B⟩, h2⟩
/-- What has been gathered. -/
def GlL (w : World) (r : Nat) (A : AM) (V : Nat → Value) (k : Nat) (L : List Bk) (va vn vi : Value) (wr : World) : Prop :=
  Rg wr r A k V ∧ On (fun b => b = r) w wr ∧ wr.ownsRow w.heap.size 3 1 va L.length (pof L) ∧ wr.ownsRow w.heap.size 3 1 vn L.length (nof L) ∧ wr.ownsRow w.heap.size 4 1 vi L.length (gof L) ∧ ∀ b, va.ownBlock = some b → vn.ownBlock ≠ some b
section
variable {w w' : World} {r : Nat} {A : AM}
/-- A block more. -/
theorem GlL.more {V : Nat → Value} {k : Nat} {L : List Bk} {va vn vi va' vn' vi' : Value} {w1 w2 w3 w4 w5 w6 wr : World} {x y : Nat} (h : GlL w r A V k L va vn vi wr) (hr : r < w.heap.size)
    (a1 : On (fun _ => False) wr w1) (g1 : w1.grownBy w2 va.ownBlock) (o1 : w2.ownsRow w.heap.size 3 1 va' (L.length + 1) (pof L ++ [.int .i64 (x : Nat)])) (b1 : ∀ b, va'.ownBlock = some b → va.ownBlock = some b ∨ wr.heap.size ≤ b)
    (a2 : On (fun _ => False) w2 w3) (g2 : w3.grownBy w4 vn.ownBlock) (o2 : w4.ownsRow w.heap.size 3 1 vn' (L.length + 1) (nof L ++ [.int .i64 (y : Nat)])) (b2 : ∀ b, vn'.ownBlock = some b → vn.ownBlock = some b ∨ w2.heap.size ≤ b)
    (a3 : On (fun _ => False) w4 w5) (g3 : w5.grownBy w6 vi.ownBlock) (o3 : w6.ownsRow w.heap.size 4 1 vi' (L.length + 1) (gof L ++ [.bool false])) :
    GlL w r A V k (L ++ [⟨x, y, false⟩]) va' vn' vi' w6 := by
  obtain ⟨hR, hO, ha, hn, hi, hd⟩ := h
  have ba := own_base ha
  have bn := own_base hn
  have bi := own_base hi
  have s1 : On (fun b => va.ownBlock = some b) wr w2 := (a1.mono (fun _ e => e.elim)).trans (On.of_grown g1 (fun k e => e))
  have s2 : On (fun b => vn.ownBlock = some b) w2 w4 := (a2.mono (fun _ e => e.elim)).trans (On.of_grown g2 (fun k e => e))
  have s3 : On (fun b => vi.ownBlock = some b) w4 w6 := (a3.mono (fun _ e => e.elim)).trans (On.of_grown g3 (fun k e => e))
  have hR6 := ((hR.on s1 (fun e => by have := ba r e; omega)).on s2 (fun e => by have := bn r e; omega)).on s3 (fun e => by have := bi r e; omega)
  have big : ∀ {s : Nat → Prop} {x y : World}, On s x y → (∀ k, s k → w.heap.size ≤ k) → On (fun b => b = r) w x → On (fun b => b = r) w y := fun h hs h0 =>
    ⟨h.os.trans h0.os, h.tape.trans h0.tape, h.output.trans h0.output, Nat.le_trans h0.size h.size, fun k hk hr => (h.block k (Nat.lt_of_lt_of_le hk h0.size) (fun e => by have := hs k e; omega)).trans (h0.block k hk hr)⟩
  have hO6 := big s3 (fun k e => bi k e) (big s2 (fun k e => bn k e) (big s1 (fun k e => ba k e) hO))
  have hi2 := own_over hi s1 (fun k e e' => by
    obtain ⟨-, c1, h1⟩ := own_block hi k e
    obtain ⟨-, c2, h2⟩ := own_block ha k e'
    exact h1.apart h2 (by decide) rfl)
  have hn2 := own_over hn s1 (fun k e e' => hd k e' e)
  have hi4 := own_over hi2 s2 (fun k e e' => by
    obtain ⟨-, c1, h1⟩ := own_block hi2 k e
    obtain ⟨-, c2, h2⟩ := own_block hn2 k e'
    exact h1.apart h2 (by decide) rfl)
  have ha4 := own_over o1 s2 (fun k e e' => by
    rcases b1 k e with h | h
    · exact hd k h e'
    · have := (own_block hn k e').1; omega)
  have ha6 := own_over ha4 s3 (fun k e e' => by
    obtain ⟨-, c1, h1⟩ := own_block ha4 k e
    obtain ⟨-, c2, h2⟩ := own_block hi4 k e'
    exact h1.apart h2 (by decide) rfl)
  have hn6 := own_over o2 s3 (fun k e e' => by
    obtain ⟨-, c1, h1⟩ := own_block o2 k e
    obtain ⟨-, c2, h2⟩ := own_block hi4 k e'
    exact h1.apart h2 (by decide) rfl)
  refine ⟨hR6, hO6, ?_, ?_, ?_, fun b e e' => ?_⟩
  · rw [List.length_append]; simpa [pof] using ha6
  · rw [List.length_append]; simpa [nof] using hn6
  · rw [List.length_append]; simpa [gof] using o3
  · rcases b2 b e' with h | h
    · rcases b1 b e with k | k
      · exact hd b k h
      · have := (own_block hn b h).1; omega
    · have := (own_block o1 b e).1; omega
theorem GlL.next {V : Nat → Value} {k : Nat} {va vn vi : Value} {wr : World} (h : GlL w r A V k (outs A k ++ bks k ((A.rows k).take (A.rows k).length)) va vn vi wr) (hk : k < 38) (hr : r < w.heap.size) :
    GlL w r A V (k + 1) (outs A (k + 1)) va vn vi (wr.setCell ⟨r, 1 + k, none⟩ (.slice none 0 0)) := by
  rw [List.take_length, ← outs_succ] at h
  obtain ⟨a1, a2, a3, a4, a5, a6⟩ := h
  exact ⟨a1.next hk, a2.put (g := r) (i := 1 + k) rfl _, own_far a3 hr _, own_far a4 hr _, own_far a5 hr _, a6⟩
end
end Go.Proofs.Ytplhonlgbidemaa
