/- The world of the laws: the arena, the document's, the blocks that are held. -/
import Derived.Test.YtplhonlgbidemaaArDl
import Derived.Test.YtplhonlgbidemaaArSh
import Derived.Test.YtplhonlgbidemaaArBg
namespace Go.Proofs.Ytplhonlgbidemaa
open Go.RowKit

theorem over2 {s : Nat → Prop} {w w' : World} {base n z : Nat} {e : TypeId} {v : Value} {xs : List Value} (h : w.ownsRow base e z v n xs) (ho : On s w w') (hs : ∀ k, v.ownBlock = some k → ¬ s k) : w'.ownsRow base e z v n xs := by
  obtain ⟨hl, h | ⟨gl, cap, cur, h1, h2, h3, h4⟩⟩ := h
  · exact ⟨hl, .inl h⟩
  · exact ⟨hl, .inr ⟨gl, cap, cur, h1, h2, (show Blk w gl e cur from h3).on ho (hs gl (by rw [h1]; rfl)), h4⟩⟩
theorem block2 {w : World} {base n z : Nat} {e : TypeId} {v : Value} {xs : List Value} (h : w.ownsRow base e z v n xs) : ∀ k, v.ownBlock = some k → k < w.heap.size ∧ ∃ cs, Blk w k e cs := by
  obtain ⟨hl, ⟨rfl, -⟩ | ⟨gl, cap, cur, rfl, h2, h3, -⟩⟩ := h
  · intro k hk; cases hk
  · intro k hk
    injection hk with hk
    subst hk
    exact ⟨(show Blk w gl e cur from h3).lt, cur, h3⟩
/-- The blocks that are held. -/
def heldB (L : List (Nat × Nat)) : List Bk := L.map fun h => ⟨h.1, sz (fr h.2), false⟩
def Can (L : List (Nat × Nat)) : Prop := ∀ h ∈ L, 1 ≤ h.2 ∧ h.2 ≤ 128
/-- The world: A, with the blocks H loose, is the program's; A2 the document's. -/
structure Wq (base x g gm r : Nat) (mt : Value) (A : AM) (H : List Bk) (A2 : AM) (L : List (Nat × Nat)) (full : Bool) (lv : Value) (w : World) : Prop where
  box : Blk w x 52 #[.pointer (some ⟨g, 0, none⟩), .pointer (some ⟨r, 0, none⟩), lv, .bool full]
  own : w.ownsRow base 39 2 lv L.length (prs L)
  ax : Ax w g gm mt A H
  rf : Rf w r A2
  bx : base ≤ x
  bg : base ≤ g
  bm : base ≤ gm
  br : base ≤ r
section
variable {base x g gm r : Nat} {mt : Value} {A A' : AM} {H H' : List Bk} {A2 A2' : AM} {L L' : List (Nat × Nat)} {full : Bool} {lv lv' : Value} {w w' : World}
theorem Ax.blk (h : Ax w g gm mt A H) : (∃ cs, Blk w g 69 cs) ∧ ∃ ds, Blk w gm 5 ds := (show Ay False w g gm mt A H from ⟨h.ar, fun e => e.elim⟩).blk
theorem Rf.blk (h : Rf w r A) : ∃ cs, Blk w r 85 cs := by obtain ⟨cs, hb, -⟩ := h; exact ⟨cs, hb⟩
/-- Only the blocks of the program's arena have changed. -/
theorem Wq.prog (h : Wq base x g gm r mt A H A2 L full lv w) (hx : Ax w' g gm mt A' H') (ho : On (two g gm) w w') : Wq base x g gm r mt A' H' A2 L full lv w' := by
  obtain ⟨⟨cg, hg⟩, dm, hm⟩ := h.ax.blk
  obtain ⟨cr, hr⟩ := h.rf.blk
  refine ⟨h.box.on ho ?_, over2 h.own ho ?_, hx, h.rf.far ho ?_ ?_, h.bx, h.bg, h.bm, h.br⟩
  · rintro (e | e)
    · exact h.box.apart hg (by decide) e
    · exact h.box.apart hm (by decide) e
  · intro k hk
    obtain ⟨-, cs, hb⟩ := block2 h.own k hk
    rintro (e | e)
    · exact hb.apart hg (by decide) e
    · exact hb.apart hm (by decide) e
  · rintro (e | e)
    · exact hr.apart hg (by decide) e
    · exact hr.apart hm (by decide) e
  · rintro k (e | e)
    · rw [e]; exact .inr ⟨_, _, hg, by decide⟩
    · rw [e]; exact .inr ⟨_, _, hm, by decide⟩
/-- Only the document's arena has changed. -/
theorem Wq.doc (h : Wq base x g gm r mt A H A2 L full lv w) (hr2 : Rf w' r A2') (ho : On (fun k => k = r) w w') : Wq base x g gm r mt A H A2' L full lv w' := by
  obtain ⟨⟨cg, hg⟩, dm, hm⟩ := h.ax.blk
  obtain ⟨cr, hr⟩ := h.rf.blk
  refine ⟨h.box.on ho ?_, over2 h.own ho ?_, h.ax.on ho ?_ ?_, hr2, h.bx, h.bg, h.bm, h.br⟩
  · exact h.box.apart hr (by decide)
  · intro k hk
    obtain ⟨-, cs, hb⟩ := block2 h.own k hk
    exact hb.apart hr (by decide)
  · exact hg.apart hr (by decide)
  · exact hm.apart hr (by decide)
/-- Only new blocks. -/
theorem Wq.on (h : Wq base x g gm r mt A H A2 L full lv w) (ho : On (fun _ => False) w w') : Wq base x g gm r mt A H A2 L full lv w' :=
  ⟨h.box.on ho id, over2 h.own ho (fun _ _ => id), h.ax.on ho id id, h.rf.on ho id (fun _ e => e.elim), h.bx, h.bg, h.bm, h.br⟩
/-- Only blocks of the list's own type. -/
theorem Wq.list (h : Wq base x g gm r mt A H A2 L full lv w) {s : Nat → Prop} (ho : On s w w') (hs : ∀ k, s k → ∃ cs, Blk w k 39 cs) :
    Blk w' x 52 #[.pointer (some ⟨g, 0, none⟩), .pointer (some ⟨r, 0, none⟩), lv, .bool full] ∧ Ax w' g gm mt A H ∧ Rf w' r A2 := by
  obtain ⟨⟨cg, hg⟩, dm, hm⟩ := h.ax.blk
  obtain ⟨cr, hr⟩ := h.rf.blk
  refine ⟨h.box.on ho fun e => ?_, h.ax.on ho (fun e => ?_) (fun e => ?_), h.rf.far ho (fun e => ?_) (fun k e => ?_)⟩
  · obtain ⟨cs, hb⟩ := hs _ e; exact h.box.apart hb (by decide) rfl
  · obtain ⟨cs, hb⟩ := hs _ e; exact hg.apart hb (by decide) rfl
  · obtain ⟨cs, hb⟩ := hs _ e; exact hm.apart hb (by decide) rfl
  · obtain ⟨cs, hb⟩ := hs _ e; exact hr.apart hb (by decide) rfl
  · obtain ⟨cs, hb⟩ := hs _ e; exact .inr ⟨_, _, hb, by decide⟩
/-- The box is written. -/
theorem Wq.boxed (h : Wq base x g gm r mt A H A2 L full lv w) (i : Nat) (v : Value) :
    Ax (w.setCell ⟨x, i, none⟩ v) g gm mt A H ∧ Rf (w.setCell ⟨x, i, none⟩ v) r A2 ∧ (w.setCell ⟨x, i, none⟩ v).ownsRow base 39 2 lv L.length (prs L) := by
  obtain ⟨⟨cg, hg⟩, dm, hm⟩ := h.ax.blk
  obtain ⟨cr, hr⟩ := h.rf.blk
  have ho := (on_refl (fun k => k = x) w).put (g := x) (i := i) rfl v
  refine ⟨h.ax.on ho ?_ ?_, h.rf.far ho ?_ ?_, over2 h.own ho ?_⟩
  · exact hg.apart h.box (by decide)
  · exact hm.apart h.box (by decide)
  · exact hr.apart h.box (by decide)
  · intro k e; rw [e]; exact .inr ⟨_, _, h.box, by decide⟩
  · intro k hk
    obtain ⟨-, cs, hb⟩ := block2 h.own k hk
    exact hb.apart h.box (by decide)
theorem Wq.putFull (h : Wq base x g gm r mt A H A2 L full lv w) (b : Bool) : Wq base x g gm r mt A H A2 L b lv (w.setCell ⟨x, 3, none⟩ (.bool b)) := by
  obtain ⟨h1, h2, h3⟩ := h.boxed 3 (.bool b)
  exact ⟨h.box.put 3 _, h3, h1, h2, h.bx, h.bg, h.bm, h.br⟩
/-- A list of one's own takes the list's place. -/
theorem Wq.putList (h : Wq base x g gm r mt A H A2 L full lv w) (hn : w.ownsRow base 39 2 lv' L'.length (prs L')) : Wq base x g gm r mt A H A2 L' full lv' (w.setCell ⟨x, 2, none⟩ lv') := by
  obtain ⟨h1, h2, -⟩ := h.boxed 2 lv'
  have ho := (on_refl (fun k => k = x) w).put (g := x) (i := 2) rfl lv'
  refine ⟨h.box.put 2 _, over2 hn ho ?_, h1, h2, h.bx, h.bg, h.bm, h.br⟩
  intro k hk
  obtain ⟨-, cs, hb⟩ := block2 hn k hk
  exact hb.apart h.box (by decide)
/-- The list has taken in something. -/
theorem Wq.appended (h : Wq base x g gm r mt A H A2 L full lv w) {s : Nat → Prop} (ho : On s w w') (hs : ∀ k, s k → ∃ cs, Blk w k 39 cs) (hn : w'.ownsRow base 39 2 lv' L'.length (prs L')) :
    Wq base x g gm r mt A H A2 L' full lv' (w'.setCell ⟨x, 2, none⟩ lv') := by
  obtain ⟨hb, ha, hr⟩ := h.list ho hs
  obtain ⟨⟨cg, hg⟩, dm, hm⟩ := ha.blk
  obtain ⟨cr, hrb⟩ := hr.blk
  have ho2 := (on_refl (fun k => k = x) w').put (g := x) (i := 2) rfl lv'
  refine ⟨hb.put 2 _, over2 hn ho2 ?_, ha.on ho2 ?_ ?_, hr.far ho2 ?_ ?_, h.bx, h.bg, h.bm, h.br⟩
  · intro k hk
    obtain ⟨-, cs, hc⟩ := block2 hn k hk
    exact hc.apart hb (by decide)
  · exact hg.apart hb (by decide)
  · exact hm.apart hb (by decide)
  · exact hrb.apart hb (by decide)
  · intro k e; rw [e]; exact .inr ⟨_, _, hb, by decide⟩
/-- The list's cells. -/
theorem prs_at (L : List (Nat × Nat)) : ∀ k (hk : k < L.length), (prs L)[k * 2]? = some (.int .i64 ((L[k]'hk).1 : Nat)) ∧ (prs L)[k * 2 + 1]? = some (.int .i64 ((L[k]'hk).2 : Nat)) := by
  induction L with
  | nil => intro k hk; cases hk
  | cons y L ih =>
    intro k hk
    cases k with
    | zero => exact ⟨rfl, rfl⟩
    | succ k =>
      have := ih k (by simpa using hk)
      have e : ∀ j, (prs (y :: L))[(k + 1) * 2 + j]? = (prs L)[k * 2 + j]? := by
        intro j
        rw [show (k + 1) * 2 + j = (k * 2 + j) + 2 by omega]
        rfl
      have e0 := e 0
      rw [Nat.add_zero, Nat.add_zero] at e0
      rw [e0, e 1]
      exact this
theorem own_held (h : w.ownsRow base 39 2 lv L.length (prs L)) (hne : 0 < L.length) :
    ∃ b c cs, lv = .slice (some ⟨b, 0, none⟩) L.length c ∧ L.length ≤ c ∧ base ≤ b ∧ Blk w b 39 cs ∧ cs.size = c * 2 ∧ ∀ (j : Nat) (u : Value), (prs L)[j]? = some u → cs[j]? = some u := by
  obtain ⟨hl, ⟨-, h0⟩ | ⟨gl, cap, cur, rfl, hgl, hcur, hn, hcap, hsz, htake⟩⟩ := h
  · omega
  · refine ⟨gl, cap, cur, rfl, hn, hgl, hcur, hsz, fun j u hj => ?_⟩
    have hjl : j < L.length * 2 := by
      rcases Nat.lt_or_ge j (L.length * 2) with h | h
      · exact h
      · rw [List.getElem?_eq_none (by rw [prs_len]; exact h)] at hj; cases hj
    rw [← htake, List.getElem?_take, if_pos hjl, Array.getElem?_toList] at hj
    exact hj
end
end Go.Proofs.Ytplhonlgbidemaa
