/- The queue of the blocks that are held. -/
import Derived.Test.YtplhonlgbidemaaArA
import Derived.ArgAppend
namespace Go.Proofs.Ytplhonlgbidemaa
open Go.RowKit

theorem infoH : (Try.prog.info? 39).map (fun i => (i.zero, i.size, i.bytes)) = some (some (.agg #[.int .i64 0, .int .i64 0]), 2, 16) := by kernel_rfl
/-- Pairs as cells. -/
def prs (L : List (Nat × Nat)) : List Value := L.flatMap fun x => [.int .i64 (x.1 : Nat), .int .i64 (x.2 : Nat)]
theorem prs_len (L : List (Nat × Nat)) : (prs L).length = L.length * 2 := by
  induction L with
  | nil => rfl
  | cons x L ih =>
    have e : prs (x :: L) = [.int .i64 (x.1 : Nat), .int .i64 (x.2 : Nat)] ++ prs L := rfl
    rw [e, List.length_append, ih]
    simp
    omega
theorem prs_app (L L' : List (Nat × Nat)) : prs (L ++ L') = prs L ++ prs L' := by simp [prs]
/-- A slice of pairs of one's own, anywhere in its array. -/
def Ql (w : World) (base : Nat) (v : Value) (L : List (Nat × Nat)) : Prop :=
  (v = .slice none 0 0 ∧ L = []) ∨ ∃ b off cap cs, v = .slice (some ⟨b, off, none⟩) L.length cap ∧ base ≤ b ∧ Blk w b 39 cs ∧ L.length ≤ cap ∧ off + cap * 2 ≤ cs.size ∧ ∀ (j : Nat) (u : Value), (prs L)[j]? = some u → cs[off + j]? = some u
section
variable {w w' : World} {base : Nat} {v : Value} {L : List (Nat × Nat)}
theorem Ql.slice (h : Ql w base v L) : ∃ a c, v = .slice a L.length c := by
  rcases h with ⟨rfl, rfl⟩ | ⟨b, off, cap, cs, rfl, -⟩
  · exact ⟨_, _, rfl⟩
  · exact ⟨_, _, rfl⟩
theorem Ql.on {s : Nat → Prop} (h : Ql w base v L) (ho : On s w w') (hs : ∀ k, s k → ∀ cs, ¬ Blk w k 39 cs) : Ql w' base v L := by
  rcases h with h | ⟨b, off, cap, cs, h1, h2, h3, h4⟩
  · exact .inl h
  · exact .inr ⟨b, off, cap, cs, h1, h2, h3.on ho (fun e => hs b e cs h3), h4⟩
theorem Ql.own (h : w.ownsRow base 39 2 v L.length (prs L)) : Ql w base v L := by
  obtain ⟨hl, ⟨rfl, h0⟩ | ⟨gl, cap, cur, rfl, hgl, hcur, hn, hcap, hsz, htake⟩⟩ := h
  · exact .inl ⟨rfl, List.eq_nil_of_length_eq_zero h0⟩
  · refine .inr ⟨gl, 0, cap, cur, rfl, hgl, hcur, hn, by omega, fun j u hj => ?_⟩
    have hjl : j < L.length * 2 := by
      rcases Nat.lt_or_ge j (L.length * 2) with h | h
      · exact h
      · rw [List.getElem?_eq_none (by rw [prs_len]; exact h)] at hj; cases hj
    rw [← htake, List.getElem?_take, if_pos hjl, Array.getElem?_toList] at hj
    rw [Nat.zero_add]; exact hj
/-- The first pair's cells. -/
theorem Ql.head {x : Nat × Nat} (h : Ql w base v (x :: L)) : ∃ b off cap, v = .slice (some ⟨b, off, none⟩) (L.length + 1) cap ∧ w.cell? ⟨b, off, none⟩ = some (.int .i64 (x.1 : Nat)) ∧ w.cell? ⟨b, off + 1, none⟩ = some (.int .i64 (x.2 : Nat)) := by
  rcases h with ⟨-, h⟩ | ⟨b, off, cap, cs, h1, h2, h3, h4, h5, h6⟩
  · cases h
  · refine ⟨b, off, cap, h1, ?_, ?_⟩
    · rw [h3.cell]; exact h6 0 _ rfl
    · rw [h3.cell]; exact h6 1 _ rfl
/-- What is behind the first. -/
theorem Ql.tail {x : Nat × Nat} {b off cap : Nat} (h : Ql w base (.slice (some ⟨b, off, none⟩) (L.length + 1) cap) (x :: L)) : Ql w base (.slice (some ⟨b, off + 2, none⟩) L.length (cap - 1)) L ∧ 1 ≤ cap := by
  rcases h with ⟨-, h⟩ | ⟨b', off', cap', cs, h1, h2, h3, h4, h5, h6⟩
  · cases h
  · cases h1
    have hc : L.length + 1 ≤ cap := h4
    refine ⟨.inr ⟨b, off + 2, cap - 1, cs, rfl, h2, h3, by omega, by omega, fun j u hj => ?_⟩, by omega⟩
    have := h6 (j + 2) u hj
    rw [show off + 2 + j = off + (j + 2) by omega]
    exact this
/-- .. where the array ends. -/
theorem Ql.tail0 {x : Nat × Nat} {b off : Nat} (h : Ql w base (.slice (some ⟨b, off, none⟩) (L.length + 1) 1) (x :: L)) : Ql w base (.slice (some ⟨b, off, none⟩) L.length 0) L := by
  rcases h with ⟨-, h⟩ | ⟨b', off', cap', cs, h1, h2, h3, h4, h5, h6⟩
  · cases h
  · cases h1
    have hc : L.length + 1 ≤ 1 := h4
    have hL : L = [] := List.eq_nil_of_length_eq_zero (by omega)
    subst hL
    exact .inr ⟨b, off, 0, cs, rfl, h2, h3, Nat.le_refl _, by omega, fun j u hj => by simp [prs] at hj⟩
theorem cells_set2 (w : World) (b o : Nat) (x y : Value) : w.setCells b o [x, y] = (w.setCell ⟨b, o, none⟩ x).setCell ⟨b, o + 1, none⟩ y := rfl
theorem cell_two_new' (w : World) (t : TypeId) (x y : Value) : ∀ j u, [x, y][j]? = some u → (w.alloc (.cells #[x, y] t)).cell? ((⟨w.heap.size, 0, none⟩ : Addr).add j) = some u := by
  intro j u h
  rw [WideShapes.add_plain, Nat.zero_add, (Blk.new w t #[x, y]).cell]
  rw [← h]
  simp
/-- append(list, held{p, n}). -/
theorem append_q {ops : Array Oper} {rest : List Oper} {o : Oper} {a : Act} {Q : Exit → Act → World → Prop} (hgd : o.guard = none) (s x : Operand)
    (ho : o.op = .call { callee := .builtin .append, args := #[s, x], argTypes := #[32, 32] }) (hs : a.eval s = v) (hq : Ql w base v L) (p n : Nat)
    (hx : a.eval x = .slice (some ⟨w.heap.size, 0, none⟩) 1 1) (hlen : L.length ≤ 1073741824) (hbase : base ≤ w.heap.size)
    (h : ∀ v' w', Ql w' base v' (L ++ [(p, n)]) → On (fun k => ∃ cs, Blk (w.alloc (.cells #[.int .i64 (p : Nat), .int .i64 (n : Nat)] 39)) k 39 cs ∧ base ≤ k) (w.alloc (.cells #[.int .i64 (p : Nat), .int .i64 (n : Nat)] 39)) w' → wpList Try.prog ops Q rest (a.put o.dst v') w') :
    wpList Try.prog ops Q (o :: rest) a (w.alloc (.cells #[.int .i64 (p : Nat), .int .i64 (n : Nat)] 39)) := by
  obtain ⟨i0, hi, hz0, hz1, hz2⟩ := info_parts infoH
  have hq1 := hq.on (s := fun _ => False) ((on_refl _ w).alloc (.cells #[.int .i64 (p : Nat), .int .i64 (n : Nat)] 39)) (fun _ e => e.elim)
  have hnew := cell_two_new' w 39 (.int .i64 (p : Nat)) (.int .i64 (n : Nat))
  have hlen1 : (L ++ [(p, n)]).length = L.length + 1 := by simp
  have hprs : prs (L ++ [(p, n)]) = prs L ++ [.int .i64 (p : Nat), .int .i64 (n : Nat)] := by rw [prs_app]; rfl
  have hone : ∀ u ∈ [Value.int .i64 (p : Nat), Value.int .i64 (n : Nat)], u.oneCell' = true := by intro u hu; simp at hu; rcases hu with rfl | rfl <;> rfl
  have hbs : base ≤ (w.alloc (.cells #[.int .i64 (p : Nat), .int .i64 (n : Nat)] 39)).heap.size := by simp; omega
  generalize w.alloc (.cells #[.int .i64 (p : Nat), .int .i64 (n : Nat)] 39) = w1 at *
  have fin : ∀ v' w', w'.ownsRow w1.heap.size 39 2 v' (L.length + 1) (prs L ++ [.int .i64 (p : Nat), .int .i64 (n : Nat)]) → w1.grownBy w' none → wpList Try.prog ops Q rest (a.put o.dst v') w' := by
    intro v' w' hown hg
    refine h v' w' ?_ (On.of_grown hg (by simp))
    have h1 : Ql w' w1.heap.size v' (L ++ [(p, n)]) := Ql.own (by rw [hlen1, hprs]; exact hown)
    rcases h1 with h1 | ⟨b, off, cap, cs, h2, h3, h4⟩
    · exact .inl h1
    · exact .inr ⟨b, off, cap, cs, h2, Nat.le_trans hbs h3, h4⟩
  rcases hq1 with ⟨rfl, rfl⟩ | ⟨b, off, cap, cs, rfl, hb1, hb2, hb3, hb4, hb5⟩
  · exact wpList_append_grows w1 hgd s x _ ho 39 i0 _ 2 16 Try.underlying32 hi hz0 hz1 hz2 rfl (by decide) none 0 0 [] hs (fun _ => ⟨rfl, rfl⟩) rfl (fun b e => by cases e) ⟨w.heap.size, 0, none⟩ 1 1 _ hx rfl hnew hone (by omega) (by unfold maxLen; omega) (by omega) (fun v' w' h1 h2 => fin v' w' h1 h2)
  · have hcur : ∀ j, j < cs.size → ∃ u, w1.cell? ⟨b, j, none⟩ = some u := fun j hj => ⟨cs[j], by rw [hb2.cell]; simp⟩
    refine wpList_append_arg w1 hgd s x _ ho 39 i0 _ 2 16 Try.underlying32 hi hz0 hz1 hz2 rfl (by decide) b off L.length cap (prs L) hs (prs_len L) (fun j u hj => by rw [hb2.cell]; exact hb5 j u hj) ⟨w.heap.size, 0, none⟩ 1 1 _ hx rfl hnew hone (fun hr j hj => ?_) (by unfold maxLen; omega) (by omega) (fun hr => ?_) (fun hr v' w' h1 h2 => fin v' w' h1 h2)
    · obtain ⟨u, hu⟩ := hcur (off + L.length * 2 + j) (by simp at hj; omega)
      exact ⟨by rw [hu]; rfl, hb2.free _⟩
    · rw [cells_set2]
      have hb6 := (hb2.put (off + L.length * 2) (.int .i64 (p : Nat))).put (off + L.length * 2 + 1) (.int .i64 (n : Nat))
      refine h _ _ (.inr ⟨b, off, cap, _, by rw [hlen1], hb1, hb6, by rw [hlen1]; exact hr, by simpa using hb4, fun j u hj => ?_⟩) ?_
      · have hsz : off + (L.length + 1) * 2 ≤ cs.size := by omega
        rw [hprs] at hj
        rw [Array.getElem?_setIfInBounds, Array.getElem?_setIfInBounds]
        by_cases h1 : j < (prs L).length
        · rw [List.getElem?_append_left h1] at hj
          rw [prs_len] at h1
          rw [if_neg (by omega), if_neg (by omega)]
          exact hb5 j u hj
        · rw [List.getElem?_append_right (by omega)] at hj
          rw [prs_len] at hj h1
          by_cases h2 : j = L.length * 2
          · subst h2
            rw [if_neg (by omega), if_pos rfl, if_pos (by omega)]
            simpa using hj
          · by_cases h3 : j = L.length * 2 + 1
            · subst h3
              rw [if_pos (by omega), if_pos (by simp; omega)]
              simpa using hj
            · rw [List.getElem?_eq_none (by simp; omega)] at hj
              cases hj
      · exact ((on_refl _ w1).put (g := b) (i := off + L.length * 2) ⟨cs, hb2, hb1⟩ _).put (g := b) (i := off + L.length * 2 + 1) ⟨cs, hb2, hb1⟩ _
end
end Go.Proofs.Ytplhonlgbidemaa
