/- append onto a list of one's own, of some or of none, in a region that draws its order. -/
import Derived.Test.YtplhonlgbidemaaArPd
import Derived.Deep.RegionLawGrows
namespace Go.Proofs.Ytplhonlgbidemaa
open Go.RowKit

/-- Nothing is appended. -/
theorem run_append_none_h (w : World) (ty : TypeId) (b off n c : Nat) (ra : Option Addr) (rc : Nat) (hn : n ≤ c) :
    (Builtin.append_ #[32, 32] ty #[.slice (some ⟨b, off, none⟩) n c, .slice ra 0 rc]).run Try.prog w = .ok (.slice (some ⟨b, off, none⟩) n c) w := by
  obtain ⟨i0, hi0, hz0, hz1, hz2⟩ := info_parts infoH
  have hst := run_storeCells_cells (P := Try.prog) b (off + n * i0.size) [] 0 w (fun j hj => by simp at hj) (fun j hj => by simp at hj) (fun v hv => by cases hv)
  simp only [Nat.add_zero] at hst
  have e0 : w.setCells b (off + n * i0.size) [] = w := rfl
  rw [e0] at hst
  cases ra with
  | none => simp [Builtin.append_, run_underlying Try.underlying32, sizeOf, typeInfo, hi0, Builtin.lenOf, hn, hst, Builtin.firstCells, WideShapes.add_plain]
  | some ad =>
    have hfc := run_firstCells_some (P := Try.prog) w i0.size 0 ad 0 rc [] (by simp) (fun j u hj => by simp at hj)
    simp [Builtin.append_, run_underlying Try.underlying32, sizeOf, typeInfo, hi0, Builtin.lenOf, hn, hfc, hst, WideShapes.add_plain]
theorem step_append_h (w : World) {ops : Array Oper} {o : Oper} {a : Act} {K : Act → World → Prop} {Q : Exit → Act → World → Prop} {E : Prop} (hgd : o.guard = none) (s x : Operand)
    (ho : o.op = .call { callee := .builtin .append, args := #[s, x], argTypes := #[32, 32] }) (base g n c : Nat) (xs : List Value)
    (hs : a.eval s = .slice (some ⟨g, 0, none⟩) n c) (hown : w.ownsRow base 39 2 (.slice (some ⟨g, 0, none⟩) n c) n xs) (ra : Option Addr) (m c2 : Nat) (news : List Value) (hx : a.eval x = .slice ra m c2)
    (hm : 0 < m → ∃ ad, ra = some ad ∧ ∀ j u, news[j]? = some u → w.cell? (ad.add j) = some u) (hl : news.length = m * 2) (h1 : ∀ u ∈ news, u.oneCell' = true) (nm : Nat) (hnm : n + m = nm) (hb : nm ≤ 1000000) (hbase : base ≤ w.heap.size)
    (h : ∀ g' cap w', w'.ownsRow base 39 2 (.slice (some ⟨g', 0, none⟩) nm cap) nm (xs ++ news) → w.grownBy w' (some g) → K (a.put o.dst (.slice (some ⟨g', 0, none⟩) nm cap)) w') :
    if Region.wanted o (yielded ops a.tmps) = true then Oper.wp Try.prog o a w K Q else E := by
  subst hnm
  rcases Nat.eq_zero_or_pos m with rfl | hmp
  · have hn : news = [] := List.eq_nil_of_length_eq_zero (by omega)
    subst hn
    have hnc : n ≤ c := by
      obtain ⟨-, ⟨e, -⟩ | ⟨gl, cap, cur, e, -, -, hn, -⟩⟩ := hown
      · cases e
      · injection e with e1 e2 e3; omega
    have hw : Region.wanted o (yielded ops a.tmps) = true := by simp [Region.wanted, hgd]
    rw [if_pos hw]
    unfold Oper.wp execOp
    simp only [ho, resolve, invoke, builtin, Sem.run_bind, Sem.run_pure, Result.andThen_ok, List.map_toArray, List.map_cons, List.map_nil, hs, hx, run_append_none_h w o.type g 0 n c ra c2 hnc]
    exact h g c w (by rw [List.append_nil]; exact hown) (grown_refl _ _)
  · obtain ⟨ad, rfl, hc⟩ := hm hmp
    obtain ⟨i0, hi0, hz0, hz1, hz2⟩ := info_parts infoH
    exact step_append_lies w hgd s x 32 ho base 39 i0 _ 2 16 Try.underlying32 hi0 hz0 hz1 hz2 rfl (by decide) _ n xs hs hown ad m c2 news hx hl hc h1 hmp (by unfold maxLen; omega) (by omega) hbase _ rfl
      (fun g' cap w' h2 h3 _ _ => h g' cap w' h2 h3)
theorem own_empty_h (w : World) : (w.alloc (.cells #[] 39)).ownsRow w.heap.size 39 2 (.slice (some ⟨w.heap.size, 0, none⟩) 0 0) 0 [] :=
  ⟨rfl, .inr ⟨w.heap.size, 0, #[], rfl, Nat.le_refl _, heap_alloc_new w _, Nat.le_refl _, by unfold maxLen; omega, rfl, rfl⟩⟩
theorem own_less {w : World} {base base' n z : Nat} {e : TypeId} {v : Value} {xs : List Value} (h : w.ownsRow base e z v n xs) (hb : base' ≤ base) : w.ownsRow base' e z v n xs := by
  obtain ⟨hl, h | ⟨gl, cap, cur, h1, h2, h3⟩⟩ := h
  · exact ⟨hl, .inl h⟩
  · exact ⟨hl, .inr ⟨gl, cap, cur, h1, Nat.le_trans hb h2, h3⟩⟩
theorem prs_one (L : List (Nat × Nat)) : ∀ u ∈ prs L, u.oneCell' = true := by
  intro u hu
  obtain ⟨y, -, hy⟩ := List.mem_flatMap.1 hu
  simp at hy
  rcases hy with rfl | rfl <;> rfl
theorem prs_erase (L : List (Nat × Nat)) (k : Nat) : prs (L.take k) ++ prs (L.drop (k + 1)) = prs (L.eraseIdx k) := by
  rw [List.eraseIdx_eq_take_drop_succ, prs_app]
theorem prs_take (L : List (Nat × Nat)) (k : Nat) {j : Nat} {u : Value} (h : (prs (L.take k))[j]? = some u) : (prs L)[j]? = some u := by
  have e : prs L = prs (L.take k) ++ prs (L.drop k) := by rw [← prs_app, List.take_append_drop]
  have hj : j < (prs (L.take k)).length := by
    rcases Nat.lt_or_ge j (prs (L.take k)).length with h' | h'
    · exact h'
    · rw [List.getElem?_eq_none h'] at h; cases h
  rw [e, List.getElem?_append_left hj]; exact h
theorem prs_drop (L : List (Nat × Nat)) (k : Nat) (hk : k ≤ L.length) {j : Nat} {u : Value} (h : (prs (L.drop k))[j]? = some u) : (prs L)[k * 2 + j]? = some u := by
  have e : prs L = prs (L.take k) ++ prs (L.drop k) := by rw [← prs_app, List.take_append_drop]
  have hl : (prs (L.take k)).length = k * 2 := by rw [prs_len, List.length_take, Nat.min_eq_left hk]
  rw [e, List.getElem?_append_right (by omega), hl, Nat.add_sub_cancel_left]; exact h
end Go.Proofs.Ytplhonlgbidemaa
