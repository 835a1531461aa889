/- The document's functions: Size, For, put, take. -/
import Derived.Test.YtplhonlgbidemaaArQ
import Derived.Test.YtplhonlgbidemaaArF
import Derived.Test.YtplhonlgbidemaaArRf
import Derived.Deep.RegionLawGrows
import Derived.Deep.RegionHeld3
import Derived.Deep.AppendLies
namespace Go.Proofs.Ytplhonlgbidemaa
open Go.RowKit

set_option maxRecDepth 100000 in
theorem size_any (w : World) (i : Nat) (hi : i ≤ 1000) :
    Calls Try.prog 29 #[.int .i64 (i : Nat)] w fun e w' => e = .returned (.int .i64 (sz i : Nat)) ∧ w' = w := by
  go_enter Try.func29, Try.ntmps29
  by_cases h1 : i < 4
  · have g1 : decide ((i : Int) < 4) = true := by rw [decide_eq_true_iff]; omega
    have e1 : ((sz i : Nat) : Int) = (i : Int) + 1 := by have := sz_is i; omega
    have HE := Lib.hid e1
    clear e1 h1
    go_wp2_with fail
    go_ret
    exact ⟨by rw [HE.out]; rfl, rfl⟩
  · have g1 : decide ((i : Int) < 4) = false := by rw [decide_eq_false_iff_not]; omega
    by_cases h2 : i < 8
    · have g2 : decide ((i : Int) < 8) = true := by rw [decide_eq_true_iff]; omega
      have e1 : ((sz i : Nat) : Int) = 4 + 2 * ((i : Int) - 3) := by have := sz_is i; omega
      have HE := Lib.hid e1
      clear e1 h1 h2
      go_wp2_with fail
      go_ret
      exact ⟨by rw [HE.out]; rfl, rfl⟩
    · have g2 : decide ((i : Int) < 8) = false := by rw [decide_eq_false_iff_not]; omega
      by_cases h3 : i < 12
      · have g3 : decide ((i : Int) < 12) = true := by rw [decide_eq_true_iff]; omega
        have e1 : ((sz i : Nat) : Int) = 12 + 3 * ((i : Int) - 7) := by have := sz_is i; omega
        have HE := Lib.hid e1
        clear e1 h1 h2 h3
        go_wp2_with fail
        go_ret
        exact ⟨by rw [HE.out]; rfl, rfl⟩
      · have g3 : decide ((i : Int) < 12) = false := by rw [decide_eq_false_iff_not]; omega
        have e1 : ((sz i : Nat) : Int) = 24 + 4 * ((i : Int) - 11) := by have := sz_is i; omega
        have HE := Lib.hid e1
        clear e1 h1 h2 h3
        go_wp2_with fail
        go_ret
        exact ⟨by rw [HE.out]; rfl, rfl⟩
theorem fr_least {n i : Nat} (h1 : 1 ≤ n) (h : i < fr n) : sz i < n := by
  have h2 := sz_before h1 (by omega)
  rcases Nat.lt_or_ge i (fr n - 1) with h3 | h3
  · exact Nat.lt_trans (sz_lt h3) h2
  · rw [show i = fr n - 1 by omega]; exact h2
set_option maxRecDepth 100000 in
theorem for_any (w : World) (n : Nat) (h1 : 1 ≤ n) (h2 : n ≤ 128) :
    Calls Try.prog 30 #[.int .i64 (n : Nat)] w fun e w' => e = .returned (.int .i64 (fr n : Nat)) ∧ w' = w := by
  have hf := fr_lt h2
  go_enter Try.func30, Try.ntmps30
  go_wp2_with fail
  go_loopw [3] (fun i wr => ∃ k : Nat, k ≤ fr n ∧ i = .int .i64 k ∧ wr = w) (fun i _ => fr n - (intOf i).toNat)
  case atStart => exact ⟨0, by omega, rfl, rfl⟩
  case round =>
    obtain ⟨k, hk, rfl, rfl⟩ := hrel
    have SZ := size_any wr k (by omega)
    by_cases hkf : k < fr n
    · have hl := fr_least h1 hkf
      have g1 : decide (((sz k : Nat) : Int) < (n : Int)) = true := by rw [decide_eq_true_iff]; omega
      have g2 : decide (sz k < n) = true := by rw [decide_eq_true_iff]; omega
      go_wp2_with fail
      refine SZ.mono ?_; rintro e w1 ⟨rfl, rfl⟩
      go_wp2_with fail
      go_roundw
      case rel => exact ⟨k + 1, by omega, by go_num, trivial⟩
      case measure => simp [intOf]; omega
    · obtain rfl : k = fr n := by omega
      have hl := sz_fr n
      have g1 : decide (((sz (fr n) : Nat) : Int) < (n : Int)) = false := by rw [decide_eq_false_iff_not]; omega
      have g2 : decide (sz (fr n) < n) = false := by rw [decide_eq_false_iff_not]; omega
      clear hl hkf hk
      go_wp2_with fail
      refine SZ.mono ?_; rintro e w1 ⟨rfl, rfl⟩
      go_wp2_with fail
      go_ret
      exact ⟨rfl, rfl⟩

theorem infoI' : (Try.prog.info? 3).map (fun i => (i.zero, i.size, i.bytes)) = some (some (.int .i64 0), 1, 8) := by kernel_rfl
/-- Places as cells. -/
def pls (l : List Nat) : List Value := l.map fun x => .int .i64 (x : Nat)
theorem pls_len (l : List Nat) : (pls l).length = l.length := by simp [pls]
theorem pls_one (l : List Nat) : ∀ u ∈ pls l, u.oneCell' = true := by
  intro u hu
  obtain ⟨x, -, rfl⟩ := List.mem_map.1 hu
  rfl
theorem cell_over {s : Nat → Prop} {w w' : World} (ho : On s w w') {a : Addr} {u : Value} (h : w.cell? a = some u) (hs : ¬ s a.block) : w'.cell? a = some u :=
  (World.cell?_of_block (w := w) (ho.block _ (World.block_lt_of_cell? _ _ h) hs)).trans h
theorem own_row {w : World} {base r n : Nat} {v : Value} {l : List Nat} (h : w.ownsRow base 3 1 v n (pls l)) (hr : r < base) : n = l.length ∧ RowV w r v l := by
  obtain ⟨hl, ⟨rfl, h0⟩ | ⟨gl, cap, cur, h1, h2, h3, h4, h5, h6, h7⟩⟩ := h
  · rw [pls_len] at hl
    have hn : l = [] := List.eq_nil_of_length_eq_zero (by omega)
    subst hn
    exact ⟨by simpa using h0, RowV.nil _ _⟩
  · rw [pls_len] at hl
    have hn : n = l.length := by omega
    refine ⟨hn, some ⟨gl, 0, none⟩, cap, by rw [h1, hn], by omega, (fun e => by cases e), fun j x hj => ⟨gl, 0, rfl, by omega, ?_, cur, h3⟩⟩
    have hjl : j < l.length := by
      rcases Nat.lt_or_ge j l.length with h | h
      · exact h
      · rw [List.getElem?_eq_none h] at hj; cases hj
    have hp : (pls l)[j]? = some (.int .i64 (x : Nat)) := by simp [pls, hj]
    rw [(show Blk w gl 3 cur from h3).cell, Nat.zero_add, ← hp, ← h7, List.getElem?_take, if_pos (by omega), Array.getElem?_toList]
theorem own_new1 (w : World) (x : Value) : (w.alloc (.cells #[x] 3)).ownsRow w.heap.size 3 1 (.slice (some ⟨w.heap.size, 0, none⟩) 1 1) 1 [x] :=
  ⟨rfl, .inr ⟨w.heap.size, 1, #[x], rfl, Nat.le_refl _, heap_alloc_new w _, Nat.le_refl _, by unfold maxLen; omega, rfl, rfl⟩⟩
/-- append whose run is known, at a step of a region that draws its order. -/
theorem step_append_run {P : Program} (w : World) {ops : Array Oper} {o : Oper} {a : Act} {K : Act → World → Prop} {Q : Exit → Act → World → Prop} {E : Prop} (hgd : o.guard = none) (s x : Operand) (t : TypeId)
    (ho : o.op = .call { callee := .builtin .append, args := #[s, x], argTypes := #[t, t] }) (vs vx v' : Value) (w' : World) (hs : a.eval s = vs) (hx : a.eval x = vx)
    (hr : (Builtin.append_ #[t, t] o.type #[vs, vx]).run P w = .ok v' w') (h : K (a.put o.dst v') w') :
    if Region.wanted o (yielded ops a.tmps) = true then Oper.wp P o a w K Q else E := by
  have hw : Region.wanted o (yielded ops a.tmps) = true := by simp [Region.wanted, hgd]
  rw [if_pos hw]
  unfold Oper.wp execOp
  simp only [ho, resolve, invoke, builtin, Sem.run_bind, Sem.run_pure, Result.andThen_ok, List.map_toArray, List.map_cons, List.map_nil, hs, hx, hr]
  exact h
/-- Nothing is appended. -/
theorem run_append_none (w : World) (ty : TypeId) (b off n c : Nat) (ra : Option Addr) (rc : Nat) (hn : n ≤ c) :
    (Builtin.append_ #[31, 31] ty #[.slice (some ⟨b, off, none⟩) n c, .slice ra 0 rc]).run Try.prog w = .ok (.slice (some ⟨b, off, none⟩) n c) w := by
  obtain ⟨i0, hi0, hz0, hz1, hz2⟩ := info_parts infoI'
  have hst := run_storeCells_cells (P := Try.prog) b (off + n * i0.size) [] 0 w (fun j hj => by simp at hj) (fun j hj => by simp at hj) (fun v hv => by cases hv)
  simp only [Nat.add_zero] at hst
  have e0 : w.setCells b (off + n * i0.size) [] = w := rfl
  rw [e0] at hst
  cases ra with
  | none => simp [Builtin.append_, run_underlying Try.underlying31, sizeOf, typeInfo, hi0, Builtin.lenOf, hn, hst, Builtin.firstCells, WideShapes.add_plain]
  | some ad =>
    have hfc := run_firstCells_some (P := Try.prog) w i0.size 0 ad 0 rc [] (by simp) (fun j u hj => by simp at hj)
    simp [Builtin.append_, run_underlying Try.underlying31, sizeOf, typeInfo, hi0, Builtin.lenOf, hn, hfc, hst, WideShapes.add_plain]
section
variable {w w' : World} {r : Nat} {A : AM}
theorem RowV.news {x : Nat} {l : List Nat} {v : Value} (h : RowV w r v (x :: l)) : ∃ b off c, v = .slice (some ⟨b, off, none⟩) (l.length + 1) c ∧ b ≠ r ∧ l.length + 1 ≤ c ∧ b < w.heap.size ∧ ∀ (j : Nat) (u : Value), (pls (x :: l))[j]? = some u → w.cell? ((⟨b, off, none⟩ : Addr).add j) = some u := by
  obtain ⟨a, c, h1, h2, h3, h4⟩ := h
  obtain ⟨b, off, rfl, hb, hc, -⟩ := h4 0 x rfl
  refine ⟨b, off, c, h1, hb, h2, World.block_lt_of_cell? _ _ hc, fun j u hj => ?_⟩
  rw [WideShapes.add_plain]
  simp only [pls, List.getElem?_map, Option.map_eq_some_iff] at hj
  obtain ⟨y, hy, rfl⟩ := hj
  obtain ⟨b', off', e, _, hc', -⟩ := h4 j y hy
  injection e with e
  injection e with e1 e2
  subst e1 e2
  exact hc'
set_option maxRecDepth 100000 in
set_option maxHeartbeats 2000000 in
theorem rput_any (h : Rf w r A) {i : Nat} (p : Nat) (hi : i < 38) (hlen : (A.rows i).length ≤ 16777216) :
    Calls Try.prog 55 #[.pointer (some ⟨r, 0, none⟩), .int .i64 (p : Nat), .int .i64 (i : Nat)] w fun e w' => e = .returned (.tuple #[]) ∧ Rf w' r (putM A p i) ∧ On (fun k => k = r) w w' := by
  obtain ⟨v, hv, hrow⟩ := h.row hi
  have hfz := h.free (1 + i)
  have hlt := h.lt
  obtain ⟨i0, hi0, hz0, hz1, hz2⟩ := info_parts infoI'
  have hi1 : (0 : Int) ≤ (i : Int) := by omega
  have hi2 : (i : Int) < 38 := by omega
  obtain ⟨l, hl⟩ : ∃ l, l = A.rows i := ⟨_, rfl⟩
  rw [← hl] at hrow hlen
  have HL := Lib.hid hl
  clear hl
  cases l with
  | nil =>
    obtain ⟨ra, rc, rfl, -⟩ := hrow
    go_enter Try.func55, Try.ntmps55
    go_wp2_with fail
    have a1 : On (fun k => w.heap.size ≤ k) w (w.alloc (.cells #[.int .i64 (p : Nat)] 3)).drew := ((on_refl _ w).alloc _).drew
    have h1 := h.on a1 (by omega) (fun k hk => .inl hk)
    have hf1 := h1.free (1 + i)
    have hc1 : (w.alloc (.cells #[.int .i64 (p : Nat)] 3)).drew.cell? ⟨r, 1 + i, none⟩ = some (.slice ra 0 rc) := (World.cell?_of_block (w := w) (a1.block r hlt (by omega))).trans hv
    have h2 := h1.putRow hi (own_row (l := [p]) ((own_new1 w (.int .i64 (p : Nat))).drew) hlt).2
    have e : putM A p i = { A with rows := upr A.rows i [p] } := by unfold putM; rw [← HL.out]
    have o2 : On (fun k => k = r) w (w.alloc (.cells #[.int .i64 (p : Nat)] 3)).drew := ⟨a1.os, a1.tape, a1.output, a1.size, fun k hk _ => a1.block k hk (by omega)⟩
    rw [← e] at h2
    have o3 := o2.put (g := r) (i := 1 + i) rfl (.slice (some ⟨w.heap.size, 0, none⟩) 1 1)
    have ew : (w.alloc (.cells #[.int .i64 (p : Nat)] 3)).drew.setCell ⟨r, 1 + i, none⟩ (.slice (some ⟨w.heap.size, 0, none⟩) 1 1) = ((w.setCell ⟨r, 1 + i, none⟩ (.slice (some ⟨w.heap.size, 0, none⟩) 1 1)).alloc (.cells #[.int .i64 (p : Nat)] 3)).drew := by
      rw [← World.setCell_alloc_past (hn := hlt)]; rfl
    rw [ew] at h2 o3
    clear h1 a1 o2 hlen
    go_region_law
      ((refine step_append_run _ (by rfl) _ _ _ (by rfl) _ _ _ _ (by rfl) (by rfl) (run_append_none _ _ _ _ _ _ _ _ (Nat.le_refl _)) ?_))
    all_goals
      go_end0
      exact ⟨rfl, h2, o3⟩
  | cons x l =>
    obtain ⟨b, off, c, rfl, hbr, hc, hbl, hnews⟩ := hrow.news
    have hlen1 : l.length + 1 ≤ 16777216 := by simpa using hlen
    clear hrow
    go_enter Try.func55, Try.ntmps55
    go_wp2_with fail
    go_region_law
      ((refine step_append_lies _ (by rfl) _ _ _ (by rfl) w.heap.size 3 i0 _ 1 8 Try.underlying31 hi0 hz0 hz1 hz2 rfl (by omega) _ 1 [.int .i64 (p : Nat)] (by rfl) ((own_new1 w _).drew)
          ⟨b, off, none⟩ (l.length + 1) c (pls (x :: l)) (by rfl) (by simp [pls]) (fun j u hj => cell_over ((on_refl (fun _ => False) w).alloc (.cells #[.int .i64 (p : Nat)] 3)).drew (hnews j u hj) id) (pls_one _)
          (by omega) (by unfold maxLen; omega) (by omega) (by simp) (w.heap.size + 1) (by simp) ?_; intro gg cap w1 hown1 hgrow hat hlt1; have hf1 : w1.frozen? ⟨r, 1 + i, none⟩ = false := (by rw [hgrow.frozen_far _ (by simp; omega) (by simp [Value.ownBlock]; omega)]; exact ((h.on ((on_refl (fun _ => False) w).alloc (.cells #[.int .i64 (p : Nat)] 3)) id (fun _ e => e.elim)).free (1 + i))); have hc1 : w1.cell? ⟨r, 1 + i, none⟩ = some (.slice (some ⟨b, off, none⟩) (l.length + 1) c) := (by rw [hgrow.cell_far _ (by simp; omega) (by simp [Value.ownBlock]; omega)]; exact (World.cell?_of_block (w := w) (((on_refl (fun _ => False) w).alloc (.cells #[.int .i64 (p : Nat)] 3)).block r hlt id)).trans hv)))
    all_goals
      go_end0
      have a1 : On (fun k => w.heap.size ≤ k) w (w.alloc (.cells #[.int .i64 (p : Nat)] 3)).drew := ((on_refl _ w).alloc _).drew
      have o1 := a1.trans (On.of_grown hgrow (fun k e => by simp [Value.ownBlock] at e; omega))
      have h1 := h.on o1 (by omega) (fun k hk => .inl hk)
      have hr1 := (own_row (l := p :: x :: l) hown1 hlt).2
      have h2 := h1.putRow hi hr1
      have e : putM A p i = { A with rows := upr A.rows i (p :: x :: l) } := by unfold putM; rw [← HL.out]
      rw [e]
      have o2 : On (fun k => k = r) w w1 := ⟨o1.os, o1.tape, o1.output, o1.size, fun k hk _ => o1.block k hk (by omega)⟩
      exact ⟨rfl, h2, o2.put rfl _⟩
theorem own_empty (w : World) : (w.alloc (.cells #[] 3)).ownsRow w.heap.size 3 1 (.slice (some ⟨w.heap.size, 0, none⟩) 0 0) 0 [] :=
  ⟨rfl, .inr ⟨w.heap.size, 0, #[], rfl, Nat.le_refl _, heap_alloc_new w _, Nat.le_refl _, by unfold maxLen; omega, rfl, rfl⟩⟩
set_option maxRecDepth 100000 in
set_option maxHeartbeats 2000000 in
theorem rtake_any (h : Rf w r A) {i : Nat} (hi : i < 38) (hlen : (A.rows i).length ≤ 16777216) (hne : A.rows i ≠ []) :
    Calls Try.prog 53 #[.pointer (some ⟨r, 0, none⟩), .int .i64 (i : Nat)] w fun e w' => e = .returned (.int .i64 (hd (A.rows i) : Nat)) ∧ Rf w' r (takeM A i) ∧ On (fun k => k = r) w w' := by
  obtain ⟨v, hv, hrow⟩ := h.row hi
  have hfz := h.free (1 + i)
  have hlt := h.lt
  obtain ⟨i0, hi0, hz0, hz1, hz2⟩ := info_parts infoI'
  have hi1 : (0 : Int) ≤ (i : Int) := by omega
  have hi2 : (i : Int) < 38 := by omega
  obtain ⟨l0, hl⟩ : ∃ l0, l0 = A.rows i := ⟨_, rfl⟩
  rw [← hl] at hrow hlen hne ⊢
  have HL := Lib.hid hl
  clear hl
  obtain ⟨x, l, rfl⟩ := List.exists_cons_of_ne_nil hne
  obtain ⟨b, off, c, rfl, hbr, hc, hbl, hnews⟩ := hrow.news
  have hx : w.cell? ⟨b, off, none⟩ = some (.int .i64 (x : Nat)) := by have := hnews 0 _ rfl; rw [WideShapes.add_plain] at this; exact this
  have hlen1 : l.length + 1 ≤ 16777216 := by simpa using hlen
  clear hrow hne
  go_enter Try.func53, Try.ntmps53
  go_wp2_with fail
  clear hx
  have hrest : ∀ (j : Nat) (u : Value), (pls l)[j]? = some u → w.cell? ((⟨b, off + 1, none⟩ : Addr).add j) = some u := by
    intro j u hj
    have := hnews (j + 1) u hj
    rw [WideShapes.add_plain] at this ⊢
    rw [show off + 1 + j = off + (j + 1) by omega]
    exact this
  have a1 : On (fun k => w.heap.size ≤ k) w (w.alloc (.cells #[] 3)).drew := ((on_refl _ w).alloc _).drew
  have h1 := h.on a1 (by omega) (fun k hk => .inl hk)
  have hf1 := h1.free (1 + i)
  have hc1 : (w.alloc (.cells #[] 3)).drew.cell? ⟨r, 1 + i, none⟩ = some _ := cell_over a1 hv (by dsimp only; omega)
  have e : takeM A i = { A with rows := upr A.rows i l } := by unfold takeM; rw [← HL.out]; rfl
  have HE := Lib.hid e
  clear e
  cases l with
  | nil =>
    have h2 := h1.putRow hi (own_row (l := []) ((own_empty w).drew) hlt).2
    rw [← HE.out] at h2
    have o2 : On (fun k => k = r) w (w.alloc (.cells #[] 3)).drew := ⟨a1.os, a1.tape, a1.output, a1.size, fun k hk _ => a1.block k hk (by omega)⟩
    have o3 := o2.put (g := r) (i := 1 + i) rfl (.slice (some ⟨w.heap.size, 0, none⟩) 0 0)
    have ew : (w.alloc (.cells #[] 3)).drew.setCell ⟨r, 1 + i, none⟩ (.slice (some ⟨w.heap.size, 0, none⟩) 0 0) = ((w.setCell ⟨r, 1 + i, none⟩ (.slice (some ⟨w.heap.size, 0, none⟩) 0 0)).alloc (.cells #[] 3)).drew := by
      rw [← World.setCell_alloc_past (hn := hlt)]; rfl
    rw [ew] at h2 o3
    clear h1 a1 o2 hlen ew hrest hnews
    by_cases hc2 : c = 1
    · subst hc2
      go_region_law
        ((refine step_append_run _ (by rfl) _ _ _ (by rfl) _ _ _ _ (by rfl) (by rfl) (run_append_none _ _ _ _ _ _ _ _ (Nat.le_refl _)) ?_))
      all_goals
        go_wp2_with fail
        go_ret
        exact ⟨rfl, h2, o3⟩
    · go_region_law
        ((refine step_append_run _ (by rfl) _ _ _ (by rfl) _ _ _ _ (by rfl) (by rfl) (run_append_none _ _ _ _ _ _ _ _ (Nat.le_refl _)) ?_))
      all_goals
        go_wp2_with fail
        go_ret
        exact ⟨rfl, h2, o3⟩
  | cons y l =>
    have hc2 : ¬ c = 1 := by simp at hc; omega
    have hge : (1 : Int) ≤ ((l.length : Nat) : Int) + 1 + 1 := by omega
    go_region_law
      ((refine step_append_lies _ (by rfl) _ _ _ (by rfl) w.heap.size 3 i0 _ 1 8 Try.underlying31 hi0 hz0 hz1 hz2 rfl (by omega) _ 0 [] (by rfl) ((own_empty w).drew)
          ⟨b, off + 1, none⟩ (l.length + 1) (c - 1) (pls (y :: l)) (by rfl) (by simp [pls]) (fun j u hj => cell_over ((on_refl (fun _ => False) w).alloc (.cells #[] 3)).drew (hrest j u hj) id) (pls_one _)
          (by omega) (by simp at hlen1; unfold maxLen; omega) (by simp at hlen1; omega) (by simp) (w.heap.size + 1) (by simp) ?_; intro gg cap w1 hown1 hgrow hat hlt1; have hf1 : w1.frozen? ⟨r, 1 + i, none⟩ = false := (by rw [hgrow.frozen_far _ (by simp; omega) (by simp [Value.ownBlock]; omega)]; exact hf1); have hc1 : w1.cell? ⟨r, 1 + i, none⟩ = some _ := (by rw [hgrow.cell_far _ (by simp; omega) (by simp [Value.ownBlock]; omega)]; exact hc1)))
    all_goals
      go_wp2_with fail
      go_ret
      have o1 := a1.trans (On.of_grown hgrow (fun k e => by simp [Value.ownBlock] at e; omega))
      have h1 := h.on o1 (by omega) (fun k hk => .inl hk)
      rw [Nat.zero_add] at hown1
      have hr1 := (own_row (l := y :: l) hown1 hlt).2
      have h2 := h1.putRow hi hr1
      rw [HE.out]
      have o2 : On (fun k => k = r) w w1 := ⟨o1.os, o1.tape, o1.output, o1.size, fun k hk _ => o1.block k hk (by omega)⟩
      exact ⟨rfl, h2, o2.put rfl _⟩
end
end Go.Proofs.Ytplhonlgbidemaa
