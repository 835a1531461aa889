/- The document's arena whose rows lie apart from some blocks: put, rest. -/
import Derived.Test.YtplhonlgbidemaaArDt
namespace Go.Proofs.Ytplhonlgbidemaa
open Go.RowKit

/-- A row of places as a slice, not in a block of B. -/
def RowB (w : World) (B : Nat → Prop) (v : Value) (l : List Nat) : Prop :=
  ∃ a c, v = .slice a l.length c ∧ l.length ≤ c ∧ (a = none → c = 0) ∧ ∀ (j x : Nat), l[j]? = some x → ∃ b off, a = some ⟨b, off, none⟩ ∧ ¬ B b ∧ w.cell? ⟨b, off + j, none⟩ = some (.int .i64 (x : Nat)) ∧ ∃ cs, Blk w b 3 cs
/-- The document's arena, its rows apart from the blocks of B. -/
def RfB (w : World) (B : Nat → Prop) (r : Nat) (A : AM) : Prop :=
  ∃ cs, Blk w r 85 cs ∧ cs[0]? = some (.int .i64 (A.size : Nat)) ∧ (∀ i, i < 38 → ∃ v, cs[1 + i]? = some v ∧ RowB w B v (A.rows i))
    ∧ cs[39]? = some (.int .i64 (A.text : Nat)) ∧ cs[40]? = some (.int .i64 (A.start : Nat)) ∧ cs[41]? = some (.int .i64 (A.low : Nat)) ∧ cs[42]? = some (.int .i64 (A.high : Nat)) ∧ cs[43]? = some (.int .i64 (A.glue : Nat))
section
variable {w w' : World} {B : Nat → Prop} {r : Nat} {A : AM}
theorem RowB.on {s : Nat → Prop} {v : Value} {l : List Nat} (h : RowB w B v l) (ho : On s w w') (hs : ∀ k, s k → B k ∨ w.heap.size ≤ k) : RowB w' B v l := by
  obtain ⟨a, c, h1, h2, h3, h4⟩ := h
  refine ⟨a, c, h1, h2, h3, fun j x hj => ?_⟩
  obtain ⟨b, off, h5, h6, h7, ds, h8⟩ := h4 j x hj
  have hb := World.block_lt_of_cell? _ _ h7
  have hns : ¬ s b := fun e => by rcases hs b e with e | e; exact h6 e; exact absurd hb (by dsimp only; omega)
  refine ⟨b, off, h5, h6, ?_, ds, h8.on ho hns⟩
  rw [World.cell?_of_block (w := w) (ho.block b hb hns)]
  exact h7
theorem RowB.nil (w : World) (B : Nat → Prop) : RowB w B (.slice none 0 0) [] := ⟨none, 0, rfl, Nat.le_refl _, fun _ => rfl, fun j x h => by simp at h⟩
theorem RowB.toV {v : Value} {l : List Nat} (h : RowB w B v l) (hr : B r) : RowV w r v l := by
  obtain ⟨a, c, h1, h2, h3, h4⟩ := h
  exact ⟨a, c, h1, h2, h3, fun j x hj => by obtain ⟨b, off, h5, h6, h7⟩ := h4 j x hj; exact ⟨b, off, h5, fun e => h6 (by rw [e]; exact hr), h7⟩⟩
theorem RfB.toRf (h : RfB w B r A) (hr : B r) : Rf w r A := by
  obtain ⟨cs, hb, h0, h1, h2⟩ := h
  exact ⟨cs, hb, h0, fun i hi => by obtain ⟨v, hv, h⟩ := h1 i hi; exact ⟨v, hv, h.toV hr⟩, h2⟩
theorem RfB.lt (h : RfB w B r A) : r < w.heap.size := by obtain ⟨cs, hb, -⟩ := h; exact hb.lt
theorem RfB.free (h : RfB w B r A) (i : Nat) : w.frozen? ⟨r, i, none⟩ = false := by obtain ⟨cs, hb, -⟩ := h; exact hb.free i
theorem RfB.row (h : RfB w B r A) {i : Nat} (hi : i < 38) : ∃ v, w.cell? ⟨r, 1 + i, none⟩ = some v ∧ RowB w B v (A.rows i) := by obtain ⟨cs, hb, -, h, -⟩ := h; rw [hb.cell]; exact h i hi
theorem RfB.on {s : Nat → Prop} (h : RfB w B r A) (ho : On s w w') (hr : ¬ s r) (hs : ∀ k, s k → w.heap.size ≤ k ∨ B k) : RfB w' B r A := by
  obtain ⟨cs, hb, h0, h1, h2⟩ := h
  exact ⟨cs, hb.on ho hr, h0, fun i hi => by obtain ⟨v, hv, h⟩ := h1 i hi; exact ⟨v, hv, h.on ho (fun k hk => (hs k hk).symm)⟩, h2⟩
theorem RfB.putRow (h : RfB w B r A) (hr : B r) {i : Nat} (hi : i < 38) {v : Value} {l : List Nat} (hv : RowB w B v l) : RfB (w.setCell ⟨r, 1 + i, none⟩ v) B r { A with rows := upr A.rows i l } := by
  obtain ⟨cs, hb, h0, h1, h2, h3, h4, h5, h6⟩ := h
  refine ⟨_, hb.put (1 + i) _, by rw [get_set cs _ h0, if_neg (by omega)], fun j hj => ?_, by rw [get_set cs _ h2, if_neg (by omega)], by rw [get_set cs _ h3, if_neg (by omega)], by rw [get_set cs _ h4, if_neg (by omega)], by rw [get_set cs _ h5, if_neg (by omega)], by rw [get_set cs _ h6, if_neg (by omega)]⟩
  obtain ⟨u, hu, h⟩ := h1 j hj
  have on := (on_refl (fun k => k = r) w).put (g := r) (i := 1 + i) rfl v
  by_cases e : j = i
  · subst e
    refine ⟨v, by rw [get_set cs _ hu, if_pos rfl], ?_⟩
    show RowB _ B v (upr A.rows j l j)
    rw [upr_same]
    exact hv.on on (fun k e => .inl (by rw [e]; exact hr))
  · refine ⟨u, by rw [get_set cs _ hu, if_neg (by omega)], ?_⟩
    show RowB _ B u (upr A.rows i l j)
    unfold upr
    rw [if_neg e]
    exact h.on on (fun k e => .inl (by rw [e]; exact hr))
theorem own_rowB {base n : Nat} {v : Value} {l : List Nat} (h : w.ownsRow base 3 1 v n (pls l)) (hB : ∀ k, B k → k < base) : RowB w B v l := by
  obtain ⟨hl, ⟨rfl, h0⟩ | ⟨gl, cap, cur, h1, h2, h3, h4, h5, h6, h7⟩⟩ := h
  · rw [pls_len] at hl
    have hn : l = [] := List.eq_nil_of_length_eq_zero (by omega)
    subst hn
    exact RowB.nil _ _
  · rw [pls_len] at hl
    have hn : n = l.length := by omega
    refine ⟨some ⟨gl, 0, none⟩, cap, by rw [h1, hn], by omega, (fun e => by cases e), fun j x hj => ⟨gl, 0, rfl, fun e => by have := hB _ e; omega, ?_, cur, h3⟩⟩
    have hjl : j < l.length := by
      rcases Nat.lt_or_ge j l.length with h | h
      · exact h
      · rw [List.getElem?_eq_none h] at hj; cases hj
    have hp : (pls l)[j]? = some (.int .i64 (x : Nat)) := by simp [pls, hj]
    rw [(show Blk w gl 3 cur from h3).cell, Nat.zero_add, ← hp, ← h7, List.getElem?_take, if_pos (by omega), Array.getElem?_toList]
theorem RowB.news {x : Nat} {l : List Nat} {v : Value} (h : RowB w B v (x :: l)) (hr : B r) : ∃ b off c, v = .slice (some ⟨b, off, none⟩) (l.length + 1) c ∧ b ≠ r ∧ l.length + 1 ≤ c ∧ b < w.heap.size ∧ ∀ (j : Nat) (u : Value), (pls (x :: l))[j]? = some u → w.cell? ((⟨b, off, none⟩ : Addr).add j) = some u := (h.toV hr).news
set_option maxRecDepth 100000 in
set_option maxHeartbeats 2000000 in
theorem bput_any (h : RfB w B r A) (hr : B r) (hB : ∀ k, B k → k < w.heap.size) {i : Nat} (p : Nat) (hi : i < 38) (hlen : (A.rows i).length ≤ 16777216) :
    Calls Try.prog 55 #[.pointer (some ⟨r, 0, none⟩), .int .i64 (p : Nat), .int .i64 (i : Nat)] w fun e w' => e = .returned (.tuple #[]) ∧ RfB w' B r (putM A p i) ∧ On (fun k => k = r) w w' := by
  obtain ⟨v, hv, hrow⟩ := h.row hi
  have hfz := h.free (1 + i)
  have hlt := h.lt
  obtain ⟨i0, hi0, hz0, hz1, hz2⟩ := info_parts infoI'
  have hi1 : (0 : Int) ≤ (i : Int) := by omega
  have hi2 : (i : Int) < 38 := by omega
  obtain ⟨l, hl⟩ : ∃ l, l = A.rows i := ⟨_, rfl⟩
  rw [← hl] at hrow hlen
  have HL := Lib.hid hl
  clear hl
  cases l with
  | nil =>
    obtain ⟨ra, rc, rfl, -⟩ := hrow
    go_enter Try.func55, Try.ntmps55
    go_wp2_with fail
    have a1 : On (fun k => w.heap.size ≤ k) w (w.alloc (.cells #[.int .i64 (p : Nat)] 3)).drew := ((on_refl _ w).alloc _).drew
    have h1 := h.on a1 (by omega) (fun k hk => .inl hk)
    have hf1 := h1.free (1 + i)
    have hc1 : (w.alloc (.cells #[.int .i64 (p : Nat)] 3)).drew.cell? ⟨r, 1 + i, none⟩ = some (.slice ra 0 rc) := (World.cell?_of_block (w := w) (a1.block r hlt (by omega))).trans hv
    have h2 := h1.putRow hr hi (own_rowB (l := [p]) ((own_new1 w (.int .i64 (p : Nat))).drew) hB)
    have e : putM A p i = { A with rows := upr A.rows i [p] } := by unfold putM; rw [← HL.out]
    have o2 : On (fun k => k = r) w (w.alloc (.cells #[.int .i64 (p : Nat)] 3)).drew := ⟨a1.os, a1.tape, a1.output, a1.size, fun k hk _ => a1.block k hk (by omega)⟩
    rw [← e] at h2
    have o3 := o2.put (g := r) (i := 1 + i) rfl (.slice (some ⟨w.heap.size, 0, none⟩) 1 1)
    have ew : (w.alloc (.cells #[.int .i64 (p : Nat)] 3)).drew.setCell ⟨r, 1 + i, none⟩ (.slice (some ⟨w.heap.size, 0, none⟩) 1 1) = ((w.setCell ⟨r, 1 + i, none⟩ (.slice (some ⟨w.heap.size, 0, none⟩) 1 1)).alloc (.cells #[.int .i64 (p : Nat)] 3)).drew := by
      rw [← World.setCell_alloc_past (hn := hlt)]; rfl
    rw [ew] at h2 o3
    clear h1 a1 o2 hlen
    go_region_law
      ((refine step_append_run _ (by rfl) _ _ _ (by rfl) _ _ _ _ (by rfl) (by rfl) (run_append_none _ _ _ _ _ _ _ _ (Nat.le_refl _)) ?_))
    all_goals
      go_end0
      exact ⟨rfl, h2, o3⟩
  | cons x l =>
    obtain ⟨b, off, c, rfl, hbr, hc, hbl, hnews⟩ := hrow.news hr
    have hlen1 : l.length + 1 ≤ 16777216 := by simpa using hlen
    clear hrow
    go_enter Try.func55, Try.ntmps55
    go_wp2_with fail
    go_region_law
      ((refine step_append_lies _ (by rfl) _ _ _ (by rfl) w.heap.size 3 i0 _ 1 8 Try.underlying31 hi0 hz0 hz1 hz2 rfl (by omega) _ 1 [.int .i64 (p : Nat)] (by rfl) ((own_new1 w _).drew)
          ⟨b, off, none⟩ (l.length + 1) c (pls (x :: l)) (by rfl) (by simp [pls]) (fun j u hj => cell_over ((on_refl (fun _ => False) w).alloc (.cells #[.int .i64 (p : Nat)] 3)).drew (hnews j u hj) id) (pls_one _)
          (by omega) (by unfold maxLen; omega) (by omega) (by simp) (w.heap.size + 1) (by simp) ?_; intro gg cap w1 hown1 hgrow hat hlt1; have hf1 : w1.frozen? ⟨r, 1 + i, none⟩ = false := (by rw [hgrow.frozen_far _ (by simp; omega) (by simp [Value.ownBlock]; omega)]; exact ((h.on ((on_refl (fun _ => False) w).alloc (.cells #[.int .i64 (p : Nat)] 3)) id (fun _ e => e.elim)).free (1 + i))); have hc1 : w1.cell? ⟨r, 1 + i, none⟩ = some (.slice (some ⟨b, off, none⟩) (l.length + 1) c) := (by rw [hgrow.cell_far _ (by simp; omega) (by simp [Value.ownBlock]; omega)]; exact (World.cell?_of_block (w := w) (((on_refl (fun _ => False) w).alloc (.cells #[.int .i64 (p : Nat)] 3)).block r hlt id)).trans hv)))
    all_goals
      go_end0
      have a1 : On (fun k => w.heap.size ≤ k) w (w.alloc (.cells #[.int .i64 (p : Nat)] 3)).drew := ((on_refl _ w).alloc _).drew
      have o1 := a1.trans (On.of_grown hgrow (fun k e => by simp [Value.ownBlock] at e; omega))
      have h1 := h.on o1 (by omega) (fun k hk => .inl hk)
      have hr1 := own_rowB (l := p :: x :: l) hown1 hB
      have h2 := h1.putRow hr hi hr1
      have e : putM A p i = { A with rows := upr A.rows i (p :: x :: l) } := by unfold putM; rw [← HL.out]
      rw [e]
      have o2 : On (fun k => k = r) w w1 := ⟨o1.os, o1.tape, o1.output, o1.size, fun k hk _ => o1.block k hk (by omega)⟩
      exact ⟨rfl, h2, o2.put rfl _⟩
set_option maxRecDepth 100000 in
set_option maxHeartbeats 2000000 in
theorem brest_any (h : RfB w B r A) (hr : B r) (hB : ∀ k, B k → k < w.heap.size) {p n : Nat} (hF : Few A 2) (h1 : 1 ≤ n) (h2 : n ≤ 128) (hp : p ≤ 33554432) :
    Calls Try.prog 56 #[.pointer (some ⟨r, 0, none⟩), .int .i64 (p : Nat), .int .i64 (n : Nat)] w fun e w' => e = .returned (.tuple #[]) ∧ RfB w' B r (restM A p n) ∧ On (fun k => k = r) w w' := by
  have FN := for_any w n h1 h2
  have hfl := fr_lt h2
  have SN := size_any w (fr n) (by omega)
  have hle := sz_le hfl
  go_enter Try.func56, Try.ntmps56
  by_cases he : sz (fr n) = n
  · have g1 : ((sz (fr n) : Int) == (n : Int)) = true := by simp; omega
    have g2 : decide (sz (fr n) = n) = true := by simp; omega
    have P1 := bput_any h hr hB p hfl (by have := hF (fr n) hfl; omega)
    have em : restM A p n = putM A p (fr n) := by unfold restM; rw [if_pos he]
    have HM := Lib.hid em
    clear em he hle
    go_wp2_with fail
    refine FN.mono ?_; rintro e w1 ⟨rfl, rfl⟩
    go_wp2_with fail
    refine SN.mono ?_; rintro e w2 ⟨rfl, rfl⟩
    go_wp2_with fail
    refine P1.mono ?_; rintro e w3 ⟨rfl, hr3, ho3⟩
    go_wp2_with fail
    first | go_end0 | refine bodyPost_ret (results_none rfl _ _ _) rfl ?_
    exact ⟨rfl, by rw [HM.out]; exact hr3, ho3⟩
  · have g1 : ((sz (fr n) : Int) == (n : Int)) = false := by simp; omega
    have g2 : decide (sz (fr n) = n) = false := by simp; omega
    have hf1 := fr_one h1 he
    have hb := sz_before h1 hf1
    have hz := sz_pos (fr n - 1)
    obtain ⟨k, hk⟩ : ∃ k, k = sz (fr n - 1) := ⟨_, rfl⟩
    obtain ⟨q, hq⟩ : ∃ q, q = fr n - 1 := ⟨_, rfl⟩
    have hfr : fr (n - k) < 38 := fr_lt (by omega)
    have em : restM A p n = putM (putM A (p + 12 * k) (fr (n - k))) p q := by unfold restM; rw [if_neg he, hk, hq]
    have S1 := size_any w q (by omega)
    have F1 := for_any w (n - k) (by omega) (by omega)
    have P1 := bput_any h hr hB (p + 12 * k) hfr (by have := hF _ hfr; omega)
    rw [hq, ← hk] at S1
    have eq1 : ((q : Nat) : Int) = (fr n : Int) - 1 := by omega
    have ek : ((n - k : Nat) : Int) = (n : Int) - (k : Int) := by omega
    have ep : ((p + 12 * k : Nat) : Int) = (p : Int) + 12 * (k : Int) := by omega
    rw [← hq, eq1] at S1
    rw [ek] at F1
    rw [ep] at P1
    have hF1 := hF.put (p + 12 * k) (fr (n - k))
    have HM := Lib.hid em
    have HQ := Lib.hid eq1
    have hkn : k < n := by omega
    have hk1 : 1 ≤ k := by omega
    have hq38 : q < 38 := by omega
    clear em ek ep hk hq hb hz hf1 he hle eq1 hF hfr
    go_wp2_with fail
    refine FN.mono ?_; rintro e w1 ⟨rfl, rfl⟩
    go_wp2_with fail
    refine SN.mono ?_; rintro e w2 ⟨rfl, rfl⟩
    go_wp2_with fail
    refine S1.mono ?_; rintro e w3 ⟨rfl, rfl⟩
    go_wp2_with fail
    refine F1.mono ?_; rintro e w4 ⟨rfl, rfl⟩
    go_wp2_with fail
    refine P1.mono ?_; rintro e w5 ⟨rfl, hr5, ho5⟩
    have P2 := bput_any hr5 hr (fun k hk => Nat.lt_of_lt_of_le (hB k hk) ho5.size) p hq38 (by have := hF1 _ hq38; omega)
    rw [HQ.out] at P2
    go_wp2_with fail
    refine P2.mono ?_; rintro e w6 ⟨rfl, hr6, ho6⟩
    go_wp2_with fail
    first | go_end0 | refine bodyPost_ret (results_none rfl _ _ _) rfl ?_
    exact ⟨rfl, by rw [HM.out]; exact hr6, ho5.trans ho6⟩
end
end Go.Proofs.Ytplhonlgbidemaa
