/- The document's arena in the memory: New, Restart. -/
import Derived.Test.YtplhonlgbidemaaArA
namespace Go.Proofs.Ytplhonlgbidemaa
open Go.RowKit

/-- A row of places as a slice, not in block r. -/
def RowV (w : World) (r : Nat) (v : Value) (l : List Nat) : Prop :=
  ∃ a c, v = .slice a l.length c ∧ l.length ≤ c ∧ (a = none → c = 0) ∧ ∀ (j x : Nat), l[j]? = some x → ∃ b off, a = some ⟨b, off, none⟩ ∧ b ≠ r ∧ w.cell? ⟨b, off + j, none⟩ = some (.int .i64 (x : Nat)) ∧ ∃ cs, Blk w b 3 cs
/-- The document's arena. -/
def Rf (w : World) (r : Nat) (A : AM) : Prop :=
  ∃ cs, Blk w r 85 cs ∧ cs[0]? = some (.int .i64 (A.size : Nat)) ∧ (∀ i, i < 38 → ∃ v, cs[1 + i]? = some v ∧ RowV w r v (A.rows i))
    ∧ cs[39]? = some (.int .i64 (A.text : Nat)) ∧ cs[40]? = some (.int .i64 (A.start : Nat)) ∧ cs[41]? = some (.int .i64 (A.low : Nat)) ∧ cs[42]? = some (.int .i64 (A.high : Nat)) ∧ cs[43]? = some (.int .i64 (A.glue : Nat))
section
variable {w w' : World} {r : Nat} {A : AM}
theorem RowV.on {s : Nat → Prop} {v : Value} {l : List Nat} (h : RowV w r v l) (ho : On s w w') (hs : ∀ k, s k → k = r ∨ w.heap.size ≤ k) : RowV w' r v l := by
  obtain ⟨a, c, h1, h2, h3, h4⟩ := h
  refine ⟨a, c, h1, h2, h3, fun j x hj => ?_⟩
  obtain ⟨b, off, h5, h6, h7, ds, h8⟩ := h4 j x hj
  have hb := World.block_lt_of_cell? _ _ h7
  have hns : ¬ s b := fun e => by rcases hs b e with e | e; exact h6 e; exact absurd hb (by dsimp only; omega)
  refine ⟨b, off, h5, h6, ?_, ds, h8.on ho hns⟩
  rw [World.cell?_of_block (w := w) (ho.block b hb hns)]
  exact h7
theorem RowV.nil (w : World) (r : Nat) : RowV w r (.slice none 0 0) [] := ⟨none, 0, rfl, Nat.le_refl _, fun _ => rfl, fun j x h => by simp at h⟩
theorem Rf.lt (h : Rf w r A) : r < w.heap.size := by obtain ⟨cs, hb, -⟩ := h; exact hb.lt
theorem Rf.free (h : Rf w r A) (i : Nat) : w.frozen? ⟨r, i, none⟩ = false := by obtain ⟨cs, hb, -⟩ := h; exact hb.free i
theorem Rf.siz (h : Rf w r A) : w.cell? ⟨r, 0, none⟩ = some (.int .i64 (A.size : Nat)) := by obtain ⟨cs, hb, h, -⟩ := h; rw [hb.cell]; exact h
theorem Rf.row (h : Rf w r A) {i : Nat} (hi : i < 38) : ∃ v, w.cell? ⟨r, 1 + i, none⟩ = some v ∧ RowV w r v (A.rows i) := by obtain ⟨cs, hb, -, h, -⟩ := h; rw [hb.cell]; exact h i hi
theorem Rf.text (h : Rf w r A) : w.cell? ⟨r, 39, none⟩ = some (.int .i64 (A.text : Nat)) := by obtain ⟨cs, hb, -, -, h, -⟩ := h; rw [hb.cell]; exact h
theorem Rf.start (h : Rf w r A) : w.cell? ⟨r, 40, none⟩ = some (.int .i64 (A.start : Nat)) := by obtain ⟨cs, hb, -, -, -, h, -⟩ := h; rw [hb.cell]; exact h
theorem Rf.low (h : Rf w r A) : w.cell? ⟨r, 41, none⟩ = some (.int .i64 (A.low : Nat)) := by obtain ⟨cs, hb, -, -, -, -, h, -⟩ := h; rw [hb.cell]; exact h
theorem Rf.high (h : Rf w r A) : w.cell? ⟨r, 42, none⟩ = some (.int .i64 (A.high : Nat)) := by obtain ⟨cs, hb, -, -, -, -, -, h, -⟩ := h; rw [hb.cell]; exact h
theorem Rf.glue (h : Rf w r A) : w.cell? ⟨r, 43, none⟩ = some (.int .i64 (A.glue : Nat)) := by obtain ⟨cs, hb, -, -, -, -, -, -, h⟩ := h; rw [hb.cell]; exact h
theorem Rf.on {s : Nat → Prop} (h : Rf w r A) (ho : On s w w') (hr : ¬ s r) (hs : ∀ k, s k → w.heap.size ≤ k ∨ k = r) : Rf w' r A := by
  obtain ⟨cs, hb, h0, h1, h2⟩ := h
  exact ⟨cs, hb.on ho hr, h0, fun i hi => by obtain ⟨v, hv, h⟩ := h1 i hi; exact ⟨v, hv, h.on ho (fun k hk => (hs k hk).symm)⟩, h2⟩
/-- A block of another type is written. -/
theorem Rf.far {s : Nat → Prop} (h : Rf w r A) (ho : On s w w') (hr : ¬ s r) (hs : ∀ k, s k → w.heap.size ≤ k ∨ ∃ t cs, Blk w k t cs ∧ t ≠ 3) : Rf w' r A := by
  obtain ⟨cs, hb, h0, h1, h2⟩ := h
  refine ⟨cs, hb.on ho hr, h0, fun i hi => ?_, h2⟩
  obtain ⟨v, hv, a, c, k1, k2, k3, k4⟩ := h1 i hi
  refine ⟨v, hv, a, c, k1, k2, k3, fun j x hj => ?_⟩
  obtain ⟨b, off, h5, h6, h7, ds, h8⟩ := k4 j x hj
  have hns : ¬ s b := fun e => by
    rcases hs b e with e | ⟨t, es, e1, e2⟩
    · have := h8.lt; omega
    · exact h8.apart e1 (fun e => e2 e.symm) rfl
  refine ⟨b, off, h5, h6, ?_, ds, h8.on ho hns⟩
  rw [World.cell?_of_block (w := w) (ho.block b h8.lt hns)]
  exact h7
theorem Rf.putText (h : Rf w r A) (v : Nat) : Rf (w.setCell ⟨r, 39, none⟩ (.int .i64 (v : Nat))) r { A with text := v } := by
  obtain ⟨cs, hb, h0, h1, h2, h3, h4, h5, h6⟩ := h
  exact ⟨_, hb.put 39 _, by rw [get_set cs _ h0]; rfl, fun i hi => by obtain ⟨u, hu, h⟩ := h1 i hi; exact ⟨u, by rw [get_set cs _ hu, if_neg (by omega)], h.on ((on_refl (fun k => k = r) w).put (g := r) (i := 39) rfl _) (fun k e => .inl e)⟩,
    by rw [get_set cs _ h2]; rfl, by rw [get_set cs _ h3]; rfl, by rw [get_set cs _ h4]; rfl, by rw [get_set cs _ h5]; rfl, by rw [get_set cs _ h6]; rfl⟩
theorem Rf.putStart (h : Rf w r A) (v : Nat) : Rf (w.setCell ⟨r, 40, none⟩ (.int .i64 (v : Nat))) r { A with start := v } := by
  obtain ⟨cs, hb, h0, h1, h2, h3, h4, h5, h6⟩ := h
  exact ⟨_, hb.put 40 _, by rw [get_set cs _ h0]; rfl, fun i hi => by obtain ⟨u, hu, h⟩ := h1 i hi; exact ⟨u, by rw [get_set cs _ hu, if_neg (by omega)], h.on ((on_refl (fun k => k = r) w).put (g := r) (i := 40) rfl _) (fun k e => .inl e)⟩,
    by rw [get_set cs _ h2]; rfl, by rw [get_set cs _ h3]; rfl, by rw [get_set cs _ h4]; rfl, by rw [get_set cs _ h5]; rfl, by rw [get_set cs _ h6]; rfl⟩
theorem Rf.putLow (h : Rf w r A) (v : Nat) : Rf (w.setCell ⟨r, 41, none⟩ (.int .i64 (v : Nat))) r { A with low := v } := by
  obtain ⟨cs, hb, h0, h1, h2, h3, h4, h5, h6⟩ := h
  exact ⟨_, hb.put 41 _, by rw [get_set cs _ h0]; rfl, fun i hi => by obtain ⟨u, hu, h⟩ := h1 i hi; exact ⟨u, by rw [get_set cs _ hu, if_neg (by omega)], h.on ((on_refl (fun k => k = r) w).put (g := r) (i := 41) rfl _) (fun k e => .inl e)⟩,
    by rw [get_set cs _ h2]; rfl, by rw [get_set cs _ h3]; rfl, by rw [get_set cs _ h4]; rfl, by rw [get_set cs _ h5]; rfl, by rw [get_set cs _ h6]; rfl⟩
theorem Rf.putHigh (h : Rf w r A) (v : Nat) : Rf (w.setCell ⟨r, 42, none⟩ (.int .i64 (v : Nat))) r { A with high := v } := by
  obtain ⟨cs, hb, h0, h1, h2, h3, h4, h5, h6⟩ := h
  exact ⟨_, hb.put 42 _, by rw [get_set cs _ h0]; rfl, fun i hi => by obtain ⟨u, hu, h⟩ := h1 i hi; exact ⟨u, by rw [get_set cs _ hu, if_neg (by omega)], h.on ((on_refl (fun k => k = r) w).put (g := r) (i := 42) rfl _) (fun k e => .inl e)⟩,
    by rw [get_set cs _ h2]; rfl, by rw [get_set cs _ h3]; rfl, by rw [get_set cs _ h4]; rfl, by rw [get_set cs _ h5]; rfl, by rw [get_set cs _ h6]; rfl⟩
theorem Rf.putGlue (h : Rf w r A) (v : Nat) : Rf (w.setCell ⟨r, 43, none⟩ (.int .i64 (v : Nat))) r { A with glue := v } := by
  obtain ⟨cs, hb, h0, h1, h2, h3, h4, h5, h6⟩ := h
  exact ⟨_, hb.put 43 _, by rw [get_set cs _ h0]; rfl, fun i hi => by obtain ⟨u, hu, h⟩ := h1 i hi; exact ⟨u, by rw [get_set cs _ hu, if_neg (by omega)], h.on ((on_refl (fun k => k = r) w).put (g := r) (i := 43) rfl _) (fun k e => .inl e)⟩,
    by rw [get_set cs _ h2]; rfl, by rw [get_set cs _ h3]; rfl, by rw [get_set cs _ h4]; rfl, by rw [get_set cs _ h5]; rfl, by rw [get_set cs _ h6]; rfl⟩
theorem Rf.putRow (h : Rf w r A) {i : Nat} (hi : i < 38) {v : Value} {l : List Nat} (hv : RowV w r v l) : Rf (w.setCell ⟨r, 1 + i, none⟩ v) r { A with rows := upr A.rows i l } := by
  obtain ⟨cs, hb, h0, h1, h2, h3, h4, h5, h6⟩ := h
  refine ⟨_, hb.put (1 + i) _, by rw [get_set cs _ h0, if_neg (by omega)], fun j hj => ?_, by rw [get_set cs _ h2, if_neg (by omega)], by rw [get_set cs _ h3, if_neg (by omega)], by rw [get_set cs _ h4, if_neg (by omega)], by rw [get_set cs _ h5, if_neg (by omega)], by rw [get_set cs _ h6, if_neg (by omega)]⟩
  obtain ⟨u, hu, h⟩ := h1 j hj
  have on := (on_refl (fun k => k = r) w).put (g := r) (i := 1 + i) rfl v
  by_cases e : j = i
  · subst e
    refine ⟨v, by rw [get_set cs _ hu, if_pos rfl], ?_⟩
    show RowV _ r v (upr A.rows j l j)
    rw [upr_same]
    exact hv.on on (fun k e => .inl e)
  · refine ⟨u, by rw [get_set cs _ hu, if_neg (by omega)], ?_⟩
    show RowV _ r u (upr A.rows i l j)
    unfold upr
    rw [if_neg e]
    exact h.on on (fun k e => .inl e)
noncomputable def zeroRw : Array Value := match ((Try.prog.info? 83).bind fun i => i.zero) with | some (.agg cs) => cs | _ => #[]
theorem zrw_run (w : World) : (zeroValue 83).run Try.prog w = .ok (.agg zeroRw) w := by kernel_rfl
theorem zrw_list : zeroRw.toList = List.replicate 38 (.slice none 0 0) := by kernel_rfl
theorem zrw_size : zeroRw.size = 38 := by kernel_rfl
/-- The document's arena, its rows behind the first k emptied. -/
theorem row_clear : ∀ (k j : Nat) (w : World) (cs : Array Value), 1 + j + k ≤ 44 → 44 ≤ cs.size → Blk w r 85 cs →
    ∃ cs', Blk (w.setCells r (1 + j) (List.replicate k (.slice none 0 0))) r 85 cs' ∧ 44 ≤ cs'.size ∧ (∀ i, 1 + j ≤ i → i < 1 + j + k → cs'[i]? = some (.slice none 0 0)) ∧ (∀ i, i < 1 + j ∨ 1 + j + k ≤ i → cs'[i]? = cs[i]?)
      ∧ On (fun b => b = r) w (w.setCells r (1 + j) (List.replicate k (.slice none 0 0))) := by
  intro k
  induction k with
  | zero => intro j w cs _ hs hb; exact ⟨cs, hb, hs, fun i h1 h2 => by omega, fun _ _ => rfl, on_refl _ _⟩
  | succ k ih =>
    intro j w cs hj hs hb
    obtain ⟨cs', h1, h2, h3, h4, h5⟩ := ih (j + 1) (w.setCell ⟨r, 1 + j, none⟩ (.slice none 0 0)) (cs.setIfInBounds (1 + j) (.slice none 0 0)) (by omega) (by simpa using hs) (hb.put (1 + j) _)
    refine ⟨cs', h1, h2, fun i k1 k2 => ?_, fun i k1 => ?_, ((on_refl (fun b => b = r) w).put (g := r) (i := 1 + j) rfl (.slice none 0 0)).trans h5⟩
    · by_cases e : i = 1 + j
      · rw [h4 i (by omega), e, Array.getElem?_setIfInBounds, if_pos rfl, if_pos (by omega)]
      · exact h3 i (by omega) (by omega)
    · rw [h4 i (by omega), Array.getElem?_setIfInBounds, if_neg (by omega)]
set_option maxRecDepth 100000 in
set_option maxHeartbeats 1000000 in
theorem rrestart_any (h : Rf w r A) (hn : A.size ≤ 16777216) :
    Calls Try.prog 46 #[.pointer (some ⟨r, 0, none⟩)] w fun e w' => e = .returned (.tuple #[]) ∧ Rf w' r (freshM A.size) ∧ On (fun k => k = r) w w' := by
  have hz := zrw_run
  have hzl := zrw_list
  have hzs := zrw_size
  generalize zeroRw = Z at *
  have hzn : ¬ Z = #[] := by intro e; rw [e] at hzs; cases hzs
  obtain ⟨cs, hb, h0, h1, h2, h3, h4, h5, h6⟩ := h
  have hs : 44 ≤ cs.size := by
    rcases Nat.lt_or_ge 43 cs.size with h | h
    · omega
    · rw [Array.getElem?_eq_none h] at h6; cases h6
  have hst := run_storeCells_cells (P := Try.prog) r 1 Z.toList 0 w (fun j hj => by rw [hb.cell, Array.getElem?_eq_getElem (by rw [hzl] at hj; simp at hj; omega)]; rfl) (fun j _ => hb.free _) (fun v hv => by rw [hzl] at hv; rw [List.eq_of_mem_replicate hv]; rfl)
  simp only [Nat.add_zero] at hst
  obtain ⟨c1, hb1, hs1, hr1, hk1, ho1⟩ := row_clear 38 0 w cs (by omega) hs hb
  simp only [Nat.add_zero] at hb1 ho1 hr1 hk1
  rw [← hzl] at hb1 ho1
  generalize w.setCells r 1 Z.toList = w1 at *
  have hR1 : Rf w1 r { A with rows := fun _ => [] } := by
    refine ⟨c1, hb1, by rw [hk1 0 (by omega)]; exact h0, fun i hi => ⟨_, hr1 (1 + i) (by omega) (by omega), RowV.nil _ _⟩, ?_, ?_, ?_, ?_, ?_⟩
    · rw [hk1 _ (by omega)]; exact h2
    · rw [hk1 _ (by omega)]; exact h3
    · rw [hk1 _ (by omega)]; exact h4
    · rw [hk1 _ (by omega)]; exact h5
    · rw [hk1 _ (by omega)]; exact h6
  clear hzl hb hs h0 h1 h2 h3 h4 h5 h6 hb1 hs1 hr1 hk1
  have e2 : ((A.size + 1 : Nat) : Int) = (A.size : Int) + 1 := by omega
  have e1 : ((1 : Nat) : Int) = 1 := rfl
  have hR2 := (hR1.putText 1).putHigh (A.size + 1)
  have o2 := (ho1.put (g := r) (i := 39) rfl (.int .i64 ((1 : Nat) : Int))).put (g := r) (i := 42) rfl (.int .i64 ((A.size + 1 : Nat) : Int))
  rw [e1, e2] at hR2 o2
  have c0 := hR1.siz
  have c39 := hR1.text
  have c42 := hR1.high
  have f39 := hR1.free 39
  have f42 := hR1.free 42
  dsimp only at c0 c39 c42
  clear hR1 ho1
  go_enter Try.func46, Try.ntmps46
  go_wp2_with fail
  clear hst hz hzs hzn c0 c39 c42 f39 f42
  generalize World.setCell (World.setCell _ _ _) _ _ = w2 at *
  refine wp_region_still_tail 14 (by kernel_rfl) (by kernel_rfl) ?_
  change wpStill _ _ w2.drew (fun a' => wpList _ _ _ _ a' w2.drew) _ _
  have hR3 : Rf w2.drew r _ := hR2
  have d0 := hR3.siz
  have d42 := hR3.high
  dsimp only at d0 d42
  rw [e2] at d42
  simp only [List.take_succ_cons, List.take_zero, List.drop_succ_cons, List.drop_zero]
  repeat still_step
  refine wpStill_nil ?_
  have el : ((A.size + 1 - A.size / 96 * 84 : Nat) : Int) = (A.size : Int) + 1 - (A.size : Int) / 96 * 84 := by omega
  have hR4 := ((hR3.putLow (A.size + 1 - A.size / 96 * 84)).putStart (A.size + 1 - A.size / 96 * 84)).putGlue 0
  have o4 := ((o2.drew.put (g := r) (i := 41) rfl (.int .i64 ((A.size + 1 - A.size / 96 * 84 : Nat) : Int))).put (g := r) (i := 40) rfl (.int .i64 ((A.size + 1 - A.size / 96 * 84 : Nat) : Int))).put (g := r) (i := 43) rfl (.int .i64 ((0 : Nat) : Int))
  have e0 : ((0 : Nat) : Int) = 0 := rfl
  rw [el, e0] at hR4 o4
  have c41 := hR2.low
  have c40 := hR2.start
  have c43 := hR2.glue
  have f41 := hR2.free 41
  have f40 := hR2.free 40
  have f43 := hR2.free 43
  dsimp only at c41 c40 c43
  clear hR2 hR3 d0 d42
  go_wp2_with fail
  go_end0
  exact ⟨rfl, hR4, o4⟩
/-- The document's arena, laid. -/
noncomputable def zeroRf : Array Value := match ((Try.prog.info? 85).bind fun i => i.zero) with | some (.agg cs) => cs | _ => #[]
theorem zrf_run (w : World) : (zeroValue 85).run Try.prog w = .ok (.agg zeroRf) w := by kernel_rfl
theorem zrf_size : zeroRf.size = 44 := by kernel_rfl
set_option maxRecDepth 100000 in
theorem zrf_cells : (∀ i, i < 38 → zeroRf[1 + i]? = some (.slice none 0 0)) ∧ zeroRf[0]? = some (.int .i64 0) ∧ zeroRf[39]? = some (.int .i64 0) ∧ zeroRf[40]? = some (.int .i64 0) ∧ zeroRf[41]? = some (.int .i64 0) ∧ zeroRf[42]? = some (.int .i64 0) ∧ zeroRf[43]? = some (.int .i64 0) := by
  refine ⟨?_, by kernel_rfl, by kernel_rfl, by kernel_rfl, by kernel_rfl, by kernel_rfl, by kernel_rfl⟩
  have h : ((List.range 38).all fun i => match zeroRf[1 + i]? with | some (.slice none 0 0) => true | _ => false) = true := by kernel_rfl
  intro i hi
  have := List.all_eq_true.1 h i (List.mem_range.2 hi)
  split at this
  · next e => exact e
  · cases this
set_option maxRecDepth 100000 in
set_option maxHeartbeats 1000000 in
theorem rnew_any (w : World) {n : Nat} (hn : n ≤ 16777216) :
    Calls Try.prog 37 #[.int .i64 (n : Nat)] w fun e w' => ∃ r, e = .returned (.pointer (some ⟨r, 0, none⟩)) ∧ w.heap.size ≤ r ∧ Rf w' r (freshM n) ∧ w.grownBy w' none := by
  have hz := zrf_run
  have hzs := zrf_size
  obtain ⟨z0, z1, z2, z3, z4, z5, z6⟩ := zrf_cells
  generalize zeroRf = Z at *
  have hzn : ¬ Z = #[] := by intro e; rw [e] at hzs; cases hzs
  have hb := Blk.new w 85 (Z.setIfInBounds 0 (.int .i64 (n : Nat)))
  have hR : Rf (w.alloc (.cells (Z.setIfInBounds 0 (.int .i64 (n : Nat))) 85)) w.heap.size { size := n, rows := fun _ => [], text := 0, start := 0, low := 0, high := 0, glue := 0 } :=
    ⟨_, hb, by rw [get_set Z _ z1]; rfl, fun i hi => ⟨_, by rw [get_set Z _ (z0 i hi), if_neg (by omega)], RowV.nil _ _⟩, by rw [get_set Z _ z2]; rfl, by rw [get_set Z _ z3]; rfl, by rw [get_set Z _ z4]; rfl, by rw [get_set Z _ z5]; rfl, by rw [get_set Z _ z6]; rfl⟩
  have RS := rrestart_any hR hn
  clear hR hb z0 z1 z2 z3 z4 z5 z6
  go_enter Try.func37, Try.ntmps37
  go_wp2_with fail
  refine RS.mono ?_; rintro e w2 ⟨rfl, hR2, ho2⟩
  go_wp2_with fail
  go_ret
  exact ⟨_, rfl, Nat.le_refl _, hR2, ho2.grown (grown_alloc (grown_refl w none) _) (by omega)⟩
end
end Go.Proofs.Ytplhonlgbidemaa
