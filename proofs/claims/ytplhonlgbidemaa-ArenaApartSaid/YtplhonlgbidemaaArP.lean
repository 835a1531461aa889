/- The arena in the memory. -/
import Derived.Test.YtplhonlgbidemaaArM
import Derived.Laws.BitsAllLaws
import Derived.Lib.Hide
import Derived.BigQuiet
import Derived.OwnWalk
namespace Go.Proofs.Ytplhonlgbidemaa
open Go.RowKit

/-- Only blocks of s have changed. -/
structure On (s : Nat → Prop) (w w' : World) : Prop where
  os : w'.os = w.os
  tape : w'.tape = w.tape
  output : w'.output = w.output
  size : w.heap.size ≤ w'.heap.size
  block : ∀ k, k < w.heap.size → ¬ s k → w'.heap[k]? = w.heap[k]?
section
variable {s : Nat → Prop} {w w' w2 : World} {g : Nat} {t : TypeId} {cs : Array Value}
theorem on_refl (s : Nat → Prop) (w : World) : On s w w := ⟨rfl, rfl, rfl, Nat.le_refl _, fun _ _ _ => rfl⟩
theorem On.trans (h : On s w w') (k : On s w' w2) : On s w w2 :=
  ⟨k.os.trans h.os, k.tape.trans h.tape, k.output.trans h.output, Nat.le_trans h.size k.size, fun i hi hr => (k.block i (Nat.lt_of_lt_of_le hi h.size) hr).trans (h.block i hi hr)⟩
theorem On.mono {s' : Nat → Prop} (h : On s w w') (hs : ∀ k, s k → s' k) : On s' w w' := ⟨h.os, h.tape, h.output, h.size, fun k hk hr => h.block k hk fun e => hr (hs k e)⟩
theorem On.drewN (h : On s w w') (n : Nat) : On s w (w'.drewN n) := ⟨h.os, h.tape, h.output, h.size, h.block⟩
theorem On.drew (h : On s w w') : On s w w'.drew := ⟨h.os, h.tape, h.output, h.size, h.block⟩
theorem On.put (h : On s w w') {i : Nat} (hs : s g) (u : Value) : On s w (w'.setCell ⟨g, i, none⟩ u) :=
  ⟨h.os, h.tape, h.output, by simpa using h.size, fun k hk hr => (Below.heap_setCell w' ⟨g, i, none⟩ u k (fun e => hr (by rw [e]; exact hs))).trans (h.block k hk hr)⟩
theorem On.of_grown {row : Option Nat} (h : w.grownBy w' row) (hs : ∀ k, row = some k → s k) : On s w w' :=
  ⟨h.os, h.tape, h.output, h.size, fun k hk hr => h.block k hk fun e => hr (hs k e.symm)⟩
theorem On.grown (h : On s w w') {W : World} (hW : W.grownBy w none) (hs : ∀ k, s k → W.heap.size ≤ k) : W.grownBy w' none :=
  ⟨h.os.trans hW.os, h.tape.trans hW.tape, h.output.trans hW.output, Nat.le_trans hW.size h.size,
    fun k hk _ => (h.block k (Nat.lt_of_lt_of_le hk hW.size) (fun e => by have := hs k e; omega)).trans (hW.block k hk (by simp))⟩
theorem Blk.on (h : Blk w g t cs) (ho : On s w w') (hs : ¬ s g) : Blk w' g t cs := (ho.block g h.lt hs).trans h
end

def two (g gm : Nat) : Nat → Prop := fun k => k = g ∨ k = gm

/-- An arena in the memory: its cells are g, its bytes gm: M. -/
def Ar (w : World) (g gm : Nat) (mt : Value) (A : AM) (F : Nat → Nat) (M : Nat → Nat) : Prop :=
  ∃ cs ds, Blk w g 69 cs ∧ Blk w gm 5 ds ∧ cs[0]? = some (.slice (some ⟨gm, 0, none⟩) (A.size + 13) (A.size + 13)) ∧ cs[1]? = some (.int .i64 (A.size : Nat)) ∧ cs[2]? = some mt
    ∧ (∀ i, i < 38 → cs[3 + i]? = some (.int .i64 (sz i : Nat))) ∧ (∀ n, 1 ≤ n → n ≤ 128 → cs[41 + n]? = some (.int .i64 (fr n : Nat))) ∧ (∀ i, i < 38 → cs[170 + i]? = some (.int .i64 (F i : Nat)))
    ∧ cs[208]? = some (.int .i64 (A.text : Nat)) ∧ cs[209]? = some (.int .i64 (A.start : Nat)) ∧ cs[210]? = some (.int .i64 (A.low : Nat)) ∧ cs[211]? = some (.int .i64 (A.high : Nat)) ∧ cs[212]? = some (.int .u32 (A.glue : Nat))
    ∧ A.size ≤ 4294967259 ∧ ∀ i, i < A.size + 13 → M i < 256 ∧ ds[i]? = some (.int .u8 (M i : Nat))

theorem get_set (cs : Array Value) {i j : Nat} (v : Value) {y : Value} (hj : cs[j]? = some y) : (cs.setIfInBounds i v)[j]? = some (if i = j then v else y) := by
  have hlt : j < cs.size := by
    rcases Nat.lt_or_ge j cs.size with h | h
    · exact h
    · rw [Array.getElem?_eq_none h] at hj; cases hj
  rw [Array.getElem?_setIfInBounds]
  by_cases h : i = j
  · subst h; simp [hlt]
  · simp [h, hj]

section
variable {w w' : World} {g gm : Nat} {mt : Value} {A : AM} {F M : Nat → Nat}
theorem Ar.ne (h : Ar w g gm mt A F M) : g ≠ gm := by obtain ⟨cs, ds, h1, h2, -⟩ := h; exact h1.apart h2 (by decide)
theorem Ar.lt (h : Ar w g gm mt A F M) : g < w.heap.size := by obtain ⟨cs, ds, h1, -⟩ := h; exact h1.lt
theorem Ar.ltm (h : Ar w g gm mt A F M) : gm < w.heap.size := by obtain ⟨cs, ds, -, h1, -⟩ := h; exact h1.lt
theorem Ar.free (h : Ar w g gm mt A F M) (i : Nat) : w.frozen? ⟨g, i, none⟩ = false := by obtain ⟨cs, ds, hb, -⟩ := h; exact hb.free i
theorem Ar.freem (h : Ar w g gm mt A F M) (i : Nat) : w.frozen? ⟨gm, i, none⟩ = false := by obtain ⟨cs, ds, -, hb, -⟩ := h; exact hb.free i
theorem Ar.mem (h : Ar w g gm mt A F M) : w.cell? ⟨g, 0, none⟩ = some (.slice (some ⟨gm, 0, none⟩) (A.size + 13) (A.size + 13)) := by obtain ⟨cs, ds, hb, -, h, -⟩ := h; rw [hb.cell]; exact h
theorem Ar.siz (h : Ar w g gm mt A F M) : w.cell? ⟨g, 1, none⟩ = some (.int .i64 (A.size : Nat)) := by obtain ⟨cs, ds, hb, -, -, h, -⟩ := h; rw [hb.cell]; exact h
theorem Ar.meter (h : Ar w g gm mt A F M) : w.cell? ⟨g, 2, none⟩ = some mt := by obtain ⟨cs, ds, hb, -, -, -, h, -⟩ := h; rw [hb.cell]; exact h
theorem Ar.units (h : Ar w g gm mt A F M) {i : Nat} (hi : i < 38) : w.cell? ⟨g, 3 + i, none⟩ = some (.int .i64 (sz i : Nat)) := by obtain ⟨cs, ds, hb, -, -, -, -, h, -⟩ := h; rw [hb.cell]; exact h i hi
theorem Ar.which (h : Ar w g gm mt A F M) {n : Nat} (h1 : 1 ≤ n) (h2 : n ≤ 128) : w.cell? ⟨g, 41 + n, none⟩ = some (.int .i64 (fr n : Nat)) := by obtain ⟨cs, ds, hb, -, -, -, -, -, h, -⟩ := h; rw [hb.cell]; exact h n h1 h2
theorem Ar.row (h : Ar w g gm mt A F M) {i : Nat} (hi : i < 38) : w.cell? ⟨g, 170 + i, none⟩ = some (.int .i64 (F i : Nat)) := by obtain ⟨cs, ds, hb, -, -, -, -, -, -, h, -⟩ := h; rw [hb.cell]; exact h i hi
theorem Ar.text (h : Ar w g gm mt A F M) : w.cell? ⟨g, 208, none⟩ = some (.int .i64 (A.text : Nat)) := by obtain ⟨cs, ds, hb, -, -, -, -, -, -, -, h, -⟩ := h; rw [hb.cell]; exact h
theorem Ar.start (h : Ar w g gm mt A F M) : w.cell? ⟨g, 209, none⟩ = some (.int .i64 (A.start : Nat)) := by obtain ⟨cs, ds, hb, -, -, -, -, -, -, -, -, h, -⟩ := h; rw [hb.cell]; exact h
theorem Ar.low (h : Ar w g gm mt A F M) : w.cell? ⟨g, 210, none⟩ = some (.int .i64 (A.low : Nat)) := by obtain ⟨cs, ds, hb, -, -, -, -, -, -, -, -, -, h, -⟩ := h; rw [hb.cell]; exact h
theorem Ar.high (h : Ar w g gm mt A F M) : w.cell? ⟨g, 211, none⟩ = some (.int .i64 (A.high : Nat)) := by obtain ⟨cs, ds, hb, -, -, -, -, -, -, -, -, -, -, h, -⟩ := h; rw [hb.cell]; exact h
theorem Ar.glue (h : Ar w g gm mt A F M) : w.cell? ⟨g, 212, none⟩ = some (.int .u32 (A.glue : Nat)) := by obtain ⟨cs, ds, hb, -, -, -, -, -, -, -, -, -, -, -, h, -⟩ := h; rw [hb.cell]; exact h
theorem Ar.small (h : Ar w g gm mt A F M) : A.size ≤ 4294967259 := by obtain ⟨cs, ds, hb, -, -, -, -, -, -, -, -, -, -, -, -, h, -⟩ := h; exact h
theorem Ar.byte (h : Ar w g gm mt A F M) {i : Nat} (hi : i < A.size + 13) : w.cell? ⟨gm, i, none⟩ = some (.int .u8 (M i : Nat)) := by obtain ⟨cs, ds, -, hb, -, -, -, -, -, -, -, -, -, -, -, -, h⟩ := h; rw [hb.cell]; exact (h i hi).2
theorem Ar.bd (h : Ar w g gm mt A F M) {i : Nat} (hi : i < A.size + 13) : M i < 256 := by obtain ⟨cs, ds, -, hb, -, -, -, -, -, -, -, -, -, -, -, -, h⟩ := h; exact (h i hi).1
theorem Ar.drewN (h : Ar w g gm mt A F M) (n : Nat) : Ar (w.drewN n) g gm mt A F M := h
theorem Ar.drew (h : Ar w g gm mt A F M) : Ar w.drew g gm mt A F M := h
theorem Ar.on {s : Nat → Prop} (h : Ar w g gm mt A F M) (ho : On s w w') (h1 : ¬ s g) (h2 : ¬ s gm) : Ar w' g gm mt A F M := by
  obtain ⟨cs, ds, hb, hb2, hr⟩ := h; exact ⟨cs, ds, hb.on ho h1, hb2.on ho h2, hr⟩

/-- A byte is stored. -/
theorem Ar.putByte (h : Ar w g gm mt A F M) (p b : Nat) (hb : b < 256) : Ar (w.setCell ⟨gm, p, none⟩ (.int .u8 (b : Nat))) g gm mt A F (fun i => if i = p then b else M i) := by
  have hne := h.ne
  obtain ⟨cs, ds, h1, h2, h3, h4, h5, h6, h7, h8, h9, h10, h11, h12, h13, h14, h15⟩ := h
  refine ⟨cs, _, h1.far (by simpa using hne) _, h2.put p _, h3, h4, h5, h6, h7, h8, h9, h10, h11, h12, h13, h14, fun i hi => ?_⟩
  obtain ⟨e1, e2⟩ := h15 i hi
  rw [get_set ds _ e2]
  dsimp only
  by_cases e : i = p
  · rw [if_pos e, if_pos e.symm]; exact ⟨hb, rfl⟩
  · rw [if_neg e, if_neg (fun k => e k.symm)]; exact ⟨e1, rfl⟩
/-- A row's front is stored. -/
theorem Ar.putRow (h : Ar w g gm mt A F M) {r v : Nat} (hr : r < 38) : Ar (w.setCell ⟨g, 170 + r, none⟩ (.int .i64 (v : Nat))) g gm mt A (fun i => if i = r then v else F i) M := by
  have hne := h.ne
  obtain ⟨cs, ds, h1, h2, h3, h4, h5, h6, h7, h8, h9, h10, h11, h12, h13, h14, h15⟩ := h
  refine ⟨_, ds, h1.put (170 + r) _, h2.far (by simpa using hne.symm) _, ?_, ?_, ?_, fun i hi => ?_, fun n k1 k2 => ?_, fun i hi => ?_, ?_, ?_, ?_, ?_, ?_, h14, h15⟩
  · rw [get_set cs _ h3, if_neg (by omega)]
  · rw [get_set cs _ h4, if_neg (by omega)]
  · rw [get_set cs _ h5, if_neg (by omega)]
  · rw [get_set cs _ (h6 i hi), if_neg (by omega)]
  · rw [get_set cs _ (h7 n k1 k2), if_neg (by omega)]
  · rw [get_set cs _ (h8 i hi)]
    dsimp only
    by_cases e : i = r
    · rw [if_pos (by omega), if_pos e]
    · rw [if_neg (by omega), if_neg e]
  · rw [get_set cs _ h9, if_neg (by omega)]
  · rw [get_set cs _ h10, if_neg (by omega)]
  · rw [get_set cs _ h11, if_neg (by omega)]
  · rw [get_set cs _ h12, if_neg (by omega)]
  · rw [get_set cs _ h13, if_neg (by omega)]
theorem Ar.putText (h : Ar w g gm mt A F M) (v : Nat) : Ar (w.setCell ⟨g, 208, none⟩ (.int .i64 (v : Nat))) g gm mt { A with text := v } F M := by
  have hne := h.ne
  obtain ⟨cs, ds, h1, h2, h3, h4, h5, h6, h7, h8, h9, h10, h11, h12, h13, h14, h15⟩ := h
  exact ⟨_, ds, h1.put 208 _, h2.far (by simpa using hne.symm) _, by rw [get_set cs _ h3]; rfl, by rw [get_set cs _ h4]; rfl, by rw [get_set cs _ h5]; rfl, fun i hi => by rw [get_set cs _ (h6 i hi), if_neg (by omega)], fun n k1 k2 => by rw [get_set cs _ (h7 n k1 k2), if_neg (by omega)],
    fun i hi => by rw [get_set cs _ (h8 i hi), if_neg (by omega)], by rw [get_set cs _ h9]; rfl, by rw [get_set cs _ h10]; rfl, by rw [get_set cs _ h11]; rfl, by rw [get_set cs _ h12]; rfl, by rw [get_set cs _ h13]; rfl, h14, h15⟩
theorem Ar.putStart (h : Ar w g gm mt A F M) (v : Nat) : Ar (w.setCell ⟨g, 209, none⟩ (.int .i64 (v : Nat))) g gm mt { A with start := v } F M := by
  have hne := h.ne
  obtain ⟨cs, ds, h1, h2, h3, h4, h5, h6, h7, h8, h9, h10, h11, h12, h13, h14, h15⟩ := h
  exact ⟨_, ds, h1.put 209 _, h2.far (by simpa using hne.symm) _, by rw [get_set cs _ h3]; rfl, by rw [get_set cs _ h4]; rfl, by rw [get_set cs _ h5]; rfl, fun i hi => by rw [get_set cs _ (h6 i hi), if_neg (by omega)], fun n k1 k2 => by rw [get_set cs _ (h7 n k1 k2), if_neg (by omega)],
    fun i hi => by rw [get_set cs _ (h8 i hi), if_neg (by omega)], by rw [get_set cs _ h9]; rfl, by rw [get_set cs _ h10]; rfl, by rw [get_set cs _ h11]; rfl, by rw [get_set cs _ h12]; rfl, by rw [get_set cs _ h13]; rfl, h14, h15⟩
theorem Ar.putLow (h : Ar w g gm mt A F M) (v : Nat) : Ar (w.setCell ⟨g, 210, none⟩ (.int .i64 (v : Nat))) g gm mt { A with low := v } F M := by
  have hne := h.ne
  obtain ⟨cs, ds, h1, h2, h3, h4, h5, h6, h7, h8, h9, h10, h11, h12, h13, h14, h15⟩ := h
  exact ⟨_, ds, h1.put 210 _, h2.far (by simpa using hne.symm) _, by rw [get_set cs _ h3]; rfl, by rw [get_set cs _ h4]; rfl, by rw [get_set cs _ h5]; rfl, fun i hi => by rw [get_set cs _ (h6 i hi), if_neg (by omega)], fun n k1 k2 => by rw [get_set cs _ (h7 n k1 k2), if_neg (by omega)],
    fun i hi => by rw [get_set cs _ (h8 i hi), if_neg (by omega)], by rw [get_set cs _ h9]; rfl, by rw [get_set cs _ h10]; rfl, by rw [get_set cs _ h11]; rfl, by rw [get_set cs _ h12]; rfl, by rw [get_set cs _ h13]; rfl, h14, h15⟩
theorem Ar.putHigh (h : Ar w g gm mt A F M) (v : Nat) : Ar (w.setCell ⟨g, 211, none⟩ (.int .i64 (v : Nat))) g gm mt { A with high := v } F M := by
  have hne := h.ne
  obtain ⟨cs, ds, h1, h2, h3, h4, h5, h6, h7, h8, h9, h10, h11, h12, h13, h14, h15⟩ := h
  exact ⟨_, ds, h1.put 211 _, h2.far (by simpa using hne.symm) _, by rw [get_set cs _ h3]; rfl, by rw [get_set cs _ h4]; rfl, by rw [get_set cs _ h5]; rfl, fun i hi => by rw [get_set cs _ (h6 i hi), if_neg (by omega)], fun n k1 k2 => by rw [get_set cs _ (h7 n k1 k2), if_neg (by omega)],
    fun i hi => by rw [get_set cs _ (h8 i hi), if_neg (by omega)], by rw [get_set cs _ h9]; rfl, by rw [get_set cs _ h10]; rfl, by rw [get_set cs _ h11]; rfl, by rw [get_set cs _ h12]; rfl, by rw [get_set cs _ h13]; rfl, h14, h15⟩
theorem Ar.putGlue (h : Ar w g gm mt A F M) (v : Nat) : Ar (w.setCell ⟨g, 212, none⟩ (.int .u32 (v : Nat))) g gm mt { A with glue := v } F M := by
  have hne := h.ne
  obtain ⟨cs, ds, h1, h2, h3, h4, h5, h6, h7, h8, h9, h10, h11, h12, h13, h14, h15⟩ := h
  exact ⟨_, ds, h1.put 212 _, h2.far (by simpa using hne.symm) _, by rw [get_set cs _ h3]; rfl, by rw [get_set cs _ h4]; rfl, by rw [get_set cs _ h5]; rfl, fun i hi => by rw [get_set cs _ (h6 i hi), if_neg (by omega)], fun n k1 k2 => by rw [get_set cs _ (h7 n k1 k2), if_neg (by omega)],
    fun i hi => by rw [get_set cs _ (h8 i hi), if_neg (by omega)], by rw [get_set cs _ h9]; rfl, by rw [get_set cs _ h10]; rfl, by rw [get_set cs _ h11]; rfl, by rw [get_set cs _ h12]; rfl, by rw [get_set cs _ h13]; rfl, h14, h15⟩
theorem Ar.cong {A' : AM} {F' M' : Nat → Nat} (h : Ar w g gm mt A F M) (h0 : A'.size = A.size) (h1 : A'.text = A.text) (h2 : A'.start = A.start) (h3 : A'.low = A.low) (h4 : A'.high = A.high) (h5 : A'.glue = A.glue)
    (hF : ∀ i, i < 38 → F' i = F i) (hM : ∀ i, i < A.size + 13 → M' i = M i) : Ar w g gm mt A' F' M' := by
  obtain ⟨cs, ds, k1, k2, k3, k4, k5, k6, k7, k8, k9, k10, k11, k12, k13, k14, k15⟩ := h
  rw [← h0] at k3 k4 k14 k15
  rw [← h1] at k9
  rw [← h2] at k10
  rw [← h3] at k11
  rw [← h4] at k12
  rw [← h5] at k13
  rw [← h0] at hM
  exact ⟨cs, ds, k1, k2, k3, k4, k5, k6, k7, fun i hi => by rw [hF i hi]; exact k8 i hi, k9, k10, k11, k12, k13, k14, fun i hi => by rw [hM i hi]; exact k15 i hi⟩
end
end Go.Proofs.Ytplhonlgbidemaa
