/- A script of three numbers a step that came in. -/
import Derived.Test.YtplhonlgbidemaaBytes
import Derived.Deep.Slices
namespace Go.Proofs.Ytplhonlgbidemaa
open Go.ChangeShapes Go.WideShapes Go.ChangeAt Go.RowKit Go.Deep

/-- The slice value (A, n) reads as the steps (K i, N i, Q i), below block B. -/
def Script (w : World) (B : Nat) (A : Option Addr) (n : Nat) (K N Q : Nat → Int) : Prop :=
  ∀ i, i < n → ((-9223372036854775808 ≤ K i ∧ K i ≤ 9223372036854775807) ∧ (-9223372036854775808 ≤ N i ∧ N i ≤ 9223372036854775807) ∧ (-9223372036854775808 ≤ Q i ∧ Q i ≤ 9223372036854775807)) ∧ ∃ b off, A = some ⟨b, off, none⟩ ∧ b < B ∧
    w.cell? ⟨b, off + i * 3, none⟩ = some (.int .i64 (K i)) ∧ w.cell? ⟨b, off + i * 3 + 1, none⟩ = some (.int .i64 (N i)) ∧ w.cell? ⟨b, off + i * 3 + 2, none⟩ = some (.int .i64 (Q i))

theorem Script.keep {w w' : World} {B n : Nat} {A : Option Addr} {K N Q : Nat → Int} (h : Script w B A n K N Q) (hb : w.grownBy w' none) (hB : B ≤ w.heap.size) : Script w' B A n K N Q := by
  intro i hi
  obtain ⟨hn, b, off, e, hlt, h1, h2, h3⟩ := h i hi
  refine ⟨hn, b, off, e, hlt, ?_, ?_, ?_⟩
  · rw [World.cell?_of_block (w := w) (hb.block b (by omega) (by simp))]; exact h1
  · rw [World.cell?_of_block (w := w) (hb.block b (by omega) (by simp))]; exact h2
  · rw [World.cell?_of_block (w := w) (hb.block b (by omega) (by simp))]; exact h3

theorem pick_three {P : Nat → Int → Int → Int → Prop} {len : Nat} (key : ∀ i, i < len → ∃ k n q, P i k n q) : ∃ K N Q : Nat → Int, ∀ i, i < len → P i (K i) (N i) (Q i) :=
  ⟨fun i => if h : i < len then (key i h).choose else 0, fun i => if h : i < len then (key i h).choose_spec.choose else 0, fun i => if h : i < len then (key i h).choose_spec.choose_spec.choose else 0, fun i hi => by simp only [dif_pos hi]; exact (key i hi).choose_spec.choose_spec.choose_spec⟩

set_option maxRecDepth 100000 in
theorem script_open {H : Type} {enc : TypeId × Value → H} {W : World} {b0 : Nat} {r : Reach} {v : Value} {d : DataW H} {p : List MemPlace}
    (hv : Value.okWide Try.prog W r b0 23 v) (h : DataW.Trod enc Try.prog W 0 (fun _ => true) true 23 v d p) (_hlt : ∀ x ∈ p, x.block < W.heap.size) :
    ∃ (A : Option Addr) (n c : Nat) (K N Q : Nat → Int), v = .slice A n c ∧ n ≤ 9223372036854775807 ∧ Script W W.heap.size A n K N Q := by
  obtain ⟨a0, len, cap, rfl⟩ := okWide_slice Try.underlying23 hv
  obtain ⟨fuel, hf⟩ := h
  have h1 : Try.prog.cellsOf 3 = 1 := by kernel_rfl
  have hC : Try.prog.cellsOf 34 = 3 := by kernel_rfl
  rcases open_slice Try.underlying23 hf with ⟨hcs, _⟩ | ⟨a, len', cap', m, nf, D, Pl, hcs, hb, hl, hm, hmm, hx, hi⟩
  · simp [Value.cells] at hcs
    obtain ⟨rfl, rfl, rfl⟩ := hcs
    exact ⟨none, 0, 0, fun _ => 0, fun _ => 0, fun _ => 0, rfl, by omega, fun i hi => by omega⟩
  · simp [Value.cells] at hcs
    obtain ⟨rfl, rfl, rfl⟩ := hcs
    simp only [if_true] at hmm
    have key : ∀ i, i < len → ∃ k n q : Int, ((-9223372036854775808 ≤ k ∧ k ≤ 9223372036854775807) ∧ (-9223372036854775808 ≤ n ∧ n ≤ 9223372036854775807) ∧ (-9223372036854775808 ≤ q ∧ q ≤ 9223372036854775807)) ∧
        W.cell? (a.add (i * 3)) = some (.int .i64 k) ∧ W.cell? ((a.add (i * 3)).add 1) = some (.int .i64 n) ∧ W.cell? ((a.add (i * 3)).add 2) = some (.int .i64 q) := by
      intro i hil
      obtain ⟨cs', hc, ht'⟩ := hi i (by omega)
      rw [hC] at hc
      obtain ⟨xs, n', _, _, hlen, hyl, hg⟩ := DataW.trod_struct Try.underlying34 ht'
      obtain ⟨_, hcl, hat⟩ := World.cells?_some hc
      match cs', hcl with
      | [c0, c1, c2], _ =>
        match xs, hyl with
        | [y0, y1, y2], _ =>
          have g0 : DataW.trod enc Try.prog W 0 (fun _ => true) true n' 3 (([c0, c1, c2].drop 0).take (Try.prog.cellsOf 3)) = some y0 := hg 0 _ rfl
          have g1 : DataW.trod enc Try.prog W 0 (fun _ => true) true n' 3 (([c0, c1, c2].drop 1).take (Try.prog.cellsOf 3)) = some y1 := hg 1 _ rfl
          have g2 : DataW.trod enc Try.prog W 0 (fun _ => true) true n' 3 (([c0, c1, c2].drop 2).take (Try.prog.cellsOf 3)) = some y2 := hg 2 _ rfl
          rw [h1] at g0 g1 g2
          obtain ⟨x, e0, _, wx⟩ := DataW.trod_int Try.underlying3 g0
          obtain ⟨y, e1, _, wy⟩ := DataW.trod_int Try.underlying3 g1
          obtain ⟨z, e2, _, wz⟩ := DataW.trod_int Try.underlying3 g2
          simp at e0 e1 e2
          subst e0 e1 e2
          have q0 := hat 0 (by omega)
          have q1 := hat 1 (by omega)
          have q2 := hat 2 (by omega)
          have z0 : ∀ q : Addr, q.add 0 = q := fun q => by unfold Addr.add; simp
          rw [z0] at q0
          exact ⟨x, y, z, ⟨bdI64 wx, bdI64 wy, bdI64 wz⟩, q0, q1, q2⟩
    have hm' : len ≤ 9223372036854775807 := by unfold maxLen at hm; omega
    by_cases h0 : len = 0
    · exact ⟨some a, len, cap, fun _ => 0, fun _ => 0, fun _ => 0, rfl, hm', fun i hi => by omega⟩
    · obtain ⟨b, off, spot⟩ := a
      have hspot : spot = none := by
        obtain ⟨k, n, q, _, hk, _⟩ := key 0 (by omega)
        simpa [Addr.add] using World.cell?_spot hk
      subst hspot
      have hbW : b < W.heap.size := by
        obtain ⟨k, n, q, _, hk, _⟩ := key 0 (by omega)
        have := World.block_lt_of_cell? _ _ hk
        simpa [Addr.add] using this
      obtain ⟨K, N, Q, hKN⟩ := pick_three key
      refine ⟨some ⟨b, off, none⟩, len, cap, K, N, Q, rfl, hm', fun i hil => ?_⟩
      obtain ⟨h2, h3, h4, h5⟩ := hKN i hil
      rw [add_plain] at h3
      rw [add_plain, add_plain] at h4 h5
      exact ⟨h2, b, off, rfl, hbW, h3, h4, h5⟩
end Go.Proofs.Ytplhonlgbidemaa
