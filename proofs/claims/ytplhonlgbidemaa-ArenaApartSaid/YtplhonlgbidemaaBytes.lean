/- A row of bytes that came in. -/
import Derived.Test.YtplhonlgbidemaaEnd
import Derived.Deep.Slices
namespace Go.Proofs.Ytplhonlgbidemaa
open Go.ChangeShapes Go.WideShapes Go.ChangeAt Go.RowKit Go.Deep

theorem bdU8 {n : Int} (h : (Lit.int .u8 n).wf = true) : 0 ≤ n ∧ n ≤ 255 := by
  have h1 : IntKind.u8.min = 0 := rfl
  have h2 : IntKind.u8.max = 255 := rfl
  simp only [Lit.wf, Bool.and_eq_true, decide_eq_true_eq] at h
  omega
theorem bdU16 {n : Int} (h : (Lit.int .u16 n).wf = true) : 0 ≤ n ∧ n ≤ 65535 := by
  have h1 : IntKind.u16.min = 0 := rfl
  have h2 : IntKind.u16.max = 65535 := rfl
  simp only [Lit.wf, Bool.and_eq_true, decide_eq_true_eq] at h
  omega
theorem bdI64 {n : Int} (h : (Lit.int .i64 n).wf = true) : -9223372036854775808 ≤ n ∧ n ≤ 9223372036854775807 := by
  have h1 : IntKind.i64.min = -9223372036854775808 := rfl
  have h2 : IntKind.i64.max = 9223372036854775807 := rfl
  simp only [Lit.wf, Bool.and_eq_true, decide_eq_true_eq] at h
  omega

/-- The slice value (A, n) reads as the bytes X i, below block B. -/
def Bytes (w : World) (B : Nat) (A : Option Addr) (n : Nat) (X : Nat → Int) : Prop :=
  ∀ i, i < n → (0 ≤ X i ∧ X i ≤ 255) ∧ ∃ b off, A = some ⟨b, off, none⟩ ∧ b < B ∧ w.cell? ⟨b, off + i, none⟩ = some (.int .u8 (X i))

theorem Bytes.keep {w w' : World} {B n : Nat} {A : Option Addr} {X : Nat → Int} (h : Bytes w B A n X) (hb : w.grownBy w' none) (hB : B ≤ w.heap.size) : Bytes w' B A n X := by
  intro i hi
  obtain ⟨hn, b, off, e, hlt, h1⟩ := h i hi
  exact ⟨hn, b, off, e, hlt, by rw [World.cell?_of_block (w := w) (hb.block b (by omega) (by simp))]; exact h1⟩

theorem pick_one {P : Nat → Int → Prop} {len : Nat} (key : ∀ i, i < len → ∃ k, P i k) : ∃ K : Nat → Int, ∀ i, i < len → P i (K i) :=
  ⟨fun i => if h : i < len then (key i h).choose else 0, fun i hi => by simp only [dif_pos hi]; exact (key i hi).choose_spec⟩

set_option maxRecDepth 100000 in
theorem bytes_open {H : Type} {enc : TypeId × Value → H} {W : World} {b0 : Nat} {r : Reach} {v : Value} {d : DataW H} {p : List MemPlace}
    (hv : Value.okWide Try.prog W r b0 47 v) (h : DataW.Trod enc Try.prog W 0 (fun _ => true) true 47 v d p) :
    ∃ (A : Option Addr) (n c : Nat) (X : Nat → Int), v = .slice A n c ∧ n ≤ c ∧ c ≤ 9223372036854775807 ∧ (A = none → c = 0) ∧ Bytes W W.heap.size A n X := by
  obtain ⟨a0, len, cap, rfl⟩ := okWide_slice Try.underlying47 hv
  obtain ⟨fuel, hf⟩ := h
  have hC : Try.prog.cellsOf 5 = 1 := by kernel_rfl
  rcases open_ints Try.underlying47 Try.underlying5 hC hf with ⟨hcs, hx⟩ | ⟨a, len', cap', zs, hcs, _, hl, hm, hz, hx, hcell, hwz⟩
  · simp [Value.cells] at hcs
    obtain ⟨rfl, rfl, rfl⟩ := hcs
    exact ⟨none, 0, 0, fun _ => 0, rfl, by omega, by omega, fun _ => rfl, fun i hi => by omega⟩
  · simp [Value.cells] at hcs
    obtain ⟨rfl, rfl, rfl⟩ := hcs
    simp only [if_true] at hz
    have hm' : cap ≤ 9223372036854775807 := by unfold maxLen at hm; omega
    by_cases h0 : cap = 0
    · exact ⟨some a, len, cap, fun _ => 0, rfl, hl, hm', fun h => (by cases h), fun i hi => by omega⟩
    · obtain ⟨b, off, spot⟩ := a
      have hspot : spot = none := by
        have := hcell 0 (by omega)
        simpa [Addr.add] using World.cell?_spot this
      subst hspot
      have hbW : b < W.heap.size := by
        have := World.block_lt_of_cell? _ _ (hcell 0 (by omega))
        simpa [Addr.add] using this
      refine ⟨some ⟨b, off, none⟩, len, cap, fun i => zs.getD i 0, rfl, hl, hm', fun h => (by cases h), fun i hi => ⟨?_, b, off, rfl, hbW, ?_⟩⟩
      · refine bdU8 (hwz _ ?_)
        show zs.getD i 0 ∈ zs
        rw [List.getD_eq_getElem?_getD, List.getElem?_eq_getElem (by omega)]
        exact List.getElem_mem _
      · have := hcell i (by omega)
        rw [add_plain] at this
        exact this
end Go.Proofs.Ytplhonlgbidemaa
