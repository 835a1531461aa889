/- Move. -/
import Derived.Test.YtplhonlgbidemaaArA
import Derived.Laws.CopyRow
namespace Go.Proofs.Ytplhonlgbidemaa
open Go.RowKit

section
variable {w w' : World} {g gm : Nat} {mt : Value} {A : AM} {F M : Nat → Nat}
/-- Bytes moved. -/
def mov (M : Nat → Nat) (p q k : Nat) : Nat → Nat := fun i => if p ≤ i ∧ i < p + k then M (q + (i - p)) else M i
theorem copy_run {p q k : Nat} (ha : Ar w g gm mt A F M) (hp : p + k ≤ A.size + 13) (hq : q + k ≤ A.size + 13) :
    ∃ w9, (∀ ty c1 c2, (Builtin.copy_ #[47, 47] ty #[.slice (some ⟨gm, p, none⟩) k c1, .slice (some ⟨gm, q, none⟩) k c2]).run Try.prog w = .ok (goInt k) w9) ∧ Ar w9 g gm mt A F (mov M p q k) ∧ On (two g gm) w w9 := by
  have hne := ha.ne
  have hby := fun i hi => ha.byte (i := i) hi
  have hbd := fun i hi => ha.bd (i := i) hi
  obtain ⟨cs, ds, h1, h2, h3, h4, h5, h6, h7, h8, h9, h10, h11, h12, h13, h14, h15⟩ := ha
  have hds : p + k ≤ ds.size := by
    rcases Nat.lt_or_ge ds.size (p + k) with h | h
    · have := (h15 (p + k - 1) (by omega)).2
      rw [Array.getElem?_eq_none (by omega)] at this
      cases this
    · exact h
  have hlen : ((List.range k).map fun i => Value.int .u8 (M (q + i) : Nat)).length = k := by simp
  refine ⟨w.setRow gm (ds.toList.take p ++ ((List.range k).map fun i => Value.int .u8 (M (q + i) : Nat)) ++ ds.toList.drop (p + k)).toArray, fun ty c1 c2 => ?_, ⟨cs, _, (setRow_other w gm g _ hne).trans h1, setRow_heap w gm ds _ _ _ h2, h3, h4, h5, h6, h7, h8, h9, h10, h11, h12, h13, h14, fun i hi => ⟨?_, ?_⟩⟩, ⟨rfl, rfl, rfl, by simp [World.setRow], fun j _ hj => setRow_other w gm j _ (fun e => hj (.inr e))⟩⟩
  · have := run_copy_row (P := Try.prog) w 47 47 ty 5 gm p k c1 ⟨gm, q, none⟩ k c2 ds 5 ((List.range k).map fun i => Value.int .u8 (M (q + i) : Nat)) Try.underlying47 (by kernel_rfl) h2 (by rw [hlen]; simp) (fun j v hj => ?_) (by rw [hlen]; exact hds) (fun v hv => ?_)
    · rw [hlen] at this; exact this
    · have hjk : j < k := by
        rcases Nat.lt_or_ge j k with h | h
        · exact h
        · rw [List.getElem?_eq_none (by rw [hlen]; exact h)] at hj; cases hj
      rw [WideShapes.add_plain, hby _ (by omega), ← hj]
      simp [hjk]
    · obtain ⟨i, -, rfl⟩ := List.mem_map.1 hv
      rfl
  · unfold mov
    split
    · exact hbd _ (by omega)
    · exact hbd _ hi
  · have hl : (ds.toList.take p).length = p := by simp; omega
    rw [List.getElem?_toArray]
    unfold mov
    by_cases h : p ≤ i ∧ i < p + k
    · rw [if_pos h, List.append_assoc, List.getElem?_append_right (by omega), List.getElem?_append_left (by rw [hlen]; omega), hl, List.getElem?_map, List.getElem?_range (by omega)]
      rfl
    · rw [if_neg h]
      by_cases h0 : i < p
      · rw [List.append_assoc, List.getElem?_append_left (by omega), List.getElem?_take, if_pos h0, Array.getElem?_toList]
        exact (h15 i hi).2
      · rw [List.getElem?_append_right (by rw [List.length_append, hl, hlen]; omega), List.length_append, hl, hlen, List.getElem?_drop, Array.getElem?_toList, show p + k + (i - (p + k)) = i by omega]
        exact (h15 i hi).2
set_option maxRecDepth 100000 in
set_option maxHeartbeats 1000000 in
theorem move_any (ha : Ar w g gm mt A F M) {p q n : Nat} (hn1 : 1 ≤ n) (hp : p + 12 * n ≤ A.size + 13) (hq : q + 12 * n ≤ A.size + 13) :
    Calls Try.prog 19 #[.pointer (some ⟨g, 0, none⟩), .int .i64 (p : Nat), .int .i64 (q : Nat), .int .i64 (n : Nat)] w fun e w' =>
      e = .returned (.tuple #[]) ∧ Ar w' g gm mt A F (mov M p q (12 * n)) ∧ On (two g gm) w w' := by
  have hs := ha.small
  have c0 := ha.mem
  have c0d := ha.drew.mem
  obtain ⟨k, hk⟩ : ∃ k, k = 12 * n := ⟨_, rfl⟩
  rw [← hk] at hp hq
  obtain ⟨pe, hpe⟩ : ∃ pe, pe = p + k := ⟨_, rfl⟩
  obtain ⟨qe, hqe⟩ : ∃ qe, qe = q + k := ⟨_, rfl⟩
  have v1 : IntKind.i64.wrap ((n : Int) * 12) = (k : Int) := by rw [IntKind.wrap_i64]; omega
  have v2 : IntKind.i64.wrap ((p : Int) + k) = (pe : Int) := by rw [IntKind.wrap_i64]; omega
  have v3 : IntKind.i64.wrap ((q : Int) + k) = (qe : Int) := by rw [IntKind.wrap_i64]; omega
  have b6 : (pe : Int) ≤ (A.size : Int) + 13 := by omega
  have b7 : (qe : Int) ≤ (A.size : Int) + 13 := by omega
  have b8 : (p : Int) ≤ pe := by omega
  have b9 : (q : Int) ≤ qe := by omega
  have hnn : n = n := rfl
  have b1 : ¬ (p : Int) < 0 := by omega
  have b2 : ¬ (q : Int) < 0 := by omega
  have b3 : ¬ (k : Int) < 0 := by omega
  have b4 : ¬ ((A.size : Int) + 13 - (k : Int) < p) := by omega
  have b5 : ¬ ((A.size : Int) + 13 - (k : Int) < q) := by omega
  have b10 : ¬ A.size + 13 = p := by omega
  have b11 : ¬ A.size + 13 = q := by omega
  have hcopy := copy_run ha.drew (p := p) (q := q) (k := k) (by omega) (by omega)
  have e1 : pe - p = k := by omega
  have e2 : qe - q = k := by omega
  obtain ⟨w9, hcopy, HF1, HF2⟩ := hcopy
  have HF2 : On (two g gm) w w9 := ((on_refl _ w).drew).trans HF2
  have hcopy2 := hcopy
  have HK := Lib.hid hk
  have HP := Lib.hid hpe
  have HQ := Lib.hid hqe
  rw [← hk]
  clear hk hpe hqe hnn
  go_enter Try.func19, Try.ntmps19
  go_wp2_with fail
  refine wp_region_still_tail 18 (by kernel_rfl) (by kernel_rfl) ?_
  change wpStill _ _ w.drew (fun a' => wpList _ _ _ _ a' w.drew) _ _
  simp only [List.take_succ_cons, List.take_zero, List.drop_succ_cons, List.drop_zero]
  repeat still_step
  refine wpStill_nil ?_
  go_wp2_with fail
  go_end0
  exact ⟨rfl, HF1, HF2⟩
end
end Go.Proofs.Ytplhonlgbidemaa
