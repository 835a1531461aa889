/- Restart, New, begin and awake's arena. -/
import Derived.Test.YtplhonlgbidemaaArV
import Derived.Lib.SliceRun
namespace Go.Proofs.Ytplhonlgbidemaa
open Go.RowKit

/-- An arena anew. -/
def freshM (n : Nat) : AM := { size := n, rows := fun _ => [], text := 1, start := n + 1 - n / 96 * 84, low := n + 1 - n / 96 * 84, high := n + 1, glue := 0 }
theorem inv_fresh {n : Nat} (hn : n ≤ 4294967259) : Inv (freshM n) [] := by
  have e : frees (freshM n).rows = [] := frees_none (freshM n)
  refine ⟨by rw [e]; exact List.Pairwise.nil, (by rw [e]; intro b hb; cases hb), ⟨Nat.le_refl _, ?_⟩, ⟨Nat.le_refl _, ?_, Nat.le_refl _⟩, ?_, Nat.zero_le _, hn⟩
  · show 1 ≤ n + 1 - n / 96 * 84; omega
  · show n + 1 - n / 96 * 84 ≤ n + 1; omega
  · show (n + 1 - (n + 1 - n / 96 * 84)) % 12 = 0; omega
section
variable {w : World} {g gm : Nat} {mt : Value} {A : AM} {F M : Nat → Nat}
theorem ar_clear : ∀ (n j : Nat) (w : World) (F : Nat → Nat), j + n ≤ 38 → Ar w g gm mt A F M → Ar (w.setCells g (170 + j) (List.replicate n (.int .i64 0))) g gm mt A (fun i => if j ≤ i ∧ i < j + n then 0 else F i) M ∧ On (two g gm) w (w.setCells g (170 + j) (List.replicate n (.int .i64 0))) := by
  intro n
  induction n with
  | zero =>
    intro j w F _ h
    exact ⟨h.cong rfl rfl rfl rfl rfl rfl (fun i _ => by rw [if_neg (by omega)]) (fun _ _ => rfl), on_refl _ _⟩
  | succ n ih =>
    intro j w F hj h
    have h1 := h.putRow (r := j) (v := 0) (by omega)
    have h2 := ih (j + 1) _ _ (by omega) h1
    refine ⟨h2.1.cong rfl rfl rfl rfl rfl rfl (fun i _ => ?_) (fun _ _ => rfl), ((on_refl (two g gm) w).put (g := g) (i := 170 + j) (.inl rfl) (.int .i64 0)).trans h2.2⟩
    by_cases e : i = j
    · subst e
      rw [if_pos (by omega), if_neg (by omega), if_pos rfl]
    · by_cases e2 : j ≤ i ∧ i < j + (n + 1)
      · rw [if_pos e2, if_pos (by omega)]
      · rw [if_neg e2, if_neg (by omega), if_neg e]
set_option maxRecDepth 100000 in
set_option maxHeartbeats 1000000 in
theorem restart_raw (ha : Ar w g gm mt A F M) :
    Calls Try.prog 15 #[.pointer (some ⟨g, 0, none⟩)] w fun e w' => e = .returned (.tuple #[]) ∧ Ar w' g gm mt (freshM A.size) (fun _ => 0) M ∧ On (two g gm) w w' := by
  have hc : ∀ ty, (Builtin.clear_ #[31] ty #[.slice (some ⟨g, 170, none⟩) 38 38]).run Try.prog w = .ok (.tuple #[]) (w.setCells g 170 (List.replicate 38 (.int .i64 0))) := fun ty =>
    Lib.run_clear_slice w 31 3 ty (.int .i64 0) Try.underlying31 (fun w => zero3 w) rfl rfl g 170 38 38 (by omega) (fun j hj => by rw [ha.row hj]; rfl) (fun j _ => ha.free _)
  have hcl := ar_clear 38 0 w F (by omega) ha
  simp only [Nat.add_zero] at hcl
  obtain ⟨h1, o1⟩ := hcl
  have hs := ha.small
  generalize w.setCells g 170 (List.replicate 38 (.int .i64 0)) = w1 at *
  have h2 := ((h1.putGlue 0).putText 1).putHigh (A.size + 1)
  have o2 := ((o1.put (g := g) (i := 212) (.inl rfl) (.int .u32 ((0 : Nat) : Int))).put (g := g) (i := 208) (.inl rfl) (.int .i64 ((1 : Nat) : Int))).put (g := g) (i := 211) (.inl rfl) (.int .i64 ((A.size + 1 : Nat) : Int))
  have c1 := h1.glue
  have c2 := h1.text
  have c3 := h1.siz
  have c4 := h1.high
  have f1 := h1.free 212
  have f2 := h1.free 208
  have f3 := h1.free 211
  clear ha h1 o1
  go_enter Try.func15, Try.ntmps15
  have e0 : ((0 : Nat) : Int) = 0 := rfl
  have e1 : ((1 : Nat) : Int) = 1 := rfl
  have e2 : ((A.size + 1 : Nat) : Int) = (A.size : Int) + 1 := by omega
  rw [e0, e1, e2] at h2 o2
  go_wp2_with fail
  generalize World.setCell (World.setCell _ _ _) _ _ = w2 at *
  refine wp_region_still_tail 16 (by kernel_rfl) (by kernel_rfl) ?_
  change wpStill _ _ w2.drew (fun a' => wpList _ _ _ _ a' w2.drew) _ _
  have d1 := h2.drew.siz
  have d2 := h2.drew.high
  have d3 := h2.drew.low
  have d4 := h2.drew.start
  dsimp only at d1 d2 d3 d4
  rw [e2] at d2
  have d5 := h2.drew.free 210
  have d6 := h2.drew.free 209
  simp only [List.take_succ_cons, List.take_zero, List.drop_succ_cons, List.drop_zero]
  repeat still_step
  refine wpStill_nil ?_
  have el : ((A.size + 1 - A.size / 96 * 84 : Nat) : Int) = (A.size : Int) + 1 - (A.size : Int) / 8 / 12 * 7 * 12 := by omega
  have h3 := ((h2.drew.putLow (A.size + 1 - A.size / 96 * 84)).putStart (A.size + 1 - A.size / 96 * 84)).cong (A' := freshM A.size) (F' := fun _ => 0) rfl rfl rfl rfl rfl rfl (fun i hi => by rw [if_pos (by omega)]) (fun _ _ => rfl)
  have o3 := ((o2.drew).put (g := g) (i := 210) (.inl rfl) (.int .i64 ((A.size + 1 - A.size / 96 * 84 : Nat) : Int))).put (g := g) (i := 209) (.inl rfl) (.int .i64 ((A.size + 1 - A.size / 96 * 84 : Nat) : Int))
  rw [el] at h3 o3
  have c9 := h2.low
  have c10 := h2.start
  have f9 := h2.free 210
  have f10 := h2.free 209
  dsimp only at c9 c10
  go_wp2_with fail
  go_end0
  exact ⟨rfl, h3, o3⟩
end
end Go.Proofs.Ytplhonlgbidemaa
