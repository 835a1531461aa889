/- The meter's Mem and Used, whose statements draw their order. -/
import Derived.Test.YtplhonlgbidemaaMcN
import Derived.StillTailTactics
namespace Go.Proofs.Ytplhonlgbidemaa
open Go.RowKit
theorem load_quiet {b o : Nat} {x : Int} {w : World} (n : Nat) (h0 : w.cell? ⟨b, o, none⟩ = some (.int .i64 x)) :
    Calls Try.prog 38 #[.pointer (some ⟨b, o, none⟩)] (w.drewN n) fun e w'' => e = .returned (.int .i64 x) ∧ ∃ m, w'' = w.drewN m :=
  Calls.quiet_of_same ((load_any b o x (w.drewN n) h0).mono fun _ _ h => ⟨h.1, h.2.symm⟩)

section
variable {w : World} {b : Nat} {m : Mt}

set_option maxHeartbeats 1000000 in
theorem mem_any (n : Int) (h : Mtr w b m) (hg : m.Good) :
    Calls Try.prog 31 #[.pointer (some ⟨b, 0, none⟩), .int .i64 n] w fun e w' => e = .returned (.bool (may m.cd m.qm m.um n)) ∧ Mtr w' b (m.mem n) ∧ w.grownBy w' (some b) ∧ w'.heap.size = w.heap.size := by
  have U := use_mtr 0 (by omega) n 101 m.qm m.um { m with um := used m.cd m.qm m.um n, cd := code m.cd m.qm m.um n 101 } h rfl rfl hg.m1 rfl
  have hp := hg.p2
  cases hmay : may m.cd m.qm m.um n with
  | false =>
    have hu : used m.cd m.qm m.um n = m.um := by simp [used, hmay]
    rw [hmay] at U
    have hm : m.mem n = { m with um := used m.cd m.qm m.um n, cd := code m.cd m.qm m.um n 101 } := by
      unfold Mt.mem; rw [hu, show max m.pk m.um = m.pk by omega]
    rw [hm]
    clear hu hmay hm
    go_enter Try.func31, Try.ntmps31
    go_wp2_with (go_at_call 47; refine U.mono ?_; rintro e w' ⟨rfl, hU⟩)
    go_ret
    exact ⟨rfl, hU⟩
  | true =>
    rw [hmay] at U
    obtain ⟨x, hx⟩ : ∃ x, x = used m.cd m.qm m.um n := ⟨_, rfl⟩
    obtain ⟨c, hc⟩ : ∃ c, c = code m.cd m.qm m.um n 101 := ⟨_, rfl⟩
    have hm : m.mem n = { m with um := x, pk := max m.pk x, cd := c } := by rw [hx, hc]; rfl
    rw [← hx, ← hc] at U
    rw [hm]
    have hx0 : 0 ≤ x := by rw [hx]; have := (used_fits (cd := m.cd) (n := n) hg.m1).1; omega
    clear hmay hm hx hc
    by_cases hle : x ≤ m.pk
    · have e1 : max m.pk x = m.pk := by omega
      rw [e1]; clear e1
      go_enter Try.func31, Try.ntmps31
      go_wp2_with (go_at_call 47; refine U.mono ?_; rintro e w1 ⟨rfl, hU⟩)
      obtain ⟨hU1, hU2, hU3⟩ := hU
      have c10 := hU1.cellsAt.2.2.2.2.2.2.2.2.2.2.1
      have c1 := hU1.cellsAt.2.1
      have HU := Lib.hid hU3
      clear hU3
      refine wp_loop_rounds 1 ?_
      rw [rounds_succ]
      go_wp2_with fail
      go_quiet ((go_at_call 38; first | exact load_quiet _ c10 | exact load_quiet _ c1))
      go_wp2_with fail
      go_ret
      exact ⟨rfl, hU1.drewN _, grown_drewN hU2 _, by simp [HU.out]⟩
    · have e1 : max m.pk x = x := by omega
      rw [e1]; clear e1
      go_enter Try.func31, Try.ntmps31
      go_wp2_with (go_at_call 47; refine U.mono ?_; rintro e w1 ⟨rfl, hU⟩)
      obtain ⟨hU1, hU2, hU3⟩ := hU
      have c10 := hU1.cellsAt.2.2.2.2.2.2.2.2.2.2.1
      have c1 := hU1.cellsAt.2.1
      have f10 := Blk.free hU1 10
      have HU := Lib.hid hU3
      clear hU3
      refine wp_loop_rounds 1 ?_
      rw [rounds_succ]
      go_wp2_with fail
      go_quiet ((go_at_call 38; first | exact load_quiet _ c10 | exact load_quiet _ c1))
      go_wp2_with (go_at_call 48; refine (cas_hit b 10 m.pk x (w1.drewN nq) c10 f10).mono ?_; rintro e w' ⟨rfl, rfl⟩)
      go_ret
      have hP := Blk.put (hU1.drewN nq) 10 (.int .i64 x)
      exact ⟨rfl, hP, grown_put (grown_drewN hU2 _) _ _, by simp [HU.out]⟩

/-- What Used tells. -/
def Mt.usedV (m : Mt) : Value := .agg #[.int .i64 m.um, .int .i64 m.pk, .int .i64 m.uo, .int .i64 m.uf, .int .i64 m.ud, .int .i64 m.us]

theorem load_still {b o : Nat} {x : Int} {w : World} (h0 : w.cell? ⟨b, o, none⟩ = some (.int .i64 x)) :
    Calls Try.prog 38 #[.pointer (some ⟨b, o, none⟩)] w fun e w'' => e = .returned (.int .i64 x) ∧ w'' = w :=
  (load_any b o x w h0).mono fun _ _ h => ⟨h.1, h.2.symm⟩

set_option maxRecDepth 100000 in
set_option maxHeartbeats 1000000 in
theorem used_any (h : Mtr w b m) :
    Calls Try.prog 26 #[.pointer (some ⟨b, 0, none⟩)] w fun e w' => e = .returned m.usedV ∧ w.grownBy w' none := by
  obtain ⟨w1, hw1⟩ : ∃ w1, w1 = w.alloc (.cells #[.int .i64 0, .int .i64 0, .int .i64 0, .int .i64 0, .int .i64 0, .int .i64 0] 59) := ⟨_, rfl⟩
  have h' : Mtr w1 b m := by rw [hw1]; exact Blk.alloc h _
  obtain ⟨w2, hw2⟩ : ∃ w2, w2 = w1.drew := ⟨_, rfl⟩
  have hR : Blk w1 w.heap.size 59 #[.int .i64 0, .int .i64 0, .int .i64 0, .int .i64 0, .int .i64 0, .int .i64 0] := by rw [hw1]; exact Blk.new _ _ _
  have hR2 : Blk w2 w.heap.size 59 #[.int .i64 0, .int .i64 0, .int .i64 0, .int .i64 0, .int .i64 0, .int .i64 0] := by rw [hw2]; exact hR
  have hg : w.grownBy w2 none := by rw [hw2, hw1]; exact grown_drew (grown_alloc (grown_refl _ _) _)
  have h2 : Mtr w2 b m := by rw [hw2]; exact h'
  have c := h2.cellsAt
  obtain ⟨c0, c1, c2, c3, c4, c5, c6, c7, c8, c9, c10, c11⟩ := c
  clear c0 c2 c4 c6 c8 c11
  go_enter Try.func26, Try.ntmps26
  go_wp2_with fail
  rw [← hw1]
  refine wp_region_still_tail 29 (by kernel_rfl) (by kernel_rfl) ?_
  change wpStill _ _ w1.drew (fun a' => wpList _ _ _ _ a' w1.drew) _ _
  rw [← hw2]
  clear hw2 hw1
  simp only [List.take_succ_cons, List.take_zero, List.drop_succ_cons, List.drop_zero]
  repeat (first | still_step | still_call (load_still c1) | still_call (load_still c10) | still_call (load_still c3) | still_call (load_still c5) | still_call (load_still c7) | still_call (load_still c9))
  refine wpStill_nil ?_
  have r0 := Blk.cell hR2 0
  have r1 := Blk.cell hR2 1
  have r2 := Blk.cell hR2 2
  have r3 := Blk.cell hR2 3
  have r4 := Blk.cell hR2 4
  have r5 := Blk.cell hR2 5
  have f0 := Blk.free hR2 0
  have f1 := Blk.free hR2 1
  have f2 := Blk.free hR2 2
  have f3 := Blk.free hR2 3
  have f4 := Blk.free hR2 4
  have f5 := Blk.free hR2 5
  clear c1 c3 c5 c7 c9 c10
  go_wp2
  have hE := (((((hR2.put 0 (.int .i64 m.um)).put 1 (.int .i64 m.pk)).put 2 (.int .i64 m.uo)).put 3 (.int .i64 m.uf)).put 4 (.int .i64 m.ud)).put 5 (.int .i64 m.us)
  have hG := grown_putNew (p := ⟨w.heap.size, 5, none⟩) (grown_putNew (p := ⟨w.heap.size, 4, none⟩) (grown_putNew (p := ⟨w.heap.size, 3, none⟩) (grown_putNew (p := ⟨w.heap.size, 2, none⟩) (grown_putNew (p := ⟨w.heap.size, 1, none⟩) (grown_putNew (p := ⟨w.heap.size, 0, none⟩) hg (Nat.le_refl _) (.int .i64 m.um)) (Nat.le_refl _) (.int .i64 m.pk)) (Nat.le_refl _) (.int .i64 m.uo)) (Nat.le_refl _) (.int .i64 m.uf)) (Nat.le_refl _) (.int .i64 m.ud)) (Nat.le_refl _) (.int .i64 m.us)
  clear r0 r1 r2 r3 r4 r5 f0 f1 f2 f3 f4 f5
  revert hE hG
  generalize ((((((w2.setCell { block := w.heap.size, off := 0 } (Value.int IntKind.i64 m.um)).setCell { block := w.heap.size, off := 1 } (Value.int IntKind.i64 m.pk)).setCell { block := w.heap.size, off := 2 } (Value.int IntKind.i64 m.uo)).setCell { block := w.heap.size, off := 3 } (Value.int IntKind.i64 m.uf)).setCell { block := w.heap.size, off := 4 } (Value.int IntKind.i64 m.ud)).setCell { block := w.heap.size, off := 5 } (Value.int IntKind.i64 m.us)) = w3
  intro hE hG
  have r0 : w3.cell? ⟨w.heap.size, 0, none⟩ = some (.int .i64 m.um) := Blk.cell hE 0
  have r1 : w3.cell? ⟨w.heap.size, 1, none⟩ = some (.int .i64 m.pk) := Blk.cell hE 1
  have r2 : w3.cell? ⟨w.heap.size, 2, none⟩ = some (.int .i64 m.uo) := Blk.cell hE 2
  have r3 : w3.cell? ⟨w.heap.size, 3, none⟩ = some (.int .i64 m.uf) := Blk.cell hE 3
  have r4 : w3.cell? ⟨w.heap.size, 4, none⟩ = some (.int .i64 m.ud) := Blk.cell hE 4
  have r5 : w3.cell? ⟨w.heap.size, 5, none⟩ = some (.int .i64 m.us) := Blk.cell hE 5
  exact bodyPost_ret (v := m.usedV) (by simp [results, Try.results26, go_sem, r0, r1, r2, r3, r4, r5]; rfl) rfl ⟨rfl, hG⟩
end
end Go.Proofs.Ytplhonlgbidemaa
