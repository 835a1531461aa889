/- Byte, New, Value, Count. -/
import Derived.Test.YtmcifedchgfdhaaCrSl
import Derived.Laws.Tables
import Derived.StillTailTactics
namespace Go.Proofs.Ytmcifedchgfdhaa
open Go.RowKit

section
variable {w : World} {g : Nat} {T : Nat → Nat} {x : Nat} {c : Int}
set_option maxRecDepth 100000 in
theorem value_any (hx : x < 4294967296) (h : Crc w g x c) :
    Calls Try.prog 14 #[.pointer (some ⟨g, 0, none⟩)] w fun e w' => e = .returned (.int .u32 ((4294967295 - x : Nat) : Int)) ∧ w' = w := by
  obtain ⟨d, T, h, -⟩ := h
  have hc := h.now
  have hz : bits .xor .u32 IntKind.u32.max (x : Int) = ((4294967295 - x : Nat) : Int) := by
    rw [show IntKind.u32.max = ((4294967295 : Nat) : Int) from rfl, u32_xor_nat _ _ (by omega) hx, not32 x hx]
  go_enter Try.func14, Try.ntmps14
  go_wp2_with fail
  go_ret
  exact ⟨by rw [← hz]; rfl, rfl⟩
set_option maxRecDepth 100000 in
theorem count_any (h : Crc w g x c) :
    Calls Try.prog 15 #[.pointer (some ⟨g, 0, none⟩)] w fun e w' => e = .returned (.int .i64 c) ∧ w' = w := by
  obtain ⟨d, T, h, -⟩ := h
  have hc := h.cnt
  go_enter Try.func15, Try.ntmps15
  go_wp2_with fail
  go_ret
  exact ⟨rfl, rfl⟩

set_option maxRecDepth 100000 in
set_option maxHeartbeats 1600000 in
theorem byte_any (b : Nat) (hb : b < 256) (hx : x < 4294967296) (hc : 0 ≤ c ∧ c < 9223372036854775807) (h : Crc w g x c) :
    Calls Try.prog 12 #[.pointer (some ⟨g, 0, none⟩), .int .u8 (b : Int)] w fun e w' => e = .returned (.tuple #[]) ∧ Crc w' g (upd x b) (c + 1) ∧ w.grownBy w' (some g) := by
  obtain ⟨hc0, hc1⟩ := hc
  have hmf : ∀ (fn : Fn) (first cap : Array Value) (w : World), (Instr.makeFunc fn first cap).run Try.prog w = .ok (.func fn first cap) w := fun _ _ _ _ => rfl
  have D := do_any h
  clear h
  go_enter Try.func12, Try.ntmps12
  go_wp2_with fail
  refine D.mono ?_; rintro e w1 ⟨rfl, h1, hG⟩
  clear D
  have n1 := h1.now
  have f1 := h1.free 259
  have hi : x % 256 ^^^ b < 256 := ix_lt hb
  have r1 := h1.row (x % 256 ^^^ b) hi
  have q2 := u8_xor_nat (x % 256) b (by omega) hb
  have q4 := u32_xor_nat (tab (x % 256 ^^^ b)) (x / 256) (tab_lt hi) (by omega)
  have q5 : tab (x % 256 ^^^ b) ^^^ x / 256 = upd x b := rfl
  rw [q5] at q4
  have hu := upd_lt hx hb
  obtain ⟨xl, hxl⟩ : ∃ xl, xl = x % 256 := ⟨_, rfl⟩
  obtain ⟨xh, hxh⟩ : ∃ xh, xh = x / 256 := ⟨_, rfl⟩
  rw [← hxl] at hi r1 q2 q4
  rw [← hxh] at q4
  have q1 : IntKind.u8.wrap (x : Int) = (xl : Int) := by rw [IntKind.wrap_u8']; omega
  have q3 : (x : Int) / 256 = (xh : Int) := by omega
  clear hxl hxh q5
  generalize xl ^^^ b = ix at *
  generalize tab ix = tv at *
  generalize hU : upd x b = u at *
  go_wp2_with fail
  refine wp_region_still_tail 21 (by kernel_rfl) (by kernel_rfl) ?_
  change wpStill _ _ w1.drew (fun a' => wpList _ _ _ _ a' w1.drew) _ _
  have h2 := h1.drew
  have hG := grown_drew hG
  clear h1
  change w1.drew.cell? _ = _ at n1
  change w1.drew.frozen? _ = _ at f1
  change w1.drew.cell? _ = _ at r1
  generalize w1.drew = w2 at *
  simp only [List.take_succ_cons, List.take_zero, List.drop_succ_cons, List.drop_zero]
  have hI : (ix : Int) < 256 := by omega
  repeat still_step
  refine wpStill_nil ?_
  have h3 := h2.putNow u
  have c3 := h3.cnt
  have f3 := h3.free 260
  have h4 := h3.putCnt (c + 1)
  have hG4 := grown_put (grown_put hG 259 (.int .u32 u)) 260 (.int .i64 (c + 1))
  have z1 : IntKind.i64.wrap (c + 1) = c + 1 := by rw [IntKind.wrap_i64]; omega
  clear h2 h3 hG
  go_wp2_with fail
  go_end0
  rw [hU]
  refine ⟨rfl, ⟨1, tab, ?_, .inr ⟨rfl, rfl⟩⟩, ?_⟩
  · exact h4
  · exact hG4

/-- The cells of the zero value. -/
noncomputable def zeroSum : Array Value := match ((Try.prog.info? 55).bind fun i => i.zero) with | some (.agg cs) => cs | _ => #[]
theorem zero_run (w : World) : (zeroValue 55).run Try.prog w = .ok (.agg zeroSum) w := by kernel_rfl
theorem zero_size : zeroSum.size = 261 := by kernel_rfl
theorem zero_cells : zeroSum[0]? = some (.int .u32 0) ∧ zeroSum[1]? = some (.int .i32 0) ∧ (∀ i, i < 256 → zeroSum[3 + i]? = some (.int .u32 0)) ∧ zeroSum[259]? = some (.int .u32 0) ∧ zeroSum[260]? = some (.int .i64 0) := by
  refine ⟨by kernel_rfl, by kernel_rfl, ?_, by kernel_rfl, by kernel_rfl⟩
  have h : ((List.range 256).all fun i => match zeroSum[3 + i]? with | some (.int .u32 n) => n == 0 | _ => false) = true := by kernel_rfl
  intro i hi
  have := List.all_eq_true.1 h i (List.mem_range.2 hi)
  split at this
  · next n e => rw [e, eq_of_beq this]
  · cases this

set_option maxRecDepth 100000 in
theorem new_any (w : World) :
    Calls Try.prog 11 #[] w fun e w' => ∃ g, e = .returned (.pointer (some ⟨g, 0, none⟩)) ∧ w.heap.size ≤ g ∧ Crc w' g 4294967295 0 ∧ w.grownBy w' none := by
  obtain ⟨h0, h1, h2, h3, h4⟩ := zero_cells
  have hz := zero_run
  have hs := zero_size
  generalize zeroSum = zs at *
  have hN := Blk.new w 55 (zs.setIfInBounds 259 (.int .u32 4294967295))
  go_enter Try.func11, Try.ntmps11
  go_wp2_with fail
  go_ret
  refine ⟨w.heap.size, rfl, Nat.le_refl _, ⟨0, fun _ => 0, ⟨_, hN, ?_, ?_, fun i hi => ?_, ?_, ?_⟩, .inl rfl⟩, grown_alloc (grown_refl _ _) _⟩
  · rw [get_set zs _ h0]; rfl
  · rw [get_set zs _ h1]; rfl
  · rw [get_set zs _ (h2 i hi), if_neg (by omega)]; rfl
  · rw [get_set zs _ h3]; rfl
  · rw [get_set zs _ h4]; rfl
end
end Go.Proofs.Ytmcifedchgfdhaa
