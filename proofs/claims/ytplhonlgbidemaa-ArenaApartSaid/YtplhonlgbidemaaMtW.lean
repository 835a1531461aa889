/- The walks of the meter's methods: each is met by what the plain words say of it. -/
import Derived.Test.YtplhonlgbidemaaMtP
import Derived.WalkSpells
import Derived.Laws.LoneSync
import Derived.BigQuiet
import Derived.Deep.QuietTactic
import Derived.Deep.RegionHeld3
import Derived.Deep.RegionWith
import Derived.BigRegion
import Derived.Lib.Hide
namespace Go.Proofs.Ytplhonlgbidemaa
open Go.RowKit

/-- The twelve cells of a meter. -/
def Mt.cells (m : Mt) : Array Value := #[.int .i64 m.qm, .int .i64 m.um, .int .i64 m.qo, .int .i64 m.uo, .int .i64 m.qf, .int .i64 m.uf, .int .i64 m.qd, .int .i64 m.ud, .int .i64 m.qs, .int .i64 m.us, .int .i64 m.pk, .int .i64 m.cd]
/-- Block b is a meter that holds m. -/
def Mtr (w : World) (b : Nat) (m : Mt) : Prop := Blk w b 79 m.cells

theorem load_any (b o : Nat) (x : Int) (w : World) (h0 : w.cell? ⟨b, o, none⟩ = some (.int .i64 x)) :
    Calls Try.prog 38 #[.pointer (some ⟨b, o, none⟩)] w fun e w' => e = .returned (.int .i64 x) ∧ w = w' := by
  have hl := run_call_load (P := Try.prog) Try.func51 (by kernel_rfl) (by kernel_rfl) (by kernel_rfl) .i64 (by kernel_rfl) h0
  go_enter Try.func38, Try.ntmps38
  go_wp2
  go_ret
  exact ⟨rfl, rfl⟩

theorem cas_hit (b o : Nat) (x y : Int) (w : World) (h0 : w.cell? ⟨b, o, none⟩ = some (.int .i64 x)) (f0 : w.frozen? ⟨b, o, none⟩ = false) :
    Calls Try.prog 48 #[.pointer (some ⟨b, o, none⟩), .int .i64 x, .int .i64 y] w fun e w' => e = .returned (.bool true) ∧ w.setCell ⟨b, o, none⟩ (.int .i64 y) = w' := by
  have hcas := run_call_cas_hit (P := Try.prog) Try.func58 (by kernel_rfl) (by kernel_rfl) (by kernel_rfl) .i64 (by kernel_rfl) (y := y) h0 f0
  go_enter Try.func48, Try.ntmps48
  go_wp2
  go_ret
  exact ⟨rfl, rfl⟩

set_option maxHeartbeats 400000 in
theorem ask_no (b o : Nat) (most now n : Int) (w : World) (h0 : w.cell? ⟨b, o, none⟩ = some (.int .i64 most)) (h1 : w.cell? ⟨b, o + 1, none⟩ = some (.int .i64 now))
    (k0 : 0 ≤ now) (k1 : now ≤ most) (k2 : most ≤ 9223372036854775807) (kn : most - now < n) :
    Calls Try.prog 57 #[.pointer (some ⟨b, o, none⟩), .int .i64 n] w fun e w' => e = .returned (.bool false) ∧ w = w' := by
  go_enter Try.func57, Try.ntmps57
  go_wp2_with fail
  refine wp_loop_rounds 1 ?_
  rw [rounds_succ]
  go_wp2_with (go_at_call 38; refine (load_any _ _ _ _ h1).mono ?_; rintro e w' ⟨rfl, rfl⟩)
  go_ret
  exact ⟨rfl, rfl⟩

set_option maxHeartbeats 400000 in
theorem ask_yes (b o : Nat) (most now n : Int) (w : World) (h0 : w.cell? ⟨b, o, none⟩ = some (.int .i64 most)) (h1 : w.cell? ⟨b, o + 1, none⟩ = some (.int .i64 now)) (f1 : w.frozen? ⟨b, o + 1, none⟩ = false)
    (k0 : 0 ≤ now) (k1 : now ≤ most) (k2 : most ≤ 9223372036854775807) (k3 : 0 ≤ n) (kn : n ≤ most - now) :
    Calls Try.prog 57 #[.pointer (some ⟨b, o, none⟩), .int .i64 n] w fun e w' => e = .returned (.bool true) ∧ w.setCell ⟨b, o + 1, none⟩ (.int .i64 (now + n)) = w' := by
  go_enter Try.func57, Try.ntmps57
  go_wp2_with fail
  refine wp_loop_rounds 1 ?_
  rw [rounds_succ]
  go_wp2_with (first | (go_at_call 38; refine (load_any _ _ _ _ h1).mono ?_; rintro e w' ⟨rfl, rfl⟩) | (go_at_call 48; refine (cas_hit _ _ _ _ _ h1 f1).mono ?_; rintro e w' ⟨rfl, rfl⟩))
  go_ret
  exact ⟨rfl, rfl⟩

set_option maxHeartbeats 400000 in
/-- n fewer, 0 at least -/
theorem give_any (b o : Nat) (now n : Int) (w : World) (h1 : w.cell? ⟨b, o + 1, none⟩ = some (.int .i64 now)) (f1 : w.frozen? ⟨b, o + 1, none⟩ = false)
    (k0 : 0 ≤ now) (k1 : now ≤ 9223372036854775807) (k3 : 0 ≤ n) (k4 : n ≤ 9223372036854775807) :
    Calls Try.prog 52 #[.pointer (some ⟨b, o, none⟩), .int .i64 n] w fun e w' => e = .returned (.tuple #[]) ∧ w.setCell ⟨b, o + 1, none⟩ (.int .i64 (now - min n now)) = w' := by
  obtain ⟨x, hx⟩ : ∃ x, x = now - min n now := ⟨_, rfl⟩
  rw [← hx]
  have H := Lib.hid hx
  clear hx
  by_cases h : n ≤ now
  all_goals
    go_enter Try.func52, Try.ntmps52
    go_wp2_with fail
    refine wp_loop_rounds 1 ?_
    rw [rounds_succ]
    go_wp2_with (first | (go_at_call 38; refine (load_any _ _ _ _ h1).mono ?_; rintro e w' ⟨rfl, rfl⟩) | (go_at_call 48; refine (cas_hit _ _ _ _ _ h1 f1).mono ?_; rintro e w' ⟨rfl, rfl⟩))
    refine bodyPost_ret (results_none rfl _ _ _) rfl ?_
    have e1 := H.out
    refine ⟨rfl, ?_⟩
    congr 2
    omega


/-- use, where something was spent before. -/
theorem use_dead (b o : Nat) (n c cd : Int) (w : World) (hc : w.cell? ⟨b, 11, none⟩ = some (.int .i64 cd)) (hcd : ¬ cd = 0) :
    Calls Try.prog 47 #[.pointer (some ⟨b, 0, none⟩), .pointer (some ⟨b, o, none⟩), .int .i64 n, .int .i64 c] w fun e w' => e = .returned (.bool false) ∧ w = w' := by
  have hne : (cd != 0) = true := by simpa using hcd
  go_enter Try.func47, Try.ntmps47
  go_wp2_with (go_at_call 38; refine (load_any _ _ _ _ hc).mono ?_; rintro e w' ⟨rfl, rfl⟩)
  go_ret
  exact ⟨rfl, rfl⟩

set_option maxHeartbeats 400000 in
/-- use, where it may not be. -/
theorem use_no (b o : Nat) (n c most now : Int) (w : World) (hc : w.cell? ⟨b, 11, none⟩ = some (.int .i64 0)) (fc : w.frozen? ⟨b, 11, none⟩ = false)
    (h0 : w.cell? ⟨b, o, none⟩ = some (.int .i64 most)) (h1 : w.cell? ⟨b, o + 1, none⟩ = some (.int .i64 now))
    (k0 : 0 ≤ now) (k1 : now ≤ most) (k2 : most ≤ 9223372036854775807) (kn : most - now < max n 0) :
    Calls Try.prog 47 #[.pointer (some ⟨b, 0, none⟩), .pointer (some ⟨b, o, none⟩), .int .i64 n, .int .i64 c] w fun e w' => e = .returned (.bool false) ∧ w.setCell ⟨b, 11, none⟩ (.int .i64 c) = w' := by
  have hn : 0 ≤ n := by omega
  have hn' : most - now < n := by omega
  clear kn
  go_enter Try.func47, Try.ntmps47
  go_wp2_with (first | (go_at_call 38; refine (load_any _ _ _ _ hc).mono ?_; rintro e w' ⟨rfl, rfl⟩) | (go_at_call 57; refine (ask_no _ _ _ _ _ _ h0 h1 k0 k1 k2 hn').mono ?_; rintro e w' ⟨rfl, rfl⟩) | (go_at_call 48; refine (cas_hit _ _ _ _ _ hc fc).mono ?_; rintro e w' ⟨rfl, rfl⟩))
  go_ret
  exact ⟨rfl, rfl⟩

set_option maxHeartbeats 400000 in
/-- use, where it may be. -/
theorem use_yes (b o : Nat) (n c most now : Int) (w : World) (hc : w.cell? ⟨b, 11, none⟩ = some (.int .i64 0))
    (h0 : w.cell? ⟨b, o, none⟩ = some (.int .i64 most)) (h1 : w.cell? ⟨b, o + 1, none⟩ = some (.int .i64 now)) (f1 : w.frozen? ⟨b, o + 1, none⟩ = false)
    (k0 : 0 ≤ now) (k1 : now ≤ most) (k2 : most ≤ 9223372036854775807) (kn : max n 0 ≤ most - now) :
    Calls Try.prog 47 #[.pointer (some ⟨b, 0, none⟩), .pointer (some ⟨b, o, none⟩), .int .i64 n, .int .i64 c] w fun e w' => e = .returned (.bool true) ∧ w.setCell ⟨b, o + 1, none⟩ (.int .i64 (now + max n 0)) = w' := by
  obtain ⟨x, hx⟩ : ∃ x, x = max n 0 := ⟨_, rfl⟩
  rw [← hx]
  have H := Lib.hid hx
  by_cases h : 0 ≤ n
  · obtain rfl : x = n := by omega
    have kn' : x ≤ most - now := by omega
    clear hx kn
    go_enter Try.func47, Try.ntmps47
    go_wp2_with (first | (go_at_call 38; refine (load_any _ _ _ _ hc).mono ?_; rintro e w' ⟨rfl, rfl⟩) | (go_at_call 57; refine (ask_yes _ _ _ _ _ _ h0 h1 f1 k0 k1 k2 h kn').mono ?_; rintro e w' ⟨rfl, rfl⟩))
    go_ret
    exact ⟨rfl, rfl⟩
  · obtain rfl : x = 0 := by omega
    have kn' : 0 ≤ most - now := by omega
    have k9 : (0 : Int) ≤ 0 := by omega
    clear hx kn
    go_enter Try.func47, Try.ntmps47
    go_wp2_with (first | (go_at_call 38; refine (load_any _ _ _ _ hc).mono ?_; rintro e w' ⟨rfl, rfl⟩) | (go_at_call 57; refine (ask_yes _ _ _ _ _ _ h0 h1 f1 k0 k1 k2 k9 kn').mono ?_; rintro e w' ⟨rfl, rfl⟩))
    go_ret
    exact ⟨rfl, by rw [Int.add_zero]⟩

section
variable {w : World} {b : Nat} {m : Mt}
theorem Mtr.cellsAt (h : Mtr w b m) : w.cell? ⟨b, 0, none⟩ = some (.int .i64 m.qm) ∧ w.cell? ⟨b, 1, none⟩ = some (.int .i64 m.um) ∧ w.cell? ⟨b, 2, none⟩ = some (.int .i64 m.qo) ∧ w.cell? ⟨b, 3, none⟩ = some (.int .i64 m.uo) ∧
    w.cell? ⟨b, 4, none⟩ = some (.int .i64 m.qf) ∧ w.cell? ⟨b, 5, none⟩ = some (.int .i64 m.uf) ∧ w.cell? ⟨b, 6, none⟩ = some (.int .i64 m.qd) ∧ w.cell? ⟨b, 7, none⟩ = some (.int .i64 m.ud) ∧
    w.cell? ⟨b, 8, none⟩ = some (.int .i64 m.qs) ∧ w.cell? ⟨b, 9, none⟩ = some (.int .i64 m.us) ∧ w.cell? ⟨b, 10, none⟩ = some (.int .i64 m.pk) ∧ w.cell? ⟨b, 11, none⟩ = some (.int .i64 m.cd) :=
  ⟨Blk.cell h 0, Blk.cell h 1, Blk.cell h 2, Blk.cell h 3, Blk.cell h 4, Blk.cell h 5, Blk.cell h 6, Blk.cell h 7, Blk.cell h 8, Blk.cell h 9, Blk.cell h 10, Blk.cell h 11⟩
end

end Go.Proofs.Ytplhonlgbidemaa
