/- A step of a script, on the meter and on the reference: both do the same to the same plain meter. -/
import Derived.Test.YtgcdhbjkkillcaaRfW
namespace Go.Proofs.Ytgcdhbjkkillcaa
open Go.RowKit
section
variable {w : World} {b : Nat} {m : Mt}

set_option maxHeartbeats 1000000 in
theorem ask_law (k n : Int) (hn : n ≤ 9223372036854775807) (h : Mtr w b m) (hg : m.Good) :
    Calls Try.prog 13 #[.pointer (some ⟨b, 0, none⟩), .agg #[.int .i64 k, .int .i64 n]] w fun e w' => e = .returned (.bool (m.says k n)) ∧ Mtr w' b (m.does k n) ∧ w.grownBy w' (some b) := by
  have hw := grown_alloc (grown_refl w (some b)) (.cells #[.int .i64 k, .int .i64 n] 38)
  have h1 : Mtr (w.alloc (.cells #[.int .i64 k, .int .i64 n] 38)) b m := Blk.alloc h _
  by_cases e0 : k = 0
  · subst e0
    have es : m.says 0 n = may m.cd m.qm m.um n := rfl
    have ed : m.does 0 n = m.mem n := rfl
    rw [es, ed]
    clear es ed
    have U := mem_any n h1 hg
    go_enter Try.func13, Try.ntmps13
    go_wp2_with (go_at_call 16; refine U.mono ?_; rintro e w1 ⟨rfl, hU1, hU2, hU3⟩)
    go_ret
    exact ⟨rfl, hU1, grown_trans hw hU2⟩
  by_cases e1 : k = 1
  · subst e1
    have es : m.says 1 n = may m.cd m.qo m.uo n := rfl
    have ed : m.does 1 n = m.out n := rfl
    rw [es, ed]
    clear es ed
    have U := out_any n h1 hg
    go_enter Try.func13, Try.ntmps13
    go_wp2_with (go_at_call 10; refine U.mono ?_; rintro e w1 ⟨rfl, hU1, hU2, hU3⟩)
    go_ret
    exact ⟨rfl, hU1, grown_trans hw hU2⟩
  by_cases e2 : k = 2
  · subst e2
    have es : m.says 2 n = may m.cd m.qf m.uf 1 := rfl
    have ed : m.does 2 n = m.file := rfl
    rw [es, ed]
    clear es ed
    have U := file_any h1 hg
    go_enter Try.func13, Try.ntmps13
    go_wp2_with (go_at_call 20; refine U.mono ?_; rintro e w1 ⟨rfl, hU1, hU2, hU3⟩)
    go_ret
    exact ⟨rfl, hU1, grown_trans hw hU2⟩
  by_cases e3 : k = 3
  · subst e3
    have es : m.says 3 n = may m.cd m.qd m.ud 1 := rfl
    have ed : m.does 3 n = m.down := rfl
    rw [es, ed]
    clear es ed
    have U := down_any h1 hg
    go_enter Try.func13, Try.ntmps13
    go_wp2_with (go_at_call 21; refine U.mono ?_; rintro e w1 ⟨rfl, hU1, hU2, hU3⟩)
    go_ret
    exact ⟨rfl, hU1, grown_trans hw hU2⟩
  by_cases e4 : k = 4
  · subst e4
    have es : m.says 4 n = may m.cd m.qs m.us n := rfl
    have ed : m.does 4 n = m.step n := rfl
    rw [es, ed]
    clear es ed
    have U := step_any n h1 hg
    go_enter Try.func13, Try.ntmps13
    go_wp2_with (go_at_call 22; refine U.mono ?_; rintro e w1 ⟨rfl, hU1, hU2, hU3⟩)
    go_ret
    exact ⟨rfl, hU1, grown_trans hw hU2⟩
  by_cases e5 : k = 5
  · subst e5
    have es : m.says 5 n = true := rfl
    have ed : m.does 5 n = m.free n := rfl
    rw [es, ed]
    clear es ed
    have U := free_any n hn h1 hg
    go_enter Try.func13, Try.ntmps13
    go_wp2_with (go_at_call 17; refine U.mono ?_; rintro e w1 ⟨rfl, hU1, hU2, hU3⟩)
    go_ret
    exact ⟨rfl, hU1, grown_trans hw hU2⟩
  have f0 : (k == 0) = false := by simpa using e0
  have f1 : (k == 1) = false := by simpa using e1
  have f2 : (k == 2) = false := by simpa using e2
  have f3 : (k == 3) = false := by simpa using e3
  have f4 : (k == 4) = false := by simpa using e4
  have f5 : (k == 5) = false := by simpa using e5
  have es : m.says k n = true := by unfold Mt.says; rw [if_neg e0, if_neg e1, if_neg e2, if_neg e3, if_neg e4]
  have ed : m.does k n = m.up := by unfold Mt.does; rw [if_neg e0, if_neg e1, if_neg e2, if_neg e3, if_neg e4, if_neg e5]
  rw [es, ed]
  clear es ed e0 e1 e2 e3 e4 e5
  have U := up_any h1 hg
  go_enter Try.func13, Try.ntmps13
  go_wp2_with (go_at_call 23; refine U.mono ?_; rintro e w1 ⟨rfl, hU1, hU2, hU3⟩)
  go_ret
  exact ⟨rfl, hU1, grown_trans hw hU2⟩

set_option maxHeartbeats 1000000 in
theorem said_law (k n : Int) (hn : n ≤ 9223372036854775807) (h : Rtr w b m) (hg : m.Good) :
    Calls Try.prog 14 #[.pointer (some ⟨b, 0, none⟩), .agg #[.int .i64 k, .int .i64 n]] w fun e w' => e = .returned (.bool (m.says k n)) ∧ Rtr w' b (m.does k n) ∧ w.grownBy w' (some b) := by
  have hw := grown_alloc (grown_refl w (some b)) (.cells #[.int .i64 k, .int .i64 n] 38)
  have h1 : Rtr (w.alloc (.cells #[.int .i64 k, .int .i64 n] 38)) b m := Blk.alloc h _
  by_cases e0 : k = 0
  · subst e0
    have es : m.says 0 n = may m.cd m.qm m.um n := rfl
    have ed : m.does 0 n = m.mem n := rfl
    rw [es, ed]
    clear es ed
    have U := rask0 n h1 hg
    go_enter Try.func14, Try.ntmps14
    go_wp2_with (go_at_call 24; refine U.mono ?_; rintro e w1 ⟨rfl, hU1, hU2⟩)
    go_ret
    exact ⟨rfl, hU1, grown_trans hw hU2⟩
  by_cases e1 : k = 1
  · subst e1
    have es : m.says 1 n = may m.cd m.qo m.uo n := rfl
    have ed : m.does 1 n = m.out n := rfl
    rw [es, ed]
    clear es ed
    have U := rask1 n h1 hg
    go_enter Try.func14, Try.ntmps14
    go_wp2_with (go_at_call 24; refine U.mono ?_; rintro e w1 ⟨rfl, hU1, hU2⟩)
    go_ret
    exact ⟨rfl, hU1, grown_trans hw hU2⟩
  by_cases e2 : k = 2
  · subst e2
    have es : m.says 2 n = may m.cd m.qf m.uf 1 := rfl
    have ed : m.does 2 n = m.file := rfl
    rw [es, ed]
    clear es ed
    have U := rask2 n h1 hg
    go_enter Try.func14, Try.ntmps14
    go_wp2_with (go_at_call 24; refine U.mono ?_; rintro e w1 ⟨rfl, hU1, hU2⟩)
    go_ret
    exact ⟨rfl, hU1, grown_trans hw hU2⟩
  by_cases e3 : k = 3
  · subst e3
    have es : m.says 3 n = may m.cd m.qd m.ud 1 := rfl
    have ed : m.does 3 n = m.down := rfl
    rw [es, ed]
    clear es ed
    have U := rask3 n h1 hg
    go_enter Try.func14, Try.ntmps14
    go_wp2_with (go_at_call 24; refine U.mono ?_; rintro e w1 ⟨rfl, hU1, hU2⟩)
    go_ret
    exact ⟨rfl, hU1, grown_trans hw hU2⟩
  by_cases e4 : k = 4
  · subst e4
    have es : m.says 4 n = may m.cd m.qs m.us n := rfl
    have ed : m.does 4 n = m.step n := rfl
    rw [es, ed]
    clear es ed
    have U := rask4 n h1 hg
    go_enter Try.func14, Try.ntmps14
    go_wp2_with (go_at_call 24; refine U.mono ?_; rintro e w1 ⟨rfl, hU1, hU2⟩)
    go_ret
    exact ⟨rfl, hU1, grown_trans hw hU2⟩
  by_cases e5 : k = 5
  · subst e5
    have es : m.says 5 n = true := rfl
    have ed : m.does 5 n = m.free n := rfl
    rw [es, ed]
    clear es ed
    have U := rfree_any n hn h1 hg
    go_enter Try.func14, Try.ntmps14
    go_wp2_with (go_at_call 25; refine U.mono ?_; rintro e w1 ⟨rfl, hU1, hU2⟩)
    go_ret
    exact ⟨rfl, hU1, grown_trans hw hU2⟩
  have es : m.says k n = true := by unfold Mt.says; rw [if_neg e0, if_neg e1, if_neg e2, if_neg e3, if_neg e4]
  have ed : m.does k n = m.up := by unfold Mt.does; rw [if_neg e0, if_neg e1, if_neg e2, if_neg e3, if_neg e4, if_neg e5]
  rw [es, ed]
  have f5 : (k == 5) = false := by simpa using e5
  have U := rup_any h1 hg
  rcases (show k < 0 ∨ 5 ≤ k by omega) with hk | hk
  all_goals
    clear es ed e0 e1 e2 e3 e4 e5
    go_enter Try.func14, Try.ntmps14
    go_wp2_with (go_at_call 26; refine U.mono ?_; rintro e w1 ⟨rfl, hU1, hU2⟩)
    go_ret
    exact ⟨rfl, hU1, grown_trans hw hU2⟩
end
end Go.Proofs.Ytgcdhbjkkillcaa
