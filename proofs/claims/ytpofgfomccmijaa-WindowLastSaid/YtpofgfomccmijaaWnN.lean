/- The window's New and Close, and its methods behind Close. -/
import Derived.Test.YtpofgfomccmijaaWnW
import Derived.Deep.OwnRows
namespace Go.Proofs.Ytpofgfomccmijaa
open Go.RowKit

theorem made_row (n : Nat) : madeCells #[.int .u8 0] n = rowOf n (fun _ => 0) := by
  apply Array.ext_getElem?
  intro j
  by_cases hj : j < n
  · rw [rowOf_get _ hj]; simp [madeCells, hj, Nat.mod_one]
  · rw [Array.getElem?_eq_none (xs := rowOf n fun _ => 0) (by rw [rowOf_size]; omega)]
    simp [madeCells]; omega
theorem info8 : (Try.prog.info? 5).map (fun i => (i.zero, i.size, i.bytes)) = some (some (.int .u8 0), 1, 1) := by kernel_rfl
theorem run_made (n : Nat) (hn : n ≤ 1073741824) (w : World) :
    (Instr.makeSlice 23 (.int .i64 (n : Int)) (.int .i64 (n : Int))).run Try.prog w = .ok (.slice (some ⟨w.heap.size, 0, none⟩) n n) (w.alloc (.cells (rowOf n (fun _ => 0)) 5)) := by
  rw [← made_row]
  exact run_make_row' 23 5 (.int .u8 0) 1 Try.underlying23 info8 rfl .i64 .i64 n (by omega) (by omega) w

section
attribute [local go_sem ↓] run_mx
variable {w : World} {gm : Nat} {m : Mt}

set_option maxHeartbeats 400000 in
theorem wnew_yes (s : Int) (n : Nat) (hs : max s 1 = (n : Int)) (hn : n ≤ 1073741824) (hm : Mtr w gm m) (hg : m.Good) (hy : may m.cd m.qm m.um n = true) :
    Calls Try.prog 8 #[.int .i64 s, .pointer (some ⟨gm, 0, none⟩)] w fun e w' => ∃ gw gr, e = .returned (.tuple #[.pointer (some ⟨gw, 0, none⟩), .int .i64 0]) ∧
      w.heap.size ≤ gr ∧ gr < gw ∧ Wnd w' gw gr gm n [] ∧ Mtr w' gm (m.mem n) ∧ w.grownBy w' (some gm) := by
  have hmx : mx s 1 = (n : Int) := hs
  have hn1 : 1 ≤ n := by omega
  have U := mem_to (n : Int) true hy rfl hg hm
  have hmk := run_made n hn
  clear hs
  go_enter Try.func8, Try.ntmps8
  go_wp2_with fail
  refine U.mono ?_; rintro e w1 ⟨rfl, m1, hw1, -⟩
  go_wp2_with fail
  go_ret2
  have hr := Blk.new w1 5 (rowOf n fun _ => 0)
  have hb := Blk.new (w1.alloc (.cells (rowOf n fun _ => 0) 5)) 53 #[.slice (some ⟨w1.heap.size, 0, none⟩) n n, .int .i64 0, .int .i64 0, .pointer (some ⟨gm, 0, none⟩)]
  rw [World.size_alloc] at hb
  refine ⟨w1.heap.size + 1, w1.heap.size, rfl, hw1.size, by omega, ⟨hn, 0, _, Ring.new (by omega), by omega, ?_, hr.alloc _⟩, (Blk.alloc (Blk.alloc m1 _) _), grown_alloc (grown_alloc hw1 _) _⟩
  exact hb

theorem wnew_no (s : Int) (n : Int) (hs : max s 1 = n) (hm : Mtr w gm m) (hg : m.Good) (hy : may m.cd m.qm m.um n = false) :
    Calls Try.prog 8 #[.int .i64 s, .pointer (some ⟨gm, 0, none⟩)] w fun e w' => e = .returned (.tuple #[.pointer none, .int .i64 (m.mem n).cd]) ∧ Mtr w' gm (m.mem n) ∧ w.grownBy w' (some gm) := by
  have hmx : mx s 1 = n := hs
  have U := mem_to n false hy rfl hg hm
  clear hs
  go_enter Try.func8, Try.ntmps8
  go_wp2_with fail
  refine U.mono ?_; rintro e w1 ⟨rfl, m1, hw1, -⟩
  go_wp2_with fail
  refine (code_any m1).mono ?_; rintro e w2 ⟨rfl, rfl⟩
  go_wp2_with fail
  go_ret2
  exact ⟨rfl, m1, hw1⟩
end

section
variable {w : World} {gw gr gm n : Nat} {M : List Int} {m : Mt}

set_option maxHeartbeats 1000000 in
theorem close_any (h : Wnd w gw gr gm n M) (hm : Mtr w gm m) (hg : m.Good) (hne : gm ≠ gw) :
    Calls Try.prog 20 #[.pointer (some ⟨gw, 0, none⟩)] w fun e w' => e = .returned (.tuple #[]) ∧ Wsh w' gw gm ∧ Mtr w' gm (m.free n) ∧ Fr [gw, gm] w w' := by
  obtain ⟨hn, next, R, hr, hne', hb, hb'⟩ := h
  obtain ⟨w2, hw2⟩ : ∃ w2, w2 = w.drew := ⟨_, rfl⟩
  have hb2 := hb.drew
  rw [← hw2] at hb2
  have m2 : Mtr w2 gm m := by rw [hw2]; exact hm
  have hf2 : Fr [gw, gm] w w2 := by rw [hw2]; exact (Fr.refl _ _).drew
  have c0 : w2.cell? ⟨gw, 0, none⟩ = some (.slice (some ⟨gr, 0, none⟩) n n) := Blk.cell hb2 0
  have c3 : w2.cell? ⟨gw, 3, none⟩ = some (.pointer (some ⟨gm, 0, none⟩)) := Blk.cell hb2 3
  have U := free_any (n : Int) (by omega) m2 hg
  go_enter Try.func20, Try.ntmps20
  go_wp2_with fail
  refine wp_region_still_tail 9 (by kernel_rfl) (by kernel_rfl) ?_
  change wpStill _ _ w.drew (fun a' => wpList _ _ _ _ a' w.drew) _ _
  rw [← hw2]
  clear hw2
  simp only [List.take_succ_cons, List.take_zero, List.drop_succ_cons, List.drop_zero]
  repeat still_step
  refine wpStill_nil ?_
  go_wp2_with fail
  refine U.mono ?_; rintro e w3 ⟨rfl, m3, hw3, -⟩
  have hb3 := hb2.grown hw3 (fun e => by injection e with e; exact hne e.symm)
  have hf3 := hf2.trans (Fr.of_grown hw3 (fun g e => by injection e with e; simp [e]))
  have d0 := Blk.cell hb3 0
  have d1 := Blk.cell hb3 1
  have d2 := Blk.cell hb3 2
  have f0 := Blk.free hb3 0
  have f1 := Blk.free hb3 1
  have f2 := Blk.free hb3 2
  clear c0 c3 U hf2 m2 hb2
  go_wp2_with fail
  go_end0
  refine ⟨rfl, ((hb3.put 0 _).put 2 _).put 1 _, ?_, ((hf3.put (by simp) _ _).put (by simp) _ _).put (by simp) _ _⟩
  exact ((Blk.far m3 (p := ⟨gw, 0, none⟩) hne _).far (p := ⟨gw, 2, none⟩) hne _).far (p := ⟨gw, 1, none⟩) hne _

theorem free_zero (hg : m.Good) : m.free 0 = m := by
  obtain ⟨k0, _, _⟩ := hg.m1
  unfold Mt.free
  rw [show m.um - min (max 0 0) m.um = m.um by omega]

set_option maxHeartbeats 1000000 in
theorem closed_close (h : Wsh w gw gm) (hm : Mtr w gm m) (hg : m.Good) (hne : gm ≠ gw) :
    Calls Try.prog 20 #[.pointer (some ⟨gw, 0, none⟩)] w fun e w' => e = .returned (.tuple #[]) ∧ Wsh w' gw gm ∧ Mtr w' gm m ∧ Fr [gw, gm] w w' := by
  have hb : Blk w gw 53 #[.slice none 0 0, .int .i64 0, .int .i64 0, .pointer (some ⟨gm, 0, none⟩)] := h
  obtain ⟨w2, hw2⟩ : ∃ w2, w2 = w.drew := ⟨_, rfl⟩
  have hb2 := hb.drew
  rw [← hw2] at hb2
  have m2 : Mtr w2 gm m := by rw [hw2]; exact hm
  have hf2 : Fr [gw, gm] w w2 := by rw [hw2]; exact (Fr.refl _ _).drew
  have c0 : w2.cell? ⟨gw, 0, none⟩ = some (.slice none 0 0) := Blk.cell hb2 0
  have c3 : w2.cell? ⟨gw, 3, none⟩ = some (.pointer (some ⟨gm, 0, none⟩)) := Blk.cell hb2 3
  have U := free_to 0 (by omega) (free_zero hg) hg m2
  go_enter Try.func20, Try.ntmps20
  go_wp2_with fail
  refine wp_region_still_tail 9 (by kernel_rfl) (by kernel_rfl) ?_
  change wpStill _ _ w.drew (fun a' => wpList _ _ _ _ a' w.drew) _ _
  rw [← hw2]
  clear hw2
  simp only [List.take_succ_cons, List.take_zero, List.drop_succ_cons, List.drop_zero]
  repeat still_step
  refine wpStill_nil ?_
  go_wp2_with fail
  refine U.mono ?_; rintro e w3 ⟨rfl, m3, hw3, -⟩
  have hb3 := hb2.grown hw3 (fun e => by injection e with e; exact hne e.symm)
  have hf3 := hf2.trans (Fr.of_grown hw3 (fun g e => by injection e with e; simp [e]))
  have d0 := Blk.cell hb3 0
  have d1 := Blk.cell hb3 1
  have d2 := Blk.cell hb3 2
  have f0 := Blk.free hb3 0
  have f1 := Blk.free hb3 1
  have f2 := Blk.free hb3 2
  clear c0 c3 U hf2 m2 hb2
  go_wp2_with fail
  go_end0
  refine ⟨rfl, ((hb3.put 0 _).put 2 _).put 1 _, ?_, ((hf3.put (by simp) _ _).put (by simp) _ _).put (by simp) _ _⟩
  exact ((Blk.far m3 (p := ⟨gw, 0, none⟩) hne _).far (p := ⟨gw, 2, none⟩) hne _).far (p := ⟨gw, 1, none⟩) hne _

theorem closed_put (b : Int) (h : Wsh w gw gm) :
    Calls Try.prog 10 #[.pointer (some ⟨gw, 0, none⟩), .int .u8 b] w fun e w' => e = .returned (.tuple #[]) ∧ w = w' := by
  have c0 : w.cell? ⟨gw, 0, none⟩ = some (.slice none 0 0) := Blk.cell h 0
  go_enter Try.func10, Try.ntmps10
  go_wp2_with fail
  first | go_end0 | refine bodyPost_ret (results_none rfl _ _ _) rfl ?_
  exact ⟨rfl, rfl⟩
theorem closed_has (d : Int) (h : Wsh w gw gm) :
    Calls Try.prog 11 #[.pointer (some ⟨gw, 0, none⟩), .int .i64 d] w fun e w' => e = .returned (.bool false) ∧ w = w' := by
  have c2 : w.cell? ⟨gw, 2, none⟩ = some (.int .i64 0) := Blk.cell h 2
  by_cases h0 : 0 ≤ d
  · go_enter Try.func11, Try.ntmps11
    go_wp2_with fail
    go_ret
    exact ⟨by simp; omega, rfl⟩
  · have hd : decide (0 ≤ d) = false := by simpa using h0
    go_enter Try.func11, Try.ntmps11
    go_wp2_with fail
    go_ret
    exact ⟨by simp, rfl⟩
theorem closed_at (d : Int) (h : Wsh w gw gm) :
    Calls Try.prog 12 #[.pointer (some ⟨gw, 0, none⟩), .int .i64 d] w fun e w' => e = .returned (.int .u8 0) ∧ w = w' := by
  have U := closed_has d h
  go_enter Try.func12, Try.ntmps12
  go_wp2_with fail
  refine U.mono ?_; rintro e w1 ⟨rfl, rfl⟩
  go_wp2_with fail
  go_ret
  exact ⟨rfl, rfl⟩
theorem closed_copy (d : Int) (h : Wsh w gw gm) :
    Calls Try.prog 14 #[.pointer (some ⟨gw, 0, none⟩), .int .i64 d] w fun e w' => e = .returned (.int .u8 0) ∧ w = w' := by
  have U := closed_has d h
  go_enter Try.func14, Try.ntmps14
  go_wp2_with fail
  refine U.mono ?_; rintro e w1 ⟨rfl, rfl⟩
  go_wp2_with fail
  go_ret
  exact ⟨rfl, rfl⟩
theorem closed_count (h : Wsh w gw gm) :
    Calls Try.prog 13 #[.pointer (some ⟨gw, 0, none⟩)] w fun e w' => e = .returned (.int .i64 0) ∧ w = w' := by
  have c2 : w.cell? ⟨gw, 2, none⟩ = some (.int .i64 0) := Blk.cell h 2
  go_enter Try.func13, Try.ntmps13
  go_wp2_with fail
  go_ret
  exact ⟨rfl, rfl⟩
theorem closed_empty (h : Wsh w gw gm) :
    Calls Try.prog 19 #[.pointer (some ⟨gw, 0, none⟩)] w fun e w' => e = .returned (.tuple #[]) ∧ Wsh w' gw gm ∧ Fr [gw, gm] w w' := by
  have c2 : w.cell? ⟨gw, 2, none⟩ = some (.int .i64 0) := Blk.cell h 2
  have f2 := Blk.free h 2
  go_enter Try.func19, Try.ntmps19
  go_wp2_with fail
  first | go_end0 | refine bodyPost_ret (results_none rfl _ _ _) rfl ?_
  exact ⟨rfl, Blk.put h 2 _, (Fr.refl _ _).put (by simp) _ _⟩

/-- The list behind a Copy. -/
def copyOf (n : Nat) (M : List Int) (d : Int) : List Int := if hasOf n M d then atOf n M d :: M else M

theorem copy_any (d : Int) (h : Wnd w gw gr gm n M) :
    Calls Try.prog 14 #[.pointer (some ⟨gw, 0, none⟩), .int .i64 d] w fun e w' => e = .returned (.int .u8 (atOf n M d)) ∧ Wnd w' gw gr gm n (copyOf n M d) ∧ Fr [gw, gr] w w' := by
  have U := has_any d h
  cases hd : hasOf n M d with
  | true =>
    rw [hd] at U
    have e : copyOf n M d = atOf n M d :: M := by unfold copyOf; rw [hd]; rfl
    have hby : 0 ≤ atOf n M d ∧ atOf n M d ≤ 255 := by obtain ⟨_, _, _, hr, _⟩ := h; exact atOf_byte hr d
    rw [e]
    clear e hd
    go_enter Try.func14, Try.ntmps14
    go_wp2_with fail
    refine U.mono ?_; rintro e w1 ⟨rfl, rfl⟩
    go_wp2_with fail
    refine (at_any d h).mono ?_; rintro e w2 ⟨k, rfl, rfl⟩
    have h2 : Wnd (w.drewN k) gw gr gm n M := h.fr (gs := []) ((Fr.refl _ _).drewN k) (by simp) (by simp)
    go_wp2_with fail
    refine (put_any _ hby h2).mono ?_; rintro e w3 ⟨rfl, h3, hf3⟩
    have hf := ((Fr.refl [gw, gr] w).drewN k).trans hf3
    go_wp2_with fail
    go_ret
    exact ⟨rfl, h3, hf⟩
  | false =>
    rw [hd] at U
    have e : copyOf n M d = M := by unfold copyOf; rw [hd]; rfl
    have e2 : atOf n M d = 0 := by
      unfold atOf
      rw [if_neg (by simpa [hasOf] using hd)]
    rw [e, e2]
    clear e hd e2
    go_enter Try.func14, Try.ntmps14
    go_wp2_with fail
    refine U.mono ?_; rintro e w1 ⟨rfl, rfl⟩
    go_wp2_with fail
    go_ret
    exact ⟨rfl, h, Fr.refl _ _⟩
end
end Go.Proofs.Ytpofgfomccmijaa
