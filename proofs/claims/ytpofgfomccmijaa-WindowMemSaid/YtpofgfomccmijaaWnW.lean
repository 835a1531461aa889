/- The window's methods, walked. -/
import Derived.Test.YtpofgfomccmijaaWnP
import Derived.Test.YtpofgfomccmijaaMcC
import Derived.OwnWalk
namespace Go.Proofs.Ytpofgfomccmijaa
open Go.RowKit

/-- The lesser, behind a name. -/
def mn (a b : Int) : Int := min a b
theorem run_mn (P : Program) (ts : Array TypeId) (t : TypeId) (k k' : IntKind) (x y : Int) (w : World) : (Builtin.min_ ts t #[.int k x, .int k' y]).run P w = .ok (.int k (mn x y)) w := by
  have e : mn x y = if y < x then y else x := by unfold mn; split <;> omega
  simp [Builtin.min_, Builtin.min2, e]

section
variable {w : World} {gw gr gm n : Nat} {M : List Int}

theorem has_any (d : Int) (h : Wnd w gw gr gm n M) :
    Calls Try.prog 11 #[.pointer (some ⟨gw, 0, none⟩), .int .i64 d] w fun e w' => e = .returned (.bool (hasOf n M d)) ∧ w = w' := by
  obtain ⟨hn, next, R, hr, hne, hb, hb'⟩ := h
  have hc : w.cell? ⟨gw, 2, none⟩ = some (.int .i64 (cntOf n M : Nat)) := Blk.cell hb 2
  by_cases h0 : 0 ≤ d
  · by_cases h1 : d < cntOf n M
    · have e : hasOf n M d = true := by simp [hasOf, h0, h1]
      rw [e]; clear e
      go_enter Try.func11, Try.ntmps11
      go_wp2_with fail
      go_ret
      exact ⟨by simp, rfl⟩
    · have e : hasOf n M d = false := by simp [hasOf, h1]
      rw [e]; clear e
      go_enter Try.func11, Try.ntmps11
      go_wp2_with fail
      go_ret
      exact ⟨by simp, rfl⟩
  · have e : hasOf n M d = false := by simp [hasOf, h0]
    rw [e]; clear e
    have hd : decide (0 ≤ d) = false := by simpa using h0
    go_enter Try.func11, Try.ntmps11
    go_wp2_with fail
    go_ret
    exact ⟨by simp, rfl⟩

theorem count_any (h : Wnd w gw gr gm n M) :
    Calls Try.prog 13 #[.pointer (some ⟨gw, 0, none⟩)] w fun e w' => e = .returned (.int .i64 (cntOf n M : Nat)) ∧ w = w' := by
  obtain ⟨hn, next, R, hr, hne, hb, hb'⟩ := h
  have hc : w.cell? ⟨gw, 2, none⟩ = some (.int .i64 (cntOf n M : Nat)) := Blk.cell hb 2
  go_enter Try.func13, Try.ntmps13
  go_wp2_with fail
  go_ret
  exact ⟨rfl, rfl⟩

theorem empty_any (h : Wnd w gw gr gm n M) :
    Calls Try.prog 19 #[.pointer (some ⟨gw, 0, none⟩)] w fun e w' => e = .returned (.tuple #[]) ∧ Wnd w' gw gr gm n [] ∧ Fr [gw, gr] w w' := by
  obtain ⟨hn, next, R, hr, hne, hb, hb'⟩ := h
  have hc : w.cell? ⟨gw, 2, none⟩ = some (.int .i64 (cntOf n M : Nat)) := Blk.cell hb 2
  have f2 := Blk.free hb 2
  have hE : Wnd (w.setCell ⟨gw, 2, none⟩ (.int .i64 0)) gw gr gm n [] := ⟨hn, next, R, hr.empty, hne, Blk.put hb 2 _, Blk.far hb' (p := ⟨gw, 2, none⟩) (Ne.symm hne) _⟩
  have HE := Lib.hid hE
  clear hE hb hb' hr
  go_enter Try.func19, Try.ntmps19
  go_wp2_with fail
  first | go_end0 | refine bodyPost_ret (results_none rfl _ _ _) rfl ?_
  exact ⟨rfl, HE.out, (Fr.refl _ _).put (by simp) _ _⟩

theorem place_any (next d : Nat) (m : Value) (hb : Blk w gw 53 #[.slice (some ⟨gr, 0, none⟩) n n, .int .i64 (next : Nat), .int .i64 (cntOf n M : Nat), m]) (hn : n ≤ 1073741824) (h1 : next < n) (h2 : d < n) :
    Calls Try.prog 25 #[.pointer (some ⟨gw, 0, none⟩), .int .i64 (d : Nat)] w fun e w' => e = .returned (.int .i64 (slotOf n next d : Nat)) ∧ w = w' := by
  have c0 : w.cell? ⟨gw, 0, none⟩ = some (.slice (some ⟨gr, 0, none⟩) n n) := Blk.cell hb 0
  have c1 : w.cell? ⟨gw, 1, none⟩ = some (.int .i64 (next : Nat)) := Blk.cell hb 1
  clear hb
  by_cases h : d + 1 ≤ next
  · have e : slotOf n next d = next - 1 - d := by unfold slotOf; rw [if_pos h]
    have E := Lib.hid (show ((slotOf n next d : Nat) : Int) = (next : Int) - 1 - d by rw [e]; omega)
    clear e
    generalize slotOf n next d = x at *
    go_enter Try.func25, Try.ntmps25
    go_wp2_with fail
    go_ret
    exact ⟨by rw [E.out]; rfl, rfl⟩
  · have e : slotOf n next d = next + n - 1 - d := by unfold slotOf; rw [if_neg h]
    have E := Lib.hid (show ((slotOf n next d : Nat) : Int) = (next : Int) - 1 - d + n by rw [e]; omega)
    clear e
    generalize slotOf n next d = x at *
    go_enter Try.func25, Try.ntmps25
    go_wp2_with fail
    go_ret
    exact ⟨by rw [E.out]; rfl, rfl⟩

theorem at_any (d : Int) (h : Wnd w gw gr gm n M) :
    Calls Try.prog 12 #[.pointer (some ⟨gw, 0, none⟩), .int .i64 d] w fun e w' => ∃ k, e = .returned (.int .u8 (atOf n M d)) ∧ w' = w.drewN k := by
  have h0 := h
  obtain ⟨hn, next, R, hr, hne, hb, hb'⟩ := h
  have U := has_any d h0
  by_cases hd : 0 ≤ d ∧ d < cntOf n M
  · have e1 : hasOf n M d = true := by simp only [hasOf, decide_eq_true_eq]; exact hd
    have hc : cntOf n M ≤ n := by unfold cntOf; omega
    have hc' : cntOf n M ≤ M.length := by unfold cntOf; omega
    obtain ⟨k, rfl⟩ := Int.eq_ofNat_of_zero_le hd.1
    have hk : k < n := by omega
    have e2 : atOf n M k = R (slotOf n next k) := by
      unfold atOf
      rw [if_pos hd, hr.at_ k (by omega) hk]; simp
    rw [e1] at U
    rw [e2]
    have hs : slotOf n next k < n := by have := hr.lt; unfold slotOf; split <;> omega
    have P : ∀ q, Calls Try.prog 25 #[.pointer (some ⟨gw, 0, none⟩), .int .i64 (k : Nat)] (w.drewN q) fun e w'' => e = .returned (.int .i64 (slotOf n next k : Nat)) ∧ ∃ m, w'' = w.drewN m :=
      fun q => Calls.quiet_of_same ((place_any (w := w.drewN q) next k _ hb hn hr.lt hk).mono fun _ _ h => ⟨h.1, h.2.symm⟩)
    have c0 : w.cell? ⟨gw, 0, none⟩ = some (.slice (some ⟨gr, 0, none⟩) n n) := Blk.cell hb 0
    have cR : w.cell? ⟨gr, slotOf n next k, none⟩ = some (.int .u8 (R (slotOf n next k))) := (Blk.cell hb' _).trans (rowOf_get R hs)
    have hs0 : (0 : Int) ≤ (slotOf n next k : Nat) := by omega
    have hs1 : ((slotOf n next k : Nat) : Int) < (n : Nat) := by omega
    clear e1 e2 h0 hb hb' hr hd hc hc'
    have HP := Lib.hid P
    clear P
    generalize slotOf n next k = x at *
    go_enter Try.func12, Try.ntmps12
    go_wp2_with fail
    refine U.mono ?_; rintro e w1 ⟨rfl, rfl⟩
    go_wp2_with fail
    go_quiet ((go_at_call 25; exact HP.out _))
    go_wp2_with fail
    go_ret
    exact ⟨_, rfl, rfl⟩
  · have e1 : hasOf n M d = false := by simp only [hasOf, decide_eq_false_iff_not]; exact hd
    have e2 : atOf n M d = 0 := by unfold atOf; rw [if_neg hd]
    rw [e1] at U
    rw [e2]
    clear e1 e2 hd
    go_enter Try.func12, Try.ntmps12
    go_wp2_with fail
    refine U.mono ?_; rintro e w1 ⟨rfl, rfl⟩
    go_wp2_with fail
    go_ret
    exact ⟨0, rfl, rfl⟩
end

section
attribute [local go_sem ↓] run_mn
variable {w : World} {gw gr gm n : Nat} {M : List Int}
set_option maxHeartbeats 1000000 in
theorem put_any (b : Int) (hby : 0 ≤ b ∧ b ≤ 255) (h : Wnd w gw gr gm n M) :
    Calls Try.prog 10 #[.pointer (some ⟨gw, 0, none⟩), .int .u8 b] w fun e w' => e = .returned (.tuple #[]) ∧ Wnd w' gw gr gm n (b :: M) ∧ Fr [gw, gr] w w' := by
  obtain ⟨hn, next, R, hr, hne, hb, hb'⟩ := h
  have hl := hr.lt
  have hr2 := hr.more hby
  have c0 : w.cell? ⟨gw, 0, none⟩ = some (.slice (some ⟨gr, 0, none⟩) n n) := Blk.cell hb 0
  have c1 : w.cell? ⟨gw, 1, none⟩ = some (.int .i64 (next : Nat)) := Blk.cell hb 1
  have c2 : w.cell? ⟨gw, 2, none⟩ = some (.int .i64 (cntOf n M : Nat)) := Blk.cell hb 2
  have f1 := Blk.free hb 1
  have f2 := Blk.free hb 2
  have cR : w.cell? ⟨gr, next, none⟩ = some (.int .u8 (R next)) := (Blk.cell hb' _).trans (rowOf_get R hl)
  have fR := Blk.free hb' next
  have hz : ((n : Int) == 0) = false := by simp; omega
  have hcn : cntOf n M ≤ n := by unfold cntOf; omega
  obtain ⟨w2, hw2⟩ : ∃ w2, w2 = (w.setCell ⟨gr, next, none⟩ (.int .u8 b)).drew := ⟨_, rfl⟩
  have hb2 : Blk w2 gw 53 #[.slice (some ⟨gr, 0, none⟩) n n, .int .i64 (next : Nat), .int .i64 (cntOf n M : Nat), .pointer (some ⟨gm, 0, none⟩)] := by
    rw [hw2]; exact Blk.far hb (p := ⟨gr, next, none⟩) hne _
  have hb2' : Blk w2 gr 5 (rowOf n (fun j => if j = next then b else R j)) := by
    rw [hw2, ← rowOf_put R b hl]; exact Blk.put hb' next _
  have hf2 : Fr [gw, gr] w w2 := by rw [hw2]; exact ((Fr.refl _ _).put (by simp) _ _).drew
  have HW := Lib.hid hw2
  have HR := Lib.hid hr2
  clear hr hr2 hb hb' hw2
  have hq : ((next : Int) + 1 == (n : Int)) = decide (next + 1 = n) := by
    rw [Bool.eq_iff_iff]; simp; omega
  have hbn : (((next : Int) + 1 : Int)) = ((next + 1 : Nat) : Int) := by omega
  have hcm : mn ((cntOf n M : Nat) + 1) (n : Nat) = (cntOf n (b :: M) : Nat) := by rw [cntOf_more]; unfold mn; omega
  have HCM := Lib.hid hcm
  clear hcm
  by_cases hw : next + 1 = n
  · have hN : nextOf n next = 0 := by unfold nextOf; rw [if_pos hw]
    have HN := Lib.hid hN
    have hq1 : ((next : Int) + 1 == (n : Int)) = true := by rw [hq]; simp [hw]
    clear hq hN hw hbn
    go_enter Try.func10, Try.ntmps10
    go_wp2_with fail
    go_region
    rw [← HW.out]
    clear c0 c1 c2 f1 f2 cR fR
    have c0 : w2.cell? ⟨gw, 0, none⟩ = some (.slice (some ⟨gr, 0, none⟩) n n) := Blk.cell hb2 0
    have c1 : w2.cell? ⟨gw, 1, none⟩ = some (.int .i64 (next : Nat)) := Blk.cell hb2 1
    have f1 := Blk.free hb2 1
    go_wp2_with fail
    have hb3 := hb2.put 1 (.int .i64 ((next : Int) + 1))
    have hb3' := hb2'.far (p := ⟨gw, 1, none⟩) (Ne.symm hne) (.int .i64 ((next : Int) + 1))
    have hf3 := hf2.put (g := gw) (by simp) 1 (.int .i64 ((next : Int) + 1))
    revert hb3 hb3' hf3
    generalize w2.setCell { block := gw, off := 1 } (Value.int IntKind.i64 ((next : Int) + 1)) = w3
    intro hb3 hb3' hf3
    clear c0 c1 f1 hb2 hb2' hf2 HW
    have c0 : w3.cell? ⟨gw, 0, none⟩ = some (.slice (some ⟨gr, 0, none⟩) n n) := Blk.cell hb3 0
    have c1 : w3.cell? ⟨gw, 1, none⟩ = some (.int .i64 ((next : Int) + 1)) := Blk.cell hb3 1
    go_quiet (fail)
    have f1 : (w3.drewN nq).frozen? ⟨gw, 1, none⟩ = false := Blk.free hb3 1
    go_wp2_with fail
    have hb4 := (hb3.drewN nq).put 1 (.int .i64 0)
    have hb4' := (hb3'.drewN nq).far (p := ⟨gw, 1, none⟩) (Ne.symm hne) (.int .i64 0)
    have hf4 := (hf3.drewN nq).put (g := gw) (by simp) 1 (.int .i64 0)
    clear f1 hb3 hb3' hf3
    revert hb4 hb4' hf4
    generalize (w3.drewN nq).setCell { block := gw, off := 1 } (Value.int IntKind.i64 0) = w4
    intro hb4 hb4' hf4
    have hb4 : Blk w4 gw 53 #[.slice (some ⟨gr, 0, none⟩) n n, .int .i64 (nextOf n next : Nat), .int .i64 (cntOf n M : Nat), .pointer (some ⟨gm, 0, none⟩)] := by rw [HN.out]; exact hb4
    clear c0 c1
    have c0 : w4.cell? ⟨gw, 0, none⟩ = some (.slice (some ⟨gr, 0, none⟩) n n) := Blk.cell hb4 0
    have c2 : w4.cell? ⟨gw, 2, none⟩ = some (.int .i64 (cntOf n M : Nat)) := Blk.cell hb4 2
    have f2 := Blk.free hb4 2
    have hb5 : Blk (w4.drew.setCell ⟨gw, 2, none⟩ (.int .i64 (cntOf n (b :: M) : Nat))) gw 53 _ := Blk.put hb4.drew 2 _
    have hb5' := Blk.far hb4'.drew (p := ⟨gw, 2, none⟩) (Ne.symm hne) (.int .i64 (cntOf n (b :: M) : Nat))
    have hf5 := hf4.drew.put (g := gw) (by simp) 2 (.int .i64 (cntOf n (b :: M) : Nat))
    have H5 := Lib.hid (show Wnd (w4.drew.setCell ⟨gw, 2, none⟩ (.int .i64 (cntOf n (b :: M) : Nat))) gw gr gm n (b :: M) from ⟨hn, nextOf n next, _, HR.out, hne, hb5, hb5'⟩)
    have HF := Lib.hid hf5
    clear hb5 hb5' hf5 hb4 hb4' hf4
    go_region
    all_goals
      go_wp2_with fail
      first | go_end0 | refine bodyPost_ret (results_none rfl _ _ _) rfl ?_
      refine ⟨rfl, ?_, ?_⟩
      · rw [HCM.out]; exact H5.out
      · rw [HCM.out]; exact HF.out
  · have hN : nextOf n next = next + 1 := by unfold nextOf; rw [if_neg hw]
    have HN := Lib.hid (show ((nextOf n next : Nat) : Int) = (next : Int) + 1 by rw [hN]; omega)
    have hq1 : ((next : Int) + 1 == (n : Int)) = false := by rw [hq]; simp [hw]
    clear hq hN hw hbn
    go_enter Try.func10, Try.ntmps10
    go_wp2_with fail
    go_region
    rw [← HW.out]
    clear c0 c1 c2 f1 f2 cR fR
    have c0 : w2.cell? ⟨gw, 0, none⟩ = some (.slice (some ⟨gr, 0, none⟩) n n) := Blk.cell hb2 0
    have c1 : w2.cell? ⟨gw, 1, none⟩ = some (.int .i64 (next : Nat)) := Blk.cell hb2 1
    have f1 := Blk.free hb2 1
    go_wp2_with fail
    have hb3 := hb2.put 1 (.int .i64 ((next : Int) + 1))
    have hb3' := hb2'.far (p := ⟨gw, 1, none⟩) (Ne.symm hne) (.int .i64 ((next : Int) + 1))
    have hf3 := hf2.put (g := gw) (by simp) 1 (.int .i64 ((next : Int) + 1))
    revert hb3 hb3' hf3
    generalize w2.setCell { block := gw, off := 1 } (Value.int IntKind.i64 ((next : Int) + 1)) = w3
    intro hb3 hb3' hf3
    clear c0 c1 f1 hb2 hb2' hf2 HW
    have c0 : w3.cell? ⟨gw, 0, none⟩ = some (.slice (some ⟨gr, 0, none⟩) n n) := Blk.cell hb3 0
    have c1 : w3.cell? ⟨gw, 1, none⟩ = some (.int .i64 ((next : Int) + 1)) := Blk.cell hb3 1
    go_quiet (fail)
    go_wp2_with fail
    have hb4 := hb3.drewN nq
    have hb4' := hb3'.drewN nq
    have hf4 := hf3.drewN nq
    clear hb3 hb3' hf3
    revert hb4 hb4' hf4
    generalize w3.drewN nq = w4
    intro hb4 hb4' hf4
    have hb4 : Blk w4 gw 53 #[.slice (some ⟨gr, 0, none⟩) n n, .int .i64 (nextOf n next : Nat), .int .i64 (cntOf n M : Nat), .pointer (some ⟨gm, 0, none⟩)] := by rw [HN.out]; exact hb4
    clear c0 c1
    have c0 : w4.cell? ⟨gw, 0, none⟩ = some (.slice (some ⟨gr, 0, none⟩) n n) := Blk.cell hb4 0
    have c2 : w4.cell? ⟨gw, 2, none⟩ = some (.int .i64 (cntOf n M : Nat)) := Blk.cell hb4 2
    have f2 := Blk.free hb4 2
    have hb5 : Blk (w4.drew.setCell ⟨gw, 2, none⟩ (.int .i64 (cntOf n (b :: M) : Nat))) gw 53 _ := Blk.put hb4.drew 2 _
    have hb5' := Blk.far hb4'.drew (p := ⟨gw, 2, none⟩) (Ne.symm hne) (.int .i64 (cntOf n (b :: M) : Nat))
    have hf5 := hf4.drew.put (g := gw) (by simp) 2 (.int .i64 (cntOf n (b :: M) : Nat))
    have H5 := Lib.hid (show Wnd (w4.drew.setCell ⟨gw, 2, none⟩ (.int .i64 (cntOf n (b :: M) : Nat))) gw gr gm n (b :: M) from ⟨hn, nextOf n next, _, HR.out, hne, hb5, hb5'⟩)
    have HF := Lib.hid hf5
    clear hb5 hb5' hf5 hb4 hb4' hf4
    go_region
    all_goals
      go_wp2_with fail
      first | go_end0 | refine bodyPost_ret (results_none rfl _ _ _) rfl ?_
      refine ⟨rfl, ?_, ?_⟩
      · rw [HCM.out]; exact H5.out
      · rw [HCM.out]; exact HF.out
end
end Go.Proofs.Ytpofgfomccmijaa
