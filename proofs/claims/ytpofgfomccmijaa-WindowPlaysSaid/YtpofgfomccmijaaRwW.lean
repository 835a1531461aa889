/- The reference's window, walked: a list of all that was put. -/
import Derived.Test.YtpofgfomccmijaaWnA
import Derived.Laws.AppendOwnNone
import Derived.Laws.OwnMore
import Derived.Deep.AppendLies
namespace Go.Proofs.Ytpofgfomccmijaa
open Go.RowKit

/-- Block g is the reference's window of size n, that has M (the last byte first). -/
def Rwn (w : World) (g B n : Nat) (M : List Int) (shut : Bool) : Prop :=
  (∀ x ∈ M, 0 ≤ x ∧ x ≤ 255) ∧ g < B ∧ B ≤ w.heap.size ∧ ∃ v, Blk w g 45 #[.int .i64 (n : Nat), v, .bool shut] ∧ w.ownsRow B 5 1 v M.length (M.reverse.map (Value.int .u8))

theorem owns_base {w : World} {base base' : Nat} {e : TypeId} {size n : Nat} {v : Value} {xs : List Value} (h : w.ownsRow base e size v n xs) (hb : base' ≤ base) : w.ownsRow base' e size v n xs := by
  refine ⟨h.1, ?_⟩
  rcases h.2 with h2 | ⟨g, cap, cur, hv, hg, r⟩
  · exact .inl h2
  · exact .inr ⟨g, cap, cur, hv, by omega, r⟩
/-- What is written from w's size on turns nothing that was there. -/
theorem grown_new {W w w' : World} {row : Option Nat} (h : W.grownBy w none) (hg : w.grownBy w' row) (hr : ∀ k, row = some k → W.heap.size ≤ k) : W.grownBy w' none :=
  ⟨hg.os.trans h.os, hg.tape.trans h.tape, hg.output.trans h.output, Nat.le_trans h.size hg.size,
    fun k hk _ => (hg.block k (Nat.lt_of_lt_of_le hk h.size) (fun e => by have := hr k e.symm; omega)).trans (h.block k hk (by simp))⟩

theorem news_one (w : World) (x : Value) (t : TypeId) : ∀ j u, [x][j]? = some u → (w.alloc (.cells #[x] t)).cell? ((⟨w.heap.size, 0, none⟩ : Addr).add j) = some u := by
  intro j u hj
  match j, hj with
  | 0, hj =>
    simp at hj; subst hj
    have : (⟨w.heap.size, 0, none⟩ : Addr).add 0 = ⟨w.heap.size, 0, none⟩ := by unfold Addr.add; simp
    rw [this]
    exact (Blk.new w t #[x]).cell 0
theorem one_cell (x : Int) : ∀ u ∈ [Value.int .u8 x], u.oneCell' = true := by intro u hu; simp at hu; subst hu; rfl
theorem all_one (L : List Int) : ∀ u ∈ L.map (Value.int .u8), u.oneCell' = true := by
  intro u hu
  obtain ⟨x, _, rfl⟩ := List.mem_map.1 hu
  rfl

section
variable {w : World} {g B n : Nat} {M : List Int}
set_option maxHeartbeats 2000000 in
theorem rput_open (b : Int) (hby : 0 ≤ b ∧ b ≤ 255) (hl : M.length ≤ 4000) (h : Rwn w g B n M false) :
    Calls Try.prog 16 #[.pointer (some ⟨g, 0, none⟩), .int .u8 b] w fun e w' => e = .returned (.tuple #[]) ∧ Rwn w' g B n (b :: M) false ∧ w.grownBy w' (some g) := by
  obtain ⟨hM, hgB, hB, v, hb, hown⟩ := h
  have hM' : ∀ x ∈ b :: M, 0 ≤ x ∧ x ≤ 255 := by
    intro x hx
    rcases List.mem_cons.1 hx with rfl | hx
    · exact hby
    · exact hM x hx
  obtain ⟨i0, hi, hz0, hz1, hz2⟩ := info_parts info8
  have c2 : w.cell? ⟨g, 2, none⟩ = some (.bool false) := Blk.cell hb 2
  have hb1 := Blk.alloc hb (.cells #[] 5)
  have c1 : (w.alloc (.cells #[] 5)).cell? ⟨g, 1, none⟩ = some v := Blk.cell hb1 1
  have hF : (w.alloc (.cells #[] 5)).ownsRow w.heap.size 5 1 (.slice (some ⟨w.heap.size, 0, none⟩) 0 0) 0 [] := World.ownsRow_made w #[] 0 (Nat.le_refl _) (by unfold maxLen; omega) (by simp)
  have hG1 : w.grownBy (w.alloc (.cells #[] 5)) none := grown_alloc (grown_refl _ _) _
  -- the end, from the world behind the second append on
  have END : ∀ (w3 : World) (gg cap : Nat), w.grownBy w3 none → w3.ownsRow w.heap.size 5 1 (.slice (some ⟨gg, 0, none⟩) (M.length + 1) cap) (M.length + 1) (M.reverse.map (Value.int .u8) ++ [.int .u8 b]) → gg ≠ g →
      Rwn (w3.setCell ⟨g, 1, none⟩ (.slice (some ⟨gg, 0, none⟩) (M.length + 1) cap)) g B n (b :: M) false ∧ w.grownBy (w3.setCell ⟨g, 1, none⟩ (.slice (some ⟨gg, 0, none⟩) (M.length + 1) cap)) (some g) := by
    intro w3 gg cap hg3 ho3 hgg
    refine ⟨⟨hM', hgB, ?_, _, (hb.grown hg3 (by simp)).put 1 _, ?_⟩, grown_put (grown_none hg3) _ _⟩
    · have := hg3.size; simp; omega
    · have := ownsRow_setCell_other (owns_base ho3 hB) (a := ⟨g, 1, none⟩) (by simp [Value.ownBlock]; exact hgg) (.slice (some ⟨gg, 0, none⟩) (M.length + 1) cap)
      simpa using this
  have HE := Lib.hid END
  have glt := hb.lt
  clear END hM hM'
  obtain ⟨hlen, hcase⟩ := hown
  rcases hcase with ⟨rfl, h0⟩ | ⟨gl, cap, cur, rfl, hgl, hcur, hn, hcap, hsz, htake⟩
  · have hM0 : M = [] := List.eq_nil_of_length_eq_zero h0
    subst hM0
    clear hlen h0
    go_enter Try.func16, Try.ntmps16
    have N2 := news_one (w.alloc (.cells #[] 5)) (.int .u8 b) 5
    rw [World.size_alloc] at N2
    have hF2 := hF.alloc (.cells #[.int .u8 b] 5)
    have hG2 := grown_alloc hG1 (.cells #[.int .u8 b] 5)
    go_wp2_with (first | (at_builtin; refine wpList_append_own_none rfl (.tmp 10) (.tmp 14) 23 rfl w.heap.size 5 i0 1 Try.underlying23 hi _ _ _ rfl hF rfl ?_) | (at_builtin; refine wpList_append_own _ rfl (.tmp 15) (.tmp 17) 23 rfl w.heap.size 5 i0 (.int .u8 0) 1 1 Try.underlying23 hi hz0 hz1 hz2 rfl (by decide) _ _ _ rfl hF2 ⟨w.heap.size + 1, 0, none⟩ 1 1 [.int .u8 b] rfl rfl N2 (one_cell b) (by unfold maxLen; omega) (by omega) (by simp; omega) ?_))
    intro v2 w3 ho3 hg3 hv3
    obtain ⟨gg, cap, rfl, hgg, hgl⟩ := ho3.form (by omega)
    have hG3 := grown_new hG2 hg3 (by intro k hk; simp [Value.ownBlock] at hk; omega)
    have hgne : gg ≠ g := by omega
    have f1 := (hb1.grown (grown_alloc (grown_refl _ none) (.cells #[.int .u8 b] 5)) (by simp))
    have f2 := f1.grown hg3 (by simp [Value.ownBlock]; omega)
    have f3 := Blk.free f2 1
    have f4 := Blk.cell f2 1
    have E := HE.out w3 gg cap hG3 ho3 hgne
    clear ho3 hg3 hv3 hG3 f1 f2 hF hF2 hG1 hG2 N2 c1 hb1
    go_wp2_with fail
    go_end0
    exact ⟨rfl, E⟩
  · have hown : w.ownsRow B 5 1 (.slice (some ⟨gl, 0, none⟩) M.length cap) M.length (M.reverse.map (Value.int .u8)) := ⟨hlen, .inr ⟨gl, cap, cur, rfl, hgl, hcur, hn, hcap, hsz, htake⟩⟩
    have hC := (hown.alloc (.cells #[] 5)).cells (g := gl) rfl
    have hL : (M.reverse.map (Value.int .u8)).length = M.length := by simp
    have hL1 : (M.reverse.map (Value.int .u8)).length = M.length * 1 := by simp
    have hA1 := all_one M.reverse
    generalize hXS : M.reverse.map (Value.int .u8) = XS at *

    clear hXS hlen hcur hn hsz htake hcap hown hL
    go_enter Try.func16, Try.ntmps16
    go_wp2_with (at_builtin; refine wpList_append_own _ rfl (.tmp 10) (.tmp 14) 23 rfl w.heap.size 5 i0 (.int .u8 0) 1 1 Try.underlying23 hi hz0 hz1 hz2 rfl (by decide) _ _ _ rfl hF ⟨gl, 0, none⟩ M.length cap XS rfl hL1 hC hA1 (by unfold maxLen; omega) (by omega) (by simp) ?_)
    intro v1 w2 ho2 hg2 hv2
    have hG2 := grown_new hG1 hg2 (by intro k hk; simp [Value.ownBlock] at hk; omega)
    have f1 := hb1.grown hg2 (by simp [Value.ownBlock]; omega)
    have l2 := hG2.size
    have l1 := ho2.lt
    have N2 := news_one w2 (.int .u8 b) 5
    have ho2a := ho2.alloc (.cells #[.int .u8 b] 5)
    clear hv2 hg2 hG1 hb1 hF hC hL1 hA1 c1 c2 ho2
    go_wp2_with (at_builtin; refine wpList_append_own _ rfl (.tmp 15) (.tmp 17) 23 rfl w.heap.size 5 i0 (.int .u8 0) 1 1 Try.underlying23 hi hz0 hz1 hz2 rfl (by decide) _ _ _ rfl ho2a ⟨w2.heap.size, 0, none⟩ 1 1 [.int .u8 b] rfl rfl N2 (one_cell b) (by unfold maxLen; omega) (by omega) (by simp; omega) ?_)
    intro v2 w3 ho3 hg3 hv3
    obtain ⟨gg, cap2, rfl, hgg, hgl2⟩ := ho3.form (by omega)
    have hG3 := grown_new (grown_alloc hG2 (.cells #[.int .u8 b] 5)) hg3 (fun k hk => (l1 k hk).1)
    have hgne : gg ≠ g := by omega
    have f2 := (Blk.alloc f1 (.cells #[.int .u8 b] 5)).grown hg3 (fun e => by have := (l1 g e.symm).1; omega)
    have f3 := Blk.free f2 1
    have f4 := Blk.cell f2 1
    have E := HE.out w3 gg cap2 hG3 ho3 hgne
    clear ho3 hg3 hv3 hG3 f1 f2 hG2 N2 ho2a l1
    go_wp2_with fail
    go_end0
    exact ⟨rfl, E⟩

theorem rput_shut (b : Int) (h : Rwn w g B n M true) :
    Calls Try.prog 16 #[.pointer (some ⟨g, 0, none⟩), .int .u8 b] w fun e w' => e = .returned (.tuple #[]) ∧ w = w' := by
  obtain ⟨hM, hgB, hB, v, hb, hown⟩ := h
  have c2 : w.cell? ⟨g, 2, none⟩ = some (.bool true) := Blk.cell hb 2
  go_enter Try.func16, Try.ntmps16
  go_wp2_with fail
  first | go_end0 | refine bodyPost_ret (results_none rfl _ _ _) rfl ?_
  exact ⟨rfl, rfl⟩

/-- A list's slice value: its shape. -/
theorem owns_shape {xs : List Value} {v : Value} {k : Nat} (h : w.ownsRow B 5 1 v k xs) : ∃ A c, v = .slice A k c := by
  rcases h.2 with ⟨rfl, rfl⟩ | ⟨gl, cap, cur, rfl, _⟩
  · exact ⟨_, _, rfl⟩
  · exact ⟨_, _, rfl⟩

theorem rhas_open (d : Int) (_hl : M.length ≤ 4000) (h : Rwn w g B n M false) (_hn : n ≤ 1073741824) :
    Calls Try.prog 18 #[.pointer (some ⟨g, 0, none⟩), .int .i64 d] w fun e w' => e = .returned (.bool (hasOf n M d)) ∧ w = w' := by
  obtain ⟨hM, hgB, hB, v, hb, hown⟩ := h
  obtain ⟨A, c, rfl⟩ := owns_shape hown
  have c0 : w.cell? ⟨g, 0, none⟩ = some (.int .i64 (n : Nat)) := Blk.cell hb 0
  have c1 : w.cell? ⟨g, 1, none⟩ = some (.slice A M.length c) := Blk.cell hb 1
  have c2 : w.cell? ⟨g, 2, none⟩ = some (.bool false) := Blk.cell hb 2
  clear hown hb hM
  by_cases h0 : 0 ≤ d
  · by_cases h1 : d < (n : Int)
    · by_cases h2 : d < (M.length : Int)
      · have e : hasOf n M d = true := by simp only [hasOf, decide_eq_true_eq]; unfold cntOf; omega
        rw [e]; clear e
        go_enter Try.func18, Try.ntmps18
        go_wp2_with fail
        go_ret
        exact ⟨by simp, rfl⟩
      · have e : hasOf n M d = false := by simp only [hasOf, decide_eq_false_iff_not]; unfold cntOf; omega
        rw [e]; clear e
        go_enter Try.func18, Try.ntmps18
        go_wp2_with fail
        go_ret
        exact ⟨by simp, rfl⟩
    · have e : hasOf n M d = false := by simp only [hasOf, decide_eq_false_iff_not]; unfold cntOf; omega
      rw [e]; clear e
      have hd : decide (d < (n : Int)) = false := by simpa using h1
      go_enter Try.func18, Try.ntmps18
      go_wp2_with fail
      go_ret
      exact ⟨by simp, rfl⟩
  · have e : hasOf n M d = false := by simp [hasOf, h0]
    rw [e]; clear e
    have hd : decide (0 ≤ d) = false := by simpa using h0
    go_enter Try.func18, Try.ntmps18
    go_wp2_with fail
    go_ret
    exact ⟨by simp, rfl⟩

theorem rhas_shut (d : Int) (h : Rwn w g B n M true) :
    Calls Try.prog 18 #[.pointer (some ⟨g, 0, none⟩), .int .i64 d] w fun e w' => e = .returned (.bool false) ∧ w = w' := by
  obtain ⟨hM, hgB, hB, v, hb, hown⟩ := h
  have c2 : w.cell? ⟨g, 2, none⟩ = some (.bool true) := Blk.cell hb 2
  go_enter Try.func18, Try.ntmps18
  go_wp2_with fail
  go_ret
  exact ⟨by simp, rfl⟩

theorem rat_shut (d : Int) (h : Rwn w g B n M true) :
    Calls Try.prog 17 #[.pointer (some ⟨g, 0, none⟩), .int .i64 d] w fun e w' => ∃ k, e = .returned (.int .u8 0) ∧ w' = w.drewN k := by
  have U := rhas_shut d h
  go_enter Try.func17, Try.ntmps17
  go_wp2_with fail
  refine U.mono ?_; rintro e w1 ⟨rfl, rfl⟩
  go_wp2_with fail
  go_ret
  exact ⟨0, rfl, rfl⟩

set_option maxHeartbeats 1000000 in
theorem rat_open (d : Int) (hl : M.length ≤ 4000) (h : Rwn w g B n M false) (hn : n ≤ 1073741824) :
    Calls Try.prog 17 #[.pointer (some ⟨g, 0, none⟩), .int .i64 d] w fun e w' => ∃ k, e = .returned (.int .u8 (atOf n M d)) ∧ w' = w.drewN k := by
  have U := rhas_open d hl h hn
  obtain ⟨hM, hgB, hB, v, hb, hown⟩ := h
  by_cases hd : 0 ≤ d ∧ d < cntOf n M
  · have e1 : hasOf n M d = true := by simp only [hasOf, decide_eq_true_eq]; exact hd
    have hc' : cntOf n M ≤ M.length := by unfold cntOf; omega
    obtain ⟨k, rfl⟩ := Int.eq_ofNat_of_zero_le hd.1
    have hk : k < M.length := by omega
    obtain ⟨gl, cap, rfl, hgl, hgl2⟩ := hown.form (by omega)
    have c1 : w.cell? ⟨g, 1, none⟩ = some (.slice (some ⟨gl, 0, none⟩) M.length cap) := Blk.cell hb 1
    have cR : w.cell? ⟨gl, M.length - 1 - k, none⟩ = some (.int .u8 (atOf n M k)) := by
      have hj : (M.reverse.map (Value.int .u8))[M.length - 1 - k]? = some (.int .u8 (atOf n M k)) := by
        rw [List.getElem?_map, List.getElem?_reverse (by omega)]
        have e2 : atOf n M k = M.getD k 0 := by unfold atOf; rw [if_pos hd]; rfl
        rw [e2, show M.length - 1 - (M.length - 1 - k) = k by omega, List.getD_eq_getElem?_getD, List.getElem?_eq_getElem hk]
        rfl
      have := hown.cells (g := gl) rfl _ _ hj
      have ha : (⟨gl, 0, none⟩ : Addr).add (M.length - 1 - k) = ⟨gl, M.length - 1 - k, none⟩ := by unfold Addr.add; split <;> simp_all
      rwa [ha] at this
    rw [e1] at U
    have z1 : IntKind.i64.wrap ((M.length : Int) - 1) = (M.length : Int) - 1 := by rw [IntKind.wrap_i64]; omega
    have z2 : IntKind.i64.wrap ((M.length : Int) - 1 - (k : Int)) = (M.length : Int) - 1 - (k : Int) := by rw [IntKind.wrap_i64]; omega
    have z3 : (k : Int) ≤ (M.length : Int) - 1 := by omega
    have z4 : (M.length : Int) - 1 - (k : Int) < (M.length : Int) := by omega
    have z5 : ((M.length : Int) - 1 - (k : Int)).toNat = M.length - 1 - k := by omega
    clear e1 hb hd hc' hown hM
    generalize atOf n M (k : Nat) = x at *
    generalize M.length = ml at *
    go_enter Try.func17, Try.ntmps17
    go_wp2_with fail
    refine U.mono ?_; rintro e w1 ⟨rfl, rfl⟩
    go_wp2_with fail
    go_quiet (fail)
    go_wp2_with fail
    go_ret
    exact ⟨_, rfl, rfl⟩
  · have e1 : hasOf n M d = false := by simp only [hasOf, decide_eq_false_iff_not]; exact hd
    have e2 : atOf n M d = 0 := by unfold atOf; rw [if_neg hd]
    rw [e1] at U
    rw [e2]
    clear e1 e2 hd
    go_enter Try.func17, Try.ntmps17
    go_wp2_with fail
    refine U.mono ?_; rintro e w1 ⟨rfl, rfl⟩
    go_wp2_with fail
    go_ret
    exact ⟨0, rfl, rfl⟩

theorem rcount_shut (h : Rwn w g B n M true) :
    Calls Try.prog 21 #[.pointer (some ⟨g, 0, none⟩)] w fun e w' => ∃ k, e = .returned (.int .i64 0) ∧ w' = w.drewN k := by
  obtain ⟨hM, hgB, hB, v, hb, hown⟩ := h
  have c2 : w.cell? ⟨g, 2, none⟩ = some (.bool true) := Blk.cell hb 2
  go_enter Try.func21, Try.ntmps21
  go_wp2_with fail
  go_ret
  exact ⟨0, rfl, rfl⟩
theorem rcount_open (h : Rwn w g B n M false) :
    Calls Try.prog 21 #[.pointer (some ⟨g, 0, none⟩)] w fun e w' => ∃ k, e = .returned (.int .i64 (cntOf n M : Nat)) ∧ w' = w.drewN k := by
  obtain ⟨hM, hgB, hB, v, hb, hown⟩ := h
  obtain ⟨A, c, rfl⟩ := owns_shape hown
  have c0 : w.cell? ⟨g, 0, none⟩ = some (.int .i64 (n : Nat)) := Blk.cell hb 0
  have c1 : w.cell? ⟨g, 1, none⟩ = some (.slice A M.length c) := Blk.cell hb 1
  have c2 : w.cell? ⟨g, 2, none⟩ = some (.bool false) := Blk.cell hb 2
  clear hown hb hM
  by_cases h1 : n < M.length
  · have e : cntOf n M = n := by unfold cntOf; omega
    rw [e]; clear e
    generalize M.length = ml at *
    go_enter Try.func21, Try.ntmps21
    go_wp2_with fail
    go_quiet (fail)
    go_wp2_with fail
    go_ret
    exact ⟨_, rfl, rfl⟩
  · have e : cntOf n M = M.length := by unfold cntOf; omega
    rw [e]; clear e
    generalize M.length = ml at *
    go_enter Try.func21, Try.ntmps21
    go_wp2_with fail
    go_quiet (fail)
    go_wp2_with fail
    go_ret
    exact ⟨_, rfl, rfl⟩

theorem rnew_any (s : Int) (n : Nat) (hs : max s 1 = (n : Int)) :
    Calls Try.prog 15 #[.int .i64 s] w fun e w' => ∃ g, e = .returned (.pointer (some ⟨g, 0, none⟩)) ∧ w.heap.size ≤ g ∧ Blk w' g 45 #[.int .i64 (n : Nat), .slice none 0 0, .bool false] ∧ w.grownBy w' none := by
  by_cases h : s < 1
  · obtain rfl : n = 1 := by omega
    clear hs
    go_enter Try.func15, Try.ntmps15
    go_wp2_with fail
    go_ret
    exact ⟨_, rfl, Nat.le_refl _, Blk.new _ _ _, grown_alloc (grown_refl _ _) _⟩
  · obtain rfl : s = (n : Int) := by omega
    clear hs
    go_enter Try.func15, Try.ntmps15
    go_wp2_with fail
    go_ret
    exact ⟨_, rfl, Nat.le_refl _, Blk.new _ _ _, grown_alloc (grown_refl _ _) _⟩
end
end Go.Proofs.Ytpofgfomccmijaa
