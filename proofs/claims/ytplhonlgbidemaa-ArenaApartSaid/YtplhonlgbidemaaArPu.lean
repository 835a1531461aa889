/- does: Units. -/
import Derived.Test.YtplhonlgbidemaaArPd
namespace Go.Proofs.Ytplhonlgbidemaa
open Go.RowKit
section
variable {base x g gm r n : Nat} {mt : Value} {A : AM} {L : List (Nat × Nat)} {full : Bool} {lv : Value} {w : World}
set_option maxRecDepth 100000 in
set_option maxHeartbeats 4000000 in
theorem does_units (h : Wd base x g gm r mt n A L full lv w) (hL : L.length ≤ 100000) {N Q : Int} {m : Nat} (hm : N = (m : Int)) (m1 : 1 ≤ m) (m2 : m ≤ 128) :
    Calls Try.prog 28 #[.pointer (some ⟨x, 0, none⟩), .agg #[.int .i64 0, .int .i64 N, .int .i64 Q]] w (DoesPost base x g gm r mt n L w) := by
  obtain ⟨w1, hw1⟩ : ∃ w1, w1 = w.alloc (.cells #[.int .i64 0, .int .i64 N, .int .i64 Q] 34) := ⟨_, rfl⟩
  have hd : Blk w1 w.heap.size 34 #[.int .i64 0, .int .i64 N, .int .i64 Q] := by rw [hw1]; exact Blk.new _ _ _
  have on1 : On (fun k => base ≤ k) w w1 := by rw [hw1]; exact (on_refl _ _).alloc _
  have h1 : Wd base x g gm r mt n A L full lv w1 := by rw [hw1]; exact h.on ((on_refl _ _).alloc _)
  obtain ⟨la, lc, rfl⟩ := own_slice h.1.own
  have cl := h.1.box.cell 2
  have cl1 := h1.1.box.cell 2
  have cg := h.1.box.cell 0
  have cg1 := h1.1.box.cell 0
  have cr := h.1.box.cell 1
  have cr1 := h1.1.box.cell 1
  have cf := h.1.box.cell 3
  have cf1 := h1.1.box.cell 3
  have d0 := hd.cell 0
  have d1 := hd.cell 1
  have d2 := hd.cell 2
  simp at cl cg cr cf cl1 cg1 cr1 cf1 d0 d1 d2
  have hxlt := h.1.box.lt
  subst hm
  go_enter Try.func28, Try.ntmps28
  by_cases hl : 0 < L.length
  · have hlI : (0 : Int) < (L.length : Int) := by omega
    obtain ⟨q, k, u1, u2, u3, u4, u5, hk⟩ := pick_facts Q L.length hl hL
    go_wp2_with fail
    go_quiet (fail)
    rw [← hw1]
    have h2 := h1.on ((on_refl _ _).drewN nq)
    have hd2 := hd.drewN nq
    have on2 := on1.drewN nq
    clear h h1 hd on1 cl cg cr cf cl1 cg1 cr1 cf1 d0 d1 d2 u1 u2 u3 u4 u5
    clear hw1
    generalize World.drewN _ nq = w2 at *
    have cl := h2.1.box.cell 2
    have cg := h2.1.box.cell 0
    have cr := h2.1.box.cell 1
    have cf := h2.1.box.cell 3
    have d0 := hd2.cell 0
    have d1 := hd2.cell 1
    have d2 := hd2.cell 2
    simp at cl cg cr cf d0 d1 d2
    obtain ⟨hq, hcan, hsz, hn1, hn2, hful⟩ := h2
    have hsA : A.size ≤ 1000000 := by omega
    have PU := units_any (n := m) hq.ax m1 m2
    obtain ⟨R, hR⟩ : ∃ R, R = unitsM A m := ⟨_, rfl⟩
    rw [← hR] at PU
    have hRs : R.2.size = A.size := by rw [hR]; exact (unitsM_same A m).1
    have hRr : A.text < A.start → R.2.text < R.2.start := by rw [hR]; exact unitsM_room m
    have HR := Lib.hid hR
    clear hR
    go_wp2_with fail
    refine PU.mono ?_; rintro e w3 ⟨rfl, hx3, ho3⟩
    have hq3 := hq.prog hx3 ho3
    have on3 := on2.trans (ho3.mono (s' := fun k => base ≤ k) (by rintro k (e | e); exact e ▸ hq.bg; exact e ▸ hq.bm))
    have RU := runits_any hq3.rf hq.ax.inv hsA m1 m2
    rw [← HR.out] at RU
    clear PU hx3 ho3 cg cl cr cf d0 d1 d2
    have cr := hq3.box.cell 1
    simp at cr
    go_wp2_with fail
    refine RU.mono ?_; rintro e w4 ⟨rfl, hr4, ho4⟩
    have hq4 := hq3.doc hr4 ho4
    have on4 := on3.trans (ho4.mono (s' := fun k => base ≤ k) (by rintro k e; exact e ▸ hq.br))
    have hxb := hq.bx
    clear RU hr4 ho4 cr hq3 on3 hq HR
    obtain ⟨p, A1⟩ := R
    dsimp only at hq4 hRs hRr ⊢
    by_cases hp : p = 0
    · subst hp
      have hWd : Wd base x g gm r mt n A1 L full _ _ := ⟨hq4, hcan, hRs.trans hsz, hn1, hn2, fun e => hRr (hful e)⟩
      clear hq4
      go_wp2_with fail
      obtain ⟨Fz, Mz, har⟩ := hWd.1.ax.ar
      have TT := fun q => drawn (q := q) (text_any (w := World.drewN w4 q) (har.drewN q))
      have cz := hWd.1.box.cell 0
      have cy := hWd.1.box.cell 1
      have ct := hWd.1.rf.text
      simp at cz cy
      clear har
      go_quiet ((go_at_call 24; exact TT _))
      go_wp2_with fail
      go_ret
      exact ⟨by simp, on4.drewN nq, _, _, _, _, hWd.on ((on_refl _ _).drewN nq), by omega⟩
    · have hpI : (0 : Int) < (p : Int) := by omega
      obtain ⟨i0, hi0, hz0, hz1, hz2⟩ := info_parts infoH
      have hqs : Wq base x g gm r mt A1 (heldB (L ++ [(p, m)])) A1 L full _ w4 := ⟨hq4.box, hq4.own, hq4.ax.swap (held_got (n := m) L hp), hq4.rf, hq4.bx, hq4.bg, hq4.bm, hq4.br⟩
      have cl := hq4.box.cell 2
      simp at cl
      have hqa := hqs.on ((on_refl _ w4).alloc (.cells #[.int .i64 (p : Nat), .int .i64 (m : Nat)] 39))
      have on5 := on4.alloc (.cells #[.int .i64 (p : Nat), .int .i64 (m : Nat)] 39)
      have hnew := cell_two_new' w4 39 (.int .i64 (p : Nat)) (.int .i64 (m : Nat))
      clear hq4 hqs on4
      go_wp2_with (at_builtin; refine wpList_append_lies _ rfl (.tmp 72) (.tmp 76) 32 rfl base 39 i0 _ 2 16 Try.underlying32 hi0 hz0 hz1 hz2 rfl (by decide) _ _ _ rfl hqa.own ⟨w4.heap.size, 0, none⟩ 1 1 [.int .i64 (p : Nat), .int .i64 (m : Nat)] rfl rfl hnew (by intro u hu; simp at hu; rcases hu with rfl | rfl <;> rfl) (by omega) (by unfold maxLen; omega) (by omega) (Nat.le_of_lt (Nat.lt_of_le_of_lt hxb hqa.box.lt)) (w4.heap.size + 1) (by simp) ?_)
      intro gb cap w5 hown5 hg5 _ _
      have hoA := On.of_grown (s := fun k => (Value.slice la L.length lc).ownBlock = some k) hg5 (fun k e => e)
      have hbx5 := (hqa.list hoA (fun k e => (block2 hqa.own k e).2)).1
      have hq6 := hqa.appended (L' := L ++ [(p, m)]) hoA (fun k e => (block2 hqa.own k e).2) (by rw [List.length_append, prs_app]; exact hown5)
      have on6 := (on5.trans (hoA.mono (s' := fun k => base ≤ k) (fun k e => own_base hqa.own k e))).put (g := x) (i := 2) hxb (.slice (some ⟨gb, 0, none⟩) (L.length + 1) cap)
      have cl5 := hbx5.cell 2
      have fl5 := hbx5.free 2
      simp at cl5
      have hWd : Wd base x g gm r mt n A1 (L ++ [(p, m)]) full (.slice (some ⟨gb, 0, none⟩) (L.length + 1) cap) _ := ⟨hq6, can_more hcan (by omega) (by omega), hRs.trans hsz, hn1, hn2, fun e => hRr (hful e)⟩
      clear hqa hown5 hg5 hoA hbx5 hq6 on5 cl hnew
      go_wp2_with fail
      generalize World.setCell _ _ _ = w6 at *
      clear cl5 fl5
      obtain ⟨Fz, Mz, har⟩ := hWd.1.ax.ar
      have TT := fun q => drawn (q := q) (text_any (w := World.drewN w6 q) (har.drewN q))
      have cz := hWd.1.box.cell 0
      have cy := hWd.1.box.cell 1
      have ct := hWd.1.rf.text
      simp at cz cy
      clear har
      go_quiet ((go_at_call 24; exact TT _))
      go_wp2_with fail
      go_ret
      exact ⟨by simp, on6.drewN nq, _, _, _, _, hWd.on ((on_refl _ _).drewN nq), by simp⟩
  · have hlI : decide ((0 : Int) < (L.length : Int)) = false := by rw [decide_eq_false_iff_not]; omega
    have hlI2 : decide (0 < L.length) = false := by rw [decide_eq_false_iff_not]; exact hl
    clear hl
    obtain ⟨hq, hcan, hsz, hn1, hn2, hful⟩ := h1
    have hsA : A.size ≤ 1000000 := by omega
    have PU := units_any (n := m) hq.ax m1 m2
    obtain ⟨R, hR⟩ : ∃ R, R = unitsM A m := ⟨_, rfl⟩
    rw [← hR] at PU
    have hRs : R.2.size = A.size := by rw [hR]; exact (unitsM_same A m).1
    have hRr : A.text < A.start → R.2.text < R.2.start := by rw [hR]; exact unitsM_room m
    have HR := Lib.hid hR
    clear hR
    go_wp2_with fail
    rw [← hw1]
    clear hw1 h cl cg cr cf
    have cl := cl1
    have cg := cg1
    have cr := cr1
    have cf := cf1
    clear cl1 cg1 cr1 cf1
    refine PU.mono ?_; rintro e w3 ⟨rfl, hx3, ho3⟩
    have hq3 := hq.prog hx3 ho3
    have on3 := on1.trans (ho3.mono (s' := fun k => base ≤ k) (by rintro k (e | e); exact e ▸ hq.bg; exact e ▸ hq.bm))
    have RU := runits_any hq3.rf hq.ax.inv hsA m1 m2
    rw [← HR.out] at RU
    clear PU hx3 ho3 cg cl cr cf d0 d1 d2
    have cr := hq3.box.cell 1
    simp at cr
    go_wp2_with fail
    refine RU.mono ?_; rintro e w4 ⟨rfl, hr4, ho4⟩
    have hq4 := hq3.doc hr4 ho4
    have on4 := on3.trans (ho4.mono (s' := fun k => base ≤ k) (by rintro k e; exact e ▸ hq.br))
    have hxb := hq.bx
    clear RU hr4 ho4 cr hq3 on3 hq HR
    obtain ⟨p, A1⟩ := R
    dsimp only at hq4 hRs hRr ⊢
    by_cases hp : p = 0
    · subst hp
      have hWd : Wd base x g gm r mt n A1 L full _ _ := ⟨hq4, hcan, hRs.trans hsz, hn1, hn2, fun e => hRr (hful e)⟩
      clear hq4
      go_wp2_with fail
      obtain ⟨Fz, Mz, har⟩ := hWd.1.ax.ar
      have TT := fun q => drawn (q := q) (text_any (w := World.drewN w4 q) (har.drewN q))
      have cz := hWd.1.box.cell 0
      have cy := hWd.1.box.cell 1
      have ct := hWd.1.rf.text
      simp at cz cy
      clear har
      go_quiet ((go_at_call 24; exact TT _))
      go_wp2_with fail
      go_ret
      exact ⟨by simp, on4.drewN nq, _, _, _, _, hWd.on ((on_refl _ _).drewN nq), by omega⟩
    · have hpI : (0 : Int) < (p : Int) := by omega
      obtain ⟨i0, hi0, hz0, hz1, hz2⟩ := info_parts infoH
      have hqs : Wq base x g gm r mt A1 (heldB (L ++ [(p, m)])) A1 L full _ w4 := ⟨hq4.box, hq4.own, hq4.ax.swap (held_got (n := m) L hp), hq4.rf, hq4.bx, hq4.bg, hq4.bm, hq4.br⟩
      have cl := hq4.box.cell 2
      simp at cl
      have hqa := hqs.on ((on_refl _ w4).alloc (.cells #[.int .i64 (p : Nat), .int .i64 (m : Nat)] 39))
      have on5 := on4.alloc (.cells #[.int .i64 (p : Nat), .int .i64 (m : Nat)] 39)
      have hnew := cell_two_new' w4 39 (.int .i64 (p : Nat)) (.int .i64 (m : Nat))
      clear hq4 hqs on4
      go_wp2_with (at_builtin; refine wpList_append_lies _ rfl (.tmp 72) (.tmp 76) 32 rfl base 39 i0 _ 2 16 Try.underlying32 hi0 hz0 hz1 hz2 rfl (by decide) _ _ _ rfl hqa.own ⟨w4.heap.size, 0, none⟩ 1 1 [.int .i64 (p : Nat), .int .i64 (m : Nat)] rfl rfl hnew (by intro u hu; simp at hu; rcases hu with rfl | rfl <;> rfl) (by omega) (by unfold maxLen; omega) (by omega) (Nat.le_of_lt (Nat.lt_of_le_of_lt hxb hqa.box.lt)) (w4.heap.size + 1) (by simp) ?_)
      intro gb cap w5 hown5 hg5 _ _
      have hoA := On.of_grown (s := fun k => (Value.slice la L.length lc).ownBlock = some k) hg5 (fun k e => e)
      have hbx5 := (hqa.list hoA (fun k e => (block2 hqa.own k e).2)).1
      have hq6 := hqa.appended (L' := L ++ [(p, m)]) hoA (fun k e => (block2 hqa.own k e).2) (by rw [List.length_append, prs_app]; exact hown5)
      have on6 := (on5.trans (hoA.mono (s' := fun k => base ≤ k) (fun k e => own_base hqa.own k e))).put (g := x) (i := 2) hxb (.slice (some ⟨gb, 0, none⟩) (L.length + 1) cap)
      have cl5 := hbx5.cell 2
      have fl5 := hbx5.free 2
      simp at cl5
      have hWd : Wd base x g gm r mt n A1 (L ++ [(p, m)]) full (.slice (some ⟨gb, 0, none⟩) (L.length + 1) cap) _ := ⟨hq6, can_more hcan (by omega) (by omega), hRs.trans hsz, hn1, hn2, fun e => hRr (hful e)⟩
      clear hqa hown5 hg5 hoA hbx5 hq6 on5 cl hnew
      go_wp2_with fail
      generalize World.setCell _ _ _ = w6 at *
      clear cl5 fl5
      obtain ⟨Fz, Mz, har⟩ := hWd.1.ax.ar
      have TT := fun q => drawn (q := q) (text_any (w := World.drewN w6 q) (har.drewN q))
      have cz := hWd.1.box.cell 0
      have cy := hWd.1.box.cell 1
      have ct := hWd.1.rf.text
      simp at cz cy
      clear har
      go_quiet ((go_at_call 24; exact TT _))
      go_wp2_with fail
      go_ret
      exact ⟨by simp, on6.drewN nq, _, _, _, _, hWd.on ((on_refl _ _).drewN nq), by simp⟩
end
end Go.Proofs.Ytplhonlgbidemaa
