/- does: Shrink. -/
import Derived.Test.YtplhonlgbidemaaArPd
namespace Go.Proofs.Ytplhonlgbidemaa
open Go.RowKit
section
variable {base x g gm r n : Nat} {mt : Value} {A : AM} {L : List (Nat × Nat)} {full : Bool} {lv : Value} {w : World}
set_option maxRecDepth 100000 in
set_option maxHeartbeats 4000000 in
theorem does_shrink (h : Wd base x g gm r mt n A L full lv w) (hL : L.length ≤ 100000) {N Q : Int}  :
    Calls Try.prog 28 #[.pointer (some ⟨x, 0, none⟩), .agg #[.int .i64 3, .int .i64 N, .int .i64 Q]] w (DoesPost base x g gm r mt n L w) := by
  obtain ⟨w1, hw1⟩ : ∃ w1, w1 = w.alloc (.cells #[.int .i64 3, .int .i64 N, .int .i64 Q] 34) := ⟨_, rfl⟩
  have hd : Blk w1 w.heap.size 34 #[.int .i64 3, .int .i64 N, .int .i64 Q] := by rw [hw1]; exact Blk.new _ _ _
  have on1 : On (fun k => base ≤ k) w w1 := by rw [hw1]; exact (on_refl _ _).alloc _
  have h1 : Wd base x g gm r mt n A L full lv w1 := by rw [hw1]; exact h.on ((on_refl _ _).alloc _)
  obtain ⟨la, lc, rfl⟩ := own_slice h.1.own
  have cl := h.1.box.cell 2
  have cl1 := h1.1.box.cell 2
  have cg := h.1.box.cell 0
  have cg1 := h1.1.box.cell 0
  have cr := h.1.box.cell 1
  have cr1 := h1.1.box.cell 1
  have cf := h.1.box.cell 3
  have cf1 := h1.1.box.cell 3
  have d0 := hd.cell 0
  have d1 := hd.cell 1
  have d2 := hd.cell 2
  simp at cl cg cr cf cl1 cg1 cr1 cf1 d0 d1 d2
  have hxlt := h.1.box.lt
  go_enter Try.func28, Try.ntmps28
  by_cases hl : 0 < L.length
  · have hlI : (0 : Int) < (L.length : Int) := by omega
    obtain ⟨q, k, u1, u2, u3, u4, u5, hk⟩ := pick_facts Q L.length hl hL
    go_wp2_with fail
    go_quiet (fail)
    rw [← hw1]
    have h2 := h1.on ((on_refl _ _).drewN nq)
    have hd2 := hd.drewN nq
    have on2 := on1.drewN nq
    clear h h1 hd on1 cl cg cr cf cl1 cg1 cr1 cf1 d0 d1 d2 u1 u2 u3 u4 u5
    clear hw1
    generalize World.drewN _ nq = w2 at *
    have cl := h2.1.box.cell 2
    have cg := h2.1.box.cell 0
    have cr := h2.1.box.cell 1
    have cf := h2.1.box.cell 3
    have d0 := hd2.cell 0
    have d1 := hd2.cell 1
    have d2 := hd2.cell 2
    simp at cl cg cr cf d0 d1 d2
    obtain ⟨hq, hcan, hsz, hn1, hn2, hful⟩ := h2
    have hsA : A.size ≤ 1000000 := by omega
    obtain ⟨lb, c, cs, e, hlc, hlb, hbL, hcs, hat⟩ := own_held hq.own hl
    cases e
    obtain ⟨hp1, hp2⟩ := prs_at L k hk
    have cp : w2.cell? ⟨lb, k * 2, none⟩ = _ := (hbL.cell (k * 2)).trans (hat _ _ hp1)
    have co : w2.cell? ⟨lb, k * 2 + 1, none⟩ = _ := (hbL.cell (k * 2 + 1)).trans (hat _ _ hp2)
    have ho := hcan _ (List.getElem_mem hk)
    have hHP := held_at L hk
    obtain ⟨⟨p, o⟩, hpo⟩ : ∃ y, y = L[k] := ⟨_, rfl⟩
    rw [← hpo] at ho hHP cp co
    dsimp only at ho hHP cp co
    clear hp1 hp2 hpo hat hcs hbL
    obtain ⟨q2, j, v1, v2, v3, v4, v5, hj⟩ := pick_facts N o (by omega) (by omega)
    have v6 : IntKind.i64.wrap (1 + (j : Int)) = 1 + (j : Int) := by rw [IntKind.wrap_i64]; omega
    have hoI : ¬ (o : Int) = 0 := by omega
    have hkI : (k : Int) < (L.length : Int) := by omega
    have hk0 : (0 : Int) ≤ (k : Int) := by omega
    have hqs : Wq base x g gm r mt A (⟨p, sz (fr o), false⟩ :: heldB (L.eraseIdx k)) A L full _ w2 := ⟨hq.box, hq.own, hq.ax.swap hHP, hq.rf, hq.bx, hq.bg, hq.bm, hq.br⟩
    have hpl := hqs.ax.inv.loose
    have hF := hq.ax.inv.short hsA 2 (by omega)
    have hq5 := hqs.on (((on_refl _ w2).alloc (.cells #[.int .i64 (p : Nat), .int .i64 (o : Nat)] 39)).drew)
    have on5 := (on2.alloc (.cells #[.int .i64 (p : Nat), .int .i64 (o : Nat)] 39)).drew
    have hb5 := (Blk.new w2 39 #[.int .i64 (p : Nat), .int .i64 (o : Nat)]).drew
    have hxb := hq.bx
    have hbg := hq.bg
    have hbm := hq.bm
    have hbr := hq.br
    have d1a := (hd2.alloc (.cells #[.int .i64 (p : Nat), .int .i64 (o : Nat)] 39)).cell 1
    simp at d1a
    clear hq hqs hHP
    go_wp2_with fail
    clear d1a
    clear cl cg cr cf cp co d0 d1 d2 v1 v2 v3 v4 v5
    refine wp_region_still_tail 9 (by kernel_rfl) (by kernel_rfl) ?_
    change wpStill _ _ (World.drew _) (fun a' => wpList _ _ _ _ a' (World.drew _)) _ _
    generalize World.drew _ = w5 at *
    have PU := shrink_any hq5.ax (n := j + 1) (by omega) (by omega) (by omega)
    have em : ((j + 1 : Nat) : Int) = 1 + (j : Int) := by omega
    rw [em] at PU
    obtain ⟨R, hR⟩ : ∃ R, R = shrinkM A p o (j + 1) := ⟨_, rfl⟩
    rw [← hR] at PU
    have hRs : R.2.size = A.size := by rw [hR]; exact shrinkM_size A p o (j + 1)
    have hRr : A.text < A.start → R.2.text < R.2.start := by rw [hR]; exact shrinkM_room p o (j + 1)
    have HR := Lib.hid hR
    clear hR
    have cg := hq5.box.cell 0
    have e0 := hb5.cell 0
    have e1 := hb5.cell 1
    simp at cg e0 e1
    simp only [List.take_succ_cons, List.take_zero, List.drop_succ_cons, List.drop_zero]
    repeat still_step
    refine wpStill_nil ?_
    go_wp2_with fail
    refine PU.mono ?_; rintro e w6 ⟨rfl, hx6, ho6⟩
    have hb6 := hb5.on ho6 (by rintro (e | e); exact hb5.apart hq5.ax.blk.1.choose_spec (by decide) e; exact hb5.apart hq5.ax.blk.2.choose_spec (by decide) e)
    have hq6 := (hq5.prog hx6 ho6).on ((on_refl _ _).drew)
    have on6 := (on5.trans (ho6.mono (s' := fun k => base ≤ k) (by rintro k (e | e); exact e ▸ hbg; exact e ▸ hbm))).drew
    have hb7 := hb6.drew
    clear PU hx6 ho6 cg e0 e1 hq5 on5 hb5 hb6
    go_wp2_with fail
    have RU := rshrink_any hq6.rf (p := p) (o := o) (n := j + 1) hF (by omega) (by omega) (by omega) (by omega)
    rw [em, ← HR.out] at RU
    have cr := hq6.box.cell 1
    have e0 := hb7.cell 0
    have e1 := hb7.cell 1
    simp at cr e0 e1
    go_region_with (go_at_call 44; refine RU.mono ?_; rintro e w8 ⟨rfl, hr8, ho8⟩)
    all_goals
      have hq8 := hq6.doc hr8 ho8
      have on8 := on6.trans (ho8.mono (s' := fun k => base ≤ k) (by rintro k e; exact e ▸ hbr))
      clear RU hr8 ho8 cr e0 e1 hq6 on6 hb7 HR
      obtain ⟨p2, A2⟩ := R
      dsimp only at hq8 hRs hRr ⊢
      have hqs : Wq base x g gm r mt A2 (heldB (L.set k (p2, j + 1))) A2 L full _ w8 := ⟨hq8.box, hq8.own, hq8.ax.swap (held_set L hk p2 (j + 1)), hq8.rf, hq8.bx, hq8.bg, hq8.bm, hq8.br⟩
      have hq9 := hqs.setAt hk p2 (j + 1)
      have on9 := (on8.put (g := lb) (i := k * 2) hlb (.int .i64 (p2 : Nat))).put (g := lb) (i := k * 2 + 1) hlb (.int .i64 ((j + 1 : Nat) : Int))
      rw [em] at hq9 on9
      have hWd : Wd base x g gm r mt n A2 (L.set k (p2, j + 1)) full _ _ := ⟨hq9, can_set hcan (by omega) (by omega), hRs.trans hsz, hn1, hn2, fun e => hRr (hful e)⟩
      have cl := hq8.box.cell 2
      simp at cl
      obtain ⟨lb2, c2, cs2, e, -, -, hbL, -, hat⟩ := own_held hq8.own hl
      cases e
      obtain ⟨hp1, hp2⟩ := prs_at L k hk
      have cp : w8.cell? ⟨lb, k * 2, none⟩ = _ := (hbL.cell (k * 2)).trans (hat _ _ hp1)
      have co : w8.cell? ⟨lb, k * 2 + 1, none⟩ = _ := (hbL.cell (k * 2 + 1)).trans (hat _ _ hp2)
      have fp := hbL.free (k * 2)
      have fo := hbL.free (k * 2 + 1)
      clear hq8 hqs hq9 on8 hp1 hp2 hat hbL
      go_wp2_with fail
      generalize World.setCell (World.setCell _ _ _) _ _ = w9 at *
      clear cl cp co fp fo
      obtain ⟨Fz, Mz, har⟩ := hWd.1.ax.ar
      have TT := fun q => drawn (q := q) (text_any (w := World.drewN w9 q) (har.drewN q))
      have cz := hWd.1.box.cell 0
      have cy := hWd.1.box.cell 1
      have ct := hWd.1.rf.text
      simp at cz cy
      clear har
      go_quiet ((go_at_call 24; exact TT _))
      go_wp2_with fail
      go_ret
      exact ⟨by simp, on9.drewN nq, _, _, _, _, hWd.on ((on_refl _ _).drewN nq), by simp⟩
  · have hlI : decide ((0 : Int) < (L.length : Int)) = false := by rw [decide_eq_false_iff_not]; omega
    have hlI2 : decide (0 < L.length) = false := by rw [decide_eq_false_iff_not]; exact hl
    clear hl
    go_wp2_with fail
    rw [← hw1]
    clear h hw1 hd cl cg cr cf cl1 cg1 cr1 cf1 d0 d1 d2
    obtain ⟨Fz, Mz, har⟩ := h1.1.ax.ar
    have TT := fun q => drawn (q := q) (text_any (w := World.drewN w1 q) (har.drewN q))
    have cz := h1.1.box.cell 0
    have cy := h1.1.box.cell 1
    have ct := h1.1.rf.text
    simp at cz cy
    clear har
    go_quiet ((go_at_call 24; exact TT _))
    go_wp2_with fail
    go_ret
    exact ⟨by simp, on1.drewN nq, _, _, _, _, h1.on ((on_refl _ _).drewN nq), by omega⟩
end
end Go.Proofs.Ytplhonlgbidemaa
