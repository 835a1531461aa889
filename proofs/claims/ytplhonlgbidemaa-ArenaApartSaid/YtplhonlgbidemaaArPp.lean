/- does: Push. -/
import Derived.Test.YtplhonlgbidemaaArPd
namespace Go.Proofs.Ytplhonlgbidemaa
open Go.RowKit
section
variable {base x g gm r n : Nat} {mt : Value} {A : AM} {L : List (Nat × Nat)} {full : Bool} {lv : Value} {w : World}
set_option maxRecDepth 100000 in
set_option maxHeartbeats 4000000 in
theorem does_push (h : Wd base x g gm r mt n A L full lv w) (hL : L.length ≤ 100000) {N Q : Int}  :
    Calls Try.prog 28 #[.pointer (some ⟨x, 0, none⟩), .agg #[.int .i64 4, .int .i64 N, .int .i64 Q]] w (DoesPost base x g gm r mt n L w) := by
  obtain ⟨w1, hw1⟩ : ∃ w1, w1 = w.alloc (.cells #[.int .i64 4, .int .i64 N, .int .i64 Q] 34) := ⟨_, rfl⟩
  have hd : Blk w1 w.heap.size 34 #[.int .i64 4, .int .i64 N, .int .i64 Q] := by rw [hw1]; exact Blk.new _ _ _
  have on1 : On (fun k => base ≤ k) w w1 := by rw [hw1]; exact (on_refl _ _).alloc _
  have h1 : Wd base x g gm r mt n A L full lv w1 := by rw [hw1]; exact h.on ((on_refl _ _).alloc _)
  obtain ⟨la, lc, rfl⟩ := own_slice h.1.own
  have cl := h.1.box.cell 2
  have cl1 := h1.1.box.cell 2
  have cg := h.1.box.cell 0
  have cg1 := h1.1.box.cell 0
  have cr := h.1.box.cell 1
  have cr1 := h1.1.box.cell 1
  have cf := h.1.box.cell 3
  have cf1 := h1.1.box.cell 3
  have d0 := hd.cell 0
  have d1 := hd.cell 1
  have d2 := hd.cell 2
  simp at cl cg cr cf cl1 cg1 cr1 cf1 d0 d1 d2
  have hxlt := h.1.box.lt
  go_enter Try.func28, Try.ntmps28
  by_cases hl : 0 < L.length
  · have hlI : (0 : Int) < (L.length : Int) := by omega
    obtain ⟨q, k, u1, u2, u3, u4, u5, hk⟩ := pick_facts Q L.length hl hL
    go_wp2_with fail
    go_quiet (fail)
    rw [← hw1]
    have h2 := h1.on ((on_refl _ _).drewN nq)
    have hd2 := hd.drewN nq
    have on2 := on1.drewN nq
    clear h h1 hd on1 cl cg cr cf cl1 cg1 cr1 cf1 d0 d1 d2 u1 u2 u3 u4 u5
    clear hw1
    generalize World.drewN _ nq = w2 at *
    have cl := h2.1.box.cell 2
    have cg := h2.1.box.cell 0
    have cr := h2.1.box.cell 1
    have cf := h2.1.box.cell 3
    have d0 := hd2.cell 0
    have d1 := hd2.cell 1
    have d2 := hd2.cell 2
    simp at cl cg cr cf d0 d1 d2
    cases full with
    | true =>
      go_wp2_with fail
      obtain ⟨Fz, Mz, har⟩ := h2.1.ax.ar
      have TT := fun q => drawn (q := q) (text_any (w := World.drewN w2 q) (har.drewN q))
      have cz := h2.1.box.cell 0
      have cy := h2.1.box.cell 1
      have ct := h2.1.rf.text
      simp at cz cy
      clear har
      go_quiet ((go_at_call 24; exact TT _))
      go_wp2_with fail
      go_ret
      exact ⟨by simp, on2.drewN nq, _, _, _, _, h2.on ((on_refl _ _).drewN nq), by omega⟩
    | false =>
      obtain ⟨hq, hcan, hsz, hn1, hn2, hful⟩ := h2
      have hroom := hful rfl
      obtain ⟨b, hb1, hb2⟩ := byte_facts N
      have hqd := hq.on ((on_refl _ w2).drew)
      have PU := push_any hqd.ax hb2 hroom
      have hord := hq.ax.inv.ord
      have htx := hq.ax.inv.text
      obtain ⟨c, hc⟩ : ∃ c, c = decide (A.text + 1 < A.start) := ⟨_, rfl⟩
      rw [← hc] at PU
      have HC := Lib.hid hc
      clear hc
      go_wp2_with fail
      refine wp_region_still_tail 7 (by kernel_rfl) (by kernel_rfl) ?_
      change wpStill _ _ w2.drew (fun a' => wpList _ _ _ _ a' w2.drew) _ _
      have on2 := on2.drew
      have cgd : w2.drew.cell? ⟨x, 0, none⟩ = some (.pointer (some ⟨g, 0, none⟩)) := cg
      have d1d : w2.drew.cell? ⟨w.heap.size, 1, none⟩ = some (.int .i64 N) := d1
      generalize World.drew w2 = w9 at *
      clear cg d0 d1 d2 cl cr cf
      simp only [List.take_succ_cons, List.take_zero, List.drop_succ_cons, List.drop_zero]
      repeat still_step
      refine wpStill_nil ?_
      go_wp2_with fail
      refine PU.mono ?_; rintro e w3 ⟨rfl, hx3, ho3⟩
      have hq3 := hqd.prog hx3 ho3
      have on3 := on2.trans (ho3.mono (s' := fun k => base ≤ k) (by rintro k (e | e); exact e ▸ hq.bg; exact e ▸ hq.bm))
      have RU := rpush_any hq3.rf (by omega)
      rw [← HC.out] at RU
      clear PU hx3 ho3 cgd d1d hqd
      have cr := hq3.box.cell 1
      simp at cr
      go_wp2_with fail
      refine RU.mono ?_; rintro e w4 ⟨rfl, hr4, ho4⟩
      have hq4 := hq3.doc hr4 ho4
      have on4 := on3.trans (ho4.mono (s' := fun k => base ≤ k) (by rintro k e; exact e ▸ hq.br))
      clear RU hr4 ho4 cr hq3 on3
      have cf := hq4.box.cell 3
      have ff := hq4.box.free 3
      simp at cf
      have hq5 := hq4.putFull (!c)
      have on5 := on4.put (g := x) (i := 3) hq.bx (.bool (!c))
      have hWd : Wd base x g gm r mt n { A with text := A.text + 1 } L (!c) _ _ := ⟨hq5, hcan, hsz, hn1, hn2, fun e => by have e2 := HC.out; simp at e; rw [e] at e2; simpa using e2.symm⟩
      have hxl := hq.bx
      clear hq4 hq5 on4 hq
      go_wp2_with fail
      generalize World.setCell _ _ _ = w5 at *
      clear cf ff
      obtain ⟨Fz, Mz, har⟩ := hWd.1.ax.ar
      have TT := fun q => drawn (q := q) (text_any (w := World.drewN w5 q) (har.drewN q))
      have cz := hWd.1.box.cell 0
      have cy := hWd.1.box.cell 1
      have ct := hWd.1.rf.text
      simp at cz cy
      clear har
      go_quiet ((go_at_call 24; exact TT _))
      go_wp2_with fail
      go_ret
      exact ⟨by simp, on5.drewN nq, _, _, _, _, hWd.on ((on_refl _ _).drewN nq), by omega⟩
  · have hlI : decide ((0 : Int) < (L.length : Int)) = false := by rw [decide_eq_false_iff_not]; omega
    have hlI2 : decide (0 < L.length) = false := by rw [decide_eq_false_iff_not]; exact hl
    clear hl
    cases full with
    | true =>
      go_wp2_with fail
      rw [← hw1]
      clear hw1 h cl cg cr cf
      have cl := cl1
      have cg := cg1
      have cr := cr1
      have cf := cf1
      clear cl1 cg1 cr1 cf1
      obtain ⟨Fz, Mz, har⟩ := h1.1.ax.ar
      have TT := fun q => drawn (q := q) (text_any (w := World.drewN w1 q) (har.drewN q))
      have cz := h1.1.box.cell 0
      have cy := h1.1.box.cell 1
      have ct := h1.1.rf.text
      simp at cz cy
      clear har
      go_quiet ((go_at_call 24; exact TT _))
      go_wp2_with fail
      go_ret
      exact ⟨by simp, on1.drewN nq, _, _, _, _, h1.on ((on_refl _ _).drewN nq), by omega⟩
    | false =>
      obtain ⟨hq, hcan, hsz, hn1, hn2, hful⟩ := h1
      have hroom := hful rfl
      obtain ⟨b, hb1, hb2⟩ := byte_facts N
      have hqd := hq.on ((on_refl _ w1).drew)
      have PU := push_any hqd.ax hb2 hroom
      have hord := hq.ax.inv.ord
      have htx := hq.ax.inv.text
      obtain ⟨c, hc⟩ : ∃ c, c = decide (A.text + 1 < A.start) := ⟨_, rfl⟩
      rw [← hc] at PU
      have HC := Lib.hid hc
      clear hc
      go_wp2_with fail
      rw [← hw1]
      clear hw1 h cl cg cr cf
      have cl := cl1
      have cg := cg1
      have cr := cr1
      have cf := cf1
      clear cl1 cg1 cr1 cf1
      refine wp_region_still_tail 7 (by kernel_rfl) (by kernel_rfl) ?_
      change wpStill _ _ w1.drew (fun a' => wpList _ _ _ _ a' w1.drew) _ _
      have on2 := on1.drew
      have cgd : w1.drew.cell? ⟨x, 0, none⟩ = some (.pointer (some ⟨g, 0, none⟩)) := cg
      have d1d : w1.drew.cell? ⟨w.heap.size, 1, none⟩ = some (.int .i64 N) := d1
      generalize World.drew w1 = w9 at *
      clear cg d0 d1 d2 cl cr cf
      simp only [List.take_succ_cons, List.take_zero, List.drop_succ_cons, List.drop_zero]
      repeat still_step
      refine wpStill_nil ?_
      go_wp2_with fail
      refine PU.mono ?_; rintro e w3 ⟨rfl, hx3, ho3⟩
      have hq3 := hqd.prog hx3 ho3
      have on3 := on2.trans (ho3.mono (s' := fun k => base ≤ k) (by rintro k (e | e); exact e ▸ hq.bg; exact e ▸ hq.bm))
      have RU := rpush_any hq3.rf (by omega)
      rw [← HC.out] at RU
      clear PU hx3 ho3 cgd d1d hqd
      have cr := hq3.box.cell 1
      simp at cr
      go_wp2_with fail
      refine RU.mono ?_; rintro e w4 ⟨rfl, hr4, ho4⟩
      have hq4 := hq3.doc hr4 ho4
      have on4 := on3.trans (ho4.mono (s' := fun k => base ≤ k) (by rintro k e; exact e ▸ hq.br))
      clear RU hr4 ho4 cr hq3 on3
      have cf := hq4.box.cell 3
      have ff := hq4.box.free 3
      simp at cf
      have hq5 := hq4.putFull (!c)
      have on5 := on4.put (g := x) (i := 3) hq.bx (.bool (!c))
      have hWd : Wd base x g gm r mt n { A with text := A.text + 1 } L (!c) _ _ := ⟨hq5, hcan, hsz, hn1, hn2, fun e => by have e2 := HC.out; simp at e; rw [e] at e2; simpa using e2.symm⟩
      have hxl := hq.bx
      clear hq4 hq5 on4 hq
      go_wp2_with fail
      generalize World.setCell _ _ _ = w5 at *
      clear cf ff
      obtain ⟨Fz, Mz, har⟩ := hWd.1.ax.ar
      have TT := fun q => drawn (q := q) (text_any (w := World.drewN w5 q) (har.drewN q))
      have cz := hWd.1.box.cell 0
      have cy := hWd.1.box.cell 1
      have ct := hWd.1.rf.text
      simp at cz cy
      clear har
      go_quiet ((go_at_call 24; exact TT _))
      go_wp2_with fail
      go_ret
      exact ⟨by simp, on5.drewN nq, _, _, _, _, hWd.on ((on_refl _ _).drewN nq), by omega⟩
end
end Go.Proofs.Ytplhonlgbidemaa
