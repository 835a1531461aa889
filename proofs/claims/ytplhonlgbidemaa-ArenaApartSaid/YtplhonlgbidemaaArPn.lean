/- does: Units, of no such number. -/
import Derived.Test.YtplhonlgbidemaaArPd
namespace Go.Proofs.Ytplhonlgbidemaa
open Go.RowKit
section
variable {base x g gm r n : Nat} {mt : Value} {A : AM} {L : List (Nat × Nat)} {full : Bool} {lv : Value} {w : World}
set_option maxRecDepth 100000 in
set_option maxHeartbeats 4000000 in
theorem does_units_no (h : Wd base x g gm r mt n A L full lv w) (hL : L.length ≤ 100000) {N Q : Int} (hN : N < 1 ∨ 128 < N) :
    Calls Try.prog 28 #[.pointer (some ⟨x, 0, none⟩), .agg #[.int .i64 0, .int .i64 N, .int .i64 Q]] w (DoesPost base x g gm r mt n L w) := by
  obtain ⟨w1, hw1⟩ : ∃ w1, w1 = w.alloc (.cells #[.int .i64 0, .int .i64 N, .int .i64 Q] 34) := ⟨_, rfl⟩
  have hd : Blk w1 w.heap.size 34 #[.int .i64 0, .int .i64 N, .int .i64 Q] := by rw [hw1]; exact Blk.new _ _ _
  have on1 : On (fun k => base ≤ k) w w1 := by rw [hw1]; exact (on_refl _ _).alloc _
  have h1 : Wd base x g gm r mt n A L full lv w1 := by rw [hw1]; exact h.on ((on_refl _ _).alloc _)
  obtain ⟨la, lc, rfl⟩ := own_slice h.1.own
  have cl := h.1.box.cell 2
  have cl1 := h1.1.box.cell 2
  have cg := h.1.box.cell 0
  have cg1 := h1.1.box.cell 0
  have cr := h.1.box.cell 1
  have cr1 := h1.1.box.cell 1
  have cf := h.1.box.cell 3
  have cf1 := h1.1.box.cell 3
  have d0 := hd.cell 0
  have d1 := hd.cell 1
  have d2 := hd.cell 2
  simp at cl cg cr cf cl1 cg1 cr1 cf1 d0 d1 d2
  have hxlt := h.1.box.lt
  go_enter Try.func28, Try.ntmps28
  by_cases hl : 0 < L.length
  · have hlI : (0 : Int) < (L.length : Int) := by omega
    obtain ⟨q, k, u1, u2, u3, u4, u5, hk⟩ := pick_facts Q L.length hl hL
    go_wp2_with fail
    go_quiet (fail)
    rw [← hw1]
    have h2 := h1.on ((on_refl _ _).drewN nq)
    have hd2 := hd.drewN nq
    have on2 := on1.drewN nq
    clear h h1 hd on1 cl cg cr cf cl1 cg1 cr1 cf1 d0 d1 d2 u1 u2 u3 u4 u5
    clear hw1
    generalize World.drewN _ nq = w2 at *
    have cl := h2.1.box.cell 2
    have cg := h2.1.box.cell 0
    have cr := h2.1.box.cell 1
    have cf := h2.1.box.cell 3
    have d0 := hd2.cell 0
    have d1 := hd2.cell 1
    have d2 := hd2.cell 2
    simp at cl cg cr cf d0 d1 d2
    have PU := units_no w2 g hN
    have RU := runits_no w2 r hN
    go_wp2_with fail
    refine PU.mono ?_; rintro e w3 ⟨rfl, rfl⟩
    go_wp2_with fail
    refine RU.mono ?_; rintro e w4 ⟨rfl, rfl⟩
    clear PU RU
    go_wp2_with fail
    clear cg cr cf cl d0 d1 d2
    obtain ⟨Fz, Mz, har⟩ := h2.1.ax.ar
    have TT := fun q => drawn (q := q) (text_any (w := World.drewN _ q) (har.drewN q))
    have cz := h2.1.box.cell 0
    have cy := h2.1.box.cell 1
    have ct := h2.1.rf.text
    simp at cz cy
    clear har
    go_quiet ((go_at_call 24; exact TT _))
    go_wp2_with fail
    go_ret
    exact ⟨by simp, on2.drewN nq, _, _, _, _, h2.on ((on_refl _ _).drewN nq), by omega⟩
  · have hlI : decide ((0 : Int) < (L.length : Int)) = false := by rw [decide_eq_false_iff_not]; omega
    have hlI2 : decide (0 < L.length) = false := by rw [decide_eq_false_iff_not]; exact hl
    clear hl
    have PU := units_no w1 g hN
    have RU := runits_no w1 r hN
    go_wp2_with fail
    rw [← hw1]
    clear hw1 h cl cg cr cf
    have cl := cl1
    have cg := cg1
    have cr := cr1
    have cf := cf1
    clear cl1 cg1 cr1 cf1
    refine PU.mono ?_; rintro e w3 ⟨rfl, rfl⟩
    go_wp2_with fail
    refine RU.mono ?_; rintro e w4 ⟨rfl, rfl⟩
    clear PU RU
    go_wp2_with fail
    clear cg cr cf cl d0 d1 d2
    obtain ⟨Fz, Mz, har⟩ := h1.1.ax.ar
    have TT := fun q => drawn (q := q) (text_any (w := World.drewN _ q) (har.drewN q))
    have cz := h1.1.box.cell 0
    have cy := h1.1.box.cell 1
    have ct := h1.1.rf.text
    simp at cz cy
    clear har
    go_quiet ((go_at_call 24; exact TT _))
    go_wp2_with fail
    go_ret
    exact ⟨by simp, on1.drewN nq, _, _, _, _, h1.on ((on_refl _ _).drewN nq), by omega⟩
end
end Go.Proofs.Ytplhonlgbidemaa
