/- does: Restart. -/
import Derived.Test.YtplhonlgbidemaaArPd
namespace Go.Proofs.Ytplhonlgbidemaa
open Go.RowKit
section
variable {base x g gm r n : Nat} {mt : Value} {A : AM} {L : List (Nat × Nat)} {full : Bool} {lv : Value} {w : World}
set_option maxRecDepth 100000 in
set_option maxHeartbeats 4000000 in
theorem does_restart (h : Wd base x g gm r mt n A L full lv w) (hL : L.length ≤ 100000) {N Q : Int}  :
    Calls Try.prog 28 #[.pointer (some ⟨x, 0, none⟩), .agg #[.int .i64 5, .int .i64 N, .int .i64 Q]] w (DoesPost base x g gm r mt n L w) := by
  obtain ⟨w1, hw1⟩ : ∃ w1, w1 = w.alloc (.cells #[.int .i64 5, .int .i64 N, .int .i64 Q] 34) := ⟨_, rfl⟩
  have hd : Blk w1 w.heap.size 34 #[.int .i64 5, .int .i64 N, .int .i64 Q] := by rw [hw1]; exact Blk.new _ _ _
  have on1 : On (fun k => base ≤ k) w w1 := by rw [hw1]; exact (on_refl _ _).alloc _
  have h1 : Wd base x g gm r mt n A L full lv w1 := by rw [hw1]; exact h.on ((on_refl _ _).alloc _)
  obtain ⟨la, lc, rfl⟩ := own_slice h.1.own
  have cl := h.1.box.cell 2
  have cl1 := h1.1.box.cell 2
  have cg := h.1.box.cell 0
  have cg1 := h1.1.box.cell 0
  have cr := h.1.box.cell 1
  have cr1 := h1.1.box.cell 1
  have cf := h.1.box.cell 3
  have cf1 := h1.1.box.cell 3
  have d0 := hd.cell 0
  have d1 := hd.cell 1
  have d2 := hd.cell 2
  simp at cl cg cr cf cl1 cg1 cr1 cf1 d0 d1 d2
  have hxlt := h.1.box.lt
  go_enter Try.func28, Try.ntmps28
  by_cases hl : 0 < L.length
  · have hlI : (0 : Int) < (L.length : Int) := by omega
    obtain ⟨q, k, u1, u2, u3, u4, u5, hk⟩ := pick_facts Q L.length hl hL
    go_wp2_with fail
    go_quiet (fail)
    rw [← hw1]
    have h2 := h1.on ((on_refl _ _).drewN nq)
    have hd2 := hd.drewN nq
    have on2 := on1.drewN nq
    clear h h1 hd on1 cl cg cr cf cl1 cg1 cr1 cf1 d0 d1 d2 u1 u2 u3 u4 u5
    clear hw1
    generalize World.drewN _ nq = w2 at *
    have cl := h2.1.box.cell 2
    have cg := h2.1.box.cell 0
    have cr := h2.1.box.cell 1
    have cf := h2.1.box.cell 3
    have d0 := hd2.cell 0
    have d1 := hd2.cell 1
    have d2 := hd2.cell 2
    simp at cl cg cr cf d0 d1 d2
    obtain ⟨hq, hcan, hsz, hn1, hn2, hful⟩ := h2
    have hqa := hq.ax.ar
    obtain ⟨Fa, Ma, haa⟩ := hqa
    have RP := restart_raw haa
    have hsz2 : A.size ≤ 16777216 := by omega
    go_wp2_with fail
    refine RP.mono ?_; rintro e w3 ⟨rfl, ha3, ho3⟩
    have hax3 : Ax w3 g gm mt (freshM A.size) [] := ⟨inv_fresh (by omega), Ma, ha3, fun i _ => trivial⟩
    have hq3 := hq.prog hax3 ho3
    have on3 := on2.trans (ho3.mono (s' := fun k => base ≤ k) (by rintro k (e | e); exact e ▸ hq.bg; exact e ▸ hq.bm))
    have RD := rrestart_any hq3.rf hsz2
    clear RP ha3 ho3 hax3 haa cg cr cf cl
    have cr := hq3.box.cell 1
    simp at cr
    go_wp2_with fail
    refine RD.mono ?_; rintro e w4 ⟨rfl, hr4, ho4⟩
    have hq4 := hq3.doc hr4 ho4
    have on4 := on3.trans (ho4.mono (s' := fun k => base ≤ k) (by rintro k e; exact e ▸ hq.br))
    clear RD hr4 ho4 cr
    have cl := hq4.box.cell 2
    have cf := hq4.box.cell 3
    have fl := hq4.box.free 2
    have ff := hq4.box.free 3
    simp at cl cf
    have hq5 := (hq4.putList (L' := []) (lv' := .slice none 0 0) (World.ownsRow_nil _ _ _ _)).putFull false
    have on5 := (on4.put (g := x) (i := 2) hq.bx (.slice none 0 0)).put (g := x) (i := 3) hq.bx (.bool false)
    have hWd : Wd base x g gm r mt n (freshM A.size) [] false (.slice none 0 0) _ := ⟨hq5, (fun h e => by cases e), hsz, hn1, hn2, fun _ => (by show 1 < A.size + 1 - A.size / 96 * 84; omega)⟩
    have hxl := hq.bx
    clear hq3 hq4 hq5 on3 on4 hq
    go_wp2_with fail
    generalize World.setCell (World.setCell _ _ _) _ _ = w5 at *
    clear cl cf fl ff
    obtain ⟨Fz, Mz, har⟩ := hWd.1.ax.ar
    have TT := fun q => drawn (q := q) (text_any (w := World.drewN w5 q) (har.drewN q))
    have cz := hWd.1.box.cell 0
    have cy := hWd.1.box.cell 1
    have ct := hWd.1.rf.text
    simp at cz cy
    clear har
    go_quiet ((go_at_call 24; exact TT _))
    go_wp2_with fail
    go_ret
    exact ⟨by simp, on5.drewN nq, _, _, _, _, hWd.on ((on_refl _ _).drewN nq), by simp⟩
  · have hlI : decide ((0 : Int) < (L.length : Int)) = false := by rw [decide_eq_false_iff_not]; omega
    have hlI2 : decide (0 < L.length) = false := by rw [decide_eq_false_iff_not]; exact hl
    clear hl
    obtain ⟨hq, hcan, hsz, hn1, hn2, hful⟩ := h1
    have hqa := hq.ax.ar
    obtain ⟨Fa, Ma, haa⟩ := hqa
    have RP := restart_raw haa
    have hsz2 : A.size ≤ 16777216 := by omega
    go_wp2_with fail
    rw [← hw1]
    clear hw1 h cl cg cr cf
    have cl := cl1
    have cg := cg1
    have cr := cr1
    have cf := cf1
    clear cl1 cg1 cr1 cf1
    refine RP.mono ?_; rintro e w3 ⟨rfl, ha3, ho3⟩
    have hax3 : Ax w3 g gm mt (freshM A.size) [] := ⟨inv_fresh (by omega), Ma, ha3, fun i _ => trivial⟩
    have hq3 := hq.prog hax3 ho3
    have on3 := on1.trans (ho3.mono (s' := fun k => base ≤ k) (by rintro k (e | e); exact e ▸ hq.bg; exact e ▸ hq.bm))
    have RD := rrestart_any hq3.rf hsz2
    clear RP ha3 ho3 hax3 haa cg cr cf cl
    have cr := hq3.box.cell 1
    simp at cr
    go_wp2_with fail
    refine RD.mono ?_; rintro e w4 ⟨rfl, hr4, ho4⟩
    have hq4 := hq3.doc hr4 ho4
    have on4 := on3.trans (ho4.mono (s' := fun k => base ≤ k) (by rintro k e; exact e ▸ hq.br))
    clear RD hr4 ho4 cr
    have cl := hq4.box.cell 2
    have cf := hq4.box.cell 3
    have fl := hq4.box.free 2
    have ff := hq4.box.free 3
    simp at cl cf
    have hq5 := (hq4.putList (L' := []) (lv' := .slice none 0 0) (World.ownsRow_nil _ _ _ _)).putFull false
    have on5 := (on4.put (g := x) (i := 2) hq.bx (.slice none 0 0)).put (g := x) (i := 3) hq.bx (.bool false)
    have hWd : Wd base x g gm r mt n (freshM A.size) [] false (.slice none 0 0) _ := ⟨hq5, (fun h e => by cases e), hsz, hn1, hn2, fun _ => (by show 1 < A.size + 1 - A.size / 96 * 84; omega)⟩
    have hxl := hq.bx
    clear hq3 hq4 hq5 on3 on4 hq
    go_wp2_with fail
    generalize World.setCell (World.setCell _ _ _) _ _ = w5 at *
    clear cl cf fl ff
    obtain ⟨Fz, Mz, har⟩ := hWd.1.ax.ar
    have TT := fun q => drawn (q := q) (text_any (w := World.drewN w5 q) (har.drewN q))
    have cz := hWd.1.box.cell 0
    have cy := hWd.1.box.cell 1
    have ct := hWd.1.rf.text
    simp at cz cy
    clear har
    go_quiet ((go_at_call 24; exact TT _))
    go_wp2_with fail
    go_ret
    exact ⟨by simp, on5.drewN nq, _, _, _, _, hWd.on ((on_refl _ _).drewN nq), by simp⟩
end
end Go.Proofs.Ytplhonlgbidemaa
