/- does: Free. -/
import Derived.Test.YtplhonlgbidemaaArPd
import Derived.Test.YtplhonlgbidemaaArPe
namespace Go.Proofs.Ytplhonlgbidemaa
open Go.RowKit
section
variable {base x g gm r n : Nat} {mt : Value} {A : AM} {L : List (Nat × Nat)} {full : Bool} {lv : Value} {w : World}
set_option maxRecDepth 100000 in
set_option maxHeartbeats 4000000 in
theorem does_free (h : Wd base x g gm r mt n A L full lv w) (hL : L.length ≤ 100000) {N Q : Int}  :
    Calls Try.prog 28 #[.pointer (some ⟨x, 0, none⟩), .agg #[.int .i64 2, .int .i64 N, .int .i64 Q]] w (DoesPost base x g gm r mt n L w) := by
  obtain ⟨w1, hw1⟩ : ∃ w1, w1 = w.alloc (.cells #[.int .i64 2, .int .i64 N, .int .i64 Q] 34) := ⟨_, rfl⟩
  have hd : Blk w1 w.heap.size 34 #[.int .i64 2, .int .i64 N, .int .i64 Q] := by rw [hw1]; exact Blk.new _ _ _
  have on1 : On (fun k => base ≤ k) w w1 := by rw [hw1]; exact (on_refl _ _).alloc _
  have h1 : Wd base x g gm r mt n A L full lv w1 := by rw [hw1]; exact h.on ((on_refl _ _).alloc _)
  obtain ⟨la, lc, rfl⟩ := own_slice h.1.own
  have cl := h.1.box.cell 2
  have cl1 := h1.1.box.cell 2
  have cg := h.1.box.cell 0
  have cg1 := h1.1.box.cell 0
  have cr := h.1.box.cell 1
  have cr1 := h1.1.box.cell 1
  have cf := h.1.box.cell 3
  have cf1 := h1.1.box.cell 3
  have d0 := hd.cell 0
  have d1 := hd.cell 1
  have d2 := hd.cell 2
  simp at cl cg cr cf cl1 cg1 cr1 cf1 d0 d1 d2
  have hxlt := h.1.box.lt
  go_enter Try.func28, Try.ntmps28
  by_cases hl : 0 < L.length
  · have hlI : (0 : Int) < (L.length : Int) := by omega
    obtain ⟨q, k, u1, u2, u3, u4, u5, hk⟩ := pick_facts Q L.length hl hL
    go_wp2_with fail
    go_quiet (fail)
    rw [← hw1]
    have h2 := h1.on ((on_refl _ _).drewN nq)
    have hd2 := hd.drewN nq
    have on2 := on1.drewN nq
    clear h h1 hd on1 cl cg cr cf cl1 cg1 cr1 cf1 d0 d1 d2 u1 u2 u3 u4 u5
    clear hw1
    generalize World.drewN _ nq = w2 at *
    have cl := h2.1.box.cell 2
    have cg := h2.1.box.cell 0
    have cr := h2.1.box.cell 1
    have cf := h2.1.box.cell 3
    have d0 := hd2.cell 0
    have d1 := hd2.cell 1
    have d2 := hd2.cell 2
    simp at cl cg cr cf d0 d1 d2
    obtain ⟨hq, hcan, hsz, hn1, hn2, hful⟩ := h2
    have hsA : A.size ≤ 1000000 := by omega
    obtain ⟨lb, c, cs, e, hlc, hlb, hbL, hcs, hat⟩ := own_held hq.own hl
    cases e
    obtain ⟨hp1, hp2⟩ := prs_at L k hk
    have cp : w2.cell? ⟨lb, k * 2, none⟩ = _ := (hbL.cell (k * 2)).trans (hat _ _ hp1)
    have co : w2.cell? ⟨lb, k * 2 + 1, none⟩ = _ := (hbL.cell (k * 2 + 1)).trans (hat _ _ hp2)
    have ho := hcan _ (List.getElem_mem hk)
    have hHP := held_at L hk
    obtain ⟨⟨p, o⟩, hpo⟩ : ∃ y, y = L[k] := ⟨_, rfl⟩
    rw [← hpo] at ho hHP cp co
    dsimp only at ho hHP cp co
    clear hp1 hp2 hpo hat hcs hbL
    have hkI : (k : Int) < (L.length : Int) := by omega
    have hk0 : (0 : Int) ≤ (k : Int) := by omega
    have hqs : Wq base x g gm r mt A (⟨p, sz (fr o), false⟩ :: heldB (L.eraseIdx k)) A L full _ w2 := ⟨hq.box, hq.own, hq.ax.swap hHP, hq.rf, hq.bx, hq.bg, hq.bm, hq.br⟩
    have hF := hq.ax.inv.short hsA 2 (by omega)
    have hq5 := hqs.on (((on_refl _ w2).alloc (.cells #[.int .i64 (p : Nat), .int .i64 (o : Nat)] 39)).drew)
    have on5 := (on2.alloc (.cells #[.int .i64 (p : Nat), .int .i64 (o : Nat)] 39)).drew
    have hb5 := (Blk.new w2 39 #[.int .i64 (p : Nat), .int .i64 (o : Nat)]).drew
    have hxb := hq.bx
    have hbg := hq.bg
    have hbm := hq.bm
    have hbr := hq.br
    clear hq hqs hHP
    go_wp2_with fail
    clear cl cg cr cf cp co d0 d1 d2
    refine wp_region_still_tail 8 (by kernel_rfl) (by kernel_rfl) ?_
    change wpStill _ _ (World.drew _) (fun a' => wpList _ _ _ _ a' (World.drew _)) _ _
    generalize World.drew _ = w5 at *
    have PU := release_any hq5.ax ho.1 ho.2
    have cg := hq5.box.cell 0
    have e0 := hb5.cell 0
    have e1 := hb5.cell 1
    simp at cg e0 e1
    simp only [List.take_succ_cons, List.take_zero, List.drop_succ_cons, List.drop_zero]
    repeat still_step
    refine wpStill_nil ?_
    go_wp2_with fail
    refine PU.mono ?_; rintro e w6 ⟨rfl, hx6, ho6⟩
    have hb6 := hb5.on ho6 (by rintro (e | e); exact hb5.apart hq5.ax.blk.1.choose_spec (by decide) e; exact hb5.apart hq5.ax.blk.2.choose_spec (by decide) e)
    have hq6 := (hq5.prog hx6 ho6).on ((on_refl _ _).drew)
    have on6 := (on5.trans (ho6.mono (s' := fun k => base ≤ k) (by rintro k (e | e); exact e ▸ hbg; exact e ▸ hbm))).drew
    have hb7 := hb6.drew
    clear PU hx6 ho6 cg e0 e1 hq5 on5 hb5 hb6
    go_wp2_with fail
    refine wp_region_still_tail 8 (by kernel_rfl) (by kernel_rfl) ?_
    change wpStill _ _ (World.drew _) (fun a' => wpList _ _ _ _ a' (World.drew _)) _ _
    generalize World.drew _ = w7 at *
    have RU := rfree_any hq6.rf (p := p) (n := o) (hF.le (by omega)) ho.1 ho.2
    have cr := hq6.box.cell 1
    have e0 := hb7.cell 0
    have e1 := hb7.cell 1
    simp at cr e0 e1
    simp only [List.take_succ_cons, List.take_zero, List.drop_succ_cons, List.drop_zero]
    repeat still_step
    refine wpStill_nil ?_
    go_wp2_with fail
    refine RU.mono ?_; rintro e w8 ⟨rfl, hr8, ho8⟩
    have hq8 := hq6.doc hr8 ho8
    have on8 := on6.trans (ho8.mono (s' := fun k => base ≤ k) (by rintro k e; exact e ▸ hbr))
    clear RU hr8 ho8 cr e0 e1 hq6 on6 hb7
    have hxlt8 := hq8.box.lt
    obtain ⟨lb2, c2, cs2, e, -, -, hbL, -, hat⟩ := own_held hq8.own hl
    cases e
    have hlb8 := hbL.lt
    have hread : ∀ (j : Nat) (u : Value), (prs L)[j]? = some u → w8.cell? ⟨lb, j, none⟩ = some u := fun j u hj => by rw [hbL.cell]; exact hat j u hj
    clear hat hbL
    have cl := hq8.box.cell 2
    have fl := hq8.box.free 2
    simp at cl
    obtain ⟨kn, hkn⟩ : ∃ kn, kn = k + 1 := ⟨_, rfl⟩
    have gw : IntKind.i64.wrap ((k : Int) + 1) = (kn : Int) := by rw [IntKind.wrap_i64]; omega
    have gk0 : (0 : Int) ≤ (kn : Int) := by omega
    have gk1 : (kn : Int) ≤ (L.length : Int) := by omega
    have gk2 : k ≤ lc := by omega
    have gk2L : k ≤ L.length := by omega
    have gk3 : kn ≤ L.length := by omega
    have gk4 : kn ≤ lc := by omega
    by_cases gk5 : lc = kn
    · have HKN := Lib.hid hkn
      obtain ⟨ln, hln⟩ : ∃ ln, ln = k + (L.length - kn) := ⟨_, rfl⟩
      have hbd : ln ≤ 1000000 := by omega
      have HLN := Lib.hid hln
      clear hln
      clear hkn
      subst gk5
      have oA : On (fun _ => False) w8 (w8.alloc (.cells #[] 39)).drew := ((on_refl _ w8).alloc _).drew
      have ownA := (own_empty_h w8).drew
      have clA : (w8.alloc (.cells #[] 39)).drew.cell? ⟨x, 2, none⟩ = some _ := cell_over oA cl id
      have HQ := Lib.hid hq8
      clear hq8
      go_wp2_with fail
      have hl1 : (prs (L.take k)).length = k * 2 := by rw [prs_len, List.length_take, Nat.min_eq_left gk2L]
      have hl2 : (prs (L.drop (lc))).length = (L.length - (lc)) * 2 := by rw [prs_len, List.length_drop]
      have HM1 : ∀ j u, (prs (L.take k))[j]? = some u → (w8.alloc (.cells #[] 39)).drew.cell? ((⟨lb, 0, none⟩ : Addr).add j) = some u := fun j u hj => by
        rw [WideShapes.add_plain, Nat.zero_add]; exact cell_over oA (hread j u (prs_take L k hj)) id
      have O9 : ∀ w9, (w8.alloc (.cells #[] 39)).drew.grownBy w9 (some w8.heap.size) → On (fun _ => False) w8 w9 := fun w9 h => oA.gr h (fun k e => by cases e; exact Nat.le_refl _)
      have HM2 : ∀ w9, On (fun _ => False) w8 w9 → ∀ j u, (prs (L.drop (lc)))[j]? = some u → w9.cell? ((⟨lb, (lc) * 2, none⟩ : Addr).add j) = some u := fun w9 h j u hj => by
        rw [WideShapes.add_plain]; exact cell_over h (hread _ u (prs_drop L (lc) gk3 hj)) id
      have C9 : ∀ w9, On (fun _ => False) w8 w9 → w9.cell? ⟨x, 2, none⟩ = some (.slice (some ⟨lb, 0, none⟩) L.length lc) := fun w9 h => cell_over h cl id
      have F9 : ∀ w9, On (fun _ => False) w8 w9 → w9.frozen? ⟨x, 2, none⟩ = false := fun w9 h => (World.frozen?_of_block (h.block x hxlt8 id)).trans fl
      go_region_law (first | (refine step_append_h _ (by rfl) _ _ (by rfl) w8.heap.size w8.heap.size 0 0 [] (by rfl) ownA (some ⟨lb, 0, none⟩) k lc (prs (L.take k)) (by rfl) (fun _ => ⟨_, rfl, HM1⟩) hl1 (prs_one _) k (Nat.zero_add k) (by omega) (by simp) ?_; intro g1 cap1 w9 hown9 hgr9; have o9 := O9 w9 hgr9; have c9 := C9 w9 o9; have gb9 := own_base hown9 g1 rfl) | (refine step_append_h _ (by rfl) _ _ (by rfl) w8.heap.size g1 k cap1 ([] ++ prs (L.take k)) (by rfl) hown9 (some ⟨lb, 0, none⟩) 0 0 (prs (L.drop (lc))) (by rfl) (fun e => absurd e (by omega)) (hl2.trans (by rw [Nat.sub_eq_zero_of_le hlc])) (prs_one _) ln (by have := HLN.out; omega) (by omega) o9.size ?_; intro g2 cap2 wA hownA hgrA; have oA2 := o9.gr hgrA (fun k e => by cases e; exact gb9); have cA := C9 wA oA2; have fA := F9 wA oA2))
      all_goals
        have hle : ln = (L.eraseIdx k).length := by rw [List.length_eraseIdx, if_pos hk]; have := HKN.out; have := HLN.out; omega
        have hnew : wA.ownsRow base 39 2 (.slice (some ⟨g2, 0, none⟩) ln cap2) (L.eraseIdx k).length (prs (L.eraseIdx k)) := by
          have h := own_less hownA (base' := base) (Nat.le_of_lt (Nat.lt_of_le_of_lt hxb hxlt8))
          rw [← hle, ← prs_erase, ← HKN.out]
          exact h
        have hqA := HQ.out.appended (L' := L.eraseIdx k) oA2 (fun _ e => e.elim) hnew
        have onA := (on8.trans (oA2.mono (s' := fun k => base ≤ k) (fun _ e => e.elim))).put (g := x) (i := 2) hxb (.slice (some ⟨g2, 0, none⟩) ln cap2)
        have hWd : Wd base x g gm r mt n (putM A p (fr o)) (L.eraseIdx k) full (.slice (some ⟨g2, 0, none⟩) ln cap2) _ := ⟨hqA, can_erase hcan k, hsz, hn1, hn2, hful⟩
        have hler : (L.eraseIdx k).length ≤ L.length + 1 := by rw [List.length_eraseIdx, if_pos hk]; omega
        clear hle hnew hqA HLN hownA hgrA oA2 cA fA hown9 hgr9 o9 c9 HM1 HM2 O9 C9 F9 HQ on8 cl fl clA ownA oA hread gw gk0 gk1 gk2 gk2L gk3 gk4 HKN hbd hl1 hl2
        generalize World.setCell _ _ _ = wB at *
        go_wp2_with fail
        obtain ⟨Fz, Mz, har⟩ := hWd.1.ax.ar
        have TT := fun q => drawn (q := q) (text_any (w := World.drewN wB q) (har.drewN q))
        have cz := hWd.1.box.cell 0
        have cy := hWd.1.box.cell 1
        have ct := hWd.1.rf.text
        simp at cz cy
        clear har
        go_quiet ((go_at_call 24; exact TT _))
        go_wp2_with fail
        go_ret
        exact ⟨by simp, onA.drewN nq, _, _, _, _, hWd.on ((on_refl _ _).drewN nq), by exact hler⟩
    · have HKN := Lib.hid hkn
      obtain ⟨ln, hln⟩ : ∃ ln, ln = k + (L.length - kn) := ⟨_, rfl⟩
      have hbd : ln ≤ 1000000 := by omega
      have HLN := Lib.hid hln
      clear hln
      clear hkn
      have oA : On (fun _ => False) w8 (w8.alloc (.cells #[] 39)).drew := ((on_refl _ w8).alloc _).drew
      have ownA := (own_empty_h w8).drew
      have clA : (w8.alloc (.cells #[] 39)).drew.cell? ⟨x, 2, none⟩ = some _ := cell_over oA cl id
      have HQ := Lib.hid hq8
      clear hq8
      go_wp2_with fail
      have hl1 : (prs (L.take k)).length = k * 2 := by rw [prs_len, List.length_take, Nat.min_eq_left gk2L]
      have hl2 : (prs (L.drop (kn))).length = (L.length - (kn)) * 2 := by rw [prs_len, List.length_drop]
      have HM1 : ∀ j u, (prs (L.take k))[j]? = some u → (w8.alloc (.cells #[] 39)).drew.cell? ((⟨lb, 0, none⟩ : Addr).add j) = some u := fun j u hj => by
        rw [WideShapes.add_plain, Nat.zero_add]; exact cell_over oA (hread j u (prs_take L k hj)) id
      have O9 : ∀ w9, (w8.alloc (.cells #[] 39)).drew.grownBy w9 (some w8.heap.size) → On (fun _ => False) w8 w9 := fun w9 h => oA.gr h (fun k e => by cases e; exact Nat.le_refl _)
      have HM2 : ∀ w9, On (fun _ => False) w8 w9 → ∀ j u, (prs (L.drop (kn)))[j]? = some u → w9.cell? ((⟨lb, (kn) * 2, none⟩ : Addr).add j) = some u := fun w9 h j u hj => by
        rw [WideShapes.add_plain]; exact cell_over h (hread _ u (prs_drop L (kn) gk3 hj)) id
      have C9 : ∀ w9, On (fun _ => False) w8 w9 → w9.cell? ⟨x, 2, none⟩ = some (.slice (some ⟨lb, 0, none⟩) L.length lc) := fun w9 h => cell_over h cl id
      have F9 : ∀ w9, On (fun _ => False) w8 w9 → w9.frozen? ⟨x, 2, none⟩ = false := fun w9 h => (World.frozen?_of_block (h.block x hxlt8 id)).trans fl
      go_region_law (first | (refine step_append_h _ (by rfl) _ _ (by rfl) w8.heap.size w8.heap.size 0 0 [] (by rfl) ownA (some ⟨lb, 0, none⟩) k lc (prs (L.take k)) (by rfl) (fun _ => ⟨_, rfl, HM1⟩) hl1 (prs_one _) k (Nat.zero_add k) (by omega) (by simp) ?_; intro g1 cap1 w9 hown9 hgr9; have o9 := O9 w9 hgr9; have c9 := C9 w9 o9; have gb9 := own_base hown9 g1 rfl) | (refine step_append_h _ (by rfl) _ _ (by rfl) w8.heap.size g1 k cap1 ([] ++ prs (L.take k)) (by rfl) hown9 (some ⟨lb, (kn) * 2, none⟩) (L.length - (kn)) (lc - (kn)) (prs (L.drop (kn))) (by rfl) (fun _ => ⟨_, rfl, HM2 w9 o9⟩) hl2 (prs_one _) ln HLN.out.symm (by omega) o9.size ?_; intro g2 cap2 wA hownA hgrA; have oA2 := o9.gr hgrA (fun k e => by cases e; exact gb9); have cA := C9 wA oA2; have fA := F9 wA oA2))
      all_goals
        have hle : ln = (L.eraseIdx k).length := by rw [List.length_eraseIdx, if_pos hk]; have := HKN.out; have := HLN.out; omega
        have hnew : wA.ownsRow base 39 2 (.slice (some ⟨g2, 0, none⟩) ln cap2) (L.eraseIdx k).length (prs (L.eraseIdx k)) := by
          have h := own_less hownA (base' := base) (Nat.le_of_lt (Nat.lt_of_le_of_lt hxb hxlt8))
          rw [← hle, ← prs_erase, ← HKN.out]
          exact h
        have hqA := HQ.out.appended (L' := L.eraseIdx k) oA2 (fun _ e => e.elim) hnew
        have onA := (on8.trans (oA2.mono (s' := fun k => base ≤ k) (fun _ e => e.elim))).put (g := x) (i := 2) hxb (.slice (some ⟨g2, 0, none⟩) ln cap2)
        have hWd : Wd base x g gm r mt n (putM A p (fr o)) (L.eraseIdx k) full (.slice (some ⟨g2, 0, none⟩) ln cap2) _ := ⟨hqA, can_erase hcan k, hsz, hn1, hn2, hful⟩
        have hler : (L.eraseIdx k).length ≤ L.length + 1 := by rw [List.length_eraseIdx, if_pos hk]; omega
        clear hle hnew hqA HLN hownA hgrA oA2 cA fA hown9 hgr9 o9 c9 HM1 HM2 O9 C9 F9 HQ on8 cl fl clA ownA oA hread gw gk0 gk1 gk2 gk2L gk3 gk4 HKN hbd hl1 hl2
        generalize World.setCell _ _ _ = wB at *
        go_wp2_with fail
        obtain ⟨Fz, Mz, har⟩ := hWd.1.ax.ar
        have TT := fun q => drawn (q := q) (text_any (w := World.drewN wB q) (har.drewN q))
        have cz := hWd.1.box.cell 0
        have cy := hWd.1.box.cell 1
        have ct := hWd.1.rf.text
        simp at cz cy
        clear har
        go_quiet ((go_at_call 24; exact TT _))
        go_wp2_with fail
        go_ret
        exact ⟨by simp, onA.drewN nq, _, _, _, _, hWd.on ((on_refl _ _).drewN nq), by exact hler⟩
  · have hlI : decide ((0 : Int) < (L.length : Int)) = false := by rw [decide_eq_false_iff_not]; omega
    have hlI2 : decide (0 < L.length) = false := by rw [decide_eq_false_iff_not]; exact hl
    clear hl
    go_wp2_with fail
    rw [← hw1]
    clear h hw1 hd cl cg cr cf cl1 cg1 cr1 cf1 d0 d1 d2
    obtain ⟨Fz, Mz, har⟩ := h1.1.ax.ar
    have TT := fun q => drawn (q := q) (text_any (w := World.drewN w1 q) (har.drewN q))
    have cz := h1.1.box.cell 0
    have cy := h1.1.box.cell 1
    have ct := h1.1.rf.text
    simp at cz cy
    clear har
    go_quiet ((go_at_call 24; exact TT _))
    go_wp2_with fail
    go_ret
    exact ⟨by simp, on1.drewN nq, _, _, _, _, h1.on ((on_refl _ _).drewN nq), by omega⟩
end
end Go.Proofs.Ytplhonlgbidemaa
