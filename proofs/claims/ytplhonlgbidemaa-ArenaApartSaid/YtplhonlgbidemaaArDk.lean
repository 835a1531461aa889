/- The document's rarely. -/
import Derived.Test.YtplhonlgbidemaaArGi
import Derived.Test.YtplhonlgbidemaaArDh
import Derived.Test.YtplhonlgbidemaaArDu
namespace Go.Proofs.Ytplhonlgbidemaa
open Go.RowKit

/-- What the search for a row keeps. -/
def RdL (w : World) (r : Nat) (A : AM) (row : Nat) (i : Value) (wr : World) : Prop :=
  ∃ k : Nat, row < k ∧ k ≤ 38 ∧ i = .int .i64 k ∧ findM A.rows (38 - k) k = findM A.rows (37 - row) (row + 1) ∧ Rf wr r A ∧ On (fun k => k = r) w wr
theorem rowlen {rows : Nat → List Nat} {k : Nat} : rows k ≠ [] → 0 < (rows k).length := fun h => List.length_pos_iff.2 h
section
variable {w w' : World} {r : Nat} {A : AM} {H : List Bk}
set_option maxRecDepth 100000 in
set_option maxHeartbeats 4000000 in
theorem rrarely_any (h : Rf w r A) (hi : Inv A H) (hs : A.size ≤ 1000000) {row : Nat} (hrow : row < 38) :
    Calls Try.prog 54 #[.pointer (some ⟨r, 0, none⟩), .int .i64 (row : Nat)] w fun e w' => e = .returned (.int .i64 ((rareM A row).1 : Nat)) ∧ Rf w' r (rareM A row).2 ∧ On (fun k => k = r) w w' := by
  obtain ⟨R, hR⟩ : ∃ R, R = rareM A row := ⟨_, rfl⟩
  rw [← hR]
  have hrI : (row : Int) < 38 := by omega
  have hr0 : (0 : Int) ≤ (row : Int) := by omega
  have SN := fun w => size_any w row (by omega)
  have hln := sz_le hrow
  have hlp := sz_pos row
  have cg := h.glue
  have hglue := hi.glue
  by_cases hg0 : A.glue = 0
  · have ST := rglue_any h hi hs
    obtain ⟨sm, g255⟩ := sm_glue A
    have hi1 := hi.glued
    rw [hg0] at cg
    unfold rareM at hR
    rw [if_pos hg0] at hR
    have hs1 : (glueM A).size ≤ 1000000 := by rw [sm.size]; exact hs
    obtain ⟨A1, hA1⟩ : ∃ A1, A1 = glueM A := ⟨_, rfl⟩
    rw [← hA1] at ST hR g255 hi1 hs1
    clear h hi hs sm
    go_enter Try.func54, Try.ntmps54
    go_wp2_with fail
    refine ST.mono ?_; rintro e w1 ⟨rfl, hx1, ho1⟩
    clear ST hA1 cg
    obtain ⟨ra, rc, cr⟩ := rlen_any hx1 hrow
    have hsh := hi1.short hs1 2 (by omega)
    obtain ⟨m, hm⟩ : ∃ m, m = (A1.rows row).length := ⟨_, rfl⟩
    rw [← hm] at cr
    by_cases hz : A1.rows row = []
    · rw [if_pos hz] at hR
      have hrest : rest2 A1 row = R := hR.symm
      have hm0 : m = 0 := by rw [hm, hz]; rfl
      have g4 : decide ((0 : Int) < (m : Int)) = false := by rw [decide_eq_false_iff_not]; omega
      have g5 : decide (0 < m) = false := by rw [decide_eq_false_iff_not]; omega
      have hglue1 : 1 ≤ A1.glue := by omega
      clear hm hz hm0 hR g255
      go_wp2_with fail
      go_loopw [5] (fun i wr => RdL w r A1 row i wr) (fun i _ => 38 - (intOf i).toNat)
      case atStart => exact ⟨row + 1, by omega, by omega, by go_num, by rw [show 38 - (row + 1) = 37 - row by omega], hx1, ho1⟩
      case round =>
        clear hx1 ho1
        obtain ⟨k, hk1, hk2, rfl, hfm, hx, ho⟩ := hrel
        by_cases hk : k < 38
        · have hkI : (k : Int) < 38 := by omega
          have hk0 : (0 : Int) ≤ (k : Int) := by omega
          obtain ⟨ka, kc, ck⟩ := rlen_any hx hk
          obtain ⟨m, hm⟩ : ∃ m, m = (A1.rows k).length := ⟨_, rfl⟩
          rw [← hm] at ck
          by_cases hz : A1.rows k = []
          · have hm0 : m = 0 := by rw [hm, hz]; rfl
            have g4 : decide ((0 : Int) < (m : Int)) = false := by rw [decide_eq_false_iff_not]; omega
            have g5 : decide (0 < m) = false := by rw [decide_eq_false_iff_not]; omega
            have HZ := Lib.hid hz
            have HFM := Lib.hid hfm
            clear hm hz hm0 hfm
            go_wp2_with fail
            go_roundw
            case rel =>
              refine ⟨k + 1, by omega, by omega, by go_num, ?_, hx, ho⟩
              rw [← HFM.out, show 38 - k = 38 - (k + 1) + 1 by omega]
              conv => rhs; unfold findM
              rw [if_pos HZ.out]
            case measure => simp [intOf]; omega
          · have hm1 : 0 < m := by rw [hm]; exact List.length_pos_iff.2 hz
            have g4 : decide ((0 : Int) < (m : Int)) = true := by rw [decide_eq_true_iff]; omega
            have g5 : decide (0 < m) = true := by rw [decide_eq_true_iff]; omega
            obtain ⟨x, l, hxl⟩ := List.exists_cons_of_ne_nil hz
            have hf := hi1.free hk (x := x) (by rw [hxl]; simp)
            have T := rtake_any hx hk (by have := hsh k hk; omega) hz
            have SK := fun w => size_any w k (by omega)
            have hlk := sz_le hk
            have hlt := sz_lt hk1
            have hF2 := hsh.take k
            have hres : R = (hd (A1.rows k), restM (takeM A1 k) (hd (A1.rows k) + 12 * sz row) (sz k - sz row)) := by
              rw [← hrest]
              unfold rest2
              have : findM A1.rows (37 - row) (row + 1) = some k := by
                rw [← hfm, show 38 - k = 38 - (k + 1) + 1 by omega]
                unfold findM
                rw [if_neg hz]
              rw [this]
            have hxb : hd (A1.rows k) ≤ 1000001 := by rw [hxl]; show x ≤ _; omega
            obtain ⟨y, hy⟩ : ∃ y, y = hd (A1.rows k) := ⟨_, rfl⟩
            rw [← hy] at hres T hxb
            obtain ⟨a, ha⟩ : ∃ a, a = sz k := ⟨_, rfl⟩
            obtain ⟨b, hb⟩ : ∃ b, b = sz row := ⟨_, rfl⟩
            have HA := Lib.hid ha
            have HB := Lib.hid hb
            rw [← ha, ← hb] at hres hlt
            rw [← ha] at hlk SK
            rw [← hb] at hln hlp SN
            have e1 : ((y + 12 * b : Nat) : Int) = (y : Int) + 12 * (b : Int) := by omega
            have e2 : ((a - b : Nat) : Int) = (a : Int) - (b : Int) := by omega
            have HR := Lib.hid hres
            clear hm hz hm1 hf hxl hres hfm hrest hy ha hb
            go_wp2_with fail
            refine T.mono ?_; rintro e w3 ⟨rfl, hx3, ho3⟩
            have PT := rrest_any hx3 (p := y + 12 * b) (n := a - b) hF2 (by omega) (by omega) (by omega)
            rw [e1, e2] at PT
            clear T hx3 e1 e2
            go_wp2_with fail
            refine (SN _).mono ?_; rintro e w4 ⟨rfl, rfl⟩
            go_wp2_with fail
            refine (SK _).mono ?_; rintro e w4 ⟨rfl, rfl⟩
            go_wp2_with fail
            refine (SN _).mono ?_; rintro e w4 ⟨rfl, rfl⟩
            go_wp2_with fail
            refine PT.mono ?_; rintro e w5 ⟨rfl, hx5, ho5⟩
            go_wp2_with fail
            go_ret
            have hres := HR.out
            rw [hres]
            exact ⟨rfl, hx5, (ho.trans ho3).trans ho5⟩
        · obtain rfl : k = 38 := by omega
          have hnone : findM A1.rows (37 - row) (row + 1) = none := hfm.symm
          have HRS := Lib.hid (show R = lastM A1 row by rw [← hrest]; unfold rest2; rw [hnone])
          have cg := hx.glue
          have fg := hx.free 43
          have hb2 := hi1.ord
          have htx := hi1.text
          have hgl2 := hi1.glue
          have wg : IntKind.i64.wrap ((A1.glue : Int) - 1) = (A1.glue : Int) - 1 := by rw [IntKind.wrap_i64]; omega
          have hx2 := hx.putGlue (A1.glue - 1)
          have ho2 := ho.put (g := r) (i := 43) rfl (.int .i64 ((A1.glue - 1 : Nat) : Int))
          have eg : ((A1.glue - 1 : Nat) : Int) = (A1.glue : Int) - 1 := by omega
          rw [eg] at hx2 ho2
          have g6 : decide ((A1.glue : Int) - 1 < 0) = false := by rw [decide_eq_false_iff_not]; omega
          have g7 : decide ((A1.glue : Int) < 1) = false := by rw [decide_eq_false_iff_not]; omega
          have ct := hx2.text
          have cs := hx2.start
          have cg2 := hx2.glue
          have fs := hx2.free 40
          dsimp only at ct cs cg2
          rw [eg] at cg2
          obtain ⟨b, hb⟩ : ∃ b, b = sz row := ⟨_, rfl⟩
          rw [← hb] at hln hlp SN
          have HB := Lib.hid hb
          clear hfm hrest hnone hx ho hb
          go_wp2_with fail
          generalize World.setCell _ _ _ = w3 at *
          clear cg fg cg2
          by_cases hle : A1.start - A1.text ≤ 12 * b
          · have hleI : decide ((12 : Int) * (b : Int) < (A1.start : Int) - (A1.text : Int)) = false := by rw [decide_eq_false_iff_not]; omega
            go_quiet ((go_at_call 29; exact drawn (SN _)))
            go_wp2_with fail
            go_ret
            rw [HRS.out]
            unfold lastM
            rw [← HB.out, if_pos hle]
            exact ⟨rfl, hx2, ho2.drewN _⟩
          · have hleI : decide ((12 : Int) * (b : Int) < (A1.start : Int) - (A1.text : Int)) = true := by rw [decide_eq_true_iff]; omega
            have es : ((A1.start - 12 * b : Nat) : Int) = (A1.start : Int) - 12 * (b : Int) := by omega
            go_quiet ((go_at_call 29; exact drawn (SN _)))
            have hx4 : Rf (World.drewN w3 nq) r _ := hx2
            have ho4 := ho2.drewN nq
            generalize World.drewN w3 nq = w4 at *
            clear hx2 ho2 ct cs fs
            go_wp2_with fail
            have hx5 : Rf w4.drew r _ := hx4
            have ho5 := ho4.drew
            refine wp_region_still_tail 11 (by kernel_rfl) (by kernel_rfl) ?_
            change wpStill _ _ w4.drew (fun a' => wpList _ _ _ _ a' w4.drew) _ _
            generalize w4.drew = w5 at *
            clear hx4 ho4
            have cs := hx5.start
            have fs := hx5.free 40
            dsimp only at cs
            have hx6 := hx5.putStart (A1.start - 12 * b)
            have ho6 := ho5.put (g := r) (i := 40) rfl (.int .i64 ((A1.start - 12 * b : Nat) : Int))
            rw [es] at hx6 ho6
            simp only [List.take_succ_cons, List.take_zero, List.drop_succ_cons, List.drop_zero]
            repeat (first | still_step | still_call (SN _))
            refine wpStill_nil ?_
            have cs6 := hx6.start
            dsimp only at cs6
            rw [es] at cs6
            clear hx5 ho5 es
            go_wp2_with fail
            go_ret
            rw [HRS.out]
            unfold lastM
            rw [← HB.out, if_neg hle]
            refine ⟨?_, hx6, ho6⟩
            have e9 : ((A1.start - 12 * b : Nat) : Int) = (A1.start : Int) - 12 * (b : Int) := by omega
            dsimp only
            rw [e9]
            rfl
    · rw [if_neg hz] at hR
      have hm1 : 0 < m := by rw [hm]; exact List.length_pos_iff.2 hz
      have g4 : decide ((0 : Int) < (m : Int)) = true := by rw [decide_eq_true_iff]; omega
      have g5 : decide (0 < m) = true := by rw [decide_eq_true_iff]; omega
      have T := rtake_any hx1 hrow (by have := hsh row hrow; omega) hz
      have HR := Lib.hid hR
      clear hR hm hz hm1
      go_wp2_with fail
      refine T.mono ?_; rintro e w2 ⟨rfl, hx2, ho2⟩
      go_wp2_with fail
      go_ret
      have hR := HR.out
      rw [hR]
      exact ⟨rfl, hx2, ho1.trans ho2⟩
  · have hglue1 : 1 ≤ A.glue := by omega
    unfold rareM at hR
    rw [if_neg hg0] at hR
    have hrest : rest2 A row = R := hR.symm
    have hx1 : Rf w r A := h
    have ho1 : On (fun k => k = r) w w := on_refl _ _
    have hi1 := hi
    have hs1 := hs
    have hgI : ¬ (A.glue : Int) = 0 := by omega
    have hgB : ((A.glue : Int) == 0) = false := by simp; omega
    have hsh := hi1.short hs1 2 (by omega)
    clear h hi hs hR
    obtain ⟨A1, hA1⟩ : ∃ A1, A1 = A := ⟨_, rfl⟩
    rw [← hA1] at hx1 hrest hglue1 cg hgI hgB hi1 hs1 hsh
    clear hA1
    go_enter Try.func54, Try.ntmps54
    go_wp2_with fail
    go_loopw [5] (fun i wr => RdL w r A1 row i wr) (fun i _ => 38 - (intOf i).toNat)
    case atStart => exact ⟨row + 1, by omega, by omega, by go_num, by rw [show 38 - (row + 1) = 37 - row by omega], hx1, ho1⟩
    case round =>
      clear hx1 ho1
      obtain ⟨k, hk1, hk2, rfl, hfm, hx, ho⟩ := hrel
      by_cases hk : k < 38
      · have hkI : (k : Int) < 38 := by omega
        have hk0 : (0 : Int) ≤ (k : Int) := by omega
        obtain ⟨ka, kc, ck⟩ := rlen_any hx hk
        obtain ⟨m, hm⟩ : ∃ m, m = (A1.rows k).length := ⟨_, rfl⟩
        rw [← hm] at ck
        by_cases hz : A1.rows k = []
        · have hm0 : m = 0 := by rw [hm, hz]; rfl
          have g4 : decide ((0 : Int) < (m : Int)) = false := by rw [decide_eq_false_iff_not]; omega
          have g5 : decide (0 < m) = false := by rw [decide_eq_false_iff_not]; omega
          have HZ := Lib.hid hz
          have HFM := Lib.hid hfm
          clear hm hz hm0 hfm
          go_wp2_with fail
          go_roundw
          case rel =>
            refine ⟨k + 1, by omega, by omega, by go_num, ?_, hx, ho⟩
            rw [← HFM.out, show 38 - k = 38 - (k + 1) + 1 by omega]
            conv => rhs; unfold findM
            rw [if_pos HZ.out]
          case measure => simp [intOf]; omega
        · have hm1 : 0 < m := by rw [hm]; exact List.length_pos_iff.2 hz
          have g4 : decide ((0 : Int) < (m : Int)) = true := by rw [decide_eq_true_iff]; omega
          have g5 : decide (0 < m) = true := by rw [decide_eq_true_iff]; omega
          obtain ⟨x, l, hxl⟩ := List.exists_cons_of_ne_nil hz
          have hf := hi1.free hk (x := x) (by rw [hxl]; simp)
          have T := rtake_any hx hk (by have := hsh k hk; omega) hz
          have SK := fun w => size_any w k (by omega)
          have hlk := sz_le hk
          have hlt := sz_lt hk1
          have hF2 := hsh.take k
          have hres : R = (hd (A1.rows k), restM (takeM A1 k) (hd (A1.rows k) + 12 * sz row) (sz k - sz row)) := by
            rw [← hrest]
            unfold rest2
            have : findM A1.rows (37 - row) (row + 1) = some k := by
              rw [← hfm, show 38 - k = 38 - (k + 1) + 1 by omega]
              unfold findM
              rw [if_neg hz]
            rw [this]
          have hxb : hd (A1.rows k) ≤ 1000001 := by rw [hxl]; show x ≤ _; omega
          obtain ⟨y, hy⟩ : ∃ y, y = hd (A1.rows k) := ⟨_, rfl⟩
          rw [← hy] at hres T hxb
          obtain ⟨a, ha⟩ : ∃ a, a = sz k := ⟨_, rfl⟩
          obtain ⟨b, hb⟩ : ∃ b, b = sz row := ⟨_, rfl⟩
          have HA := Lib.hid ha
          have HB := Lib.hid hb
          rw [← ha, ← hb] at hres hlt
          rw [← ha] at hlk SK
          rw [← hb] at hln hlp SN
          have e1 : ((y + 12 * b : Nat) : Int) = (y : Int) + 12 * (b : Int) := by omega
          have e2 : ((a - b : Nat) : Int) = (a : Int) - (b : Int) := by omega
          have HR := Lib.hid hres
          clear hm hz hm1 hf hxl hres hfm hrest hy ha hb
          go_wp2_with fail
          refine T.mono ?_; rintro e w3 ⟨rfl, hx3, ho3⟩
          have PT := rrest_any hx3 (p := y + 12 * b) (n := a - b) hF2 (by omega) (by omega) (by omega)
          rw [e1, e2] at PT
          clear T hx3 e1 e2
          go_wp2_with fail
          refine (SN _).mono ?_; rintro e w4 ⟨rfl, rfl⟩
          go_wp2_with fail
          refine (SK _).mono ?_; rintro e w4 ⟨rfl, rfl⟩
          go_wp2_with fail
          refine (SN _).mono ?_; rintro e w4 ⟨rfl, rfl⟩
          go_wp2_with fail
          refine PT.mono ?_; rintro e w5 ⟨rfl, hx5, ho5⟩
          go_wp2_with fail
          go_ret
          have hres := HR.out
          rw [hres]
          exact ⟨rfl, hx5, (ho.trans ho3).trans ho5⟩
      · obtain rfl : k = 38 := by omega
        have hnone : findM A1.rows (37 - row) (row + 1) = none := hfm.symm
        have HRS := Lib.hid (show R = lastM A1 row by rw [← hrest]; unfold rest2; rw [hnone])
        have cg := hx.glue
        have fg := hx.free 43
        have hb2 := hi1.ord
        have htx := hi1.text
        have hgl2 := hi1.glue
        have wg : IntKind.i64.wrap ((A1.glue : Int) - 1) = (A1.glue : Int) - 1 := by rw [IntKind.wrap_i64]; omega
        have hx2 := hx.putGlue (A1.glue - 1)
        have ho2 := ho.put (g := r) (i := 43) rfl (.int .i64 ((A1.glue - 1 : Nat) : Int))
        have eg : ((A1.glue - 1 : Nat) : Int) = (A1.glue : Int) - 1 := by omega
        rw [eg] at hx2 ho2
        have g6 : decide ((A1.glue : Int) - 1 < 0) = false := by rw [decide_eq_false_iff_not]; omega
        have g7 : decide ((A1.glue : Int) < 1) = false := by rw [decide_eq_false_iff_not]; omega
        have ct := hx2.text
        have cs := hx2.start
        have cg2 := hx2.glue
        have fs := hx2.free 40
        dsimp only at ct cs cg2
        rw [eg] at cg2
        obtain ⟨b, hb⟩ : ∃ b, b = sz row := ⟨_, rfl⟩
        rw [← hb] at hln hlp SN
        have HB := Lib.hid hb
        clear hfm hrest hnone hx ho hb
        go_wp2_with fail
        generalize World.setCell _ _ _ = w3 at *
        clear cg fg cg2
        by_cases hle : A1.start - A1.text ≤ 12 * b
        · have hleI : decide ((12 : Int) * (b : Int) < (A1.start : Int) - (A1.text : Int)) = false := by rw [decide_eq_false_iff_not]; omega
          go_quiet ((go_at_call 29; exact drawn (SN _)))
          go_wp2_with fail
          go_ret
          rw [HRS.out]
          unfold lastM
          rw [← HB.out, if_pos hle]
          exact ⟨rfl, hx2, ho2.drewN _⟩
        · have hleI : decide ((12 : Int) * (b : Int) < (A1.start : Int) - (A1.text : Int)) = true := by rw [decide_eq_true_iff]; omega
          have es : ((A1.start - 12 * b : Nat) : Int) = (A1.start : Int) - 12 * (b : Int) := by omega
          go_quiet ((go_at_call 29; exact drawn (SN _)))
          have hx4 : Rf (World.drewN w3 nq) r _ := hx2
          have ho4 := ho2.drewN nq
          generalize World.drewN w3 nq = w4 at *
          clear hx2 ho2 ct cs fs
          go_wp2_with fail
          have hx5 : Rf w4.drew r _ := hx4
          have ho5 := ho4.drew
          refine wp_region_still_tail 11 (by kernel_rfl) (by kernel_rfl) ?_
          change wpStill _ _ w4.drew (fun a' => wpList _ _ _ _ a' w4.drew) _ _
          generalize w4.drew = w5 at *
          clear hx4 ho4
          have cs := hx5.start
          have fs := hx5.free 40
          dsimp only at cs
          have hx6 := hx5.putStart (A1.start - 12 * b)
          have ho6 := ho5.put (g := r) (i := 40) rfl (.int .i64 ((A1.start - 12 * b : Nat) : Int))
          rw [es] at hx6 ho6
          simp only [List.take_succ_cons, List.take_zero, List.drop_succ_cons, List.drop_zero]
          repeat (first | still_step | still_call (SN _))
          refine wpStill_nil ?_
          have cs6 := hx6.start
          dsimp only at cs6
          rw [es] at cs6
          clear hx5 ho5 es
          go_wp2_with fail
          go_ret
          rw [HRS.out]
          unfold lastM
          rw [← HB.out, if_neg hle]
          refine ⟨?_, hx6, ho6⟩
          have e9 : ((A1.start - 12 * b : Nat) : Int) = (A1.start : Int) - 12 * (b : Int) := by omega
          dsimp only
          rw [e9]
          rfl
end
end Go.Proofs.Ytplhonlgbidemaa
