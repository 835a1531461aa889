/- rarely. -/
import Derived.Test.YtplhonlgbidemaaArS
import Derived.Test.YtplhonlgbidemaaArF
namespace Go.Proofs.Ytplhonlgbidemaa
open Go.RowKit

/-- What the search for a row keeps. -/
def RrL (w : World) (g gm : Nat) (mt : Value) (A : AM) (H : List Bk) (r : Nat) (i : Value) (wr : World) : Prop :=
  ∃ k : Nat, r < k ∧ k ≤ 38 ∧ i = .int .i64 k ∧ findM A.rows (38 - k) k = findM A.rows (37 - r) (r + 1) ∧ Ax wr g gm mt A H ∧ On (two g gm) w wr
section
variable {w : World} {g gm : Nat} {mt : Value} {A : AM} {H : List Bk}
set_option maxRecDepth 100000 in
set_option maxHeartbeats 4000000 in
theorem rarely_any {r : Nat} (h : Ax w g gm mt A H) (hr : r < 38) :
    Calls Try.prog 35 #[.pointer (some ⟨g, 0, none⟩), .int .i64 (r : Nat)] w fun e w' =>
      e = .returned (.int .i64 ((rareM A r).1 : Nat)) ∧ Ax w' g gm mt (rareM A r).2 (got (rareM A r).1 (sz r) H) ∧ On (two g gm) w w' := by
  obtain ⟨R, hR⟩ : ∃ R, R = rareM A r := ⟨_, rfl⟩
  rw [← hR]
  have hlt := h.lt
  have hrI : (r : Int) < 38 := by omega
  obtain ⟨hi, M, ha, hc⟩ := h
  have cg := ha.glue
  have hglue := hi.glue
  by_cases hg0 : A.glue = 0
  · have ST := stick_any ⟨hi, M, ha, hc⟩
    obtain ⟨sm, g255⟩ := sm_glue A
    rw [hg0] at cg
    unfold rareM at hR
    rw [if_pos hg0] at hR
    obtain ⟨A1, hA1⟩ : ∃ A1, A1 = glueM A := ⟨_, rfl⟩
    rw [← hA1] at ST hR sm g255
    clear ha hc hi
    go_enter Try.func35, Try.ntmps35
    go_wp2_with fail
    refine ST.mono ?_; rintro e w1 ⟨rfl, hx1, ho1⟩
    clear ST hA1 cg
    cases hrow0 : A1.rows r with
    | nil =>
      rw [hrow0, if_pos rfl] at hR
      have hrest : rest2 A1 r = R := hR.symm
      obtain ⟨M1, ha1, hc1⟩ := hx1.2
      have cr := ha1.row hr
      rw [hrow0] at cr
      have e0 : hd [] = 0 := rfl
      rw [e0] at cr
      have hglue1 : 1 ≤ A1.glue := by omega
      clear ha1 hc1 hR g255
      go_wp2_with fail
      go_loopw [5] (fun i wr => RrL w g gm mt A1 H r i wr) (fun i _ => 38 - (intOf i).toNat)
      case atStart => exact ⟨r + 1, by omega, by omega, by go_num, by rw [show 38 - (r + 1) = 37 - r by omega], hx1, ho1⟩
      case round =>
        clear hx1 ho1
        obtain ⟨k, hk1, hk2, rfl, hfm, hx, ho⟩ := hrel
        have hxi := hx.inv
        by_cases hk : k < 38
        · have hkI : (k : Int) < 38 := by omega
          cases hrow : A1.rows k with
          | nil =>
            obtain ⟨M, ha, hc⟩ := hx.2
            have ck := ha.row hk
            rw [hrow] at ck
            have e0 : hd [] = 0 := rfl
            rw [e0] at ck
            have HX := Lib.hid hx
            clear hx ha hc
            go_wp2_with fail
            go_roundw
            case rel =>
              refine ⟨k + 1, by omega, by omega, by go_num, ?_, HX.out, ho⟩
              rw [← hfm, show 38 - k = 38 - (k + 1) + 1 by omega]
              conv => rhs; unfold findM
              rw [if_pos hrow]
            case measure => simp [intOf]; omega
          | cons x l =>
            obtain ⟨M, ha, hc⟩ := hx.2
            have ck := ha.row hk
            rw [hrow] at ck
            have e0 : hd (x :: l) = x := rfl
            rw [e0] at ck
            have hx0 := hxi.free hk (x := x) (by rw [hrow]; simp)
            have htx := hxi.text
            have hxn : x ≠ 0 := by omega
            have T := take_any hx hk hrow
            have hres : R = (x, restM (takeM A1 k) (x + 12 * sz r) (sz k - sz r)) := by
              rw [← hrest]
              unfold rest2
              have : findM A1.rows (37 - r) (r + 1) = some k := by
                rw [← hfm, show 38 - k = 38 - (k + 1) + 1 by omega]
                unfold findM
                rw [if_neg (by rw [hrow]; simp)]
              rw [this]
              dsimp only
              rw [hrow]
              rfl
            have HR := Lib.hid hres
            clear ha hc hx hres hfm hrest hrow
            go_wp2_with fail
            refine T.mono ?_; rintro e w3 ⟨rfl, hx3, ho3⟩
            have PT := part_any hx3 (show r < k by omega) hk
            clear T hx3
            go_wp2_with fail
            refine PT.mono ?_; rintro e w4 ⟨rfl, hx4, ho4⟩
            go_wp2_with fail
            go_ret
            have hres := HR.out
            rw [hres]
            refine ⟨rfl, ?_, (ho.trans ho3).trans ho4⟩
            unfold got
            rw [if_neg hxn]
            exact hx4
        · obtain rfl : k = 38 := by omega
          have hnone : findM A1.rows (37 - r) (r + 1) = none := hfm.symm
          have HRS := Lib.hid (show R = lastM A1 r by rw [← hrest]; unfold rest2; rw [hnone])
          obtain ⟨M, ha, hc⟩ := hx.2
          have cg := ha.glue
          have cu := ha.units hr
          have fg := ha.free 212
          have hb2 := hxi.ord
          have htx := hxi.text
          have hs2 := hxi.size
          have hgl2 := hxi.glue
          have ha2 := ha.putGlue (A1.glue - 1)
          have ho2 := ho.put (g := g) (i := 212) (.inl rfl) (.int .u32 ((A1.glue - 1 : Nat) : Int))
          have eg : ((A1.glue - 1 : Nat) : Int) = (A1.glue : Int) - 1 := by omega
          have wg : IntKind.u32.wrap ((A1.glue : Int) - 1) = (A1.glue : Int) - 1 := by rw [IntKind.wrap_u32']; omega
          rw [eg] at ha2 ho2
          have ct := ha2.text
          have cs := ha2.start
          have cu2 := ha2.units hr
          have fs := ha2.free 209
          dsimp only at ct cs cu2
          have hszr := sz_le hr
          have hszp := sz_pos r
          clear hfm hrest hnone ha ho
          go_wp2_with fail
          generalize World.setCell _ _ _ = w3 at *
          clear cg cu fg
          by_cases hle : A1.start - A1.text ≤ 12 * sz r
          · have hleI : (A1.start : Int) - (A1.text : Nat) ≤ (sz r : Nat) * 12 := by omega
            go_quiet (fail)
            go_wp2_with fail
            go_ret
            rw [HRS.out]
            unfold lastM
            rw [if_pos hle]
            exact ⟨rfl, ⟨hxi.glue1 _ (by omega), M, ha2.drewN _, hc⟩, ho2.drewN _⟩
          · have hleI : decide ((A1.start : Int) - (A1.text : Nat) ≤ (sz r : Nat) * 12) = false := by rw [decide_eq_false_iff_not]; omega
            have es : ((A1.start - 12 * sz r : Nat) : Int) = (A1.start : Int) - (sz r : Nat) * 12 := by omega
            have hnz : A1.start - 12 * sz r ≠ 0 := by omega
            have ha3 := fun n => (ha2.drewN n).putStart (A1.start - 12 * sz r)
            have ho3 := fun n => (ho2.drewN n).put (g := g) (i := 209) (.inl rfl) (.int .i64 ((A1.start - 12 * sz r : Nat) : Int))
            rw [es] at ha3 ho3
            have hlow := hxi.lower hszp (by omega) (A1.glue - 1) (by omega)
            have HL := Lib.hid hlow
            clear hlow es
            go_quiet (fail)
            go_wp2_with fail
            go_ret
            rw [HRS.out]
            unfold lastM
            rw [if_neg hle]
            refine ⟨?_, ?_, ho3 _⟩
            · have e9 : ((A1.start - 12 * sz r : Nat) : Int) = (A1.start : Int) - (sz r : Nat) * 12 := by omega
              dsimp only
              rw [e9]
              rfl
            · unfold got
              dsimp only
              rw [if_neg hnz]
              exact ⟨HL.out, M, ha3 _, hc⟩
    | cons x l =>
      obtain ⟨M1, ha1, hc1⟩ := hx1.2
      have cr := ha1.row hr
      rw [hrow0] at cr
      have e0 : hd (x :: l) = x := rfl
      rw [e0] at cr
      have hx0 := hx1.inv.free hr (x := x) (by rw [hrow0]; simp)
      have htx := hx1.inv.text
      have hxn : x ≠ 0 := by omega
      have T := take_any hx1 hr hrow0
      rw [hrow0, if_neg (by simp)] at hR
      have HR := Lib.hid hR
      clear ha1 hc1 hR hrow0 hx1
      go_wp2_with fail
      refine T.mono ?_; rintro e w2 ⟨rfl, hx2, ho2⟩
      go_wp2_with fail
      go_ret
      have hR := HR.out
      rw [hR]
      refine ⟨rfl, ?_, ho1.trans ho2⟩
      unfold got
      dsimp only
      rw [e0, if_neg hxn]
      exact hx2
  · have hglue1 : 1 ≤ A.glue := by omega
    unfold rareM at hR
    rw [if_neg hg0] at hR
    have hrest : rest2 A r = R := hR.symm
    have hx1 : Ax w g gm mt A H := ⟨hi, M, ha, hc⟩
    have ho1 : On (two g gm) w w := on_refl _ _
    have hgI : ¬ (A.glue : Int) = 0 := by omega
    clear ha hc hR
    obtain ⟨A1, hA1⟩ : ∃ A1, A1 = A := ⟨_, rfl⟩
    rw [← hA1] at hx1 hrest hglue1 cg hgI
    clear hA1
    go_enter Try.func35, Try.ntmps35
    go_wp2_with fail
    go_loopw [5] (fun i wr => RrL w g gm mt A1 H r i wr) (fun i _ => 38 - (intOf i).toNat)
    case atStart => exact ⟨r + 1, by omega, by omega, by go_num, by rw [show 38 - (r + 1) = 37 - r by omega], hx1, ho1⟩
    case round =>
      clear hx1 ho1
      obtain ⟨k, hk1, hk2, rfl, hfm, hx, ho⟩ := hrel
      have hxi := hx.inv
      by_cases hk : k < 38
      · have hkI : (k : Int) < 38 := by omega
        cases hrow : A1.rows k with
        | nil =>
          obtain ⟨M, ha, hc⟩ := hx.2
          have ck := ha.row hk
          rw [hrow] at ck
          have e0 : hd [] = 0 := rfl
          rw [e0] at ck
          have HX := Lib.hid hx
          clear hx ha hc
          go_wp2_with fail
          go_roundw
          case rel =>
            refine ⟨k + 1, by omega, by omega, by go_num, ?_, HX.out, ho⟩
            rw [← hfm, show 38 - k = 38 - (k + 1) + 1 by omega]
            conv => rhs; unfold findM
            rw [if_pos hrow]
          case measure => simp [intOf]; omega
        | cons x l =>
          obtain ⟨M, ha, hc⟩ := hx.2
          have ck := ha.row hk
          rw [hrow] at ck
          have e0 : hd (x :: l) = x := rfl
          rw [e0] at ck
          have hx0 := hxi.free hk (x := x) (by rw [hrow]; simp)
          have htx := hxi.text
          have hxn : x ≠ 0 := by omega
          have T := take_any hx hk hrow
          have hres : R = (x, restM (takeM A1 k) (x + 12 * sz r) (sz k - sz r)) := by
            rw [← hrest]
            unfold rest2
            have : findM A1.rows (37 - r) (r + 1) = some k := by
              rw [← hfm, show 38 - k = 38 - (k + 1) + 1 by omega]
              unfold findM
              rw [if_neg (by rw [hrow]; simp)]
            rw [this]
            dsimp only
            rw [hrow]
            rfl
          have HR := Lib.hid hres
          clear ha hc hx hres hfm hrest hrow
          go_wp2_with fail
          refine T.mono ?_; rintro e w3 ⟨rfl, hx3, ho3⟩
          have PT := part_any hx3 (show r < k by omega) hk
          clear T hx3
          go_wp2_with fail
          refine PT.mono ?_; rintro e w4 ⟨rfl, hx4, ho4⟩
          go_wp2_with fail
          go_ret
          have hres := HR.out
          rw [hres]
          refine ⟨rfl, ?_, (ho.trans ho3).trans ho4⟩
          unfold got
          rw [if_neg hxn]
          exact hx4
      · obtain rfl : k = 38 := by omega
        have hnone : findM A1.rows (37 - r) (r + 1) = none := hfm.symm
        have HRS := Lib.hid (show R = lastM A1 r by rw [← hrest]; unfold rest2; rw [hnone])
        obtain ⟨M, ha, hc⟩ := hx.2
        have cg := ha.glue
        have cu := ha.units hr
        have fg := ha.free 212
        have hb2 := hxi.ord
        have htx := hxi.text
        have hs2 := hxi.size
        have hgl2 := hxi.glue
        have ha2 := ha.putGlue (A1.glue - 1)
        have ho2 := ho.put (g := g) (i := 212) (.inl rfl) (.int .u32 ((A1.glue - 1 : Nat) : Int))
        have eg : ((A1.glue - 1 : Nat) : Int) = (A1.glue : Int) - 1 := by omega
        have wg : IntKind.u32.wrap ((A1.glue : Int) - 1) = (A1.glue : Int) - 1 := by rw [IntKind.wrap_u32']; omega
        rw [eg] at ha2 ho2
        have ct := ha2.text
        have cs := ha2.start
        have cu2 := ha2.units hr
        have fs := ha2.free 209
        dsimp only at ct cs cu2
        have hszr := sz_le hr
        have hszp := sz_pos r
        clear hfm hrest hnone ha ho
        go_wp2_with fail
        generalize World.setCell _ _ _ = w3 at *
        clear cg cu fg
        by_cases hle : A1.start - A1.text ≤ 12 * sz r
        · have hleI : (A1.start : Int) - (A1.text : Nat) ≤ (sz r : Nat) * 12 := by omega
          go_quiet (fail)
          go_wp2_with fail
          go_ret
          rw [HRS.out]
          unfold lastM
          rw [if_pos hle]
          exact ⟨rfl, ⟨hxi.glue1 _ (by omega), M, ha2.drewN _, hc⟩, ho2.drewN _⟩
        · have hleI : decide ((A1.start : Int) - (A1.text : Nat) ≤ (sz r : Nat) * 12) = false := by rw [decide_eq_false_iff_not]; omega
          have es : ((A1.start - 12 * sz r : Nat) : Int) = (A1.start : Int) - (sz r : Nat) * 12 := by omega
          have hnz : A1.start - 12 * sz r ≠ 0 := by omega
          have ha3 := fun n => (ha2.drewN n).putStart (A1.start - 12 * sz r)
          have ho3 := fun n => (ho2.drewN n).put (g := g) (i := 209) (.inl rfl) (.int .i64 ((A1.start - 12 * sz r : Nat) : Int))
          rw [es] at ha3 ho3
          have hlow := hxi.lower hszp (by omega) (A1.glue - 1) (by omega)
          have HL := Lib.hid hlow
          clear hlow es
          go_quiet (fail)
          go_wp2_with fail
          go_ret
          rw [HRS.out]
          unfold lastM
          rw [if_neg hle]
          refine ⟨?_, ?_, ho3 _⟩
          · have e9 : ((A1.start - 12 * sz r : Nat) : Int) = (A1.start : Int) - (sz r : Nat) * 12 := by omega
            dsimp only
            rw [e9]
            rfl
          · unfold got
            dsimp only
            rw [if_neg hnz]
            exact ⟨HL.out, M, ha3 _, hc⟩
end
end Go.Proofs.Ytplhonlgbidemaa
