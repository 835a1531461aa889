/- ArenaText, walked. -/
import Derived.Test.YtplhonlgbidemaaArBg
import Derived.Test.YtplhonlgbidemaaBytes
namespace Go.Proofs.Ytplhonlgbidemaa
open Go.RowKit

/-- The loop over the units. -/
def TxO (W : World) (x g gm : Nat) (rp mt : Value) (n : Nat) (N : Nat) (i : Value) (wr : World) : Prop :=
  ∃ (k : Nat) (A : AM) (H : List Bk), k ≤ N ∧ i = .int .i64 k ∧ A.size = n ∧ A.text = 1 ∧ Ax wr g gm mt A H ∧ Blk wr x 52 #[.pointer (some ⟨g, 0, none⟩), rp, .slice none 0 0, .bool false] ∧ W.grownBy wr none
/-- The loop over the bytes: k are in the text. -/
def TxP (W : World) (x g gm : Nat) (rp mt : Value) (n len : Nat) (X : Nat → Nat) (m i : Value) (wr : World) : Prop :=
  ∃ (k : Nat) (A : AM) (F M : Nat → Nat), k ≤ len ∧ i = .int .i64 k ∧ m = .int .i64 k ∧ A.size = n ∧ A.text = 1 + k ∧ A.text ≤ A.start ∧ A.start ≤ n + 1 ∧ (k = 0 ∨ A.text < A.start) ∧ (∀ j, j < k → M (1 + j) = X j) ∧ Ar wr g gm mt A F M
    ∧ Blk wr x 52 #[.pointer (some ⟨g, 0, none⟩), rp, .slice none 0 0, .bool false] ∧ W.grownBy wr none

section
set_option maxRecDepth 100000 in
set_option maxHeartbeats 4000000 in
theorem text_walk (s : Nat) (hs : s ≤ 65535) (A0 : Option Addr) (len c : Nat) (X : Nat → Nat) (hlen : len ≤ 9223372036854775807) (ones : Nat) (ho : ones ≤ 255) (w : World) (hB : Bytes w w.heap.size A0 len (fun i => (X i : Int))) :
    Calls Try.prog 5 #[.int .u16 (s : Nat), .slice A0 len c, .int .u8 (ones : Nat)] w fun e w' => e = .returned (.bool true) ∧ w.grownBy w' none := by
  obtain ⟨n, hn⟩ : ∃ n, n = 2048 + s % 12000 := ⟨_, rfl⟩
  go_enter Try.func5, Try.ntmps5
  go_wp2_with fail
  refine (awake_any _).mono ?_; rintro e w0 ⟨rfl, hG0⟩
  have BG := begin_any w0 hs
  rw [← hn] at BG
  go_wp2_with fail
  refine BG.mono ?_; rintro e w1 ⟨x, g, gm, r, b, rfl, hx, hg, hgm, hr, hbx, hax, -, hG1⟩
  have hsz := hG0.size
  have hG := grown_trans hG0 hG1
  have hx : w.heap.size ≤ x := by omega
  have hg : w.heap.size ≤ g := by omega
  have hgm : w.heap.size ≤ gm := by omega
  have hlt := hax.lt
  obtain ⟨⟨csg, hbg⟩, dsg, hbm⟩ := (show Ay False w1 g gm _ _ [] from ⟨hax.ar, False.elim⟩).blk
  have hxg : x ≠ g := hbx.apart hbg (by decide)
  have hxm : x ≠ gm := hbx.apart hbm (by decide)
  have htwo : ¬ two g gm x := by unfold two; omega
  have hfr : ∀ k, two g gm k → w.heap.size ≤ k := by unfold two; omega
  clear BG hG0 hG1 hbg hbm hr
  go_wp2_with fail
  go_loopw [8] (fun i wr => TxO w x g gm (.pointer (some ⟨r, 0, none⟩)) (.pointer (some ⟨b, 0, none⟩)) n ones i wr) (fun i _ => ones - (intOf i).toNat)
  case atStart => exact ⟨0, _, _, by omega, rfl, rfl, rfl, hax, hbx, hG⟩
  case round =>
    clear hax hbx hG
    obtain ⟨k, A, H, hk, rfl, hA1, hA2, hax, hbx, hG⟩ := hrel
    have cx := hbx.cell 0
    simp at cx
    by_cases hko : k < ones
    · have O := one_any hax
      have OS := oneM_same A
      go_wp2_with fail
      refine O.mono ?_; rintro e w2 ⟨rfl, hax2, ho2⟩
      clear O
      go_wp2_with fail
      go_roundw
      case rel => exact ⟨k + 1, _, _, by omega, by go_num, OS.1.trans hA1, OS.2.trans hA2, hax2, hbx.on ho2 htwo, ho2.grown hG hfr⟩
      case measure => simp [intOf]; omega
    · have hord := hax.inv.ord
      have htx := hax.inv.text
      obtain ⟨F, M, ha⟩ := hax.ar
      clear hax
      go_wp2_with fail
      go_loopw [9, 10] (fun m i wr => TxP w x g gm (.pointer (some ⟨r, 0, none⟩)) (.pointer (some ⟨b, 0, none⟩)) n len X m i wr) (fun _ i _ => len - (intOf i).toNat)
      case atStart => exact ⟨0, A, F, M, by omega, rfl, rfl, hA1, hA2, htx.2, by omega, .inl rfl, fun j hj => by omega, ha, hbx, hG⟩
      case round =>
        clear hA1 hA2 hord htx ha hbx hG cx
        obtain ⟨k, A, F, M, hk, rfl, rfl, hA1, hA2, hA3, hA4, hA5, hM, ha, hbx, hG⟩ := hrel
        have cx := hbx.cell 0
        simp at cx
        by_cases hkl : k < len ∧ k < 4000
        · obtain ⟨hkl1, hkl2⟩ := hkl
          have hkI : (k : Int) < len := by omega
          have hkI2 : (k : Int) < 4000 := by omega
          obtain ⟨hXk, b1, o1, rfl, hb1, hcX⟩ := (hB.keep hG (Nat.le_refl _)) k hkl1
          have hXb : X k < 256 := by dsimp only at hXk; omega
          have PU := push_raw (ha.drew) hXb (by omega)
          have hcXd : wr.drew.cell? ⟨b1, o1 + k, none⟩ = some (.int .u8 (X k : Nat)) := hcX
          have cxd : wr.drew.cell? ⟨x, 0, none⟩ = some (.pointer (some ⟨g, 0, none⟩)) := cx
          go_wp2_with fail
          refine wp_region_still_tail 8 (by kernel_rfl) (by kernel_rfl) ?_
          change wpStill _ _ wr.drew (fun a' => wpList _ _ _ _ a' wr.drew) _ _
          simp only [List.take_succ_cons, List.take_zero, List.drop_succ_cons, List.drop_zero]
          repeat still_step
          refine wpStill_nil ?_
          go_wp2_with fail
          refine PU.mono ?_; rintro e w4 ⟨rfl, ha4, ho4⟩
          have hbx4 := (hbx.drew).on ho4 htwo
          have hG4 := ho4.grown (grown_drew hG) hfr
          have hM4 : ∀ j, j < k + 1 → (fun i => if i = A.text then X k else M i) (1 + j) = X j := by
            intro j hj
            dsimp only
            by_cases e : j = k
            · rw [if_pos (by omega), e]
            · rw [if_neg (by omega)]; exact hM j (by omega)
          clear PU ha hbx hG cx hcX hcXd cxd ho4 hM
          by_cases hroom : A.text + 1 < A.start
          · rw [decide_eq_true hroom]
            go_wp2_with fail
            go_roundw
            case rel => exact ⟨k + 1, { A with text := A.text + 1 }, F, fun i => if i = A.text then X k else M i, by omega, by go_num, by go_num, hA1, by show A.text + 1 = 1 + (k + 1); omega, by show A.text + 1 ≤ A.start; omega, hA4, .inr hroom, hM4, ha4, hbx4, hG4⟩
            case measure => simp [intOf]; omega
          · rw [decide_eq_false hroom]
            have cx := hbx4.cell 0
            simp at cx
            obtain ⟨m, hm⟩ : ∃ m, m = k + 1 := ⟨_, rfl⟩
            have hmI : (k : Int) + 1 = (m : Int) := by omega
            have hml : m ≤ len := by omega
            have hm4 : m ≤ n + 1 := by omega
            have hm5 : m ≤ 4000 := by omega
            have hat : ({ A with text := A.text + 1 } : AM).text = 1 + m := by show A.text + 1 = 1 + m; omega
            have has : ({ A with text := A.text + 1 } : AM).size = n := hA1
            rw [← hm] at hM4
            obtain ⟨A', hA'⟩ : ∃ A' : AM, A' = { A with text := A.text + 1 } := ⟨_, rfl⟩
            rw [← hA'] at hat has ha4
            obtain ⟨M', hM'⟩ : ∃ M' : Nat → Nat, M' = fun i => if i = A.text then X k else M i := ⟨_, rfl⟩
            rw [← hM'] at hM4 ha4
            clear hm hA' hM' hA1 hA2 hA3 hA4 hA5 hroom hkI hkI2 hkl1 hkl2 hk
            have ha := ha4
            have hbx := hbx4
            have hG := hG4
            have hM := hM4
            clear ha4 hbx4 hG4 hM4
            go_wp2_with fail
            go_loopw [11] (fun i wr => (∃ j : Nat, j ≤ m ∧ i = .int .i64 j ∧ Ar wr g gm (.pointer (some ⟨b, 0, none⟩)) A' F M' ∧ Blk wr x 52 #[.pointer (some ⟨g, 0, none⟩), .pointer (some ⟨r, 0, none⟩), .slice none 0 0, .bool false] ∧ w.grownBy wr none)) (fun i _ => m - (intOf i).toNat)
            case atStart => exact ⟨0, by omega, rfl, ha, hbx, hG⟩
            case round =>
              clear ha hbx hG cx
              obtain ⟨j, hj, rfl, ha, hbx, hG⟩ := hrel
              have cx := hbx.cell 0
              simp at cx
              by_cases hjm : j < m
              · have hjI : (j : Int) < m := by omega
                obtain ⟨hXj, b2, o2, he, hb2, hcX⟩ := (hB.keep hG (Nat.le_refl _)) j (by omega)
                cases he
                have BY := fun q => (byte_in (ha.drewN q) (p := 1 + j) (by omega)).mono (R' := fun e w'' => e = .returned (.int .u8 (X j : Nat)) ∧ ∃ m, w'' = wr.drewN m) (fun e w'' h => ⟨by rw [h.1, hM j hjm], q, h.2⟩)
                have e1 : ((1 + j : Nat) : Int) = 1 + (j : Int) := by omega
                rw [e1] at BY
                have hjl : (j : Int) < len := by omega
                go_wp2_with fail
                go_quiet ((go_at_call 17; exact BY _))
                go_wp2_with fail
                go_roundw
                case rel => exact ⟨j + 1, by omega, by go_num, ha.drewN _, hbx.drewN _, grown_drewN hG _⟩
                case measure => simp [intOf]; omega
              · obtain rfl : j = m := by omega
                have hjI : ¬ (j : Int) < j := by omega
                have PP := pop_raw ha (by omega) (by omega)
                go_wp2_with fail
                refine PP.mono ?_; rintro e w5 ⟨rfl, ha5, ho5⟩
                have TT := text_any ha5
                have hb5 := (hbx.on ho5 htwo).cell 0
                simp at hb5
                have hG5 := ho5.grown hG hfr
                have et : A'.text - 1 = j := by omega
                dsimp only at TT
                rw [et] at TT
                clear PP ha5 ha hbx hG ho5
                go_wp2_with fail
                refine TT.mono ?_; rintro e w6 ⟨rfl, rfl⟩
                go_wp2_with fail
                go_ret
                exact ⟨rfl, hG5⟩
        · obtain ⟨m, hm⟩ : ∃ m, m = k := ⟨_, rfl⟩
          rw [← hm] at hA2 hM hk hkl
          have hat := hA2
          have has := hA1
          have hml : m ≤ len := hk
          rw [← hm]
          have hend : (¬ (m : Int) < len) ∨ ((m : Int) < len ∧ ¬ (m : Int) < 4000) := by omega
          have hm4 : m ≤ n + 1 := by omega
          clear hm hkl hk hA5 hA3 hA4
          rcases hend with h1 | ⟨h1, h2⟩
          · go_wp2_with fail
            go_loopw [11] (fun i wr => (∃ j : Nat, j ≤ m ∧ i = .int .i64 j ∧ Ar wr g gm (.pointer (some ⟨b, 0, none⟩)) A F M ∧ Blk wr x 52 #[.pointer (some ⟨g, 0, none⟩), .pointer (some ⟨r, 0, none⟩), .slice none 0 0, .bool false] ∧ w.grownBy wr none)) (fun i _ => m - (intOf i).toNat)
            case atStart => exact ⟨0, by omega, rfl, ha, hbx, hG⟩
            case round =>
              clear ha hbx hG cx
              obtain ⟨j, hj, rfl, ha, hbx, hG⟩ := hrel
              have cx := hbx.cell 0
              simp at cx
              by_cases hjm : j < m
              · have hjI : (j : Int) < m := by omega
                obtain ⟨hXj, b2, o2, he, hb2, hcX⟩ := (hB.keep hG (Nat.le_refl _)) j (by omega)
                cases he
                have BY := fun q => (byte_in (ha.drewN q) (p := 1 + j) (by omega)).mono (R' := fun e w'' => e = .returned (.int .u8 (X j : Nat)) ∧ ∃ m, w'' = wr.drewN m) (fun e w'' h => ⟨by rw [h.1, hM j hjm], q, h.2⟩)
                have e1 : ((1 + j : Nat) : Int) = 1 + (j : Int) := by omega
                rw [e1] at BY
                have hjl : (j : Int) < len := by omega
                go_wp2_with fail
                go_quiet ((go_at_call 17; exact BY _))
                go_wp2_with fail
                go_roundw
                case rel => exact ⟨j + 1, by omega, by go_num, ha.drewN _, hbx.drewN _, grown_drewN hG _⟩
                case measure => simp [intOf]; omega
              · obtain rfl : j = m := by omega
                have hjI : ¬ (j : Int) < j := by omega
                have PP := pop_raw ha (by omega) (by omega)
                go_wp2_with fail
                refine PP.mono ?_; rintro e w5 ⟨rfl, ha5, ho5⟩
                have TT := text_any ha5
                have hb5 := (hbx.on ho5 htwo).cell 0
                simp at hb5
                have hG5 := ho5.grown hG hfr
                have et : A.text - 1 = j := by omega
                dsimp only at TT
                rw [et] at TT
                clear PP ha5 ha hbx hG ho5
                go_wp2_with fail
                refine TT.mono ?_; rintro e w6 ⟨rfl, rfl⟩
                go_wp2_with fail
                go_ret
                exact ⟨rfl, hG5⟩
          · go_wp2_with fail
            go_loopw [11] (fun i wr => (∃ j : Nat, j ≤ m ∧ i = .int .i64 j ∧ Ar wr g gm (.pointer (some ⟨b, 0, none⟩)) A F M ∧ Blk wr x 52 #[.pointer (some ⟨g, 0, none⟩), .pointer (some ⟨r, 0, none⟩), .slice none 0 0, .bool false] ∧ w.grownBy wr none)) (fun i _ => m - (intOf i).toNat)
            case atStart => exact ⟨0, by omega, rfl, ha, hbx, hG⟩
            case round =>
              clear ha hbx hG cx
              obtain ⟨j, hj, rfl, ha, hbx, hG⟩ := hrel
              have cx := hbx.cell 0
              simp at cx
              by_cases hjm : j < m
              · have hjI : (j : Int) < m := by omega
                obtain ⟨hXj, b2, o2, he, hb2, hcX⟩ := (hB.keep hG (Nat.le_refl _)) j (by omega)
                cases he
                have BY := fun q => (byte_in (ha.drewN q) (p := 1 + j) (by omega)).mono (R' := fun e w'' => e = .returned (.int .u8 (X j : Nat)) ∧ ∃ m, w'' = wr.drewN m) (fun e w'' h => ⟨by rw [h.1, hM j hjm], q, h.2⟩)
                have e1 : ((1 + j : Nat) : Int) = 1 + (j : Int) := by omega
                rw [e1] at BY
                have hjl : (j : Int) < len := by omega
                go_wp2_with fail
                go_quiet ((go_at_call 17; exact BY _))
                go_wp2_with fail
                go_roundw
                case rel => exact ⟨j + 1, by omega, by go_num, ha.drewN _, hbx.drewN _, grown_drewN hG _⟩
                case measure => simp [intOf]; omega
              · obtain rfl : j = m := by omega
                have hjI : ¬ (j : Int) < j := by omega
                have PP := pop_raw ha (by omega) (by omega)
                go_wp2_with fail
                refine PP.mono ?_; rintro e w5 ⟨rfl, ha5, ho5⟩
                have TT := text_any ha5
                have hb5 := (hbx.on ho5 htwo).cell 0
                simp at hb5
                have hG5 := ho5.grown hG hfr
                have et : A.text - 1 = j := by omega
                dsimp only at TT
                rw [et] at TT
                clear PP ha5 ha hbx hG ho5
                go_wp2_with fail
                refine TT.mono ?_; rintro e w6 ⟨rfl, rfl⟩
                go_wp2_with fail
                go_ret
                exact ⟨rfl, hG5⟩
theorem text_int (s o : Int) (hs : 0 ≤ s ∧ s ≤ 65535) (ho : 0 ≤ o ∧ o ≤ 255) (A0 : Option Addr) (len c : Nat) (X : Nat → Int) (hlen : len ≤ 9223372036854775807) (w : World) (hB : Bytes w w.heap.size A0 len X) :
    Calls Try.prog 5 #[.int .u16 s, .slice A0 len c, .int .u8 o] w fun e w' => e = .returned (.bool true) ∧ w.grownBy w' none := by
  obtain ⟨s, rfl⟩ := Int.eq_ofNat_of_zero_le hs.1
  obtain ⟨o, rfl⟩ := Int.eq_ofNat_of_zero_le ho.1
  refine text_walk s (by omega) A0 len c (fun i => (X i).toNat) hlen o (by omega) w (fun i hi => ?_)
  obtain ⟨h1, b, off, h2, h3, h4⟩ := hB i hi
  have e : (((X i).toNat : Nat) : Int) = X i := by omega
  exact ⟨by dsimp only; rw [e]; exact h1, b, off, h2, h3, by dsimp only; rw [e]; exact h4⟩
end
end Go.Proofs.Ytplhonlgbidemaa
