/- WindowMem, walked. -/
import Derived.Test.YtpofgfomccmijaaWnA
namespace Go.Proofs.Ytpofgfomccmijaa
open Go.RowKit

/-- What the loop of WindowMem keeps: open at first, closed behind a round. -/
def Wme (W : World) (gw gr gm n t : Nat) (m1 m2 : Mt) (i : Value) (wr : World) : Prop :=
  ∃ k : Nat, k ≤ t ∧ i = .int .i64 k ∧ ((k = 0 ∧ Wnd wr gw gr gm n [] ∧ Mtr wr gm m1) ∨ (0 < k ∧ Wsh wr gw gm ∧ Mtr wr gm m2)) ∧ W.grownBy wr none

theorem sh_keep {w w' : World} {gw gm : Nat} {row : Option Nat} (h : Wsh w gw gm) (hg : w.grownBy w' row) (h1 : some gw ≠ row) : Wsh w' gw gm := Blk.grown h hg h1

section
attribute [local go_sem ↓] run_mx
set_option maxRecDepth 100000 in
set_option maxHeartbeats 8000000 in
theorem wmem_walk (s q t : Int) (hs : -9223372036854775808 ≤ s ∧ s ≤ 9223372036854775807) (hq : -9223372036854775808 ≤ q ∧ q ≤ 9223372036854775807) (ht : 0 ≤ t ∧ t ≤ 255) (w : World) :
    Calls Try.prog 6 #[.int .i64 s, .int .i64 q, .int .u8 t] w fun e w' => e = .returned (.bool true) ∧ w.grownBy w' none := by
  obtain ⟨ht0, ht1⟩ := ht
  obtain ⟨hs0, hs1⟩ := hs
  obtain ⟨hq0, hq1⟩ := hq
  by_cases hb : 1048576 < s
  · have hs9 : 0 ≤ s := by omega
    obtain ⟨n, hn⟩ : ∃ n : Nat, (n : Int) = max (s % 1048576) 1 := ⟨(max (s % 1048576) 1).toNat, by omega⟩
    have hn1 : 1 ≤ n ∧ n ≤ 1048576 := by omega
    obtain ⟨hn1, hn2⟩ := hn1
    have hmx : mx (s % 1048576) 1 = (n : Int) := by unfold mx; omega
    have g0 := new_good1 q (by omega)
    have N := fun w => new_ex q 0 0 0 0 w
    have hcd : (Mt.new q 0 0 0 0).cd = 0 := rfl
    have hqm : (Mt.new q 0 0 0 0).qm = max q 0 := rfl
    have hum : (Mt.new q 0 0 0 0).um = 0 := rfl
    have hpk : (Mt.new q 0 0 0 0).pk = 0 := rfl
    generalize Mt.new q 0 0 0 0 = m0 at *
    by_cases hq : q < (n : Int)
    · have ym : may m0.cd m0.qm m0.um n = false ∧ used m0.cd m0.qm m0.um n = m0.um ∧ ∀ c, code m0.cd m0.qm m0.um n c = c := may_no hcd (by rw [hqm, hum]; omega)
      obtain ⟨y1, y2, y3⟩ := ym
      have e1 : (m0.mem n).cd = 101 := y3 101
      have e2 : (m0.mem n).um = 0 := y2.trans hum
      have H1 := Lib.hid e1
      have H2 := Lib.hid y1
      have H3 := Lib.hid hn.symm
      have HV : Hid ((m0.mem n).usedV = .agg #[.int .i64 0, .int .i64 (m0.mem n).pk, .int .i64 (m0.mem n).uo, .int .i64 (m0.mem n).uf, .int .i64 (m0.mem n).ud, .int .i64 (m0.mem n).us]) := Lib.hid (by unfold Mt.usedV; rw [e2])
      clear y1 y2 y3 e1 e2 hcd hqm hum hpk hn
      have F := used_f0
      go_enter Try.func6, Try.ntmps6
      go_wp2_with fail
      refine (awake_any _).mono ?_; rintro e w0 ⟨rfl, hw0⟩
      go_wp2_with fail
      refine (N w0).mono ?_; rintro e w1 ⟨gm, rfl, l1, m1, hw1⟩
      have WN := wnew_no (s % 1048576) (n : Int) H3.out m1 g0 H2.out
      rw [H1.out] at WN
      have l0 := hw0.size
      have hw1 := grown_two hw0 hw1
      clear N g0 hw0
      go_wp2_with fail
      refine WN.mono ?_; rintro e w2 ⟨rfl, m2, hw2⟩
      have hG := grown_own hw1 (by omega) hw2
      clear WN hw1 hw2 m1
      go_wp2_with fail
      refine (used_to _ HV.out m2).mono ?_; rintro e w3 ⟨rfl, hw3⟩
      have m3 := m2.grown hw3 (by simp)
      have hG := grown_two hG hw3
      go_wp2_with fail
      refine (code_to 101 H1.out m3).mono ?_; rintro e w4 ⟨rfl, rfl⟩
      go_wp2_with fail
      go_ret
      exact ⟨by simp, hG⟩
    · have ym := may_yes (cd := m0.cd) (q := m0.qm) (u := m0.um) (n := n) hcd (by rw [hqm, hum]; omega)
      obtain ⟨y1, y2, y3⟩ := ym
      have g1 := mem_good g0 (n : Int)
      have g2 := free_good g1 (n : Int)
      have e1 : (m0.mem n).cd = 0 := y3 101
      have e2 : (m0.mem n).um = n := y2.trans (by rw [hum]; omega)
      have e3 : (m0.mem n).pk = n := by show max m0.pk (used m0.cd m0.qm m0.um n) = n; rw [y2, hum, hpk]; omega
      have e4 : ((m0.mem n).free n).um = 0 := by show (m0.mem n).um - min (max (n : Int) 0) (m0.mem n).um = 0; rw [e2]; omega
      have e5 : ((m0.mem n).free n).cd = 0 := e1
      have e6 : ((m0.mem n).free n).pk = n := e3
      have Y := Lib.hid y1
      have H3 := Lib.hid hn.symm
      have V1 : Hid ((m0.mem n).usedV = .agg #[.int .i64 n, .int .i64 n, .int .i64 (m0.mem n).uo, .int .i64 (m0.mem n).uf, .int .i64 (m0.mem n).ud, .int .i64 (m0.mem n).us]) := Lib.hid (by unfold Mt.usedV; rw [e2, e3])
      have V2 : Hid (((m0.mem n).free n).usedV = .agg #[.int .i64 0, .int .i64 n, .int .i64 (m0.mem n).uo, .int .i64 (m0.mem n).uf, .int .i64 (m0.mem n).ud, .int .i64 (m0.mem n).us]) := Lib.hid (by unfold Mt.usedV; rw [e4, e6]; rfl)
      have C1 := Lib.hid e1
      have C2 := Lib.hid e5
      clear y1 y2 y3 e1 e2 e3 e4 e5 e6 hcd hqm hum hpk hn
      have F0 := used_f0
      have F1 := used_f1
      go_enter Try.func6, Try.ntmps6
      go_wp2_with fail
      refine (awake_any _).mono ?_; rintro e w0 ⟨rfl, hw0⟩
      go_wp2_with fail
      refine (N w0).mono ?_; rintro e w1 ⟨gm, rfl, l1, m1, hw1⟩
      have WN := wnew_yes (s % 1048576) n H3.out (by omega) m1 g0 Y.out
      have l0 := hw0.size
      have lm := Blk.lt m1
      have l9 := hw1.size
      have hw1 := grown_two hw0 hw1
      clear N g0 hw0
      go_wp2_with fail
      refine WN.mono ?_; rintro e w2 ⟨gw, gr, rfl, l2, l3, h2, m2, hw2⟩
      have hG := grown_own hw1 (by omega) hw2
      have l4 : w.heap.size ≤ gm := by omega
      have l5 : gm < gr := by omega
      clear WN hw1 hw2 m1 l1 lm l9 l2 l0
      go_wp2_with fail
      refine (used_to _ V1.out m2).mono ?_; rintro e w3 ⟨rfl, hw3⟩
      have m3 := m2.grown hw3 (by simp)
      have h3 := h2.keep hw3 (by simp) (by simp)
      have hG := grown_two hG hw3
      clear m2 h2 hw3
      go_wp2_with fail
      obtain ⟨mf, hmf⟩ : ∃ mf, mf = (m0.mem n).free n := ⟨_, rfl⟩
      rw [← hmf] at g2 V2 C2
      have HMF := Lib.hid hmf
      clear hmf
      generalize m0.mem n = mm at *
      go_loopw [11] (fun i wr => Wme w gw gr gm n (t % 4).toNat mm mf i wr) (fun i _ => (t % 4).toNat - (intOf i).toNat)
      case atStart => exact ⟨0, by omega, rfl, .inl ⟨rfl, h3, m3⟩, hG⟩
      case round =>
        obtain ⟨k, hk, rfl, hcase, hgr⟩ := hrel
        clear h3 m3 hG
        by_cases hlt : (k : Int) < t % 4
        · have CL : Calls Try.prog 20 #[.pointer (some ⟨gw, 0, none⟩)] wr fun e w' => e = .returned (.tuple #[]) ∧ Wsh w' gw gm ∧ Mtr w' gm mf ∧ Fr [gw, gm] wr w' := by
            rcases hcase with ⟨_, h1, h2⟩ | ⟨_, h1, h2⟩
            · rw [HMF.out]; exact close_any h1 h2 g1 (by omega)
            · exact closed_close h1 h2 g2 (by omega)
          clear hcase
          go_wp2_with fail
          refine CL.mono ?_; rintro e w4 ⟨rfl, h4, m4, hf4⟩
          have hG := hf4.own hgr (by intro g hg; simp at hg; omega)
          clear CL hf4 hgr
          go_wp2_with fail
          refine (closed_put 5 h4).mono ?_; rintro e w5 ⟨rfl, rfl⟩
          go_wp2_with fail
          refine (used_to _ V2.out m4).mono ?_; rintro e w5 ⟨rfl, hw5⟩
          have m5 := m4.grown hw5 (by simp)
          have h5 := sh_keep h4 hw5 (by simp)
          have hG := grown_two hG hw5
          clear m4 h4 hw5
          go_wp2_with fail
          refine (closed_has 0 h5).mono ?_; rintro e w6 ⟨rfl, rfl⟩
          go_wp2_with fail
          refine (closed_copy 0 h5).mono ?_; rintro e w6 ⟨rfl, rfl⟩
          go_wp2_with fail
          refine (closed_count h5).mono ?_; rintro e w6 ⟨rfl, rfl⟩
          go_wp2_with fail
          go_roundw
          case rel => exact ⟨k + 1, by omega, by go_num, .inr ⟨by omega, h5, m5⟩, hG⟩
          case measure => simp [intOf]; omega
        · rcases hcase with ⟨_, h1, h2⟩ | ⟨_, h1, h2⟩
          · go_wp2_with fail
            refine (code_to 0 C1.out h2).mono ?_; rintro e w4 ⟨rfl, rfl⟩
            go_wp2_with fail
            refine (used_to _ V1.out h2).mono ?_; rintro e w4 ⟨rfl, hw4⟩
            have hG := grown_two hgr hw4
            go_wp2_with fail
            go_ret
            exact ⟨by simp, hG⟩
          · go_wp2_with fail
            refine (code_to 0 C2.out h2).mono ?_; rintro e w4 ⟨rfl, rfl⟩
            go_wp2_with fail
            refine (used_to _ V2.out h2).mono ?_; rintro e w4 ⟨rfl, hw4⟩
            have hG := grown_two hgr hw4
            go_wp2_with fail
            go_ret
            exact ⟨by simp, hG⟩
  · obtain ⟨n, hn⟩ : ∃ n : Nat, (n : Int) = max s 1 := ⟨(max s 1).toNat, by omega⟩
    have hn1 : 1 ≤ n ∧ n ≤ 1048576 := by omega
    obtain ⟨hn1, hn2⟩ := hn1
    have hmx : mx s 1 = (n : Int) := by unfold mx; omega
    have g0 := new_good1 q (by omega)
    have N := fun w => new_ex q 0 0 0 0 w
    have hcd : (Mt.new q 0 0 0 0).cd = 0 := rfl
    have hqm : (Mt.new q 0 0 0 0).qm = max q 0 := rfl
    have hum : (Mt.new q 0 0 0 0).um = 0 := rfl
    have hpk : (Mt.new q 0 0 0 0).pk = 0 := rfl
    generalize Mt.new q 0 0 0 0 = m0 at *
    by_cases hq : q < (n : Int)
    · have ym : may m0.cd m0.qm m0.um n = false ∧ used m0.cd m0.qm m0.um n = m0.um ∧ ∀ c, code m0.cd m0.qm m0.um n c = c := may_no hcd (by rw [hqm, hum]; omega)
      obtain ⟨y1, y2, y3⟩ := ym
      have e1 : (m0.mem n).cd = 101 := y3 101
      have e2 : (m0.mem n).um = 0 := y2.trans hum
      have H1 := Lib.hid e1
      have H2 := Lib.hid y1
      have H3 := Lib.hid hn.symm
      have HV : Hid ((m0.mem n).usedV = .agg #[.int .i64 0, .int .i64 (m0.mem n).pk, .int .i64 (m0.mem n).uo, .int .i64 (m0.mem n).uf, .int .i64 (m0.mem n).ud, .int .i64 (m0.mem n).us]) := Lib.hid (by unfold Mt.usedV; rw [e2])
      clear y1 y2 y3 e1 e2 hcd hqm hum hpk hn
      have F := used_f0
      go_enter Try.func6, Try.ntmps6
      go_wp2_with fail
      refine (awake_any _).mono ?_; rintro e w0 ⟨rfl, hw0⟩
      go_wp2_with fail
      refine (N w0).mono ?_; rintro e w1 ⟨gm, rfl, l1, m1, hw1⟩
      have WN := wnew_no s (n : Int) H3.out m1 g0 H2.out
      rw [H1.out] at WN
      have l0 := hw0.size
      have hw1 := grown_two hw0 hw1
      clear N g0 hw0
      go_wp2_with fail
      refine WN.mono ?_; rintro e w2 ⟨rfl, m2, hw2⟩
      have hG := grown_own hw1 (by omega) hw2
      clear WN hw1 hw2 m1
      go_wp2_with fail
      refine (used_to _ HV.out m2).mono ?_; rintro e w3 ⟨rfl, hw3⟩
      have m3 := m2.grown hw3 (by simp)
      have hG := grown_two hG hw3
      go_wp2_with fail
      refine (code_to 101 H1.out m3).mono ?_; rintro e w4 ⟨rfl, rfl⟩
      go_wp2_with fail
      go_ret
      exact ⟨by simp, hG⟩
    · have ym := may_yes (cd := m0.cd) (q := m0.qm) (u := m0.um) (n := n) hcd (by rw [hqm, hum]; omega)
      obtain ⟨y1, y2, y3⟩ := ym
      have g1 := mem_good g0 (n : Int)
      have g2 := free_good g1 (n : Int)
      have e1 : (m0.mem n).cd = 0 := y3 101
      have e2 : (m0.mem n).um = n := y2.trans (by rw [hum]; omega)
      have e3 : (m0.mem n).pk = n := by show max m0.pk (used m0.cd m0.qm m0.um n) = n; rw [y2, hum, hpk]; omega
      have e4 : ((m0.mem n).free n).um = 0 := by show (m0.mem n).um - min (max (n : Int) 0) (m0.mem n).um = 0; rw [e2]; omega
      have e5 : ((m0.mem n).free n).cd = 0 := e1
      have e6 : ((m0.mem n).free n).pk = n := e3
      have Y := Lib.hid y1
      have H3 := Lib.hid hn.symm
      have V1 : Hid ((m0.mem n).usedV = .agg #[.int .i64 n, .int .i64 n, .int .i64 (m0.mem n).uo, .int .i64 (m0.mem n).uf, .int .i64 (m0.mem n).ud, .int .i64 (m0.mem n).us]) := Lib.hid (by unfold Mt.usedV; rw [e2, e3])
      have V2 : Hid (((m0.mem n).free n).usedV = .agg #[.int .i64 0, .int .i64 n, .int .i64 (m0.mem n).uo, .int .i64 (m0.mem n).uf, .int .i64 (m0.mem n).ud, .int .i64 (m0.mem n).us]) := Lib.hid (by unfold Mt.usedV; rw [e4, e6]; rfl)
      have C1 := Lib.hid e1
      have C2 := Lib.hid e5
      clear y1 y2 y3 e1 e2 e3 e4 e5 e6 hcd hqm hum hpk hn
      have F0 := used_f0
      have F1 := used_f1
      go_enter Try.func6, Try.ntmps6
      go_wp2_with fail
      refine (awake_any _).mono ?_; rintro e w0 ⟨rfl, hw0⟩
      go_wp2_with fail
      refine (N w0).mono ?_; rintro e w1 ⟨gm, rfl, l1, m1, hw1⟩
      have WN := wnew_yes s n H3.out (by omega) m1 g0 Y.out
      have l0 := hw0.size
      have lm := Blk.lt m1
      have l9 := hw1.size
      have hw1 := grown_two hw0 hw1
      clear N g0 hw0
      go_wp2_with fail
      refine WN.mono ?_; rintro e w2 ⟨gw, gr, rfl, l2, l3, h2, m2, hw2⟩
      have hG := grown_own hw1 (by omega) hw2
      have l4 : w.heap.size ≤ gm := by omega
      have l5 : gm < gr := by omega
      clear WN hw1 hw2 m1 l1 lm l9 l2 l0
      go_wp2_with fail
      refine (used_to _ V1.out m2).mono ?_; rintro e w3 ⟨rfl, hw3⟩
      have m3 := m2.grown hw3 (by simp)
      have h3 := h2.keep hw3 (by simp) (by simp)
      have hG := grown_two hG hw3
      clear m2 h2 hw3
      go_wp2_with fail
      obtain ⟨mf, hmf⟩ : ∃ mf, mf = (m0.mem n).free n := ⟨_, rfl⟩
      rw [← hmf] at g2 V2 C2
      have HMF := Lib.hid hmf
      clear hmf
      generalize m0.mem n = mm at *
      go_loopw [11] (fun i wr => Wme w gw gr gm n (t % 4).toNat mm mf i wr) (fun i _ => (t % 4).toNat - (intOf i).toNat)
      case atStart => exact ⟨0, by omega, rfl, .inl ⟨rfl, h3, m3⟩, hG⟩
      case round =>
        obtain ⟨k, hk, rfl, hcase, hgr⟩ := hrel
        clear h3 m3 hG
        by_cases hlt : (k : Int) < t % 4
        · have CL : Calls Try.prog 20 #[.pointer (some ⟨gw, 0, none⟩)] wr fun e w' => e = .returned (.tuple #[]) ∧ Wsh w' gw gm ∧ Mtr w' gm mf ∧ Fr [gw, gm] wr w' := by
            rcases hcase with ⟨_, h1, h2⟩ | ⟨_, h1, h2⟩
            · rw [HMF.out]; exact close_any h1 h2 g1 (by omega)
            · exact closed_close h1 h2 g2 (by omega)
          clear hcase
          go_wp2_with fail
          refine CL.mono ?_; rintro e w4 ⟨rfl, h4, m4, hf4⟩
          have hG := hf4.own hgr (by intro g hg; simp at hg; omega)
          clear CL hf4 hgr
          go_wp2_with fail
          refine (closed_put 5 h4).mono ?_; rintro e w5 ⟨rfl, rfl⟩
          go_wp2_with fail
          refine (used_to _ V2.out m4).mono ?_; rintro e w5 ⟨rfl, hw5⟩
          have m5 := m4.grown hw5 (by simp)
          have h5 := sh_keep h4 hw5 (by simp)
          have hG := grown_two hG hw5
          clear m4 h4 hw5
          go_wp2_with fail
          refine (closed_has 0 h5).mono ?_; rintro e w6 ⟨rfl, rfl⟩
          go_wp2_with fail
          refine (closed_copy 0 h5).mono ?_; rintro e w6 ⟨rfl, rfl⟩
          go_wp2_with fail
          refine (closed_count h5).mono ?_; rintro e w6 ⟨rfl, rfl⟩
          go_wp2_with fail
          go_roundw
          case rel => exact ⟨k + 1, by omega, by go_num, .inr ⟨by omega, h5, m5⟩, hG⟩
          case measure => simp [intOf]; omega
        · rcases hcase with ⟨_, h1, h2⟩ | ⟨_, h1, h2⟩
          · go_wp2_with fail
            refine (code_to 0 C1.out h2).mono ?_; rintro e w4 ⟨rfl, rfl⟩
            go_wp2_with fail
            refine (used_to _ V1.out h2).mono ?_; rintro e w4 ⟨rfl, hw4⟩
            have hG := grown_two hgr hw4
            go_wp2_with fail
            go_ret
            exact ⟨by simp, hG⟩
          · go_wp2_with fail
            refine (code_to 0 C2.out h2).mono ?_; rintro e w4 ⟨rfl, rfl⟩
            go_wp2_with fail
            refine (used_to _ V2.out h2).mono ?_; rintro e w4 ⟨rfl, hw4⟩
            have hG := grown_two hgr hw4
            go_wp2_with fail
            go_ret
            exact ⟨by simp, hG⟩
end
end Go.Proofs.Ytpofgfomccmijaa
