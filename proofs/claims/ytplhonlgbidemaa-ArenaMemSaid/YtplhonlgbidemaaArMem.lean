/- Close, what is closed, ArenaMem. -/
import Derived.Test.YtplhonlgbidemaaArA
namespace Go.Proofs.Ytplhonlgbidemaa
open Go.RowKit

section
variable {w : World} {g : Nat}
theorem shut_yes (c0 : w.cell? ⟨g, 0, none⟩ = some (.slice none 0 0)) :
    Calls Try.prog 33 #[.pointer (some ⟨g, 0, none⟩)] w fun e w' => e = .returned (.bool true) ∧ w' = w := by
  go_enter Try.func33, Try.ntmps33
  go_wp2_with fail
  go_ret
  exact ⟨rfl, rfl⟩
theorem units_shut (c0 : w.cell? ⟨g, 0, none⟩ = some (.slice none 0 0)) :
    Calls Try.prog 12 #[.pointer (some ⟨g, 0, none⟩), .int .i64 1] w fun e w' => e = .returned (.int .i64 0) ∧ w' = w := by
  have S := shut_yes c0
  go_enter Try.func12, Try.ntmps12
  go_wp2_with fail
  refine S.mono ?_; rintro e w1 ⟨rfl, rfl⟩
  go_wp2_with fail
  go_ret
  exact ⟨rfl, rfl⟩
theorem one_shut (c0 : w.cell? ⟨g, 0, none⟩ = some (.slice none 0 0)) :
    Calls Try.prog 13 #[.pointer (some ⟨g, 0, none⟩)] w fun e w' => e = .returned (.int .i64 0) ∧ w' = w := by
  have S := shut_yes c0
  go_enter Try.func13, Try.ntmps13
  go_wp2_with fail
  refine S.mono ?_; rintro e w1 ⟨rfl, rfl⟩
  go_wp2_with fail
  go_ret
  exact ⟨rfl, rfl⟩
theorem push_shut (b : Int) (c0 : w.cell? ⟨g, 0, none⟩ = some (.slice none 0 0)) :
    Calls Try.prog 22 #[.pointer (some ⟨g, 0, none⟩), .int .u8 b] w fun e w' => e = .returned (.bool false) ∧ w' = w := by
  have S := shut_yes c0
  go_enter Try.func22, Try.ntmps22
  go_wp2_with fail
  refine S.mono ?_; rintro e w1 ⟨rfl, rfl⟩
  go_wp2_with fail
  go_ret
  exact ⟨rfl, rfl⟩
theorem byte_shut (c0 : w.cell? ⟨g, 0, none⟩ = some (.slice none 0 0)) :
    Calls Try.prog 17 #[.pointer (some ⟨g, 0, none⟩), .int .i64 1] w fun e w' => e = .returned (.int .u8 0) ∧ w' = w := by
  go_enter Try.func17, Try.ntmps17
  go_wp2_with fail
  go_ret
  exact ⟨rfl, rfl⟩
theorem close_shut (c0 : w.cell? ⟨g, 0, none⟩ = some (.slice none 0 0)) :
    Calls Try.prog 27 #[.pointer (some ⟨g, 0, none⟩)] w fun e w' => e = .returned (.tuple #[]) ∧ w' = w := by
  have S := shut_yes c0
  go_enter Try.func27, Try.ntmps27
  go_wp2_with fail
  refine S.mono ?_; rintro e w1 ⟨rfl, rfl⟩
  go_wp2_with fail
  go_end0
  exact ⟨rfl, rfl⟩
set_option maxRecDepth 100000 in
set_option maxHeartbeats 1000000 in
theorem close_any {gm b : Nat} {A : AM} {H : List Bk} {m m' : Mt} (h : Ax w g gm (.pointer (some ⟨b, 0, none⟩)) A H) (hm : Mtr w b m) (hg : m.Good) (hb : b ≠ g) (he : m.free ((A.size : Int) + 12) = m') :
    Calls Try.prog 27 #[.pointer (some ⟨g, 0, none⟩)] w fun e w' => e = .returned (.tuple #[]) ∧ w'.cell? ⟨g, 0, none⟩ = some (.slice none 0 0) ∧ Mtr w' b m' ∧ On (fun k => k = g ∨ k = b) w w' := by
  have S := shut_no h
  obtain ⟨F, M, ha⟩ := h.ar
  have hs := ha.small
  have FR := free_to ((A.size : Int) + 12) (by omega) he hg (show Mtr w.drew b m from hm)
  have c1 := ha.drew.siz
  have c2 := ha.drew.meter
  obtain ⟨cs, ds, hblk, -, hcs0, -⟩ := ha
  go_enter Try.func27, Try.ntmps27
  go_wp2_with fail
  refine S.mono ?_; rintro e w1 ⟨rfl, rfl⟩
  go_wp2_with fail
  refine wp_region_still_tail 9 (by kernel_rfl) (by kernel_rfl) ?_
  change wpStill _ _ w1.drew (fun a' => wpList _ _ _ _ a' w1.drew) _ _
  have v1 : IntKind.i64.wrap ((A.size : Int) + 12) = (A.size : Int) + 12 := by rw [IntKind.wrap_i64]; omega
  simp only [List.take_succ_cons, List.take_zero, List.drop_succ_cons, List.drop_zero]
  repeat still_step
  refine wpStill_nil ?_
  go_wp2_with fail
  refine FR.mono ?_; rintro e w2 ⟨rfl, hm2, hG2, -⟩
  have hb2 : Blk w2 g 69 cs := Blk.grown (hblk.drew) hG2 (by simp; omega)
  have c3 := hb2.cell 0
  rw [hcs0] at c3
  have f3 := hb2.free 0
  have hb3 := hb2.put 0 (.slice none 0 0)
  have c4 := hb3.cell 0
  rw [get_set cs _ hcs0, if_pos rfl] at c4
  have hm3 := Blk.far (p := ⟨g, 0, none⟩) hm2 (by simpa using hb) (.slice none 0 0)
  have o3 : On (fun k => k = g ∨ k = b) w1 (w2.setCell ⟨g, 0, none⟩ (.slice none 0 0)) := (((on_refl _ w1).drew).trans (On.of_grown hG2 (fun k e => by cases e; exact .inr rfl))).put (g := g) (i := 0) (.inl rfl) _
  clear hb2 hb3 hG2 S FR hblk hcs0
  go_wp2_with fail
  go_end0
  exact ⟨rfl, c4, hm3, o3⟩
/-- New, of a size that may not be. -/
theorem anew_props {b : Option Addr} {s : Int} (hs : s < 2048 ∨ 4294967259 < s) :
    Calls Try.prog 10 #[.int .i64 s, .pointer b] w fun e w' => e = .returned (.tuple #[.pointer none, .int .i64 11]) ∧ w' = w := by
  by_cases h1 : s < 2048
  · go_enter Try.func10, Try.ntmps10
    go_wp2_with fail
    go_ret2
    exact ⟨rfl, rfl⟩
  · have h2 : 4294967259 < s := by omega
    go_enter Try.func10, Try.ntmps10
    go_wp2_with fail
    go_ret2
    exact ⟨rfl, rfl⟩
/-- New, where there is too little memory. -/
theorem anew_none {b : Nat} {s : Int} {m m' : Mt} (h1 : 2048 ≤ s) (h2 : s ≤ 16777216) (hm : Mtr w b m) (hg : m.Good) (hy : may m.cd m.qm m.um (s + 12) = false) (he : m.mem (s + 12) = m') :
    Calls Try.prog 10 #[.int .i64 s, .pointer (some ⟨b, 0, none⟩)] w fun e w' => e = .returned (.tuple #[.pointer none, .int .i64 m'.cd]) ∧ Mtr w' b m' ∧ w.grownBy w' (some b) := by
  have U := mem_to (s + 12) false hy he hg hm
  have b1 : ¬ s < 2048 := by omega
  have b2 : ¬ 4294967259 < s := by omega
  go_enter Try.func10, Try.ntmps10
  go_wp2_with fail
  refine U.mono ?_; rintro e w1 ⟨rfl, m1, hw1, -⟩
  go_wp2_with fail
  refine (code_any m1).mono ?_; rintro e w2 ⟨rfl, rfl⟩
  go_wp2_with fail
  go_ret2
  exact ⟨rfl, m1, hw1⟩
set_option maxRecDepth 100000 in
set_option maxHeartbeats 4000000 in
theorem amem_walk (s q : Int) (hs : -9223372036854775808 ≤ s ∧ s ≤ 9223372036854775807) (hq : -9223372036854775808 ≤ q ∧ q ≤ 9223372036854775807) (w : World) :
    Calls Try.prog 6 #[.int .i64 s, .int .i64 q] w fun e w' => e = .returned (.bool true) ∧ w.grownBy w' none := by
  have N0 := fun w => new_ex q 0 0 0 0 w
  have g0 : (Mt.new q 0 0 0 0).Good := new_good q 0 0 0 0 hq.2 (by omega) (by omega) (by omega) (by omega)
  have hcd : (Mt.new q 0 0 0 0).cd = 0 := rfl
  have hqm : (Mt.new q 0 0 0 0).qm = max q 0 := rfl
  have hum : (Mt.new q 0 0 0 0).um = 0 := rfl
  have hpk : (Mt.new q 0 0 0 0).pk = 0 := rfl
  generalize Mt.new q 0 0 0 0 = m0 at *
  have F0 := used_f0
  have F1 := used_f1
  obtain ⟨hs0, hs1⟩ := hs
  obtain ⟨hq0, hq1⟩ := hq
  by_cases hpr : s < 2048 ∨ 4294967296 < s
  · have HV : Hid (m0.usedV = .agg #[.int .i64 m0.um, .int .i64 0, .int .i64 m0.uo, .int .i64 m0.uf, .int .i64 m0.ud, .int .i64 m0.us]) := Lib.hid (by unfold Mt.usedV; rw [hpk])
    have NN := fun w b => anew_props (w := w) (b := b) (s := s) (by omega)
    clear hcd hqm hum hpk
    by_cases hlo : s < 2048
    · have b1 : ¬ 1048576 < s := by omega
      clear hpr
      go_enter Try.func6, Try.ntmps6
      go_wp2_with fail
      refine (awake_any _).mono ?_; rintro e w0 ⟨rfl, hw0⟩
      go_wp2_with fail
      refine (N0 w0).mono ?_; rintro e w1 ⟨b, rfl, l1, m1', hw1⟩
      have hw1 := grown_trans hw0 hw1
      go_wp2_with fail
      refine (NN _ _).mono ?_; rintro e w2 ⟨rfl, rfl⟩
      go_wp2_with fail
      refine (used_to _ HV.out m1').mono ?_; rintro e w3 ⟨rfl, hw3⟩
      go_wp2_with fail
      go_ret
      exact ⟨rfl, grown_two hw1 hw3⟩
    · have b1 : 1048576 < s := by omega
      have b2 : ¬ s ≤ 4294967296 := by omega
      have b3 : 4294967259 < s := by omega
      clear hpr
      go_enter Try.func6, Try.ntmps6
      go_wp2_with fail
      refine (awake_any _).mono ?_; rintro e w0 ⟨rfl, hw0⟩
      go_wp2_with fail
      refine (N0 w0).mono ?_; rintro e w1 ⟨b, rfl, l1, m1', hw1⟩
      have hw1 := grown_trans hw0 hw1
      go_wp2_with fail
      refine (NN _ _).mono ?_; rintro e w2 ⟨rfl, rfl⟩
      go_wp2_with fail
      refine (used_to _ HV.out m1').mono ?_; rintro e w3 ⟨rfl, hw3⟩
      go_wp2_with fail
      go_ret
      exact ⟨rfl, grown_two hw1 hw3⟩
  · by_cases hbig : 1048576 < s
    · have b1 : s ≤ 4294967296 := by omega
      obtain ⟨n, hn⟩ : ∃ n : Nat, n = 1048576 := ⟨_, rfl⟩
      have hnI : (n : Int) = 1048576 := by omega
      clear hpr
      by_cases hmem : q < (n : Int) + 12
      · have ym : may m0.cd m0.qm m0.um ((n : Int) + 12) = false ∧ used m0.cd m0.qm m0.um ((n : Int) + 12) = m0.um ∧ ∀ c, code m0.cd m0.qm m0.um ((n : Int) + 12) c = c := may_no hcd (by rw [hqm, hum]; omega)
        obtain ⟨y1, y2, y3⟩ := ym
        have e1 : (m0.mem ((n : Int) + 12)).cd = 101 := y3 101
        have e2 : (m0.mem ((n : Int) + 12)).um = 0 := y2.trans hum
        have NN := fun w b hm => anew_none (w := w) (b := b) (s := (n : Int)) (m := m0) (by omega) (by omega) hm g0 y1 rfl
        rw [e1] at NN
        have HV : Hid ((m0.mem ((n : Int) + 12)).usedV = .agg #[.int .i64 0, .int .i64 (m0.mem ((n : Int) + 12)).pk, .int .i64 (m0.mem ((n : Int) + 12)).uo, .int .i64 (m0.mem ((n : Int) + 12)).uf, .int .i64 (m0.mem ((n : Int) + 12)).ud, .int .i64 (m0.mem ((n : Int) + 12)).us]) := Lib.hid (by unfold Mt.usedV; rw [e2])
        clear y1 y2 y3 e1 e2 hcd hqm hum hpk
        generalize m0.mem ((n : Int) + 12) = m1 at *
        try rw [hnI] at *
        go_enter Try.func6, Try.ntmps6
        go_wp2_with fail
        refine (awake_any _).mono ?_; rintro e w0 ⟨rfl, hw0⟩
        go_wp2_with fail
        refine (N0 w0).mono ?_; rintro e w1 ⟨b, rfl, l1, m1', hw1⟩
        have NN := NN _ _ m1'
        have l0 := hw0.size
        have hw1 := grown_trans hw0 hw1
        clear N0 hw0 m1'
        go_wp2_with fail
        refine NN.mono ?_; rintro e w2 ⟨rfl, m2, hw2⟩
        have hG := grown_own hw1 (by omega) hw2
        clear NN hw1 hw2
        by_cases hq12 : q < 12
        · go_wp2_with fail
          refine (used_to _ HV.out m2).mono ?_; rintro e w3 ⟨rfl, hw3⟩
          have hG := grown_two hG hw3
          go_wp2_with fail
          go_ret
          exact ⟨rfl, hG⟩
        · have hqn : q - 12 < (n : Int) := by omega
          try rw [hnI] at *
          go_wp2_with fail
          refine (used_to _ HV.out m2).mono ?_; rintro e w3 ⟨rfl, hw3⟩
          have hG := grown_two hG hw3
          go_wp2_with fail
          go_ret
          exact ⟨rfl, hG⟩
      · have ym := may_yes (cd := m0.cd) (q := m0.qm) (u := m0.um) (n := (n : Int) + 12) hcd (by rw [hqm, hum]; omega)
        obtain ⟨y1, y2, y3⟩ := ym
        have e2 : (m0.mem ((n : Int) + 12)).um = (n : Int) + 12 := y2.trans (by rw [hum]; omega)
        have e4 : ((m0.mem ((n : Int) + 12)).free ((n : Int) + 12)).um = 0 := by show (m0.mem ((n : Int) + 12)).um - min (max ((n : Int) + 12) 0) (m0.mem ((n : Int) + 12)).um = 0; rw [e2]; omega
        have g1 := mem_good g0 ((n : Int) + 12)
        have NN := fun w b hm => anew_any (w := w) (b := b) (size := n) (m := m0) (by omega) (by omega) hm g0 y1
        have V1 : Hid ((m0.mem ((n : Int) + 12)).usedV = .agg #[.int .i64 ((n : Int) + 12), .int .i64 (m0.mem ((n : Int) + 12)).pk, .int .i64 (m0.mem ((n : Int) + 12)).uo, .int .i64 (m0.mem ((n : Int) + 12)).uf, .int .i64 (m0.mem ((n : Int) + 12)).ud, .int .i64 (m0.mem ((n : Int) + 12)).us]) := Lib.hid (by unfold Mt.usedV; rw [e2])
        have V2 : Hid (((m0.mem ((n : Int) + 12)).free ((n : Int) + 12)).usedV = .agg #[.int .i64 0, .int .i64 ((m0.mem ((n : Int) + 12)).free ((n : Int) + 12)).pk, .int .i64 ((m0.mem ((n : Int) + 12)).free ((n : Int) + 12)).uo, .int .i64 ((m0.mem ((n : Int) + 12)).free ((n : Int) + 12)).uf, .int .i64 ((m0.mem ((n : Int) + 12)).free ((n : Int) + 12)).ud, .int .i64 ((m0.mem ((n : Int) + 12)).free ((n : Int) + 12)).us]) := Lib.hid (by unfold Mt.usedV; rw [e4])
        clear y1 y2 y3 e2 e4 hcd hqm hum hpk
        have hfs : ∀ m1, m1 = m0.mem ((n : Int) + 12) → m1.free (((freshM n).size : Int) + 12) = (m0.mem ((n : Int) + 12)).free ((n : Int) + 12) := by rintro _ rfl; rfl
        have hfs := hfs _ rfl
        generalize (m0.mem ((n : Int) + 12)).free ((n : Int) + 12) = m2 at *
        generalize m0.mem ((n : Int) + 12) = m1 at *
        have b3 : ¬ q < 12 := by omega
        have b4 : ¬ q - 12 < (n : Int) := by omega
        have b5 : IntKind.i64.wrap ((n : Int) + 12) = (n : Int) + 12 := by rw [IntKind.wrap_i64]; omega
        try rw [hnI] at *
        go_enter Try.func6, Try.ntmps6
        go_wp2_with fail
        refine (awake_any _).mono ?_; rintro e w0 ⟨rfl, hw0⟩
        go_wp2_with fail
        refine (N0 w0).mono ?_; rintro e w1 ⟨b, rfl, l1, m1', hw1⟩
        have NN := NN _ _ m1'
        have l0 := hw0.size
        have hw1 := grown_trans hw0 hw1
        have hbw : b < w1.heap.size := Blk.lt m1'
        clear N0 hw0 m1'
        go_wp2_with fail
        refine NN.mono ?_; rintro e w2 ⟨g, gm, rfl, lg, lgm, hx, hm2, hw2⟩
        have hG := grown_own hw1 (by omega) hw2
        have hlg : w.heap.size ≤ g ∧ w.heap.size ≤ b ∧ b ≠ g := by have := hw1.size; omega
        clear NN hw1 hw2
        go_wp2_with fail
        refine (used_to _ V1.out hm2).mono ?_; rintro e w3 ⟨rfl, hw3⟩
        have o3 : On (fun _ => False) w2 w3 := On.of_grown hw3 (by simp)
        have hx3 := hx.on o3 id id
        have hm3 : Mtr w3 b m1 := Mtr.grown hm2 hw3 (by simp)
        have hG := grown_two hG hw3
        clear hx hm2 hw3 o3
        have CL := close_any hx3 hm3 g1 hlg.2.2 hfs
        go_wp2_with fail
        refine CL.mono ?_; rintro e w4 ⟨rfl, c4, hm4, o4⟩
        have hG := o4.grown hG (by omega)
        clear CL hx3 hm3 o4
        go_wp2_with fail
        refine (close_shut c4).mono ?_; rintro e w5 ⟨rfl, rfl⟩
        go_wp2_with fail
        refine (used_to _ V2.out hm4).mono ?_; rintro e w6 ⟨rfl, hw6⟩
        have c6 : w6.cell? ⟨g, 0, none⟩ = some (.slice none 0 0) := by rw [World.cell?_of_block (hw6.block g (World.block_lt_of_cell? _ _ c4) (by simp))]; exact c4
        have hG := grown_two hG hw6
        clear c4 hm4 hw6
        go_wp2_with fail
        refine (units_shut c6).mono ?_; rintro e w7 ⟨rfl, rfl⟩
        go_wp2_with fail
        refine (one_shut c6).mono ?_; rintro e w8 ⟨rfl, rfl⟩
        go_wp2_with fail
        refine (push_shut 1 c6).mono ?_; rintro e w9 ⟨rfl, rfl⟩
        go_wp2_with fail
        refine (byte_shut c6).mono ?_; rintro e w10 ⟨rfl, rfl⟩
        go_wp2_with fail
        go_ret
        exact ⟨rfl, hG⟩
    · obtain ⟨n, rfl⟩ := Int.eq_ofNat_of_zero_le (show 0 ≤ s by omega)
      have b1 : ¬ (1048576 : Int) < (n : Int) := by omega
      have b2 : ¬ (n : Int) < 2048 := by omega
      have b6 : ¬ (4294967259 : Int) < (n : Int) := by omega
      clear hpr hbig
      by_cases hmem : q < (n : Int) + 12
      · have ym : may m0.cd m0.qm m0.um ((n : Int) + 12) = false ∧ used m0.cd m0.qm m0.um ((n : Int) + 12) = m0.um ∧ ∀ c, code m0.cd m0.qm m0.um ((n : Int) + 12) c = c := may_no hcd (by rw [hqm, hum]; omega)
        obtain ⟨y1, y2, y3⟩ := ym
        have e1 : (m0.mem ((n : Int) + 12)).cd = 101 := y3 101
        have e2 : (m0.mem ((n : Int) + 12)).um = 0 := y2.trans hum
        have NN := fun w b hm => anew_none (w := w) (b := b) (s := (n : Int)) (m := m0) (by omega) (by omega) hm g0 y1 rfl
        rw [e1] at NN
        have HV : Hid ((m0.mem ((n : Int) + 12)).usedV = .agg #[.int .i64 0, .int .i64 (m0.mem ((n : Int) + 12)).pk, .int .i64 (m0.mem ((n : Int) + 12)).uo, .int .i64 (m0.mem ((n : Int) + 12)).uf, .int .i64 (m0.mem ((n : Int) + 12)).ud, .int .i64 (m0.mem ((n : Int) + 12)).us]) := Lib.hid (by unfold Mt.usedV; rw [e2])
        clear y1 y2 y3 e1 e2 hcd hqm hum hpk
        generalize m0.mem ((n : Int) + 12) = m1 at *
        go_enter Try.func6, Try.ntmps6
        go_wp2_with fail
        refine (awake_any _).mono ?_; rintro e w0 ⟨rfl, hw0⟩
        go_wp2_with fail
        refine (N0 w0).mono ?_; rintro e w1 ⟨b, rfl, l1, m1', hw1⟩
        have NN := NN _ _ m1'
        have l0 := hw0.size
        have hw1 := grown_trans hw0 hw1
        clear N0 hw0 m1'
        go_wp2_with fail
        refine NN.mono ?_; rintro e w2 ⟨rfl, m2, hw2⟩
        have hG := grown_own hw1 (by omega) hw2
        clear NN hw1 hw2
        by_cases hq12 : q < 12
        · go_wp2_with fail
          refine (used_to _ HV.out m2).mono ?_; rintro e w3 ⟨rfl, hw3⟩
          have hG := grown_two hG hw3
          go_wp2_with fail
          go_ret
          exact ⟨rfl, hG⟩
        · have hqn : q - 12 < (n : Int) := by omega
          go_wp2_with fail
          refine (used_to _ HV.out m2).mono ?_; rintro e w3 ⟨rfl, hw3⟩
          have hG := grown_two hG hw3
          go_wp2_with fail
          go_ret
          exact ⟨rfl, hG⟩
      · have ym := may_yes (cd := m0.cd) (q := m0.qm) (u := m0.um) (n := (n : Int) + 12) hcd (by rw [hqm, hum]; omega)
        obtain ⟨y1, y2, y3⟩ := ym
        have e2 : (m0.mem ((n : Int) + 12)).um = (n : Int) + 12 := y2.trans (by rw [hum]; omega)
        have e4 : ((m0.mem ((n : Int) + 12)).free ((n : Int) + 12)).um = 0 := by show (m0.mem ((n : Int) + 12)).um - min (max ((n : Int) + 12) 0) (m0.mem ((n : Int) + 12)).um = 0; rw [e2]; omega
        have g1 := mem_good g0 ((n : Int) + 12)
        have NN := fun w b hm => anew_any (w := w) (b := b) (size := n) (m := m0) (by omega) (by omega) hm g0 y1
        have V1 : Hid ((m0.mem ((n : Int) + 12)).usedV = .agg #[.int .i64 ((n : Int) + 12), .int .i64 (m0.mem ((n : Int) + 12)).pk, .int .i64 (m0.mem ((n : Int) + 12)).uo, .int .i64 (m0.mem ((n : Int) + 12)).uf, .int .i64 (m0.mem ((n : Int) + 12)).ud, .int .i64 (m0.mem ((n : Int) + 12)).us]) := Lib.hid (by unfold Mt.usedV; rw [e2])
        have V2 : Hid (((m0.mem ((n : Int) + 12)).free ((n : Int) + 12)).usedV = .agg #[.int .i64 0, .int .i64 ((m0.mem ((n : Int) + 12)).free ((n : Int) + 12)).pk, .int .i64 ((m0.mem ((n : Int) + 12)).free ((n : Int) + 12)).uo, .int .i64 ((m0.mem ((n : Int) + 12)).free ((n : Int) + 12)).uf, .int .i64 ((m0.mem ((n : Int) + 12)).free ((n : Int) + 12)).ud, .int .i64 ((m0.mem ((n : Int) + 12)).free ((n : Int) + 12)).us]) := Lib.hid (by unfold Mt.usedV; rw [e4])
        clear y1 y2 y3 e2 e4 hcd hqm hum hpk
        have hfs : ∀ m1, m1 = m0.mem ((n : Int) + 12) → m1.free (((freshM n).size : Int) + 12) = (m0.mem ((n : Int) + 12)).free ((n : Int) + 12) := by rintro _ rfl; rfl
        have hfs := hfs _ rfl
        generalize (m0.mem ((n : Int) + 12)).free ((n : Int) + 12) = m2 at *
        generalize m0.mem ((n : Int) + 12) = m1 at *
        have b3 : ¬ q < 12 := by omega
        have b4 : ¬ q - 12 < (n : Int) := by omega
        have b5 : IntKind.i64.wrap ((n : Int) + 12) = (n : Int) + 12 := by rw [IntKind.wrap_i64]; omega
        go_enter Try.func6, Try.ntmps6
        go_wp2_with fail
        refine (awake_any _).mono ?_; rintro e w0 ⟨rfl, hw0⟩
        go_wp2_with fail
        refine (N0 w0).mono ?_; rintro e w1 ⟨b, rfl, l1, m1', hw1⟩
        have NN := NN _ _ m1'
        have l0 := hw0.size
        have hw1 := grown_trans hw0 hw1
        have hbw : b < w1.heap.size := Blk.lt m1'
        clear N0 hw0 m1'
        go_wp2_with fail
        refine NN.mono ?_; rintro e w2 ⟨g, gm, rfl, lg, lgm, hx, hm2, hw2⟩
        have hG := grown_own hw1 (by omega) hw2
        have hlg : w.heap.size ≤ g ∧ w.heap.size ≤ b ∧ b ≠ g := by have := hw1.size; omega
        clear NN hw1 hw2
        go_wp2_with fail
        refine (used_to _ V1.out hm2).mono ?_; rintro e w3 ⟨rfl, hw3⟩
        have o3 : On (fun _ => False) w2 w3 := On.of_grown hw3 (by simp)
        have hx3 := hx.on o3 id id
        have hm3 : Mtr w3 b m1 := Mtr.grown hm2 hw3 (by simp)
        have hG := grown_two hG hw3
        clear hx hm2 hw3 o3
        have CL := close_any hx3 hm3 g1 hlg.2.2 hfs
        go_wp2_with fail
        refine CL.mono ?_; rintro e w4 ⟨rfl, c4, hm4, o4⟩
        have hG := o4.grown hG (by omega)
        clear CL hx3 hm3 o4
        go_wp2_with fail
        refine (close_shut c4).mono ?_; rintro e w5 ⟨rfl, rfl⟩
        go_wp2_with fail
        refine (used_to _ V2.out hm4).mono ?_; rintro e w6 ⟨rfl, hw6⟩
        have c6 : w6.cell? ⟨g, 0, none⟩ = some (.slice none 0 0) := by rw [World.cell?_of_block (hw6.block g (World.block_lt_of_cell? _ _ c4) (by simp))]; exact c4
        have hG := grown_two hG hw6
        clear c4 hm4 hw6
        go_wp2_with fail
        refine (units_shut c6).mono ?_; rintro e w7 ⟨rfl, rfl⟩
        go_wp2_with fail
        refine (one_shut c6).mono ?_; rintro e w8 ⟨rfl, rfl⟩
        go_wp2_with fail
        refine (push_shut 1 c6).mono ?_; rintro e w9 ⟨rfl, rfl⟩
        go_wp2_with fail
        refine (byte_shut c6).mono ?_; rintro e w10 ⟨rfl, rfl⟩
        go_wp2_with fail
        go_ret
        exact ⟨rfl, hG⟩
end
end Go.Proofs.Ytplhonlgbidemaa
