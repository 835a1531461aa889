/- MeterSplits, walked. -/
import Derived.Test.YtgcdhbjkkillcaaMtA
namespace Go.Proofs.Ytgcdhbjkkillcaa
open Go.RowKit

/-- What is asked for in two parts may be just if it may be at once. -/
theorem split_may {m : Mt} (hc : m.cd = 0) (a b : Int) (ha : 0 ≤ a) (hb : 0 ≤ b) (h1 : may m.cd m.qo m.uo a = true) : may (m.out a).cd (m.out a).qo (m.out a).uo b = may m.cd m.qo m.uo (a + b) := by
  have h1' : max a 0 ≤ m.qo - m.uo := by simp [may] at h1; omega
  obtain ⟨_, e2, e3⟩ := may_yes hc h1' (n := a)
  have k1 : (m.out a).cd = 0 := e3 _
  have k2 : (m.out a).uo = m.uo + max a 0 := e2
  have k3 : (m.out a).qo = m.qo := rfl
  rw [k1, k2, k3, hc]
  simp only [may]
  congr 1
  apply decide_eq_decide.2
  omega
theorem split_no {m : Mt} (a b : Int) (ha : 0 ≤ a) (hb : 0 ≤ b) (h1 : may m.cd m.qo m.uo a = false) : may m.cd m.qo m.uo (a + b) = false := by
  simp only [may, Bool.and_eq_false_iff, decide_eq_false_iff_not] at *
  rcases h1 with h1 | h1
  · exact .inl h1
  · exact .inr (by omega)
theorem split_used {m : Mt} (hc : m.cd = 0) (a b : Int) (ha : 0 ≤ a) (hb : 0 ≤ b) (h1 : may m.cd m.qo m.uo a = true) (h2 : may m.cd m.qo m.uo (a + b) = true) :
    ((m.out a).out b).usedV = (m.out (a + b)).usedV := by
  have h1' : max a 0 ≤ m.qo - m.uo := by simp [may] at h1; omega
  have h2' : max (a + b) 0 ≤ m.qo - m.uo := by simp [may] at h2; omega
  obtain ⟨_, e2, e3⟩ := may_yes hc h1' (n := a)
  obtain ⟨_, d2, d3⟩ := may_yes hc h2' (n := a + b)
  have k1 : (m.out a).cd = 0 := e3 _
  have k2 : (m.out a).uo = m.uo + max a 0 := e2
  have k3 : (m.out a).qo = m.qo := rfl
  obtain ⟨_, c2, c3⟩ := may_yes (q := (m.out a).qo) (u := (m.out a).uo) (n := b) k1 (by rw [k2, k3]; omega)
  have j2 : ((m.out a).out b).uo = m.uo + max a 0 + max b 0 := by rw [← k2]; exact c2
  have j3 : (m.out (a + b)).uo = m.uo + max (a + b) 0 := d2
  have j4 : ((m.out a).out b).uo = (m.out (a + b)).uo := by rw [j2, j3]; omega
  unfold Mt.usedV
  rw [j4]
  rfl

set_option maxHeartbeats 1000000 in
theorem splits_walk (p q r s t a b : Int) (ha : 0 ≤ a ∧ a ≤ 4294967295) (hb : 0 ≤ b ∧ b ≤ 4294967295) (bq : q ≤ 9223372036854775807)
    (bp : p ≤ 9223372036854775807) (br : r ≤ 9223372036854775807) (bs : s ≤ 9223372036854775807) (bt : t ≤ 9223372036854775807) (w : World) :
    Calls Try.prog 3 #[.agg #[.int .i64 p, .int .i64 q, .int .i64 r, .int .i64 s, .int .i64 t], .int .u32 a, .int .u32 b] w fun e w' => e = .returned (.bool true) ∧ w.grownBy w' none := by
  obtain ⟨ha0, ha1⟩ := ha
  obtain ⟨hb0, hb1⟩ := hb
  have hg := new_good p q r s t bp bq br bs bt
  have hc : (Mt.new p q r s t).cd = 0 := rfl
  have hX := Lib.hid hg
  have NW := new_ex p q r s t
  generalize Mt.new p q r s t = m at *
  have SM := split_may hc a b ha0 hb0
  have SN := split_no (m := m) a b ha0 hb0
  have SU := split_used hc a b ha0 hb0
  have HC := Lib.hid hc
  clear hc
  have hq : Blk (w.alloc (.cells #[.int .i64 p, .int .i64 q, .int .i64 r, .int .i64 s, .int .i64 t] 23)) w.heap.size 23 #[.int .i64 p, .int .i64 q, .int .i64 r, .int .i64 s, .int .i64 t] := Blk.new _ _ _
  have hw0 : w.grownBy (w.alloc (.cells #[.int .i64 p, .int .i64 q, .int .i64 r, .int .i64 s, .int .i64 t] 23)) none := grown_alloc (grown_refl _ _) _
  cases h1 : may m.cd m.qo m.uo a with
  | false =>
    have h2 := SN h1
    have H1 := Lib.hid h1
    have H2 := Lib.hid h2
    clear SM SN SU h1 h2 hg
    go_enter Try.func3, Try.ntmps3
    go_wp2_with fail
    refine (awake_any _).mono ?_; rintro e w1 ⟨rfl, hw1⟩
    have hq1 := hq.grown hw1 (by simp)
    have hw1 := grown_two hw0 hw1
    have c0 := hq1.cell 0; have c1 := hq1.cell 1; have c2 := hq1.cell 2; have c3 := hq1.cell 3; have c4 := hq1.cell 4
    go_wp2_with fail
    refine (NW w1).mono ?_; rintro e w2 ⟨g1, rfl, l1, m2, hw2⟩
    have hq2 := hq1.grown hw2 (by simp)
    have l1' : w.heap.size ≤ g1 := Nat.le_trans hw1.size l1
    have hw2 := grown_two hw1 hw2
    clear c0 c1 c2 c3 c4 hw1
    have c0 := hq2.cell 0; have c1 := hq2.cell 1; have c2 := hq2.cell 2; have c3 := hq2.cell 3; have c4 := hq2.cell 4
    go_wp2_with fail
    refine (NW w2).mono ?_; rintro e w3 ⟨g2, rfl, l2, n3, hw3⟩
    have hne : ¬ g1 = g2 := by have := Blk.lt m2; omega
    have m3 := m2.grown hw3 (by simp)
    have l2' : w.heap.size ≤ g2 := Nat.le_trans hw2.size l2
    have hw3 := grown_two hw2 hw3
    clear c0 c1 c2 c3 c4 m2 hw2 l1 l2
    go_wp2_with fail
    refine (out_to a false H1.out rfl hX.out m3).mono ?_; rintro e w4 ⟨rfl, m4, hw4, _⟩
    have n4 := n3.grown hw4 (fun e => hne (by injection e with e; exact e.symm))
    have hw4 := grown_own hw3 l1' hw4
    go_wp2_with fail
    refine (out_to (a + b) false H2.out rfl hX.out n4).mono ?_; rintro e w5 ⟨rfl, n5, hw5, _⟩
    have hw5 := grown_own hw4 l2' hw5
    go_wp2_with fail
    go_ret
    exact ⟨rfl, hw5⟩
  | true =>
    have h2 := SM h1
    have h3 := SU h1
    obtain ⟨y, hy⟩ : ∃ y, y = may m.cd m.qo m.uo (a + b) := ⟨_, rfl⟩
    rw [← hy] at h2 h3
    have H1 := Lib.hid h1
    have H2 := Lib.hid h2
    have H3 := Lib.hid h3
    have HY := Lib.hid hy
    clear SM SN SU h1 h2 h3 hy hg
    have hX2 := Lib.hid (out_good hX.out a)
    cases y with
    | false =>
      go_enter Try.func3, Try.ntmps3
      go_wp2_with fail
      refine (awake_any _).mono ?_; rintro e w1 ⟨rfl, hw1⟩
      have hq1 := hq.grown hw1 (by simp)
      have hw1 := grown_two hw0 hw1
      have c0 := hq1.cell 0; have c1 := hq1.cell 1; have c2 := hq1.cell 2; have c3 := hq1.cell 3; have c4 := hq1.cell 4
      go_wp2_with fail
      refine (NW w1).mono ?_; rintro e w2 ⟨g1, rfl, l1, m2, hw2⟩
      have hq2 := hq1.grown hw2 (by simp)
      have l1' : w.heap.size ≤ g1 := Nat.le_trans hw1.size l1
      have hw2 := grown_two hw1 hw2
      clear c0 c1 c2 c3 c4 hw1
      have c0 := hq2.cell 0; have c1 := hq2.cell 1; have c2 := hq2.cell 2; have c3 := hq2.cell 3; have c4 := hq2.cell 4
      go_wp2_with fail
      refine (NW w2).mono ?_; rintro e w3 ⟨g2, rfl, l2, n3, hw3⟩
      have hne : ¬ g1 = g2 := by have := Blk.lt m2; omega
      have m3 := m2.grown hw3 (by simp)
      have l2' : w.heap.size ≤ g2 := Nat.le_trans hw2.size l2
      have hw3 := grown_two hw2 hw3
      clear c0 c1 c2 c3 c4 m2 hw2 l1 l2
      go_wp2_with fail
      refine (out_to a true H1.out rfl hX.out m3).mono ?_; rintro e w4 ⟨rfl, m4, hw4, _⟩
      have n4 := n3.grown hw4 (fun e => hne (by injection e with e; exact e.symm))
      have hw4 := grown_own hw3 l1' hw4
      go_wp2_with fail
      refine (out_to b false H2.out rfl hX2.out m4).mono ?_; rintro e w5 ⟨rfl, m5, hw5, _⟩
      have n5 := n4.grown hw5 (fun e => hne (by injection e with e; exact e.symm))
      have hw5 := grown_own hw4 l1' hw5
      go_wp2_with fail
      refine (out_to (a + b) false HY.out.symm rfl hX.out n5).mono ?_; rintro e w6 ⟨rfl, n6, hw6, _⟩
      have hw6 := grown_own hw5 l2' hw6
      go_wp2_with fail
      go_ret
      exact ⟨rfl, hw6⟩
    | true =>
      go_enter Try.func3, Try.ntmps3
      go_wp2_with fail
      refine (awake_any _).mono ?_; rintro e w1 ⟨rfl, hw1⟩
      have hq1 := hq.grown hw1 (by simp)
      have hw1 := grown_two hw0 hw1
      have c0 := hq1.cell 0; have c1 := hq1.cell 1; have c2 := hq1.cell 2; have c3 := hq1.cell 3; have c4 := hq1.cell 4
      go_wp2_with fail
      refine (NW w1).mono ?_; rintro e w2 ⟨g1, rfl, l1, m2, hw2⟩
      have hq2 := hq1.grown hw2 (by simp)
      have l1' : w.heap.size ≤ g1 := Nat.le_trans hw1.size l1
      have hw2 := grown_two hw1 hw2
      clear c0 c1 c2 c3 c4 hw1
      have c0 := hq2.cell 0; have c1 := hq2.cell 1; have c2 := hq2.cell 2; have c3 := hq2.cell 3; have c4 := hq2.cell 4
      go_wp2_with fail
      refine (NW w2).mono ?_; rintro e w3 ⟨g2, rfl, l2, n3, hw3⟩
      have hne : ¬ g1 = g2 := by have := Blk.lt m2; omega
      have m3 := m2.grown hw3 (by simp)
      have l2' : w.heap.size ≤ g2 := Nat.le_trans hw2.size l2
      have hw3 := grown_two hw2 hw3
      clear c0 c1 c2 c3 c4 m2 hw2 l1 l2
      go_wp2_with fail
      refine (out_to a true H1.out rfl hX.out m3).mono ?_; rintro e w4 ⟨rfl, m4, hw4, _⟩
      have n4 := n3.grown hw4 (fun e => hne (by injection e with e; exact e.symm))
      have hw4 := grown_own hw3 l1' hw4
      go_wp2_with fail
      refine (out_to b true H2.out rfl hX2.out m4).mono ?_; rintro e w5 ⟨rfl, m5, hw5, _⟩
      have n5 := n4.grown hw5 (fun e => hne (by injection e with e; exact e.symm))
      have hw5 := grown_own hw4 l1' hw5
      go_wp2_with fail
      refine (out_to (a + b) true HY.out.symm rfl hX.out n5).mono ?_; rintro e w6 ⟨rfl, n6, hw6, _⟩
      have m6 := m5.grown hw6 (fun e => hne (by injection e with e))
      have hw6 := grown_own hw5 l2' hw6
      go_wp2_with fail
      refine (used_to _ (H3.out (by trivial)) m6).mono ?_; rintro e w7 ⟨rfl, hw7⟩
      have n7 := n6.grown hw7 (by simp)
      have hw7 := grown_two hw6 hw7
      unfold Mt.usedV
      go_wp2_with fail
      refine (used_any n7).mono ?_; rintro e w8 ⟨rfl, hw8⟩
      have hw8 := grown_two hw7 hw8
      unfold Mt.usedV
      go_wp2_with fail
      go_ret
      exact ⟨by simp, hw8⟩
end Go.Proofs.Ytgcdhbjkkillcaa
