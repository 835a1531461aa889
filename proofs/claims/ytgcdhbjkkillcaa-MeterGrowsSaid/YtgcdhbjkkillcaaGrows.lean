/- MeterGrows, walked. -/
import Derived.Test.YtgcdhbjkkillcaaAsk
import Derived.Test.YtgcdhbjkkillcaaScript
namespace Go.Proofs.Ytgcdhbjkkillcaa
open Go.RowKit

/-- Neither is spent, both have used the same, and the second's quotas are no smaller. -/
structure Pair (m n : Mt) : Prop where
  c1 : m.cd = 0
  c2 : n.cd = 0
  um : n.um = m.um
  uo : n.uo = m.uo
  uf : n.uf = m.uf
  ud : n.ud = m.ud
  us : n.us = m.us
  pk : n.pk = m.pk
  qm : m.qm ≤ n.qm
  qo : m.qo ≤ n.qo
  qf : m.qf ≤ n.qf
  qd : m.qd ≤ n.qd
  qs : m.qs ≤ n.qs

theorem may_more {c1 c2 q1 q2 u n : Int} (h : q1 ≤ q2) (hc1 : c1 = 0) (hc2 : c2 = 0) (c : Int) (hcd : ¬ c = 0) :
    (¬ code c1 q1 u n c = 0 → may c1 q1 u n = false) ∧ (code c1 q1 u n c = 0 → may c1 q1 u n = may c2 q2 u n ∧ used c1 q1 u n = used c2 q2 u n ∧ code c2 q2 u n c = 0) := by
  by_cases hk : max n 0 ≤ q1 - u
  · obtain ⟨e1, e2, e3⟩ := may_yes hc1 hk
    obtain ⟨d1, d2, d3⟩ := may_yes hc2 (show max n 0 ≤ q2 - u by omega)
    rw [e1, e2, e3, d1, d2, d3]
    exact ⟨fun h => absurd rfl h, fun _ => ⟨rfl, rfl, rfl⟩⟩
  · obtain ⟨e1, e2, e3⟩ := may_no hc1 (show q1 - u < max n 0 by omega)
    rw [e1, e3]
    exact ⟨fun _ => rfl, fun h => absurd h hcd⟩

theorem pair_does {m n : Mt} (h : Pair m n) (k x : Int) :
    (¬ (m.does k x).cd = 0 → m.says k x = false) ∧ ((m.does k x).cd = 0 → m.says k x = n.says k x ∧ Pair (m.does k x) (n.does k x)) := by
  obtain ⟨a1, a2, a3, a4, a5, a6, a7, a8, a9, a10, a11, a12, a13⟩ := h
  unfold Mt.does Mt.says
  by_cases e0 : k = 0
  · simp only [if_pos e0]
    obtain ⟨y, z⟩ := may_more (u := m.um) (n := x) a9 a1 a2 101 (by omega)
    refine ⟨y, fun hz => ?_⟩
    obtain ⟨z1, z2, z3⟩ := z hz
    rw [a3]
    refine ⟨z1, hz, ?_, ?_, a4, a5, a6, a7, ?_, a9, a10, a11, a12, a13⟩
    · show code n.cd n.qm n.um x 101 = 0; rw [a3]; exact z3
    · show used n.cd n.qm n.um x = used m.cd m.qm m.um x; rw [a3]; exact z2.symm
    · show max n.pk (used n.cd n.qm n.um x) = max m.pk (used m.cd m.qm m.um x); rw [a3, a8, z2]
  simp only [if_neg e0]
  by_cases e1 : k = 1
  · simp only [if_pos e1]
    obtain ⟨y, z⟩ := may_more (u := m.uo) (n := x) a10 a1 a2 102 (by omega)
    refine ⟨y, fun hz => ?_⟩
    obtain ⟨z1, z2, z3⟩ := z hz
    rw [a4]
    refine ⟨z1, hz, ?_, a3, ?_, a5, a6, a7, a8, a9, a10, a11, a12, a13⟩
    · show code n.cd n.qo n.uo x 102 = 0; rw [a4]; exact z3
    · show used n.cd n.qo n.uo x = used m.cd m.qo m.uo x; rw [a4]; exact z2.symm
  simp only [if_neg e1]
  by_cases e2 : k = 2
  · simp only [if_pos e2]
    obtain ⟨y, z⟩ := may_more (u := m.uf) (n := 1) a11 a1 a2 103 (by omega)
    refine ⟨y, fun hz => ?_⟩
    obtain ⟨z1, z2, z3⟩ := z hz
    rw [a5]
    refine ⟨z1, hz, ?_, a3, a4, ?_, a6, a7, a8, a9, a10, a11, a12, a13⟩
    · show code n.cd n.qf n.uf 1 103 = 0; rw [a5]; exact z3
    · show used n.cd n.qf n.uf 1 = used m.cd m.qf m.uf 1; rw [a5]; exact z2.symm
  simp only [if_neg e2]
  by_cases e3 : k = 3
  · simp only [if_pos e3]
    obtain ⟨y, z⟩ := may_more (u := m.ud) (n := 1) a12 a1 a2 104 (by omega)
    refine ⟨y, fun hz => ?_⟩
    obtain ⟨z1, z2, z3⟩ := z hz
    rw [a6]
    refine ⟨z1, hz, ?_, a3, a4, a5, ?_, a7, a8, a9, a10, a11, a12, a13⟩
    · show code n.cd n.qd n.ud 1 104 = 0; rw [a6]; exact z3
    · show used n.cd n.qd n.ud 1 = used m.cd m.qd m.ud 1; rw [a6]; exact z2.symm
  simp only [if_neg e3]
  by_cases e4 : k = 4
  · simp only [if_pos e4]
    obtain ⟨y, z⟩ := may_more (u := m.us) (n := x) a13 a1 a2 105 (by omega)
    refine ⟨y, fun hz => ?_⟩
    obtain ⟨z1, z2, z3⟩ := z hz
    rw [a7]
    refine ⟨z1, hz, ?_, a3, a4, a5, a6, ?_, a8, a9, a10, a11, a12, a13⟩
    · show code n.cd n.qs n.us x 105 = 0; rw [a7]; exact z3
    · show used n.cd n.qs n.us x = used m.cd m.qs m.us x; rw [a7]; exact z2.symm
  simp only [if_neg e4]
  by_cases e5 : k = 5
  · simp only [if_pos e5]
    refine ⟨fun h => absurd a1 h, fun _ => ⟨by trivial, a1, a2, ?_, a4, a5, a6, a7, a8, a9, a10, a11, a12, a13⟩⟩
    show n.um - min (max x 0) n.um = m.um - min (max x 0) m.um; rw [a3]
  simp only [if_neg e5]
  refine ⟨fun h => absurd a1 h, fun _ => ⟨by trivial, a1, a2, a3, a4, a5, ?_, a7, a8, a9, a10, a11, a12, a13⟩⟩
  show n.ud - min 1 n.ud = m.ud - min 1 m.ud; rw [a6]

theorem pair_used {m n : Mt} (h : Pair m n) : n.usedV = m.usedV := by unfold Mt.usedV; rw [h.um, h.uo, h.uf, h.ud, h.us, h.pk]

/-- What a round of MeterGrows keeps. -/
def Grw (W : World) (g1 g2 len : Nat) (i : Value) (wr : World) : Prop :=
  ∃ (k : Nat) (m n : Mt), k ≤ len ∧ k ≤ 300 ∧ i = .int .i64 k ∧ Mtr wr g1 m ∧ Mtr wr g2 n ∧ m.Good ∧ n.Good ∧ Pair m n ∧ W.grownBy wr none

section
attribute [local go_sem ↓] run_mx
set_option maxRecDepth 100000 in
set_option maxHeartbeats 4000000 in
theorem grows_walk (p q r s t : Int) (bq : q ≤ 9223372036854775807) (bp : p ≤ 9223372036854775807) (br : r ≤ 9223372036854775807) (bs : s ≤ 9223372036854775807) (bt : t ≤ 9223372036854775807)
    (p2 q2 r2 s2 t2 : Int) (dq : q2 ≤ 9223372036854775807) (dp : p2 ≤ 9223372036854775807) (dr : r2 ≤ 9223372036854775807) (ds : s2 ≤ 9223372036854775807) (dt : t2 ≤ 9223372036854775807)
    (A : Option Addr) (len cap : Nat) (K N : Nat → Int) (hlen : len ≤ 9223372036854775807) (w : World) (hS : Script w w.heap.size A len K N) :
    Calls Try.prog 6 #[.agg #[.int .i64 p, .int .i64 q, .int .i64 r, .int .i64 s, .int .i64 t], .agg #[.int .i64 p2, .int .i64 q2, .int .i64 r2, .int .i64 s2, .int .i64 t2], .slice A len cap] w fun e w' => e = .returned (.bool true) ∧ w.grownBy w' none := by
  have hg := new_good p q r s t bp bq br bs bt
  have hg2 := new_good (mx p p2) (mx q q2) (mx r r2) (mx s s2) (mx t t2) (by unfold mx; omega) (by unfold mx; omega) (by unfold mx; omega) (by unfold mx; omega) (by unfold mx; omega)
  have hpair : Pair (Mt.new p q r s t) (Mt.new (mx p p2) (mx q q2) (mx r r2) (mx s s2) (mx t t2)) := by
    constructor <;> first | rfl | (simp only [Mt.new, mx]; omega)
  have NW := new_ex p q r s t
  have NW2 := new_ex (mx p p2) (mx q q2) (mx r r2) (mx s s2) (mx t t2)
  generalize Mt.new p q r s t = m0 at *
  generalize Mt.new (mx p p2) (mx q q2) (mx r r2) (mx s s2) (mx t t2) = n0 at *
  obtain ⟨X, hX⟩ : ∃ X : Array Value, X = #[.int .i64 p, .int .i64 q, .int .i64 r, .int .i64 s, .int .i64 t] := ⟨_, rfl⟩
  have hq : Blk ((w.alloc (.cells #[.int .i64 p, .int .i64 q, .int .i64 r, .int .i64 s, .int .i64 t] 23)).alloc (.cells #[.int .i64 p2, .int .i64 q2, .int .i64 r2, .int .i64 s2, .int .i64 t2] 23)) w.heap.size 23 #[.int .i64 p, .int .i64 q, .int .i64 r, .int .i64 s, .int .i64 t] := Blk.alloc (Blk.new _ _ _) _
  have hq' : Blk ((w.alloc (.cells #[.int .i64 p, .int .i64 q, .int .i64 r, .int .i64 s, .int .i64 t] 23)).alloc (.cells #[.int .i64 p2, .int .i64 q2, .int .i64 r2, .int .i64 s2, .int .i64 t2] 23)) (w.heap.size + 1) 23 #[.int .i64 p2, .int .i64 q2, .int .i64 r2, .int .i64 s2, .int .i64 t2] := by
    have := Blk.new (w.alloc (.cells #[.int .i64 p, .int .i64 q, .int .i64 r, .int .i64 s, .int .i64 t] 23)) 23 #[.int .i64 p2, .int .i64 q2, .int .i64 r2, .int .i64 s2, .int .i64 t2]
    rwa [World.size_alloc] at this
  have hw0 : w.grownBy ((w.alloc (.cells #[.int .i64 p, .int .i64 q, .int .i64 r, .int .i64 s, .int .i64 t] 23)).alloc (.cells #[.int .i64 p2, .int .i64 q2, .int .i64 r2, .int .i64 s2, .int .i64 t2] 23)) none := grown_alloc (grown_alloc (grown_refl _ _) _) _
  go_enter Try.func6, Try.ntmps6
  go_wp2_with fail
  refine (awake_any _).mono ?_; rintro e w1 ⟨rfl, hw1⟩
  have hq1 := hq.grown hw1 (by simp)
  have hq1' := hq'.grown hw1 (by simp)
  have hw1 := grown_two hw0 hw1
  have c0 := hq1.cell 0; have c1 := hq1.cell 1; have c2 := hq1.cell 2; have c3 := hq1.cell 3; have c4 := hq1.cell 4
  have d0 := hq1'.cell 0; have d1 := hq1'.cell 1; have d2 := hq1'.cell 2; have d3 := hq1'.cell 3; have d4 := hq1'.cell 4
  clear hq hq' hw0 X hX
  have hq2 : Blk (w1.alloc (.cells #[.int .i64 (mx p p2), .int .i64 (mx q q2), .int .i64 (mx r r2), .int .i64 (mx s s2), .int .i64 (mx t t2)] 23)) w.heap.size 23 #[.int .i64 p, .int .i64 q, .int .i64 r, .int .i64 s, .int .i64 t] := Blk.alloc hq1 _
  have hn2 : Blk (w1.alloc (.cells #[.int .i64 (mx p p2), .int .i64 (mx q q2), .int .i64 (mx r r2), .int .i64 (mx s s2), .int .i64 (mx t t2)] 23)) w1.heap.size 23 #[.int .i64 (mx p p2), .int .i64 (mx q q2), .int .i64 (mx r r2), .int .i64 (mx s s2), .int .i64 (mx t t2)] := Blk.new _ _ _
  have hw2 := grown_alloc hw1 (.cells #[.int .i64 (mx p p2), .int .i64 (mx q q2), .int .i64 (mx r r2), .int .i64 (mx s s2), .int .i64 (mx t t2)] 23)
  have i0 := hq2.cell 0; have i1 := hq2.cell 1; have i2 := hq2.cell 2; have i3 := hq2.cell 3; have i4 := hq2.cell 4
  have lw : w.heap.size + 1 < w1.heap.size := hq1'.lt
  go_wp2_with fail
  refine (NW _).mono ?_; rintro e w3 ⟨g1, rfl, l1, m3, hw3⟩
  have hn3 := hn2.grown hw3 (by simp)
  have l1' : w.heap.size < g1 := by simp at l1; omega
  have hw3 := grown_two hw2 hw3
  clear c0 c1 c2 c3 c4 d0 d1 d2 d3 d4 i0 i1 i2 i3 i4 hq2 hn2 hq1 hq1' hw1 hw2
  have c0 := hn3.cell 0; have c1 := hn3.cell 1; have c2 := hn3.cell 2; have c3 := hn3.cell 3; have c4 := hn3.cell 4
  go_wp2_with fail
  refine (NW2 w3).mono ?_; rintro e w4 ⟨g2, rfl, l2, n4, hw4⟩
  have l3 : g1 < g2 := by have := Blk.lt m3; omega
  have m4 := m3.grown hw4 (by simp)
  have hw4 := grown_two hw3 hw4
  clear c0 c1 c2 c3 c4 hn3 m3 hw3 l1 l2
  go_wp2_with fail
  go_loopw [10] (fun i wr => Grw w g1 g2 len i wr) (fun i _ => len - (intOf i).toNat)
  case atStart => exact ⟨0, m0, n0, by omega, by omega, rfl, m4, n4, hg, hg2, hpair, hw4⟩
  case round =>
    obtain ⟨k, m, n, hk, hk3, rfl, hm, hn, hmg, hng, hp, hgr⟩ := hrel
    have HS := Lib.hid (hS.keep hgr (Nat.le_refl _))
    clear hS hg hg2 NW NW2 m4 n4 hw4 hpair
    by_cases hlt : k < len
    · by_cases h3 : k < 300
      · obtain ⟨hN, b, off, rfl, hb, d0, d1⟩ := HS.out k hlt
        clear HS
        have UA := ask_law (K k) (N k) hN.1 hm hmg
        have UB := fun w' (h : Mtr w' g2 n) => ask_law (K k) (N k) hN.1 h hng
        have hmg' := does_good hmg (K k) (N k)
        have hng' := does_good hng (K k) (N k)
        obtain ⟨P1, P2⟩ := pair_does hp (K k) (N k)
        revert UA UB hmg' hng' P1 P2
        generalize m.does (K k) (N k) = m'
        generalize n.does (K k) (N k) = n'
        generalize m.says (K k) (N k) = x
        generalize n.says (K k) (N k) = y
        intro UA UB hmg' hng' P1 P2
        have HB := Lib.hid UB
        clear UB
        by_cases hz : m'.cd = 0
        · obtain ⟨rfl, hp'⟩ := P2 hz
          have HP := Lib.hid hp'
          have HZ := Lib.hid hz
          clear P1 P2 hp hp' hz
          go_wp2_with fail
          refine UA.mono ?_; rintro e w5 ⟨rfl, m5, hw5⟩
          have n5 := hn.grown hw5 (fun e => by injection e; omega)
          have e0 := hw5.cell d0 (fun e => by injection e with e; simp at e; omega)
          have e1 := hw5.cell d1 (fun e => by injection e with e; simp at e; omega)
          have hw5 := grown_own hgr (by omega) hw5
          clear UA hm hn d0 d1 hgr
          go_wp2_with fail
          refine (HB.out _ n5).mono ?_; rintro e w6 ⟨rfl, n6, hw6⟩
          have m6 := m5.grown hw6 (fun e => by injection e; omega)
          have hw6 := grown_own hw5 (by omega) hw6
          clear m5 n5 e0 e1 hw5
          go_wp2_with fail
          refine (code_to 0 HZ.out m6).mono ?_; rintro e w7 ⟨rfl, rfl⟩
          go_wp2_with fail
          refine (used_any m6).mono ?_; rintro e w7 ⟨rfl, hw7⟩
          have m7 := m6.grown hw7 (by simp)
          have n7 := n6.grown hw7 (by simp)
          have hw7 := grown_two hw6 hw7
          clear m6 n6 hw6
          go_wp2_with fail
          refine (used_to _ (pair_used HP.out) n7).mono ?_; rintro e w8 ⟨rfl, hw8⟩
          have m8 := m7.grown hw8 (by simp)
          have n8 := n7.grown hw8 (by simp)
          have hw8 := grown_two hw7 hw8
          clear m7 n7 hw7
          unfold Mt.usedV
          go_wp2_with fail
          refine (code_to 0 HP.out.c2 n8).mono ?_; rintro e w9 ⟨rfl, rfl⟩
          go_wp2_with fail
          go_roundw
          case rel => exact ⟨k + 1, m', n', by omega, by omega, by go_num, m8, n8, hmg', hng', HP.out, hw8⟩
          case measure => simp [intOf]; omega
        · have P := P1 hz
          subst P
          have hz' : (m'.cd != 0) = true := by simpa using hz
          clear P1 P2 hp hz
          go_wp2_with fail
          refine UA.mono ?_; rintro e w5 ⟨rfl, m5, hw5⟩
          have n5 := hn.grown hw5 (fun e => by injection e; omega)
          have e0 := hw5.cell d0 (fun e => by injection e with e; simp at e; omega)
          have e1 := hw5.cell d1 (fun e => by injection e with e; simp at e; omega)
          have hw5 := grown_own hgr (by omega) hw5
          clear UA hm hn d0 d1 hgr
          go_wp2_with fail
          refine (HB.out _ n5).mono ?_; rintro e w6 ⟨rfl, n6, hw6⟩
          have m6 := m5.grown hw6 (fun e => by injection e; omega)
          have hw6 := grown_own hw5 (by omega) hw6
          clear m5 n5 e0 e1 hw5
          go_wp2_with fail
          refine (code_any m6).mono ?_; rintro e w7 ⟨rfl, rfl⟩
          go_wp2_with fail
          go_ret
          exact ⟨rfl, hw6⟩
      · go_wp2_with fail
        go_ret
        exact ⟨rfl, hgr⟩
    · go_wp2_with fail
      go_ret
      exact ⟨rfl, hgr⟩
end
end Go.Proofs.Ytgcdhbjkkillcaa
