/- MeterBounds, walked. -/
import Derived.Test.YtgcdhbjkkillcaaAsk
import Derived.Test.YtgcdhbjkkillcaaScript
namespace Go.Proofs.Ytgcdhbjkkillcaa
open Go.RowKit

/-- The quotas stay. -/
theorem does_q (m : Mt) (k n : Int) : (m.does k n).qm = m.qm ∧ (m.does k n).qo = m.qo ∧ (m.does k n).qf = m.qf ∧ (m.does k n).qd = m.qd ∧ (m.does k n).qs = m.qs := by
  unfold Mt.does
  repeat' split
  all_goals exact ⟨rfl, rfl, rfl, rfl, rfl⟩

/-- What a round of MeterBounds keeps. -/
def Bnd (W : World) (p q r s t : Int) (g len : Nat) (i : Value) (wr : World) : Prop :=
  ∃ (k : Nat) (m : Mt), k ≤ len ∧ k ≤ 300 ∧ i = .int .i64 k ∧ Mtr wr g m ∧ m.Good ∧ (m.qm = max p 0 ∧ m.qo = max q 0 ∧ m.qf = max r 0 ∧ m.qd = max s 0 ∧ m.qs = max t 0) ∧ W.grownBy wr none ∧ Blk wr W.heap.size 23 #[.int .i64 p, .int .i64 q, .int .i64 r, .int .i64 s, .int .i64 t]

section
attribute [local go_sem ↓] run_mx
set_option maxRecDepth 100000 in
set_option maxHeartbeats 4000000 in
theorem bounds_walk (p q r s t : Int) (bq : q ≤ 9223372036854775807) (bp : p ≤ 9223372036854775807) (br : r ≤ 9223372036854775807) (bs : s ≤ 9223372036854775807) (bt : t ≤ 9223372036854775807)
    (A : Option Addr) (len cap : Nat) (K N : Nat → Int) (hlen : len ≤ 9223372036854775807) (w : World) (hS : Script w w.heap.size A len K N) :
    Calls Try.prog 5 #[.agg #[.int .i64 p, .int .i64 q, .int .i64 r, .int .i64 s, .int .i64 t], .slice A len cap] w fun e w' => e = .returned (.bool true) ∧ w.grownBy w' none := by
  have hg := new_good p q r s t bp bq br bs bt
  have NW := new_ex p q r s t
  have hq : Blk (w.alloc (.cells #[.int .i64 p, .int .i64 q, .int .i64 r, .int .i64 s, .int .i64 t] 23)) w.heap.size 23 #[.int .i64 p, .int .i64 q, .int .i64 r, .int .i64 s, .int .i64 t] := Blk.new _ _ _
  have hw0 : w.grownBy (w.alloc (.cells #[.int .i64 p, .int .i64 q, .int .i64 r, .int .i64 s, .int .i64 t] 23)) none := grown_alloc (grown_refl _ _) _
  go_enter Try.func5, Try.ntmps5
  go_wp2_with fail
  refine (awake_any _).mono ?_; rintro e w1 ⟨rfl, hw1⟩
  have hq1 := hq.grown hw1 (by simp)
  have hw1 := grown_two hw0 hw1
  have c0 := hq1.cell 0; have c1 := hq1.cell 1; have c2 := hq1.cell 2; have c3 := hq1.cell 3; have c4 := hq1.cell 4
  go_wp2_with fail
  refine (NW w1).mono ?_; rintro e w2 ⟨g1, rfl, l1, m2, hw2⟩
  have hq2 := hq1.grown hw2 (by simp)
  have l1' : w.heap.size ≤ g1 := Nat.le_trans hw1.size l1
  have l2 : w.heap.size < g1 := by have := hq1.lt; omega
  have hw2 := grown_two hw1 hw2
  clear c0 c1 c2 c3 c4 hw1
  go_wp2_with fail
  go_loopw [6] (fun i wr => Bnd w p q r s t g1 len i wr) (fun i _ => len - (intOf i).toNat)
  case atStart => exact ⟨0, _, by omega, by omega, rfl, m2, hg, ⟨rfl, rfl, rfl, rfl, rfl⟩, hw2, hq2⟩
  case round =>
    obtain ⟨k, m, hk, hk3, rfl, hm, hmg, hqs, hgr, hqb⟩ := hrel
    have HS := Lib.hid (hS.keep hgr (Nat.le_refl _))
    have HQ := Lib.hid hqs
    clear hqs hS hg NW m2 hw2 hq2 hq hw0 hq1 l1
    by_cases hlt : k < len
    · by_cases h3 : k < 300
      · obtain ⟨hN, b, off, rfl, hb, d0, d1⟩ := HS.out k hlt
        have UA := ask_law (K k) (N k) hN.1 hm hmg
        go_wp2_with fail
        refine UA.mono ?_; rintro e w3 ⟨rfl, m3, hw3⟩
        have hmg3 := does_good hmg (K k) (N k)
        have q3 : (m.does (K k) (N k)).qm = max p 0 ∧ (m.does (K k) (N k)).qo = max q 0 ∧ (m.does (K k) (N k)).qf = max r 0 ∧ (m.does (K k) (N k)).qd = max s 0 ∧ (m.does (K k) (N k)).qs = max t 0 := by
          have h1 := does_q m (K k) (N k)
          have h2 := HQ.out
          exact ⟨h1.1.trans h2.1, h1.2.1.trans h2.2.1, h1.2.2.1.trans h2.2.2.1, h1.2.2.2.1.trans h2.2.2.2.1, h1.2.2.2.2.trans h2.2.2.2.2⟩
        have hq3 := hqb.grown hw3 (fun e => by injection e with e; omega)
        have hw3 := grown_own hgr l1' hw3
        clear UA hm hmg hgr hqb d0 d1 HQ HS
        revert m3 hmg3 q3
        generalize m.does (K k) (N k) = m'
        intro m3 hmg3 q3
        generalize m.says (K k) (N k) = sv
        have Q3 := Lib.hid q3
        clear q3
        go_wp2_with fail
        refine (used_any m3).mono ?_; rintro e w4 ⟨rfl, hw4⟩
        have m4 := m3.grown hw4 (by simp)
        have hq4 := hq3.grown hw4 (by simp)
        have hw4 := grown_two hw3 hw4
        obtain ⟨q0, q1, q2, q3, q4⟩ := Q3.out
        obtain ⟨a1, a2, a3⟩ := hmg3.m1
        obtain ⟨b1, b2, b3⟩ := hmg3.o1
        obtain ⟨e1, e2, e3⟩ := hmg3.f1
        obtain ⟨f1, f2, f3⟩ := hmg3.d1
        obtain ⟨i1, i2, i3⟩ := hmg3.s1
        obtain ⟨j1, j2, j3⟩ := hmg3.p1
        have j4 := hmg3.p2
        have k0 : m'.um ≤ mx 0 p := by unfold mx; omega
        have k1 : m'.pk ≤ mx 0 p := by unfold mx; omega
        have k2 : m'.uo ≤ mx 0 q := by unfold mx; omega
        have k3 : m'.uf ≤ mx 0 r := by unfold mx; omega
        have k4 : m'.ud ≤ mx 0 s := by unfold mx; omega
        have k5 : m'.us ≤ mx 0 t := by unfold mx; omega
        clear a2 a3 b2 b3 e2 e3 f2 f3 i2 i3 j2 j3 q0 q1 q2 q3 q4
        have c0 : (w4.alloc (.cells #[.int .i64 m'.um, .int .i64 m'.pk, .int .i64 m'.uo, .int .i64 m'.uf, .int .i64 m'.ud, .int .i64 m'.us] 30)).cell? ⟨w.heap.size, 0, none⟩ = some (.int .i64 p) := (Blk.alloc hq4 _).cell 0
        have c1 : (w4.alloc (.cells #[.int .i64 m'.um, .int .i64 m'.pk, .int .i64 m'.uo, .int .i64 m'.uf, .int .i64 m'.ud, .int .i64 m'.us] 30)).cell? ⟨w.heap.size, 1, none⟩ = some (.int .i64 q) := (Blk.alloc hq4 _).cell 1
        have c2 : (w4.alloc (.cells #[.int .i64 m'.um, .int .i64 m'.pk, .int .i64 m'.uo, .int .i64 m'.uf, .int .i64 m'.ud, .int .i64 m'.us] 30)).cell? ⟨w.heap.size, 2, none⟩ = some (.int .i64 r) := (Blk.alloc hq4 _).cell 2
        have c3 : (w4.alloc (.cells #[.int .i64 m'.um, .int .i64 m'.pk, .int .i64 m'.uo, .int .i64 m'.uf, .int .i64 m'.ud, .int .i64 m'.us] 30)).cell? ⟨w.heap.size, 3, none⟩ = some (.int .i64 s) := (Blk.alloc hq4 _).cell 3
        have c4 : (w4.alloc (.cells #[.int .i64 m'.um, .int .i64 m'.pk, .int .i64 m'.uo, .int .i64 m'.uf, .int .i64 m'.ud, .int .i64 m'.us] 30)).cell? ⟨w.heap.size, 4, none⟩ = some (.int .i64 t) := (Blk.alloc hq4 _).cell 4
        have m5 := m4.grown (World.grownBy_alloc w4 (.cells #[.int .i64 m'.um, .int .i64 m'.pk, .int .i64 m'.uo, .int .i64 m'.uf, .int .i64 m'.ud, .int .i64 m'.us] 30) none) (by simp)
        have hq5 := hq4.grown (World.grownBy_alloc w4 (.cells #[.int .i64 m'.um, .int .i64 m'.pk, .int .i64 m'.uo, .int .i64 m'.uf, .int .i64 m'.ud, .int .i64 m'.us] 30) none) (by simp)
        have hw5 := grown_alloc hw4 (.cells #[.int .i64 m'.um, .int .i64 m'.pk, .int .i64 m'.uo, .int .i64 m'.uf, .int .i64 m'.ud, .int .i64 m'.us] 30)
        clear m3 hw3
        unfold Mt.usedV
        go_wp2_with fail
        go_roundw
        case rel => exact ⟨k + 1, m', by omega, by omega, by go_num, m5, hmg3, Q3.out, hw5, hq5⟩
        case measure => simp [intOf]; omega
      · clear HQ HS hqb hm
        go_wp2_with fail
        go_ret
        exact ⟨rfl, hgr⟩
    · clear HQ HS hqb hm
      go_wp2_with fail
      go_ret
      exact ⟨rfl, hgr⟩
end
end Go.Proofs.Ytgcdhbjkkillcaa
