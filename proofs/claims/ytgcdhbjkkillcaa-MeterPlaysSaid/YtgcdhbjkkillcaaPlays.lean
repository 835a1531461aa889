/- MeterPlays, walked. -/
import Derived.Test.YtgcdhbjkkillcaaAsk
import Derived.Test.YtgcdhbjkkillcaaScript
namespace Go.Proofs.Ytgcdhbjkkillcaa
open Go.RowKit

/-- What a round of MeterPlays keeps: meter and reference hold one and the same plain meter. -/
def Ply (W : World) (g1 g2 len : Nat) (i : Value) (wr : World) : Prop :=
  ∃ (k : Nat) (m : Mt), k ≤ len ∧ k ≤ 300 ∧ i = .int .i64 k ∧ Mtr wr g1 m ∧ Rtr wr g2 m ∧ m.Good ∧ W.grownBy wr none

theorem cells_kept {w w' : World} {g : Nat} {b o : Nat} {v : Value} (h : w.cell? ⟨b, o, none⟩ = some v) (hg : w.grownBy w' (some g)) (hne : b < g) : w'.cell? ⟨b, o, none⟩ = some v :=
  hg.cell h (fun e => by injection e with e; simp at e; omega)

theorem Rtr.cellsAt {w : World} {b : Nat} {m : Mt} (h : Rtr w b m) : w.cell? ⟨b, 5, none⟩ = some (.int .i64 m.um) ∧ w.cell? ⟨b, 6, none⟩ = some (.int .i64 m.pk) ∧ w.cell? ⟨b, 7, none⟩ = some (.int .i64 m.uo) ∧ w.cell? ⟨b, 8, none⟩ = some (.int .i64 m.uf) ∧
    w.cell? ⟨b, 9, none⟩ = some (.int .i64 m.ud) ∧ w.cell? ⟨b, 10, none⟩ = some (.int .i64 m.us) ∧ w.cell? ⟨b, 11, none⟩ = some (.int .i64 m.cd) :=
  ⟨Blk.cell h 5, Blk.cell h 6, Blk.cell h 7, Blk.cell h 8, Blk.cell h 9, Blk.cell h 10, Blk.cell h 11⟩

set_option maxRecDepth 100000 in
set_option maxHeartbeats 8000000 in
theorem plays_walk (p q r s t : Int) (bq : q ≤ 9223372036854775807) (bp : p ≤ 9223372036854775807) (br : r ≤ 9223372036854775807) (bs : s ≤ 9223372036854775807) (bt : t ≤ 9223372036854775807)
    (A : Option Addr) (len cap : Nat) (K N : Nat → Int) (hlen : len ≤ 9223372036854775807) (w : World) (hS : Script w w.heap.size A len K N) :
    Calls Try.prog 4 #[.agg #[.int .i64 p, .int .i64 q, .int .i64 r, .int .i64 s, .int .i64 t], .slice A len cap] w fun e w' => e = .returned (.bool true) ∧ w.grownBy w' none := by
  have hg := new_good p q r s t bp bq br bs bt
  have NW := new_ex p q r s t
  have RW := rnew_ex p q r s t
  generalize Mt.new p q r s t = m0 at *
  have hq : Blk (w.alloc (.cells #[.int .i64 p, .int .i64 q, .int .i64 r, .int .i64 s, .int .i64 t] 23)) w.heap.size 23 #[.int .i64 p, .int .i64 q, .int .i64 r, .int .i64 s, .int .i64 t] := Blk.new _ _ _
  have hw0 : w.grownBy (w.alloc (.cells #[.int .i64 p, .int .i64 q, .int .i64 r, .int .i64 s, .int .i64 t] 23)) none := grown_alloc (grown_refl _ _) _
  go_enter Try.func4, Try.ntmps4
  go_wp2_with fail
  refine (awake_any _).mono ?_; rintro e w1 ⟨rfl, hw1⟩
  have hq1 := hq.grown hw1 (by simp)
  have hw1 := grown_two hw0 hw1
  have c0 := hq1.cell 0; have c1 := hq1.cell 1; have c2 := hq1.cell 2; have c3 := hq1.cell 3; have c4 := hq1.cell 4
  go_wp2_with fail
  refine (NW w1).mono ?_; rintro e w2 ⟨g1, rfl, l1, m2, hw2⟩
  have hq2 := hq1.grown hw2 (by simp)
  have l1' : w.heap.size < g1 := by have := hq1.lt; omega
  have hw2 := grown_two hw1 hw2
  clear c0 c1 c2 c3 c4 hw1 hq hw0 hq1
  have c0 := hq2.cell 0; have c1 := hq2.cell 1; have c2 := hq2.cell 2; have c3 := hq2.cell 3; have c4 := hq2.cell 4
  go_wp2_with fail
  refine (RW w2).mono ?_; rintro e w3 ⟨g2, rfl, l2, n3, hw3⟩
  have l3 : g1 < g2 := by have := Blk.lt m2; omega
  have m3 := m2.grown hw3 (by simp)
  have hw3 := grown_two hw2 hw3
  clear c0 c1 c2 c3 c4 hw2 hq2 m2 l1 l2
  go_wp2_with fail
  go_loopw [7] (fun i wr => Ply w g1 g2 len i wr) (fun i _ => len - (intOf i).toNat)
  case atStart => exact ⟨0, m0, by omega, by omega, rfl, m3, n3, hg, hw3⟩
  case round =>
    obtain ⟨k, m, hk, hk3, rfl, hm, hn, hmg, hgr⟩ := hrel
    have HS := Lib.hid (hS.keep hgr (Nat.le_refl _))
    clear hS hg NW RW m3 n3 hw3
    by_cases hlt : k < len
    · by_cases h3 : k < 300
      · obtain ⟨hN, b, off, rfl, hb, d0, d1⟩ := HS.out k hlt
        clear HS
        have UA := ask_law (K k) (N k) hN.1 (show Mtr wr.drew g1 m from hm) hmg
        go_wp2_with fail
        go_region_with (first | (go_at_call 13; refine UA.mono ?_; rintro e w4 ⟨rfl, m4, hw4⟩; have n4 := (show Rtr wr.drew g2 m from hn).grown hw4 (fun e => by injection e; omega); have e0 := cells_kept (show wr.drew.cell? _ = _ from d0) hw4 (by omega); have e1 := cells_kept (show wr.drew.cell? _ = _ from d1) hw4 (by omega)) | (go_at_call 14; refine (said_law (K k) (N k) hN.1 n4 hmg).mono ?_; rintro e w5 ⟨rfl, n5, hw5⟩; have m5 := m4.grown hw5 (fun e => by injection e; omega); obtain ⟨r0, r1, r2, r3, r4, r5, r6⟩ := n5.cellsAt) | (go_at_call 11; refine (used_any m5).mono ?_; rintro e w6 ⟨rfl, hw6⟩; have n6 := n5.grown hw6 (by simp); have m6 := m5.grown hw6 (by simp); obtain ⟨s0, s1, s2, s3, s4, s5, s6⟩ := n6.cellsAt; unfold Mt.usedV) | (go_at_call 15; refine (code_any m6).mono ?_; rintro e w7 ⟨rfl, rfl⟩))
        all_goals
          have hG := grown_two (grown_own (grown_own (grown_drew hgr) (by omega) hw4) (by omega) hw5) hw6
          have hmg' := does_good hmg (K k) (N k)
          clear UA hm hn hmg hgr d0 d1 m4 n4 e0 e1 hw4 m5 n5 hw5 hw6
          go_wp2_with fail
          go_roundw
          case rel => exact ⟨k + 1, _, by omega, by omega, by go_num, m6, n6, hmg', hG⟩
          case measure => simp [intOf]; omega
      · go_wp2_with fail
        go_ret
        exact ⟨rfl, hgr⟩
    · go_wp2_with fail
      go_ret
      exact ⟨rfl, hgr⟩
end Go.Proofs.Ytgcdhbjkkillcaa
