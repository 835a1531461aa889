/- MeterStays, walked. -/
import Derived.Test.YtgcdhbjkkillcaaAsk
import Derived.Test.YtgcdhbjkkillcaaScript
namespace Go.Proofs.Ytgcdhbjkkillcaa
open Go.RowKit

/-- What is spent uses nothing more. -/
theorem dead_does {m : Mt} (hg : m.Good) (h : ¬ m.cd = 0) (k n : Int) : ∃ x y, m.does k n = { m with um := x, ud := y } ∧ x ≤ m.um ∧ y ≤ m.ud ∧ (0 ≤ k → k < 5 → m.says k n = false) := by
  have hd : ∀ q u n, may m.cd q u n = false ∧ used m.cd q u n = u ∧ ∀ c, code m.cd q u n c = m.cd := fun q u n => may_dead h
  have hp := hg.p2
  obtain ⟨m1, m2, m3⟩ := hg.m1
  obtain ⟨d1, d2, d3⟩ := hg.d1
  unfold Mt.does Mt.says
  by_cases e0 : k = 0
  · simp only [if_pos e0]
    refine ⟨m.um, m.ud, ?_, Int.le_refl _, Int.le_refl _, fun _ _ => (hd _ _ _).1⟩
    unfold Mt.mem; rw [(hd _ _ _).2.1, (hd _ _ _).2.2, show max m.pk m.um = m.pk by omega]
  simp only [if_neg e0]
  by_cases e1 : k = 1
  · simp only [if_pos e1]
    refine ⟨m.um, m.ud, ?_, Int.le_refl _, Int.le_refl _, fun _ _ => (hd _ _ _).1⟩
    unfold Mt.out; rw [(hd _ _ _).2.1, (hd _ _ _).2.2]
  simp only [if_neg e1]
  by_cases e2 : k = 2
  · simp only [if_pos e2]
    refine ⟨m.um, m.ud, ?_, Int.le_refl _, Int.le_refl _, fun _ _ => (hd _ _ _).1⟩
    unfold Mt.file; rw [(hd _ _ _).2.1, (hd _ _ _).2.2]
  simp only [if_neg e2]
  by_cases e3 : k = 3
  · simp only [if_pos e3]
    refine ⟨m.um, m.ud, ?_, Int.le_refl _, Int.le_refl _, fun _ _ => (hd _ _ _).1⟩
    unfold Mt.down; rw [(hd _ _ _).2.1, (hd _ _ _).2.2]
  simp only [if_neg e3]
  by_cases e4 : k = 4
  · simp only [if_pos e4]
    refine ⟨m.um, m.ud, ?_, Int.le_refl _, Int.le_refl _, fun _ _ => (hd _ _ _).1⟩
    unfold Mt.step; rw [(hd _ _ _).2.1, (hd _ _ _).2.2]
  simp only [if_neg e4]
  by_cases e5 : k = 5
  · simp only [if_pos e5]
    exact ⟨m.um - min (max n 0) m.um, m.ud, rfl, by omega, Int.le_refl _, fun _ h => by omega⟩
  simp only [if_neg e5]
  exact ⟨m.um, m.ud - min 1 m.ud, rfl, Int.le_refl _, by omega, fun _ h => by omega⟩

/-- The six cells of what was used. -/
def Mt.ucells (m : Mt) : Array Value := #[.int .i64 m.um, .int .i64 m.pk, .int .i64 m.uo, .int .i64 m.uf, .int .i64 m.ud, .int .i64 m.us]
theorem ucellsAt {w : World} {b : Nat} {m : Mt} (h : Blk w b 30 m.ucells) : w.cell? ⟨b, 0, none⟩ = some (.int .i64 m.um) ∧ w.cell? ⟨b, 1, none⟩ = some (.int .i64 m.pk) ∧ w.cell? ⟨b, 2, none⟩ = some (.int .i64 m.uo) ∧ w.cell? ⟨b, 3, none⟩ = some (.int .i64 m.uf) ∧
    w.cell? ⟨b, 4, none⟩ = some (.int .i64 m.ud) ∧ w.cell? ⟨b, 5, none⟩ = some (.int .i64 m.us) :=
  ⟨Blk.cell h 0, Blk.cell h 1, Blk.cell h 2, Blk.cell h 3, Blk.cell h 4, Blk.cell h 5⟩
theorem ufreeAt {w : World} {b : Nat} {m : Mt} (h : Blk w b 30 m.ucells) : w.frozen? ⟨b, 0, none⟩ = false ∧ w.frozen? ⟨b, 1, none⟩ = false ∧ w.frozen? ⟨b, 2, none⟩ = false ∧ w.frozen? ⟨b, 3, none⟩ = false ∧ w.frozen? ⟨b, 4, none⟩ = false ∧ w.frozen? ⟨b, 5, none⟩ = false :=
  ⟨Blk.free h 0, Blk.free h 1, Blk.free h 2, Blk.free h 3, Blk.free h 4, Blk.free h 5⟩
/-- The six stores. -/
theorem uput {w W : World} {b g : Nat} {m m' m2 : Mt} (h : Blk w b 30 m.ucells) (hm : Mtr w g m2) (hne : g ≠ b) (hW : W.grownBy w none) (hb : W.heap.size ≤ b) :
    Blk ((((((w.setCell { block := b, off := 0 } (.int .i64 m'.um)).setCell { block := b, off := 1 } (.int .i64 m'.pk)).setCell { block := b, off := 2 } (.int .i64 m'.uo)).setCell { block := b, off := 3 } (.int .i64 m'.uf)).setCell { block := b, off := 4 } (.int .i64 m'.ud)).setCell { block := b, off := 5 } (.int .i64 m'.us)) b 30 m'.ucells ∧
    Mtr ((((((w.setCell { block := b, off := 0 } (.int .i64 m'.um)).setCell { block := b, off := 1 } (.int .i64 m'.pk)).setCell { block := b, off := 2 } (.int .i64 m'.uo)).setCell { block := b, off := 3 } (.int .i64 m'.uf)).setCell { block := b, off := 4 } (.int .i64 m'.ud)).setCell { block := b, off := 5 } (.int .i64 m'.us)) g m2 ∧
    W.grownBy ((((((w.setCell { block := b, off := 0 } (.int .i64 m'.um)).setCell { block := b, off := 1 } (.int .i64 m'.pk)).setCell { block := b, off := 2 } (.int .i64 m'.uo)).setCell { block := b, off := 3 } (.int .i64 m'.uf)).setCell { block := b, off := 4 } (.int .i64 m'.ud)).setCell { block := b, off := 5 } (.int .i64 m'.us)) none := by
  refine ⟨(((((h.put 0 _).put 1 _).put 2 _).put 3 _).put 4 _).put 5 _, ?_, ?_⟩
  · exact (((((Blk.far hm (p := ⟨b, 0, none⟩) hne _).far (p := ⟨b, 1, none⟩) hne _).far (p := ⟨b, 2, none⟩) hne _).far (p := ⟨b, 3, none⟩) hne _).far (p := ⟨b, 4, none⟩) hne _).far (p := ⟨b, 5, none⟩) hne _
  · exact grown_putNew (p := ⟨b, 5, none⟩) (grown_putNew (p := ⟨b, 4, none⟩) (grown_putNew (p := ⟨b, 3, none⟩) (grown_putNew (p := ⟨b, 2, none⟩) (grown_putNew (p := ⟨b, 1, none⟩) (grown_putNew (p := ⟨b, 0, none⟩) hW hb _) hb _) hb _) hb _) hb _) hb _

/-- What a round of MeterStays keeps. -/
def Sty (W : World) (g1 gu len : Nat) (c i : Value) (wr : World) : Prop :=
  ∃ (k : Nat) (m : Mt), k ≤ len ∧ k ≤ 300 ∧ i = .int .i64 k ∧ c = .int .i64 m.cd ∧ Mtr wr g1 m ∧ m.Good ∧ Blk wr gu 30 m.ucells ∧ W.grownBy wr none

set_option maxRecDepth 100000 in
set_option maxHeartbeats 8000000 in
theorem stays_walk (p q r s t : Int) (bq : q ≤ 9223372036854775807) (bp : p ≤ 9223372036854775807) (br : r ≤ 9223372036854775807) (bs : s ≤ 9223372036854775807) (bt : t ≤ 9223372036854775807)
    (A : Option Addr) (len cap : Nat) (K N : Nat → Int) (hlen : len ≤ 9223372036854775807) (w : World) (hS : Script w w.heap.size A len K N) :
    Calls Try.prog 7 #[.agg #[.int .i64 p, .int .i64 q, .int .i64 r, .int .i64 s, .int .i64 t], .slice A len cap] w fun e w' => e = .returned (.bool true) ∧ w.grownBy w' none := by
  have hg := new_good p q r s t bp bq br bs bt
  have hu0 : (Mt.new p q r s t).ucells = #[.int .i64 0, .int .i64 0, .int .i64 0, .int .i64 0, .int .i64 0, .int .i64 0] := rfl
  have hc0 : (Mt.new p q r s t).cd = 0 := rfl
  have NW := new_ex p q r s t
  generalize Mt.new p q r s t = m0 at *
  have HC := Lib.hid hc0
  have HU := Lib.hid hu0
  clear hc0 hu0
  have hq : Blk (w.alloc (.cells #[.int .i64 p, .int .i64 q, .int .i64 r, .int .i64 s, .int .i64 t] 23)) w.heap.size 23 #[.int .i64 p, .int .i64 q, .int .i64 r, .int .i64 s, .int .i64 t] := Blk.new _ _ _
  have hw0 : w.grownBy (w.alloc (.cells #[.int .i64 p, .int .i64 q, .int .i64 r, .int .i64 s, .int .i64 t] 23)) none := grown_alloc (grown_refl _ _) _
  go_enter Try.func7, Try.ntmps7
  go_wp2_with fail
  refine (awake_any _).mono ?_; rintro e w1 ⟨rfl, hw1⟩
  have hq1 := hq.grown hw1 (by simp)
  have hw1 := grown_two hw0 hw1
  have c0 := hq1.cell 0; have c1 := hq1.cell 1; have c2 := hq1.cell 2; have c3 := hq1.cell 3; have c4 := hq1.cell 4
  go_wp2_with fail
  refine (NW w1).mono ?_; rintro e w2 ⟨g1, rfl, l1, m2, hw2⟩
  have l2 : w.heap.size < g1 := by have := hq1.lt; omega
  have l3 : g1 < w2.heap.size := Blk.lt m2
  have hw2 := grown_two hw1 hw2
  have hU2 : Blk (w2.alloc (.cells #[.int .i64 0, .int .i64 0, .int .i64 0, .int .i64 0, .int .i64 0, .int .i64 0] 30)) w2.heap.size 30 m0.ucells := by rw [HU.out]; exact Blk.new _ _ _
  have m2' : Mtr (w2.alloc (.cells #[.int .i64 0, .int .i64 0, .int .i64 0, .int .i64 0, .int .i64 0, .int .i64 0] 30)) g1 m0 := Blk.alloc m2 _
  have hw2' := grown_alloc hw2 (.cells #[.int .i64 0, .int .i64 0, .int .i64 0, .int .i64 0, .int .i64 0, .int .i64 0] 30)
  clear c0 c1 c2 c3 c4 hw1 hq hq1 hw0
  go_wp2_with fail
  generalize w2.heap.size = gu at *
  go_loopw [6, 8] (fun c i wr => Sty w g1 gu len c i wr) (fun _ i _ => len - (intOf i).toNat)
  case atStart => exact ⟨0, m0, by omega, by omega, rfl, by rw [HC.out], m2', hg, hU2, hw2'⟩
  case round =>
    obtain ⟨k, m, hk, hk3, rfl, rfl, hm, hmg, hU, hgr⟩ := hrel
    have HS := Lib.hid (hS.keep hgr (Nat.le_refl _))
    clear hS hg NW m2 hw2 HC HU hU2 m2' hw2'
    by_cases hlt : k < len
    · by_cases h3 : k < 300
      · obtain ⟨hN, b, off, rfl, hb, d0, d1⟩ := HS.out k hlt
        clear HS
        have UA := ask_law (K k) (N k) hN.1 hm hmg
        have hmg' := does_good hmg (K k) (N k)
        have DD := fun h => dead_does hmg h (K k) (N k)
        by_cases hz : m.cd = 0
        · have hz' : (m.cd != 0) = false := by simp [hz]
          revert UA hmg' DD
          generalize m.does (K k) (N k) = m'
          generalize m.says (K k) (N k) = x
          intro UA hmg' DD
          clear DD hz
          go_wp2_with fail
          refine UA.mono ?_; rintro e w3 ⟨rfl, m3, hw3⟩
          have hU3 := hU.grown hw3 (fun e => by injection e; omega)
          have hw3 := grown_own hgr (by omega) hw3
          clear UA hm d0 d1 hgr hU
          go_wp2_with fail
          refine (used_any m3).mono ?_; rintro e w4 ⟨rfl, hw4⟩
          have m4 := m3.grown hw4 (by simp)
          have hU4 := hU3.grown hw4 (by simp)
          have hw4 := grown_two hw3 hw4
          have hU5 := Blk.alloc hU4 (.cells #[.int .i64 m'.um, .int .i64 m'.pk, .int .i64 m'.uo, .int .i64 m'.uf, .int .i64 m'.ud, .int .i64 m'.us] 30)
          have m5 := Blk.alloc m4 (.cells #[.int .i64 m'.um, .int .i64 m'.pk, .int .i64 m'.uo, .int .i64 m'.uf, .int .i64 m'.ud, .int .i64 m'.us] 30)
          have hw5 := grown_alloc hw4 (.cells #[.int .i64 m'.um, .int .i64 m'.pk, .int .i64 m'.uo, .int .i64 m'.uf, .int .i64 m'.ud, .int .i64 m'.us] 30)
          clear m3 hU3 hw3
          unfold Mt.usedV
          obtain ⟨y0, y1, y2, y3, y4, y5⟩ := ucellsAt hU5
          obtain ⟨z0, z1, z2, z3, z4, z5⟩ := ufreeAt hU5
          have P := uput (m' := m') hU5 m5 (show g1 ≠ gu by omega) hw5 (by omega)
          clear hU5 hw5 m4 hU4 hw4
          have HP := Lib.hid P
          clear P
          go_wp2_with fail
          refine (code_any m5).mono ?_; rintro e w6 ⟨rfl, rfl⟩
          go_wp2_with fail
          go_roundw
          case rel => exact ⟨k + 1, m', by omega, by omega, by go_num, rfl, HP.out.2.1, hmg', HP.out.1, HP.out.2.2⟩
          case measure => simp [intOf]; omega
        · obtain ⟨x', y', hdo, hx, hy, hsay⟩ := DD hz
          rw [hdo] at UA hmg'
          have HZ := Lib.hid (show (m.cd != 0) = true by simpa using hz)
          clear hdo
          by_cases hK : 0 ≤ K k ∧ K k < 5
          · obtain ⟨hK1, hK2⟩ := hK
            rw [hsay hK1 hK2] at UA
            clear DD hz hsay
            have hz' : (m.cd != 0) = true := HZ.out
            clear HZ
            go_wp2_with fail
            refine UA.mono ?_; rintro e w3 ⟨rfl, m3, hw3⟩
            have e0 := hw3.cell d0 (fun e => by injection e with e; simp at e; omega)
            have hU3 := hU.grown hw3 (fun e => by injection e; omega)
            have hw3 := grown_own hgr (by omega) hw3
            clear UA hm d0 d1 hgr hU
            go_wp2_with fail
            refine (used_any m3).mono ?_; rintro e w4 ⟨rfl, hw4⟩
            have m4 := m3.grown hw4 (by simp)
            have e1 := hw4.cell e0 (by simp)
            have hU4 := hU3.grown hw4 (by simp)
            have hw4 := grown_two hw3 hw4
            have hU5 := Blk.alloc hU4 (.cells #[.int .i64 x', .int .i64 m.pk, .int .i64 m.uo, .int .i64 m.uf, .int .i64 y', .int .i64 m.us] 30)
            have m5 := Blk.alloc m4 (.cells #[.int .i64 x', .int .i64 m.pk, .int .i64 m.uo, .int .i64 m.uf, .int .i64 y', .int .i64 m.us] 30)
            have hw5 := grown_alloc hw4 (.cells #[.int .i64 x', .int .i64 m.pk, .int .i64 m.uo, .int .i64 m.uf, .int .i64 y', .int .i64 m.us] 30)
            have e2 : (w4.alloc (.cells #[.int .i64 x', .int .i64 m.pk, .int .i64 m.uo, .int .i64 m.uf, .int .i64 y', .int .i64 m.us] 30)).cell? ⟨b, off + k * 2, none⟩ = some (.int .i64 (K k)) := (World.grownBy_alloc w4 (.cells #[.int .i64 x', .int .i64 m.pk, .int .i64 m.uo, .int .i64 m.uf, .int .i64 y', .int .i64 m.us] 30) none).cell e1 (by simp)
            clear m3 hU3 hw3 e0 e1
            unfold Mt.usedV
            obtain ⟨y0, y1, y2, y3, y4, y5⟩ := ucellsAt hU5
            obtain ⟨z0, z1, z2, z3, z4, z5⟩ := ufreeAt hU5
            have P := uput (m' := { m with um := x', ud := y' }) hU5 m5 (show g1 ≠ gu by omega) hw5 (by omega)
            clear hU5 hw5 m4 hU4 hw4
            have HP := Lib.hid P
            clear P
            go_wp2_with fail
            refine (code_any m5).mono ?_; rintro e w6 ⟨rfl, rfl⟩
            go_wp2_with fail
            refine (code_any m5).mono ?_; rintro e w6 ⟨rfl, rfl⟩
            go_wp2_with fail
            go_roundw
            case rel => exact ⟨k + 1, { m with um := x', ud := y' }, by omega, by omega, by go_num, rfl, HP.out.2.1, hmg', HP.out.1, HP.out.2.2⟩
            case measure => simp [intOf]; omega
          · have hK' : K k < 0 ∨ 5 ≤ K k := by omega
            generalize m.says (K k) (N k) = sv at UA hsay
            clear hK
            rcases hK' with hK | hK <;> cases sv
            all_goals
              clear DD hz hsay
              have hz' : (m.cd != 0) = true := HZ.out
              clear HZ
              go_wp2_with fail
              refine UA.mono ?_; rintro e w3 ⟨rfl, m3, hw3⟩
              have e0 := hw3.cell d0 (fun e => by injection e with e; simp at e; omega)
              have hU3 := hU.grown hw3 (fun e => by injection e; omega)
              have hw3 := grown_own hgr (by omega) hw3
              clear UA hm d0 d1 hgr hU
              go_wp2_with fail
              refine (used_any m3).mono ?_; rintro e w4 ⟨rfl, hw4⟩
              have m4 := m3.grown hw4 (by simp)
              have e1 := hw4.cell e0 (by simp)
              have hU4 := hU3.grown hw4 (by simp)
              have hw4 := grown_two hw3 hw4
              have hU5 := Blk.alloc hU4 (.cells #[.int .i64 x', .int .i64 m.pk, .int .i64 m.uo, .int .i64 m.uf, .int .i64 y', .int .i64 m.us] 30)
              have m5 := Blk.alloc m4 (.cells #[.int .i64 x', .int .i64 m.pk, .int .i64 m.uo, .int .i64 m.uf, .int .i64 y', .int .i64 m.us] 30)
              have hw5 := grown_alloc hw4 (.cells #[.int .i64 x', .int .i64 m.pk, .int .i64 m.uo, .int .i64 m.uf, .int .i64 y', .int .i64 m.us] 30)
              have e2 : (w4.alloc (.cells #[.int .i64 x', .int .i64 m.pk, .int .i64 m.uo, .int .i64 m.uf, .int .i64 y', .int .i64 m.us] 30)).cell? ⟨b, off + k * 2, none⟩ = some (.int .i64 (K k)) := (World.grownBy_alloc w4 (.cells #[.int .i64 x', .int .i64 m.pk, .int .i64 m.uo, .int .i64 m.uf, .int .i64 y', .int .i64 m.us] 30) none).cell e1 (by simp)
              clear m3 hU3 hw3 e0 e1
              unfold Mt.usedV
              obtain ⟨y0, y1, y2, y3, y4, y5⟩ := ucellsAt hU5
              obtain ⟨z0, z1, z2, z3, z4, z5⟩ := ufreeAt hU5
              have P := uput (m' := { m with um := x', ud := y' }) hU5 m5 (show g1 ≠ gu by omega) hw5 (by omega)
              clear hU5 hw5 m4 hU4 hw4
              have HP := Lib.hid P
              clear P
              go_wp2_with fail
              refine (code_any m5).mono ?_; rintro e w6 ⟨rfl, rfl⟩
              go_wp2_with fail
              refine (code_any m5).mono ?_; rintro e w6 ⟨rfl, rfl⟩
              go_wp2_with fail
              go_roundw
              case rel => exact ⟨k + 1, { m with um := x', ud := y' }, by omega, by omega, by go_num, rfl, HP.out.2.1, hmg', HP.out.1, HP.out.2.2⟩
              case measure => simp [intOf]; omega
      · clear HS hm hU
        by_cases hz : m.cd = 0
        · have hz1 : (m.cd == 0) = true := by simp [hz]
          clear hz
          go_wp2_with fail
          go_ret
          exact ⟨rfl, hgr⟩
        · have hz1 : (m.cd == 0) = false := by simp [hz]
          obtain ⟨x1, x2⟩ : 101 ≤ m.cd ∧ m.cd ≤ 105 := by rcases hmg.c1 with h | h
                                                          · exact absurd h hz
                                                          · exact h
          clear hz
          go_wp2_with fail
          go_ret
          exact ⟨rfl, hgr⟩
    · clear HS hm hU
      by_cases hz : m.cd = 0
      · have hz1 : (m.cd == 0) = true := by simp [hz]
        clear hz
        go_wp2_with fail
        go_ret
        exact ⟨rfl, hgr⟩
      · have hz1 : (m.cd == 0) = false := by simp [hz]
        obtain ⟨x1, x2⟩ : 101 ≤ m.cd ∧ m.cd ≤ 105 := by rcases hmg.c1 with h | h
                                                        · exact absurd h hz
                                                        · exact h
        clear hz
        go_wp2_with fail
        go_ret
        exact ⟨rfl, hgr⟩
end Go.Proofs.Ytgcdhbjkkillcaa
