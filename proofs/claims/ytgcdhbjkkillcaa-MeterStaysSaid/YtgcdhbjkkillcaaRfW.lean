/- The reference's meter, walked: it holds the same plain meter, its cells in another order. -/
import Derived.Test.YtgcdhbjkkillcaaMtA
namespace Go.Proofs.Ytgcdhbjkkillcaa
open Go.RowKit

/-- The twelve cells of the reference's meter. -/
def Mt.rcells (m : Mt) : Array Value := #[.int .i64 m.qm, .int .i64 m.qo, .int .i64 m.qf, .int .i64 m.qd, .int .i64 m.qs, .int .i64 m.um, .int .i64 m.pk, .int .i64 m.uo, .int .i64 m.uf, .int .i64 m.ud, .int .i64 m.us, .int .i64 m.cd]
def Rtr (w : World) (b : Nat) (m : Mt) : Prop := Blk w b 42 m.rcells
theorem Rtr.grown {w w' : World} {b : Nat} {m : Mt} {row : Option Nat} (h : Rtr w b m) (hb : w.grownBy w' row) (hg : some b ≠ row) : Rtr w' b m := Blk.grown h hb hg

section
attribute [local go_sem ↓] run_mx
theorem rnew_ex (a b c d e : Int) (w : World) :
    Calls Try.prog 12 #[.agg #[.int .i64 a, .int .i64 b, .int .i64 c, .int .i64 d, .int .i64 e]] w fun r w' => ∃ g, r = .returned (.pointer (some ⟨g, 0, none⟩)) ∧ w.heap.size ≤ g ∧ Rtr w' g (Mt.new a b c d e) ∧ w.grownBy w' none := by
  go_enter Try.func12, Try.ntmps12
  go_wp2
  go_ret
  have h := Blk.new (w.alloc (.cells #[.int .i64 a, .int .i64 b, .int .i64 c, .int .i64 d, .int .i64 e] 23)) 42 (#[.int .i64 (mx 0 a), .int .i64 (mx 0 b), .int .i64 (mx 0 c), .int .i64 (mx 0 d), .int .i64 (mx 0 e), .int .i64 0, .int .i64 0, .int .i64 0, .int .i64 0, .int .i64 0, .int .i64 0, .int .i64 0])
  refine ⟨_, rfl, Nat.le_succ _, ?_, grown_alloc (grown_alloc (grown_refl _ _) _) _⟩
  rw [World.size_alloc] at h
  have e1 : ∀ x : Int, mx 0 x = max x 0 := fun x => by unfold mx; omega
  simp only [e1] at h ⊢
  exact h
end

section
variable {w : World} {b : Nat} {m : Mt}

set_option maxHeartbeats 400000 in
/-- n more, by the reference. -/
theorem more_any (now most n c : Int) (hf : Fits most now) (h : Rtr w b m) :
    Calls Try.prog 31 #[.pointer (some ⟨b, 0, none⟩), .int .i64 now, .int .i64 most, .int .i64 n, .int .i64 c] w fun e w' =>
      e = .returned (.tuple #[.int .i64 (used m.cd most now n), .bool (may m.cd most now n)]) ∧ Rtr w' b { m with cd := code m.cd most now n c } ∧ w.grownBy w' (some b) ∧ w'.heap.size = w.heap.size := by
  obtain ⟨k0, k1, k2⟩ := hf
  have hc : w.cell? ⟨b, 11, none⟩ = some (.int .i64 m.cd) := Blk.cell h 11
  have fc := Blk.free h 11
  have hP := Blk.put h 11 (.int .i64 c)
  have HH := Lib.hid h
  have HP := Lib.hid hP
  clear h hP
  by_cases hcd : m.cd = 0
  · by_cases hk : max n 0 ≤ most - now
    · obtain ⟨e1, e2, e3⟩ := may_yes hcd hk
      rw [e1, e2, e3]
      have E : Rtr w b { m with cd := 0 } := by
        have := HH.out
        unfold Rtr Mt.rcells at this ⊢
        rw [hcd] at this
        exact this
      have hcd' : (m.cd != 0) = false := by simp [hcd]
      have H := Lib.hid (show max n 0 = if n < 0 then 0 else n by split <;> omega)
      clear e1 e2 e3
      have HE := Lib.hid E
      clear E
      by_cases hn : n < 0
      · have hk' : (0 : Int) ≤ most - now := by omega
        clear hk hcd
        go_enter Try.func31, Try.ntmps31
        go_wp2
        go_ret2
        exact ⟨by rw [H.out, if_pos hn]; simp, HE.out, grown_refl _ _, rfl⟩
      · have hk' : n ≤ most - now := by omega
        clear hk hcd
        go_enter Try.func31, Try.ntmps31
        go_wp2
        go_ret2
        exact ⟨by rw [H.out, if_neg (by omega)]; rfl, HE.out, grown_refl _ _, rfl⟩
    · obtain ⟨e1, e2, e3⟩ := may_no hcd (show most - now < max n 0 by omega)
      rw [e1, e2, e3]
      have hcd' : (m.cd != 0) = false := by simp [hcd]
      have hn : ¬ n < 0 := by omega
      have hk' : most - now < n := by omega
      clear e1 e2 e3 hk hcd
      go_enter Try.func31, Try.ntmps31
      go_wp2
      go_ret2
      exact ⟨rfl, HP.out, grown_put (grown_refl _ _) _ _, by simp⟩
  · obtain ⟨e1, e2, e3⟩ := may_dead hcd (q := most) (u := now) (n := n)
    rw [e1, e2, e3]
    have hcd' : (m.cd != 0) = true := by simp [hcd]
    clear e1 e2 e3 hcd
    by_cases hn : n < 0
    all_goals
      go_enter Try.func31, Try.ntmps31
      go_wp2
      go_ret2
      exact ⟨rfl, HH.out, grown_refl _ _, rfl⟩

set_option maxHeartbeats 2000000 in
theorem rask0 (n : Int) (h : Rtr w b m) (hg : m.Good) :
    Calls Try.prog 24 #[.pointer (some ⟨b, 0, none⟩), .int .i64 0, .int .i64 n] w fun e w' => e = .returned (.bool (may m.cd m.qm m.um n)) ∧ Rtr w' b (m.mem n) ∧ w.grownBy w' (some b) := by
  have hq : w.cell? ⟨b, 0, none⟩ = some (.int .i64 m.qm) := Blk.cell h 0
  have hu : w.cell? ⟨b, 5, none⟩ = some (.int .i64 m.um) := Blk.cell h 5
  have hf := hg.m1
  have M := more_any m.um m.qm n 101 hf h.drew
  have hX : m.mem n = { m with um := used m.cd m.qm m.um n, pk := max m.pk (used m.cd m.qm m.um n), cd := code m.cd m.qm m.um n 101 } := rfl
  rw [hX]
  clear hX
  obtain ⟨pk', hpk⟩ : ∃ p, p = max m.pk (used m.cd m.qm m.um n) := ⟨_, rfl⟩
  rw [← hpk]
  have HP := Lib.hid hpk
  clear hpk
  by_cases hle : m.pk < used m.cd m.qm m.um n
  · obtain rfl : pk' = used m.cd m.qm m.um n := by have := HP.out; omega
    clear HP
    go_enter Try.func24, Try.ntmps24
    go_wp2_with fail
    go_region_with (go_at_call 31; refine M.mono ?_; rintro e w1 ⟨rfl, hR, hR2, hR3⟩; have f5 := Blk.free hR 5; have c5 := Blk.cell hR 5)
    all_goals
      have hP := Blk.put hR 5 (.int .i64 (used m.cd m.qm m.um n))
      have hG := grown_put (grown_trans (grown_drew (grown_refl w _)) hR2) 5 (.int .i64 (used m.cd m.qm m.um n))
      clear M hR hR2 hR3 f5 c5
      revert hP hG
      generalize w1.setCell { block := b, off := 5 } (.int .i64 (used m.cd m.qm m.um n)) = w3
      intro hP hG
      have k5 : w3.cell? ⟨b, 5, none⟩ = some (.int .i64 (used m.cd m.qm m.um n)) := Blk.cell hP 5
      have k6 : w3.cell? ⟨b, 6, none⟩ = some (.int .i64 m.pk) := Blk.cell hP 6
      have f6 := Blk.free hP 6
      go_wp2_with fail
      go_quiet (fail)
      go_wp2_with fail
      go_ret
      exact ⟨rfl, Blk.put (hP.drewN _) 6 _, grown_put (grown_drewN hG _) _ _⟩
  · obtain rfl : pk' = m.pk := by have := HP.out; omega
    clear HP
    go_enter Try.func24, Try.ntmps24
    go_wp2_with fail
    go_region_with (go_at_call 31; refine M.mono ?_; rintro e w1 ⟨rfl, hR, hR2, hR3⟩; have f5 := Blk.free hR 5; have c5 := Blk.cell hR 5)
    all_goals
      have hP := Blk.put hR 5 (.int .i64 (used m.cd m.qm m.um n))
      have hG := grown_put (grown_trans (grown_drew (grown_refl w _)) hR2) 5 (.int .i64 (used m.cd m.qm m.um n))
      clear M hR hR2 hR3 f5 c5
      revert hP hG
      generalize w1.setCell { block := b, off := 5 } (.int .i64 (used m.cd m.qm m.um n)) = w3
      intro hP hG
      have k5 : w3.cell? ⟨b, 5, none⟩ = some (.int .i64 (used m.cd m.qm m.um n)) := Blk.cell hP 5
      have k6 : w3.cell? ⟨b, 6, none⟩ = some (.int .i64 m.pk) := Blk.cell hP 6
      go_wp2_with fail
      go_quiet (fail)
      go_wp2_with fail
      go_ret
      exact ⟨rfl, hP.drewN _, grown_drewN hG _⟩

set_option maxHeartbeats 1000000 in
theorem rask1 (n : Int) (h : Rtr w b m) (hg : m.Good) :
    Calls Try.prog 24 #[.pointer (some ⟨b, 0, none⟩), .int .i64 1, .int .i64 n] w fun e w' => e = .returned (.bool (may m.cd m.qo m.uo n)) ∧ Rtr w' b (m.out n) ∧ w.grownBy w' (some b) := by
  have hq : w.cell? ⟨b, 1, none⟩ = some (.int .i64 m.qo) := Blk.cell h 1
  have hu : w.cell? ⟨b, 7, none⟩ = some (.int .i64 m.uo) := Blk.cell h 7
  have hf := hg.o1
  have M := more_any m.uo m.qo n 102 hf h.drew
  go_enter Try.func24, Try.ntmps24
  go_wp2_with fail
  go_region_with (go_at_call 31; refine M.mono ?_; rintro e w1 ⟨rfl, hR, hR2, hR3⟩; have f5 := Blk.free hR 7; have c5 := Blk.cell hR 7)
  all_goals
    have hP := Blk.put hR 7 (.int .i64 (used m.cd m.qo m.uo n))
    have hG := grown_put (grown_trans (grown_drew (grown_refl w _)) hR2) 7 (.int .i64 (used m.cd m.qo m.uo n))
    clear M hR hR2 hR3 f5 c5
    go_wp2
    go_ret
    exact ⟨rfl, hP, hG⟩

set_option maxHeartbeats 1000000 in
theorem rask2 (n : Int) (h : Rtr w b m) (hg : m.Good) :
    Calls Try.prog 24 #[.pointer (some ⟨b, 0, none⟩), .int .i64 2, .int .i64 n] w fun e w' => e = .returned (.bool (may m.cd m.qf m.uf 1)) ∧ Rtr w' b (m.file) ∧ w.grownBy w' (some b) := by
  have hq : w.cell? ⟨b, 2, none⟩ = some (.int .i64 m.qf) := Blk.cell h 2
  have hu : w.cell? ⟨b, 8, none⟩ = some (.int .i64 m.uf) := Blk.cell h 8
  have hf := hg.f1
  have M := more_any m.uf m.qf 1 103 hf h.drew
  go_enter Try.func24, Try.ntmps24
  go_wp2_with fail
  go_region_with (go_at_call 31; refine M.mono ?_; rintro e w1 ⟨rfl, hR, hR2, hR3⟩; have f5 := Blk.free hR 8; have c5 := Blk.cell hR 8)
  all_goals
    have hP := Blk.put hR 8 (.int .i64 (used m.cd m.qf m.uf 1))
    have hG := grown_put (grown_trans (grown_drew (grown_refl w _)) hR2) 8 (.int .i64 (used m.cd m.qf m.uf 1))
    clear M hR hR2 hR3 f5 c5
    go_wp2
    go_ret
    exact ⟨rfl, hP, hG⟩

set_option maxHeartbeats 1000000 in
theorem rask3 (n : Int) (h : Rtr w b m) (hg : m.Good) :
    Calls Try.prog 24 #[.pointer (some ⟨b, 0, none⟩), .int .i64 3, .int .i64 n] w fun e w' => e = .returned (.bool (may m.cd m.qd m.ud 1)) ∧ Rtr w' b (m.down) ∧ w.grownBy w' (some b) := by
  have hq : w.cell? ⟨b, 3, none⟩ = some (.int .i64 m.qd) := Blk.cell h 3
  have hu : w.cell? ⟨b, 9, none⟩ = some (.int .i64 m.ud) := Blk.cell h 9
  have hf := hg.d1
  have M := more_any m.ud m.qd 1 104 hf h.drew
  go_enter Try.func24, Try.ntmps24
  go_wp2_with fail
  go_region_with (go_at_call 31; refine M.mono ?_; rintro e w1 ⟨rfl, hR, hR2, hR3⟩; have f5 := Blk.free hR 9; have c5 := Blk.cell hR 9)
  all_goals
    have hP := Blk.put hR 9 (.int .i64 (used m.cd m.qd m.ud 1))
    have hG := grown_put (grown_trans (grown_drew (grown_refl w _)) hR2) 9 (.int .i64 (used m.cd m.qd m.ud 1))
    clear M hR hR2 hR3 f5 c5
    go_wp2
    go_ret
    exact ⟨rfl, hP, hG⟩

set_option maxHeartbeats 1000000 in
theorem rask4 (n : Int) (h : Rtr w b m) (hg : m.Good) :
    Calls Try.prog 24 #[.pointer (some ⟨b, 0, none⟩), .int .i64 4, .int .i64 n] w fun e w' => e = .returned (.bool (may m.cd m.qs m.us n)) ∧ Rtr w' b (m.step n) ∧ w.grownBy w' (some b) := by
  have hq : w.cell? ⟨b, 4, none⟩ = some (.int .i64 m.qs) := Blk.cell h 4
  have hu : w.cell? ⟨b, 10, none⟩ = some (.int .i64 m.us) := Blk.cell h 10
  have hf := hg.s1
  have M := more_any m.us m.qs n 105 hf h.drew
  go_enter Try.func24, Try.ntmps24
  go_wp2_with fail
  go_region_with (go_at_call 31; refine M.mono ?_; rintro e w1 ⟨rfl, hR, hR2, hR3⟩; have f5 := Blk.free hR 10; have c5 := Blk.cell hR 10)
  all_goals
    have hP := Blk.put hR 10 (.int .i64 (used m.cd m.qs m.us n))
    have hG := grown_put (grown_trans (grown_drew (grown_refl w _)) hR2) 10 (.int .i64 (used m.cd m.qs m.us n))
    clear M hR hR2 hR3 f5 c5
    go_wp2
    go_ret
    exact ⟨rfl, hP, hG⟩


theorem rfree_any (n : Int) (hn : n ≤ 9223372036854775807) (h : Rtr w b m) (hg : m.Good) :
    Calls Try.prog 25 #[.pointer (some ⟨b, 0, none⟩), .int .i64 n] w fun e w' => e = .returned (.tuple #[]) ∧ Rtr w' b (m.free n) ∧ w.grownBy w' (some b) := by
  have hu : w.cell? ⟨b, 5, none⟩ = some (.int .i64 m.um) := Blk.cell h 5
  have f5 := Blk.free h 5
  obtain ⟨k0, k1, k2⟩ := hg.m1
  have hb : ∀ x, x = m.um - min (max n 0) m.um → Rtr (w.setCell ⟨b, 5, none⟩ (.int .i64 x)) b (m.free n) := fun x hx => by rw [hx]; exact Blk.put h 5 _
  have hs : m.um = m.um - min (max n 0) m.um → Rtr w b (m.free n) := fun hx => by
    have : m.free n = m := by unfold Mt.free; rw [← hx]
    rw [this]; exact h
  have HB := Lib.hid hb
  have HS := Lib.hid hs
  clear hb hs
  by_cases h1 : m.um < n
  · by_cases h2 : 0 < m.um
    · go_enter Try.func25, Try.ntmps25
      go_wp2_with fail
      first | go_end0 | refine bodyPost_ret (results_none rfl _ _ _) rfl ?_
      exact ⟨rfl, HB.out _ (by omega), grown_put (grown_refl _ _) _ _⟩
    · go_enter Try.func25, Try.ntmps25
      go_wp2_with fail
      first | go_end0 | refine bodyPost_ret (results_none rfl _ _ _) rfl ?_
      exact ⟨rfl, HS.out (by omega), grown_refl _ _⟩
  · by_cases h2 : 0 < n
    · go_enter Try.func25, Try.ntmps25
      go_wp2_with fail
      first | go_end0 | refine bodyPost_ret (results_none rfl _ _ _) rfl ?_
      exact ⟨rfl, HB.out _ (by omega), grown_put (grown_refl _ _) _ _⟩
    · go_enter Try.func25, Try.ntmps25
      go_wp2_with fail
      first | go_end0 | refine bodyPost_ret (results_none rfl _ _ _) rfl ?_
      exact ⟨rfl, HS.out (by omega), grown_refl _ _⟩

theorem rup_any (h : Rtr w b m) (hg : m.Good) :
    Calls Try.prog 26 #[.pointer (some ⟨b, 0, none⟩)] w fun e w' => e = .returned (.tuple #[]) ∧ Rtr w' b m.up ∧ w.grownBy w' (some b) := by
  have hu : w.cell? ⟨b, 9, none⟩ = some (.int .i64 m.ud) := Blk.cell h 9
  have f5 := Blk.free h 9
  obtain ⟨k0, k1, k2⟩ := hg.d1
  have hb : ∀ x, x = m.ud - min 1 m.ud → Rtr (w.setCell ⟨b, 9, none⟩ (.int .i64 x)) b m.up := fun x hx => by rw [hx]; exact Blk.put h 9 _
  have hs : m.ud = m.ud - min 1 m.ud → Rtr w b m.up := fun hx => by
    have : m.up = m := by unfold Mt.up; rw [← hx]
    rw [this]; exact h
  have HB := Lib.hid hb
  have HS := Lib.hid hs
  clear hb hs
  by_cases h2 : 0 < m.ud
  · go_enter Try.func26, Try.ntmps26
    go_wp2_with fail
    first | go_end0 | refine bodyPost_ret (results_none rfl _ _ _) rfl ?_
    exact ⟨rfl, HB.out _ (by omega), grown_put (grown_refl _ _) _ _⟩
  · go_enter Try.func26, Try.ntmps26
    go_wp2_with fail
    first | go_end0 | refine bodyPost_ret (results_none rfl _ _ _) rfl ?_
    exact ⟨rfl, HS.out (by omega), grown_refl _ _⟩
end
end Go.Proofs.Ytgcdhbjkkillcaa
