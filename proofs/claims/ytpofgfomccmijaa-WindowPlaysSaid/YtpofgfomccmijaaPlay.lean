/- WindowPlays, walked. -/
import Derived.Test.YtpofgfomccmijaaBoth
import Derived.Test.YtpofgfomccmijaaScriptW
namespace Go.Proofs.Ytpofgfomccmijaa
open Go.RowKit

/-- What a round of WindowPlays keeps. -/
def Plw (W : World) (gw gr gm g B n len : Nat) (i : Value) (wr : World) : Prop :=
  ∃ (k : Nat) (M : List Int) (s : Bool), k ≤ len ∧ k ≤ 400 ∧ M.length ≤ k ∧ i = .int .i64 k ∧ Bth wr gw gr gm g B n M s ∧ W.grownBy wr none

theorem putB_length (s : Bool) (M : List Int) (b : Int) : (putB s M b).length ≤ M.length + 1 := by unfold putB; split <;> simp
theorem copyB_length (s : Bool) (n : Nat) (M : List Int) (d : Int) : (copyB s n M d).length ≤ M.length + 1 := by unfold copyB; split <;> simp

theorem rat_as {w : World} {gw gr gm g B n : Nat} {M : List Int} {s : Bool} (h : Bth w gw gr gm g B n M s) (hl : M.length ≤ 4000) (d : Int) :
    Calls Try.prog 17 #[.pointer (some ⟨g, 0, none⟩), .int .i64 d] w fun e w' => ∃ k, e = .returned (.int .u8 (atB s n M d)) ∧ w' = w.drewN k := by
  refine (q_rat d 0 hl h).mono ?_
  rintro e w' ⟨rfl, k, rfl⟩
  exact ⟨k, rfl, rfl⟩
theorem atB_byte {w : World} {gw gr gm g B n : Nat} {M M' : List Int} {s s' : Bool} (h : Half w gw gr gm g B n M M' s s') {d : Int} : 0 ≤ atB s n M d ∧ atB s n M d ≤ 255 := by
  unfold atB
  split
  · omega
  · unfold atOf
    split
    · rename_i hd
      have hlt : d.toNat < M.length := by unfold cntOf at hd; omega
      rw [List.getD_eq_getElem?_getD, List.getElem?_eq_getElem hlt]
      exact h.ref.1 _ (List.getElem_mem hlt)
    · omega
theorem half_both {w : World} {gw gr gm g B n : Nat} {M : List Int} {s : Bool} (h : Half w gw gr gm g B n M M s s) : Bth w gw gr gm g B n M s := ⟨h.win, h.sh, h.ref, h.met, h.lg, h.nn⟩

set_option maxRecDepth 100000 in
set_option maxHeartbeats 16000000 in
theorem play_walk (s : Int) (hs : 0 ≤ s ∧ s ≤ 65535) (A : Option Addr) (len cap : Nat) (K N : Nat → Int) (hlen : len ≤ 9223372036854775807) (w : World) (hS : Script w w.heap.size A len K N) :
    Calls Try.prog 5 #[.int .u16 s, .slice A len cap] w fun e w' => e = .returned (.bool true) ∧ w.grownBy w' none := by
  obtain ⟨hs0, hs1⟩ := hs
  obtain ⟨n0, hn0⟩ : ∃ n0 : Nat, (n0 : Int) = s % 2000 := ⟨(s % 2000).toNat, by omega⟩
  have hn1 : n0 ≤ 1999 := by omega
  have hmod : s % 2000 = (n0 : Int) := hn0.symm
  obtain ⟨n, hn⟩ : ∃ n : Nat, n = max n0 1 := ⟨_, rfl⟩
  have hnn : max (n0 : Int) 1 = (n : Int) := by omega
  have hn2 : 1 ≤ n ∧ n ≤ 1999 := by omega
  obtain ⟨hn2, hn3⟩ := hn2
  have g0 := new_good1 5000 (by omega)
  have y0 := new_may 5000 (n : Int) (by omega) (by omega)
  have NM := fun w => new_ex 5000 0 0 0 0 w
  generalize Mt.new 5000 0 0 0 0 = m0 at *
  have HN := Lib.hid hnn
  clear hn0 hn hnn
  go_enter Try.func5, Try.ntmps5
  go_wp2_with fail
  refine (awake_any _).mono ?_; rintro e w0 ⟨rfl, hw0⟩
  go_wp2_with fail
  refine (NM w0).mono ?_; rintro e w1 ⟨gm, rfl, l1, m1, hw1⟩
  have WN := wnew_yes (n0 : Int) n HN.out (by omega) m1 g0 y0
  have lm := Blk.lt m1
  have l0 := hw0.size
  have l9 := hw1.size
  have hw1 := grown_two hw0 hw1
  have hmg := mem_good g0 (n : Int)
  clear NM y0 g0 hw0
  go_wp2_with fail
  refine WN.mono ?_; rintro e w2 ⟨gw, gr, rfl, l2, l3, h2, m2, hw2⟩
  have hG := grown_own hw1 (by omega) hw2
  have RN := rnew_any (w := w2) (n0 : Int) n HN.out
  have l4 : w.heap.size ≤ gm := by omega
  have l5 : gm < gr := by omega
  have lw : gw < w2.heap.size := by obtain ⟨_, _, _, _, _, hb, _⟩ := h2; exact hb.lt
  clear WN hw1 hw2 m1 l2 l1 lm l0 l9
  go_wp2_with fail
  refine RN.mono ?_; rintro e w3 ⟨g, rfl, lg, hr, hw3⟩
  have m3 := m2.grown hw3 (by simp)
  have h3 := h2.keep hw3 (by simp) (by simp)
  have hG3 := grown_two hG hw3
  have lg3 := hr.lt
  obtain ⟨B, hB⟩ : ∃ B, B = w3.heap.size := ⟨_, rfl⟩
  have hBth : Bth w3 gw gr gm g B n [] false := ⟨fun _ => h3, fun e => (by cases e), ⟨fun x hx => (by cases hx), by omega, by omega, _, hr, World.ownsRow_nil _ _ _ _⟩, ⟨_, m3, hmg⟩, ⟨l5, l3, by omega, by omega⟩, by omega⟩
  clear RN hw3 m2 h2 hG m3 h3 hr hmg
  have HM := Lib.hid hmod
  clear hmod lg3 hB
  go_wp2_with fail
  go_loopw [9] (fun i wr => Plw w gw gr gm g B n len i wr) (fun i _ => len - (intOf i).toNat)
  case atStart => exact ⟨0, [], false, by omega, by omega, by simp, rfl, hBth, hG3⟩
  case round =>
    obtain ⟨k, M, s, hk, hk4, hlM0, rfl, hb0, hgr⟩ := hrel
    have HS := Lib.hid (hS.keep hgr (Nat.le_refl _))
    clear hBth hG3 hS
    by_cases hlt : k < len
    · by_cases h4 : k < 400
      · obtain ⟨hN, b, off, rfl, hbb, d0, d1⟩ := HS.out k hlt
        clear HS
        obtain ⟨la, lb, lc, ld⟩ := hb0.lg
        have lB : B ≤ wr.heap.size := hb0.ref.2.2.1
        have hx0 : Blk (wr.alloc (.cells #[.int .i64 (K k), .int .i64 (N k)] 43)) wr.heap.size 43 #[.int .i64 (K k), .int .i64 (N k)] := Blk.new _ _ _
        have hb1 := hb0.keep (World.grownBy_alloc wr (.cells #[.int .i64 (K k), .int .i64 (N k)] 43) none)
        have hg1 := grown_alloc hgr (.cells #[.int .i64 (K k), .int .i64 (N k)] 43)
        clear hb0 hgr
        have zn : IntKind.i64.wrap ((n0 : Int) - 1) = (n0 : Int) - 1 := by rw [IntKind.wrap_i64]; omega
        revert hx0 hb1 hg1
        obtain ⟨bx, hbx⟩ : ∃ bx, bx = wr.heap.size := ⟨_, rfl⟩
        obtain ⟨wa, hwa⟩ : ∃ wa, wa = wr.alloc (.cells #[.int .i64 (K k), .int .i64 (N k)] 43) := ⟨_, rfl⟩
        rw [← hbx, ← hwa]
        intro hx0 hb1 hg1
        have HX := Lib.hid hbx
        have HA := Lib.hid hwa
        rw [← hbx] at lB
        clear hbx hwa
        by_cases e0 : K k = 0
        · have f0 : (K k == 0) = true := by simp; omega
          clear e0
          have lM := putB_length s M (N k % 256)
          go_wp2_with fail
          rw [← HA.out, ← HX.out]
          refine (w_put (N k % 256) (by omega) hb1).mono ?_; rintro e w4 ⟨rfl, hh, hf⟩
          have hx4 := hf.blk hx0 (by simp; omega)
          have hg4 := hf.own hg1 (by intro y hy; simp at hy; omega)
          have c4 := hx4.cell 1
          clear hf hb1 hg1 hx0
          go_wp2_with fail
          refine (r_put (N k % 256) (by omega) (by omega) hh).mono ?_; rintro e wf ⟨rfl, hb, hf⟩
          have hx := hx4.grown hf (by simp; omega)
          have hg := grown_own hg4 (by omega) hf
          clear hf hx4 hg4 c4 hh
          have c1 : wf.cell? ⟨bx, 1, none⟩ = some (.int .i64 (N k)) := Blk.cell hx 1
          have hlM : (putB s M (N k % 256)).length ≤ 4000 := by omega
          clear hx
          go_wp2_with fail
          go_quiet ((first | (go_at_call 11; exact q_has _ _ hb) | (go_at_call 18; exact q_rhas _ _ hlM hb) | (go_at_call 12; exact q_at _ _ hb) | (go_at_call 17; exact q_rat _ _ hlM hb) | (go_at_call 13; exact q_count _ hb) | (go_at_call 21; exact q_rcount _ hb)))
          have hb9 := hb.drewN nq
          have hg9 := grown_drewN hg nq
          clear hb hg c1
          go_wp2_with fail
          go_roundw
          case rel => exact ⟨k + 1, putB s M (N k % 256), s, by omega, by omega, by omega, by go_num, hb9, hg9⟩
          case measure => simp [intOf]; omega
        by_cases e1 : K k = 1
        · have f0 : (K k == 0) = false := by simp; omega
          have f1 : (K k == 1) = true := by simp; omega
          clear e0 e1
          have lM := copyB_length s n M (N k)
          go_wp2_with fail
          rw [← HA.out, ← HX.out]
          refine (rat_as hb1 (by omega) (N k)).mono ?_; rintro e w4 ⟨q, rfl, rfl⟩
          have hb2 := hb1.drewN q
          have hg2 := grown_drewN hg1 q
          have hx2 := hx0.drewN q
          have c2 := hx2.cell 1
          clear hb1 hg1 hx0
          generalize wa.drewN q = wb at *
          go_wp2_with fail
          refine (w_copy (N k) hb2).mono ?_; rintro e w4 ⟨rfl, hh, hf⟩
          have hx4 := hf.blk hx2 (by simp; omega)
          have hg4 := hf.own hg2 (by intro y hy; simp at hy; omega)
          have c4 := hx4.cell 1
          clear hf hb2 hg2 hx2 c2
          go_wp2_with fail
          refine (h_rhas (N k) (by omega) hh).mono ?_; rintro e w5 ⟨rfl, rfl⟩
          cases hhas : hasB s n M (N k) with
          | true =>
            have e9 : copyB s n M (N k) = putB s M (atB s n M (N k)) := by
              have hs' : s = false := by cases s <;> simp_all [hasB]
              subst hs'
              unfold copyB putB; rw [hhas]; rfl
            rw [e9] at hh lM
            clear e9 hhas
            go_wp2_with fail
            refine (r_put (atB s n M (N k)) (atB_byte hh) (by omega) hh).mono ?_; rintro e wf ⟨rfl, hb, hf⟩
            have hx := hx4.grown hf (by simp; omega)
            have hg := grown_own hg4 (by omega) hf
            clear hf hx4 hg4 c4 hh
            have c1 : wf.cell? ⟨bx, 1, none⟩ = some (.int .i64 (N k)) := Blk.cell hx 1
            have hlM : (putB s M (atB s n M (N k))).length ≤ 4000 := by omega
            clear hx
            go_wp2_with fail
            go_quiet ((first | (go_at_call 11; exact q_has _ _ hb) | (go_at_call 18; exact q_rhas _ _ hlM hb) | (go_at_call 12; exact q_at _ _ hb) | (go_at_call 17; exact q_rat _ _ hlM hb) | (go_at_call 13; exact q_count _ hb) | (go_at_call 21; exact q_rcount _ hb)))
            have hb9 := hb.drewN nq
            have hg9 := grown_drewN hg nq
            clear hb hg c1
            go_wp2_with fail
            go_roundw
            case rel => exact ⟨k + 1, putB s M (atB s n M (N k)), s, by omega, by omega, by omega, by go_num, hb9, hg9⟩
            case measure => simp [intOf]; omega
          | false =>
            have e9 : copyB s n M (N k) = M := by unfold copyB; rw [hhas]; rfl
            rw [e9] at hh
            have hb := half_both hh
            clear e9 hhas lM
            have hg := hg4
            have hx := hx4
            clear hg4 hx4 c4 hh
            obtain ⟨wf, rfl⟩ : ∃ wf : World, wf = w4 := ⟨_, rfl⟩
            have c1 : wf.cell? ⟨bx, 1, none⟩ = some (.int .i64 (N k)) := Blk.cell hx 1
            have hlM : (M).length ≤ 4000 := by omega
            clear hx
            go_wp2_with fail
            go_quiet ((first | (go_at_call 11; exact q_has _ _ hb) | (go_at_call 18; exact q_rhas _ _ hlM hb) | (go_at_call 12; exact q_at _ _ hb) | (go_at_call 17; exact q_rat _ _ hlM hb) | (go_at_call 13; exact q_count _ hb) | (go_at_call 21; exact q_rcount _ hb)))
            have hb9 := hb.drewN nq
            have hg9 := grown_drewN hg nq
            clear hb hg c1
            go_wp2_with fail
            go_roundw
            case rel => exact ⟨k + 1, M, s, by omega, by omega, by omega, by go_num, hb9, hg9⟩
            case measure => simp [intOf]; omega
        by_cases e2 : K k = 2
        · have f0 : (K k == 0) = false := by simp; omega
          have f1 : (K k == 1) = false := by simp; omega
          have f2 : (K k == 2) = true := by simp; omega
          clear e0 e1 e2
          go_wp2_with fail
          rw [← HA.out, ← HX.out]
          refine (w_empty hb1).mono ?_; rintro e w4 ⟨rfl, hh, hf⟩
          have hx4 := hf.blk hx0 (by simp; omega)
          have hg4 := hf.own hg1 (by intro y hy; simp at hy; omega)
          obtain ⟨⟨v9, k1⟩, k2, k3, k4⟩ := r_cells hh
          have hbE := r_empty hh
          have hgE := grown_putNew (p := ⟨g, 1, none⟩) hg4 (show w.heap.size ≤ g by omega) (.slice none 0 0)
          have hxE := hx4.far (p := ⟨g, 1, none⟩) (show bx ≠ g by omega) (.slice none 0 0)
          clear hf hb1 hg1 hx0 hh hg4 hx4
          have HE := Lib.hid (And.intro hbE (And.intro hgE hxE))
          clear hbE hgE hxE
          go_wp2_with fail
          obtain ⟨hb, hg, hx⟩ := HE.out
          clear HE k1 k2 k3 k4
          generalize (w4.setCell { block := g, off := 1 } (.slice none 0 0)) = wf at *
          have c1 : wf.cell? ⟨bx, 1, none⟩ = some (.int .i64 (N k)) := Blk.cell hx 1
          have hlM : ([] : List Int).length ≤ 4000 := by simp
          clear hx
          go_wp2_with fail
          go_quiet ((first | (go_at_call 11; exact q_has _ _ hb) | (go_at_call 18; exact q_rhas _ _ hlM hb) | (go_at_call 12; exact q_at _ _ hb) | (go_at_call 17; exact q_rat _ _ hlM hb) | (go_at_call 13; exact q_count _ hb) | (go_at_call 21; exact q_rcount _ hb)))
          have hb9 := hb.drewN nq
          have hg9 := grown_drewN hg nq
          clear hb hg c1
          go_wp2_with fail
          go_roundw
          case rel => exact ⟨k + 1, ([] : List Int), s, by omega, by omega, by simp, by go_num, hb9, hg9⟩
          case measure => simp [intOf]; omega
        by_cases e3 : K k = 3
        · have f0 : (K k == 0) = false := by simp; omega
          have f1 : (K k == 1) = false := by simp; omega
          have f2 : (K k == 2) = false := by simp; omega
          have f3 : (K k == 3) = true := by simp; omega
          clear e0 e1 e2 e3
          go_wp2_with fail
          rw [← HA.out, ← HX.out]
          refine (w_close hb1).mono ?_; rintro e w4 ⟨rfl, hh, hf⟩
          have hx4 := hf.blk hx0 (by simp; omega)
          have hg4 := hf.own hg1 (by intro y hy; simp at hy; omega)
          obtain ⟨-, k2, k3, k4⟩ := r_cells hh
          have hbE := r_shut hh
          have hgE := grown_putNew (p := ⟨g, 2, none⟩) hg4 (show w.heap.size ≤ g by omega) (.bool true)
          have hxE := hx4.far (p := ⟨g, 2, none⟩) (show bx ≠ g by omega) (.bool true)
          clear hf hb1 hg1 hx0 hh hg4 hx4
          have HE := Lib.hid (And.intro hbE (And.intro hgE hxE))
          clear hbE hgE hxE
          go_wp2_with fail
          obtain ⟨hb, hg, hx⟩ := HE.out
          clear HE k2 k3 k4
          generalize (w4.setCell { block := g, off := 2 } (.bool true)) = wf at *
          have c1 : wf.cell? ⟨bx, 1, none⟩ = some (.int .i64 (N k)) := Blk.cell hx 1
          have hlM : (M).length ≤ 4000 := by omega
          clear hx
          go_wp2_with fail
          go_quiet ((first | (go_at_call 11; exact q_has _ _ hb) | (go_at_call 18; exact q_rhas _ _ hlM hb) | (go_at_call 12; exact q_at _ _ hb) | (go_at_call 17; exact q_rat _ _ hlM hb) | (go_at_call 13; exact q_count _ hb) | (go_at_call 21; exact q_rcount _ hb)))
          have hb9 := hb.drewN nq
          have hg9 := grown_drewN hg nq
          clear hb hg c1
          go_wp2_with fail
          go_roundw
          case rel => exact ⟨k + 1, M, true, by omega, by omega, by omega, by go_num, hb9, hg9⟩
          case measure => simp [intOf]; omega
        have f0 : (K k == 0) = false := by simp; omega
        have f1 : (K k == 1) = false := by simp; omega
        have f2 : (K k == 2) = false := by simp; omega
        have f3 : (K k == 3) = false := by simp; omega
        clear e0 e1 e2 e3
        have hb := hb1
        have hg := hg1
        have hx := hx0
        clear hb1 hg1 hx0
        go_wp2_with fail
        rw [← HA.out, ← HX.out]
        obtain ⟨wf, rfl⟩ : ∃ wf : World, wf = wa := ⟨_, rfl⟩
        have c1 : wf.cell? ⟨bx, 1, none⟩ = some (.int .i64 (N k)) := Blk.cell hx 1
        have hlM : (M).length ≤ 4000 := by omega
        clear hx
        go_quiet ((first | (go_at_call 11; exact q_has _ _ hb) | (go_at_call 18; exact q_rhas _ _ hlM hb) | (go_at_call 12; exact q_at _ _ hb) | (go_at_call 17; exact q_rat _ _ hlM hb) | (go_at_call 13; exact q_count _ hb) | (go_at_call 21; exact q_rcount _ hb)))
        have hb9 := hb.drewN nq
        have hg9 := grown_drewN hg nq
        clear hb hg c1
        go_wp2_with fail
        go_roundw
        case rel => exact ⟨k + 1, M, s, by omega, by omega, by omega, by go_num, hb9, hg9⟩
        case measure => simp [intOf]; omega
      · go_wp2_with fail
        go_ret
        exact ⟨rfl, hgr⟩
    · go_wp2_with fail
      go_ret
      exact ⟨rfl, hgr⟩
end Go.Proofs.Ytpofgfomccmijaa
