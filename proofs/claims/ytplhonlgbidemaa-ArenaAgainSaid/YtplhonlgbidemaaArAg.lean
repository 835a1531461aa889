/- ArenaAgain, walked. -/
import Derived.Test.YtplhonlgbidemaaArQ
import Derived.Test.YtplhonlgbidemaaArSc
import Derived.Test.YtplhonlgbidemaaArAgM
import Derived.Test.YtplhonlgbidemaaArBg
namespace Go.Proofs.Ytplhonlgbidemaa
open Go.RowKit

theorem infoI : (Try.prog.info? 3).map (fun i => (i.zero, i.size, i.bytes)) = some (some (.int .i64 0), 1, 8) := by kernel_rfl
/-- Numbers as cells. -/
def ints (X : Nat → Nat) (n : Nat) : List Value := (List.range n).map fun i => .int .i64 (X i : Nat)
theorem ints_len (X : Nat → Nat) (n : Nat) : (ints X n).length = n := by simp [ints]
theorem ints_succ (X : Nat → Nat) (n : Nat) : ints X (n + 1) = ints X n ++ [.int .i64 (X n : Nat)] := by simp [ints, List.range_succ]
theorem ints_at (X : Nat → Nat) {n i : Nat} (h : i < n) : (ints X n)[i]? = some (.int .i64 (X i : Nat)) := by simp [ints, h]
theorem cell_one_new' (w : World) (t : TypeId) (x : Value) : ∀ j u, [x][j]? = some u → (w.alloc (.cells #[x] t)).cell? ((⟨w.heap.size, 0, none⟩ : Addr).add j) = some u := by
  intro j u h
  rw [WideShapes.add_plain, Nat.zero_add, (Blk.new w t #[x]).cell]
  rw [← h]
  simp
theorem own_on {s : Nat → Prop} {w w' : World} {base n : Nat} {e : TypeId} {v : Value} {xs : List Value} (h : w.ownsRow base e 1 v n xs) (ho : On s w w') (hs : ∀ k, s k → ∀ cs, ¬ Blk w k e cs) : w'.ownsRow base e 1 v n xs := by
  obtain ⟨hl, h | ⟨gl, cap, cur, h1, h2, h3, h4⟩⟩ := h
  · exact ⟨hl, .inl h⟩
  · exact ⟨hl, .inr ⟨gl, cap, cur, h1, h2, (show Blk w gl e cur from h3).on ho (fun e => hs gl e cur h3), h4⟩⟩
theorem own_slice1 {w : World} {base n : Nat} {e : TypeId} {v : Value} {xs : List Value} (h : w.ownsRow base e 1 v n xs) : ∃ a c, v = .slice a n c := own_slice h
/-- The cell i of such a row. -/
theorem own_cell {w : World} {base n : Nat} {e : TypeId} {v : Value} {X : Nat → Nat} (h : w.ownsRow base e 1 v n (ints X n)) {i : Nat} (hi : i < n) : ∃ b c, v = .slice (some ⟨b, 0, none⟩) n c ∧ w.cell? ⟨b, i, none⟩ = some (.int .i64 (X i : Nat)) := by
  obtain ⟨hl, ⟨-, h⟩ | ⟨gl, cap, cur, h1, h2, h3, h4, h5, h6, h7⟩⟩ := h
  · omega
  · refine ⟨gl, cap, h1, ?_⟩
    rw [(show Blk w gl e cur from h3).cell, ← ints_at X hi, ← h7, List.getElem?_take, if_pos (by omega), Array.getElem?_toList]
/-- Blocks of other types than the two of an arena. -/
theorem not_two {w : World} {g gm : Nat} {mt : Value} {A : AM} {H : List Bk} (h : Ax w g gm mt A H) {t : TypeId} (h1 : t ≠ 69) (h2 : t ≠ 5) : ∀ k, two g gm k → ∀ cs, ¬ Blk w k t cs := by
  obtain ⟨F, M, cs1, ds1, b1, b2, -⟩ := h.ar
  intro k hk cs hb
  rcases hk with rfl | rfl
  · exact hb.apart b1 h1 rfl
  · exact hb.apart b2 h2 rfl
theorem ax_typed {w w' : World} {g gm : Nat} {mt : Value} {A : AM} {H : List Bk} {s : Nat → Prop} {t : TypeId} (h : Ax w g gm mt A H) (ho : On s w w') (hs : ∀ k, s k → ∃ cs, Blk w k t cs) (h1 : t ≠ 69) (h2 : t ≠ 5) : Ax w' g gm mt A H :=
  h.on ho (fun e => by obtain ⟨cs, hb⟩ := hs _ e; exact not_two h h1 h2 g (.inl rfl) cs hb) (fun e => by obtain ⟨cs, hb⟩ := hs _ e; exact not_two h h1 h2 gm (.inr rfl) cs hb)
theorem typed_not {w : World} {s : Nat → Prop} {t t' : TypeId} (hs : ∀ k, s k → ∃ cs, Blk w k t cs) (hne : t ≠ t') : ∀ k, s k → ∀ cs, ¬ Blk w k t' cs := by
  intro k hk cs hb
  obtain ⟨cs', hb'⟩ := hs k hk
  exact hb'.apart hb hne rfl
/-- What a round of the script keeps. -/
def AgL (W : World) (g gm : Nat) (mt : Value) (K N : Nat → Int) (A0 : AM) (m rd : Nat) (f l a i : Value) (wr : World) : Prop :=
  ∃ k : Nat, k ≤ m ∧ i = .int .i64 k ∧ a = .int .i64 k ∧ Ax wr g gm mt (agS K N A0 k).1 (blks (agS K N A0 k).2) ∧ Ql wr W.heap.size l (agS K N A0 k).2 ∧ wr.ownsRow W.heap.size 3 1 f (if rd = 0 then k else m) (ints (agX K N A0) (if rd = 0 then k else m)) ∧ W.grownBy wr none
/-- What a whole round keeps. -/
def AgO (W : World) (g gm : Nat) (mt : Value) (K N : Nat → Int) (A0 : AM) (m : Nat) (f r : Value) (wr : World) : Prop :=
  ∃ (rd : Nat) (H : List Bk), rd ≤ 2 ∧ r = .int .i64 rd ∧ Ax wr g gm mt A0 H ∧ wr.ownsRow W.heap.size 3 1 f (if rd = 0 then 0 else m) (ints (agX K N A0) (if rd = 0 then 0 else m)) ∧ W.grownBy wr none
theorem Ax.none {w : World} {g gm : Nat} {mt : Value} {A : AM} {H : List Bk} (h : Ax w g gm mt A H) : Ax w g gm mt A [] :=
  ⟨h.1.turn List.Pairwise.nil (fun _ _ b hb => by cases hb) (fun b hb => by cases hb), h.2⟩
theorem own_frame {w w' : World} {base n : Nat} {e : TypeId} {v : Value} {xs : List Value} (h : w.ownsRow base e 1 v n xs) (hg : w.grownBy w' v.ownBlock) : On (fun k => ∃ cs, Blk w k e cs) w w' := by
  obtain ⟨hl, ⟨rfl, -⟩ | ⟨gl, cap, cur, rfl, h2, h3, -⟩⟩ := h
  · exact On.of_grown hg (fun k e => by cases e)
  · exact On.of_grown hg (fun k e => by cases e; exact ⟨cur, h3⟩)
theorem grown_new {W w w' : World} {row : Option Nat} (h : W.grownBy w none) (hg : w.grownBy w' row) (hr : ∀ k, row = some k → W.heap.size ≤ k) : W.grownBy w' none :=
  ⟨hg.os.trans h.os, hg.tape.trans h.tape, hg.output.trans h.output, Nat.le_trans h.size hg.size,
    fun k hk _ => (hg.block k (Nat.lt_of_lt_of_le hk h.size) (fun e => by have := hr k e.symm; omega)).trans (h.block k hk (by simp))⟩
theorem agS_size (K N : Nat → Int) (n k : Nat) : (agS K N (freshM n) k).1.size = n := by
  induction k with
  | zero => rfl
  | succ k ih =>
    show (agStep (agS K N (freshM n) k).1 (agS K N (freshM n) k).2 (K k) (N k)).2.1.size = n
    unfold agStep
    split
    · split
      · exact ih
      · rw [(unitsM_same _ _).1]; exact ih
    · split
      · rw [(oneM_same _).1]; exact ih
      · split
        · split
          · exact ih
          · exact ih
        · exact ih
section
set_option maxRecDepth 100000 in
set_option maxHeartbeats 8000000 in
theorem again_walk (s : Nat) (hs : s ≤ 65535) (S0 : Option Addr) (len c : Nat) (K N Q : Nat → Int) (hlen : len ≤ 9223372036854775807) (w : World) (hS : Script w w.heap.size S0 len K N Q) :
    Calls Try.prog 3 #[.int .u16 (s : Nat), .slice S0 len c] w fun e w' => e = .returned (.bool true) ∧ w.grownBy w' none := by
  obtain ⟨n, hn⟩ : ∃ n, n = 2048 + s % 12000 := ⟨_, rfl⟩
  have hn1 : 2048 ≤ n := by omega
  have hn2 : n ≤ 16777216 := by omega
  have en : (2048 : Int) + (s : Int) % 12000 = (n : Int) := by omega
  obtain ⟨m, hm⟩ : ∃ m, m = min len 300 := ⟨_, rfl⟩
  clear hn
  go_enter Try.func3, Try.ntmps3
  go_wp2_with fail
  refine (awake_any _).mono ?_; rintro e w0 ⟨rfl, hG0⟩
  go_wp2_with fail
  refine (much_any _).mono ?_; rintro e w1 ⟨b, rfl, hb, hmt, hG1⟩
  have AN := anew_much (size := n) hn1 hn2 hmt
  have hsz0 := hG0.size
  have hG1 := grown_trans hG0 hG1
  clear hmt hG0
  go_wp2_with fail
  refine AN.mono ?_; rintro e w2 ⟨g, gm, rfl, hg, hgm, hax, hG2⟩
  have hG := grown_own hG1 (by omega) hG2
  have hsz1 := hG1.size
  have hg : w.heap.size ≤ g := by omega
  have hgm : w.heap.size ≤ gm := by omega
  have hfr : ∀ k, two g gm k → w.heap.size ≤ k := by unfold two; omega
  have HEN := Lib.hid en
  clear AN hG1 hG2 hsz0 hsz1 en
  have hm300 : m ≤ 300 := by omega
  have hml : m ≤ len := by omega
  have HM := Lib.hid hm
  clear hm
  go_wp2_with fail
  go_loopw [7, 8] (fun f r wr => AgO w g gm (.pointer (some ⟨b, 0, none⟩)) K N (freshM n) m f r wr) (fun _ r _ => 2 - (intOf r).toNat)
  case atStart => exact ⟨0, [], by omega, rfl, hax, World.ownsRow_nil _ _ _ _, hG⟩
  case round =>
    clear hax hG
    obtain ⟨rd, H, hrd, rfl, hax, hf, hG⟩ := hrel
    by_cases hrd2 : rd < 2
    · have hrdb : decide ((rd : Int) < 2) = true := by rw [decide_eq_true_iff]; omega
      go_wp2_with fail
      go_loopw [7, 9, 10, 11] (fun f l a i wr => AgL w g gm (.pointer (some ⟨b, 0, none⟩)) K N (freshM n) m rd f l a i wr) (fun _ _ _ i _ => m - (intOf i).toNat)
      case atStart => exact ⟨0, by omega, rfl, rfl, hax.none, .inl ⟨rfl, rfl⟩, hf, hG⟩
      case round =>
        clear hax hf hG
        obtain ⟨k, hk, rfl, rfl, hax, hq, hf, hG⟩ := hrel
        obtain ⟨la, lc, rfl⟩ := hq.slice
        obtain ⟨ll, hll⟩ : ∃ ll, ll = (agS K N (freshM n) k).2.length := ⟨_, rfl⟩
        rw [← hll] at hq ⊢
        have HLL := Lib.hid hll
        clear hll
        obtain ⟨F, hF⟩ : ∃ F, F = if rd = 0 then k else m := ⟨_, rfl⟩
        rw [← hF] at hf
        have HF := Lib.hid hF
        clear hF
        obtain ⟨fa, fc, rfl⟩ := own_slice1 hf
        by_cases hkm : k < m
        · have hkl : (k : Int) < len := by omega
          have hk3 : (k : Int) < 300 := by omega
          obtain ⟨hKN, sb, so, he, hsb, d0, d1, d2⟩ := (hS.keep hG (Nat.le_refl _)) k (by omega)
          cases he
          have hbx := Blk.new wr 34 #[.int .i64 (K k), .int .i64 (N k), .int .i64 (Q k)]
          have a1 : On (fun _ => False) wr (wr.alloc (.cells #[.int .i64 (K k), .int .i64 (N k), .int .i64 (Q k)] 34)) := (on_refl _ _).alloc _
          have hax := hax.on a1 id id
          have hq := hq.on a1 (fun _ e => e.elim)
          have hf := hf.alloc (.cells #[.int .i64 (K k), .int .i64 (N k), .int .i64 (Q k)] 34)
          have hG1 := grown_alloc hG (.cells #[.int .i64 (K k), .int .i64 (N k), .int .i64 (Q k)] 34)
          clear hG a1
          have hG := hG1
          clear hG1
          revert hbx hax hq hf hG
          obtain ⟨bx, hbxe⟩ : ∃ bx, bx = wr.heap.size := ⟨_, rfl⟩
          obtain ⟨wa, hwa⟩ : ∃ wa, wa = wr.alloc (.cells #[.int .i64 (K k), .int .i64 (N k), .int .i64 (Q k)] 34) := ⟨_, rfl⟩
          rw [← hbxe, ← hwa]
          intro hbx hax hq hf hG
          have HX := Lib.hid hbxe
          have HA := Lib.hid hwa
          have HSW := Lib.hid (show wa.heap.size = wr.heap.size + 1 by rw [hwa]; simp)
          clear hbxe hwa
          by_cases e0 : K k = 0
          · have e0b : (K k == 0) = true := by simp; omega
            by_cases hinv : N k < 1 ∨ 128 < N k
            · have UN := units_no wa g hinv
              have hstep : agStep (agS K N (freshM n) k).1 (agS K N (freshM n) k).2 (K k) (N k) = (0, (agS K N (freshM n) k).1, (agS K N (freshM n) k).2) := by
                unfold agStep
                rw [if_pos e0, if_pos hinv]
              have HXE := Lib.hid (show agX K N (freshM n) k = 0 by unfold agX; rw [hstep])
              have hs1 : (agS K N (freshM n) (k + 1)).1 = (agS K N (freshM n) k).1 := by show (agStep _ _ _ _).2.1 = _; rw [hstep]
              have hs2 : (agS K N (freshM n) (k + 1)).2 = (agS K N (freshM n) k).2 := by show (agStep _ _ _ _).2.2 = _; rw [hstep]
              have hx5 : Ax wa g gm (.pointer (some ⟨b, 0, none⟩)) (agS K N (freshM n) (k + 1)).1 (blks (agS K N (freshM n) (k + 1)).2) := by rw [hs1, hs2]; exact hax
              have hq5 : Ql wa w.heap.size (.slice la ll lc) (agS K N (freshM n) (k + 1)).2 := by rw [hs2]; exact hq
              have hf5 := hf
              have hG5 := hG
              clear hax hq hf hG hstep hs1 hs2
              clear hinv e0
              go_wp2_with fail
              rw [← HA.out, ← HX.out]
              refine UN.mono ?_; rintro e w5 ⟨rfl, hw5⟩
              rw [hw5]
              clear hw5 UN
              by_cases hr0 : rd = 0
              · have q1 : ((rd : Int) == 0) = true := by simp; omega
                have q2 : decide ((rd : Int) = 0) = true := by simp; omega
                have q3 : decide (rd = 0) = true := by simp; omega
                have HR := Lib.hid hr0
                have hF : k = F := by rw [HF.out, if_pos hr0]
                clear hr0
                subst hF
                have hlf : (ints (agX K N (freshM n)) k).length = k := ints_len _ _
                obtain ⟨i0, hi0, hz0, hz1, hz2⟩ := info_parts infoI
                have hsz5 := hG5.size
                go_wp2_with (at_builtin; refine wpList_append_own _ rfl (.tmp 86) (.tmp 88) 31 rfl w.heap.size 3 i0 _ 1 8 Try.underlying31 hi0 hz0 hz1 hz2 rfl (by decide) _ _ _ rfl (hf5.alloc _) ⟨wa.heap.size, 0, none⟩ 1 1 [.int .i64 0] rfl rfl (cell_one_new' _ _ _) (by intro u hu; simp at hu; rw [hu]; rfl) (by unfold maxLen; omega) (by omega) (by simp; omega) ?_)
                intro v6 w6 hf6 hg6 _
                have o6 : On (fun k => ∃ cs, Blk (wa.alloc (.cells #[.int .i64 0] 3)) k 3 cs) (wa.alloc (.cells #[.int .i64 0] 3)) w6 := own_frame (hf5.alloc _) hg6
                have a5 : On (fun _ => False) wa (wa.alloc (.cells #[.int .i64 0] 3)) := (on_refl _ _).alloc _
                have hx6 := ax_typed (t := 3) (hx5.on a5 id id) o6 (fun k h => h) (by decide) (by decide)
                have hq6 := (hq5.on a5 (fun _ e => e.elim)).on o6 (typed_not (t := 3) (fun k h => h) (by decide))
                have hG6 : w.grownBy w6 none := grown_new (grown_alloc hG5 _) hg6 (own_base hf5)
                obtain ⟨fa6, fc6, rfl⟩ := own_slice1 hf6
                have hf7 : w6.ownsRow w.heap.size 3 1 (.slice fa6 (k + 1) fc6) (k + 1) (ints (agX K N (freshM n)) (k + 1)) := by rw [ints_succ, HXE.out]; exact hf6
                clear hf6 hg6 hx5 hq5 hf5 hG5 a5 o6 hi0 hz0 hz1 hz2
                go_wp2_with fail
                go_roundw
                case rel => exact ⟨k + 1, by omega, by go_num, by go_num, hx6, hq6, by rw [if_pos HR.out]; exact hf7, hG6⟩
                case measure => simp [intOf]; omega
              · have q1 : ((rd : Int) == 0) = false := by simp; omega
                have q2 : decide ((rd : Int) = 0) = false := by simp; omega
                have q3 : decide (rd = 0) = false := by simp; omega
                have HR := Lib.hid hr0
                have hF : m = F := by rw [HF.out, if_neg hr0]
                clear hr0
                subst hF
                obtain ⟨fb, fc6, hfe, hfc⟩ := own_cell hf5 hkm
                cases hfe
                rw [HXE.out] at hfc
                have hfc : wa.cell? ⟨fb, k, none⟩ = some (.int .i64 0) := hfc
                have hkmI : (k : Int) < m := by omega
                go_wp2_with fail
                go_roundw
                case rel => exact ⟨k + 1, by omega, by go_num, by go_num, hx5, hq5, by rw [if_neg HR.out]; exact hf5, hG5⟩
                case measure => simp [intOf]; omega
            · obtain ⟨nn, hnn⟩ := Int.eq_ofNat_of_zero_le (show 0 ≤ N k by omega)
              have UN := units_any (n := nn) hax (by omega) (by omega)
              have hstep : agStep (agS K N (freshM n) k).1 (agS K N (freshM n) k).2 (K k) (N k) = ((unitsM (agS K N (freshM n) k).1 nn).1, (unitsM (agS K N (freshM n) k).1 nn).2, holdM (agS K N (freshM n) k).2 (unitsM (agS K N (freshM n) k).1 nn).1 nn) := by
                unfold agStep
                rw [if_pos e0, if_neg hinv, hnn]
                rfl
              have HST := Lib.hid hstep
              have HNN := Lib.hid hnn
              rw [← hnn] at UN
              clear hstep hinv e0 hnn
              go_wp2_with fail
              rw [← HA.out, ← HX.out]
              refine UN.mono ?_; rintro e w4 ⟨rfl, hx4, ho4⟩
              rw [HNN.out]
              have hq4 := hq.on ho4 (not_two hax (by decide) (by decide))
              have hf4 := own_on hf ho4 (not_two hax (by decide) (by decide))
              have hG4 := ho4.grown hG hfr
              have hstep := HST.out
              clear UN hax hq hf hG ho4 HST
              obtain ⟨X, hX⟩ : ∃ X, X = (unitsM (agS K N (freshM n) k).1 nn).1 := ⟨_, rfl⟩
              rw [← hX] at hx4 hstep ⊢
              have HXE := Lib.hid (show agX K N (freshM n) k = X by unfold agX; rw [hstep])
              have HS1 := Lib.hid (show (agS K N (freshM n) (k + 1)).1 = _ by show (agStep _ _ _ _).2.1 = _; rw [hstep])
              have HS2 := Lib.hid (show (agS K N (freshM n) (k + 1)).2 = holdM (agS K N (freshM n) k).2 X nn by show (agStep _ _ _ _).2.2 = _; rw [hstep])
              have gh := got_hold (agS K N (freshM n) k).2 X nn
              have hx4 := hx4.swap gh
              have HX4 : Ax w4 g gm (.pointer (some ⟨b, 0, none⟩)) (agS K N (freshM n) (k + 1)).1 (blks (agS K N (freshM n) (k + 1)).2) := by rw [HS1.out, HS2.out]; exact hx4
              clear hx4 hstep hX
              by_cases hX0 : X = 0
              · have hdec : decide ((0 : Int) < (X : Int)) = false := by rw [decide_eq_false_iff_not]; omega
                have hdec2 : decide (0 < X) = false := by rw [decide_eq_false_iff_not]; omega
                have hq5 : Ql w4 w.heap.size (.slice la ll lc) (agS K N (freshM n) (k + 1)).2 := by rw [HS2.out]; unfold holdM; rw [if_pos hX0]; exact hq4
                obtain ⟨w5, hw5⟩ : ∃ w5, w5 = w4 := ⟨_, rfl⟩
                rw [← hw5] at HX4 hq5 hf4 hG4 ⊢
                have hx5 := HX4
                have hf5 := hf4
                have hG5 := hG4
                clear hw5 HX4 hf4 hG4 hq4 hX0
                by_cases hr0 : rd = 0
                · have q1 : ((rd : Int) == 0) = true := by simp; omega
                  have q2 : decide ((rd : Int) = 0) = true := by simp; omega
                  have q3 : decide (rd = 0) = true := by simp; omega
                  have HR := Lib.hid hr0
                  have hF : k = F := by rw [HF.out, if_pos hr0]
                  clear hr0
                  subst hF
                  have hlf : (ints (agX K N (freshM n)) k).length = k := ints_len _ _
                  obtain ⟨i0, hi0, hz0, hz1, hz2⟩ := info_parts infoI
                  have hsz5 := hG5.size
                  go_wp2_with (at_builtin; refine wpList_append_own _ rfl (.tmp 86) (.tmp 88) 31 rfl w.heap.size 3 i0 _ 1 8 Try.underlying31 hi0 hz0 hz1 hz2 rfl (by decide) _ _ _ rfl (hf5.alloc _) ⟨w5.heap.size, 0, none⟩ 1 1 [.int .i64 (X : Nat)] rfl rfl (cell_one_new' _ _ _) (by intro u hu; simp at hu; rw [hu]; rfl) (by unfold maxLen; omega) (by omega) (by simp; omega) ?_)
                  intro v6 w6 hf6 hg6 _
                  have o6 : On (fun k => ∃ cs, Blk (w5.alloc (.cells #[.int .i64 (X : Nat)] 3)) k 3 cs) (w5.alloc (.cells #[.int .i64 (X : Nat)] 3)) w6 := own_frame (hf5.alloc _) hg6
                  have a5 : On (fun _ => False) w5 (w5.alloc (.cells #[.int .i64 (X : Nat)] 3)) := (on_refl _ _).alloc _
                  have hx6 := ax_typed (t := 3) (hx5.on a5 id id) o6 (fun k h => h) (by decide) (by decide)
                  have hq6 := (hq5.on a5 (fun _ e => e.elim)).on o6 (typed_not (t := 3) (fun k h => h) (by decide))
                  have hG6 : w.grownBy w6 none := grown_new (grown_alloc hG5 _) hg6 (own_base hf5)
                  obtain ⟨fa6, fc6, rfl⟩ := own_slice1 hf6
                  have hf7 : w6.ownsRow w.heap.size 3 1 (.slice fa6 (k + 1) fc6) (k + 1) (ints (agX K N (freshM n)) (k + 1)) := by rw [ints_succ, HXE.out]; exact hf6
                  clear hf6 hg6 hx5 hq5 hf5 hG5 a5 o6 hi0 hz0 hz1 hz2
                  go_wp2_with fail
                  go_roundw
                  case rel => exact ⟨k + 1, by omega, by go_num, by go_num, hx6, hq6, by rw [if_pos HR.out]; exact hf7, hG6⟩
                  case measure => simp [intOf]; omega
                · have q1 : ((rd : Int) == 0) = false := by simp; omega
                  have q2 : decide ((rd : Int) = 0) = false := by simp; omega
                  have q3 : decide (rd = 0) = false := by simp; omega
                  have HR := Lib.hid hr0
                  have hF : m = F := by rw [HF.out, if_neg hr0]
                  clear hr0
                  subst hF
                  obtain ⟨fb, fc6, hfe, hfc⟩ := own_cell hf5 hkm
                  cases hfe
                  rw [HXE.out] at hfc
                  have hkmI : (k : Int) < m := by omega
                  go_wp2_with fail
                  go_roundw
                  case rel => exact ⟨k + 1, by omega, by go_num, by go_num, hx5, hq5, by rw [if_neg HR.out]; exact hf5, hG5⟩
                  case measure => simp [intOf]; omega
              · have hdec : decide ((0 : Int) < (X : Int)) = true := by rw [decide_eq_true_iff]; omega
                have hdec2 : decide (0 < X) = true := by rw [decide_eq_true_iff]; omega
                have hlen4 := (agS_fine K N (freshM n) k).2
                have hsz4 := hG4.size
                have hll2 := HLL.out
                rw [hll2] at hq4 ⊢
                go_wp2_with (at_builtin; refine append_q rfl (.tmp 78) (.tmp 82) rfl rfl hq4 X nn rfl (by omega) (by omega) ?_)
                intro v5 w5 hq5 o5
                have a4 : On (fun _ => False) w4 (w4.alloc (.cells #[.int .i64 (X : Nat), .int .i64 (nn : Nat)] 39)) := (on_refl _ _).alloc _
                have hx5 := ax_typed (t := 39) (HX4.on a4 id id) o5 (fun k h => h.1) (by decide) (by decide)
                have hf5 := own_on (hf4.alloc (.cells #[.int .i64 (X : Nat), .int .i64 (nn : Nat)] 39)) o5 (typed_not (t := 39) (fun k h => h.1) (by decide))
                have hG5 := o5.grown (grown_alloc hG4 (.cells #[.int .i64 (X : Nat), .int .i64 (nn : Nat)] 39)) (fun k h => h.2)
                have hq5 : Ql w5 w.heap.size v5 (agS K N (freshM n) (k + 1)).2 := by rw [HS2.out]; unfold holdM; rw [if_neg hX0]; exact hq5
                obtain ⟨la5, lc5, rfl⟩ := hq5.slice
                clear HX4 hf4 hG4 hq4 hX0 o5 a4 hlen4 hsz4
                by_cases hr0 : rd = 0
                · have q1 : ((rd : Int) == 0) = true := by simp; omega
                  have q2 : decide ((rd : Int) = 0) = true := by simp; omega
                  have q3 : decide (rd = 0) = true := by simp; omega
                  have HR := Lib.hid hr0
                  have hF : k = F := by rw [HF.out, if_pos hr0]
                  clear hr0
                  subst hF
                  have hlf : (ints (agX K N (freshM n)) k).length = k := ints_len _ _
                  obtain ⟨i0, hi0, hz0, hz1, hz2⟩ := info_parts infoI
                  have hsz5 := hG5.size
                  go_wp2_with (at_builtin; refine wpList_append_own _ rfl (.tmp 86) (.tmp 88) 31 rfl w.heap.size 3 i0 _ 1 8 Try.underlying31 hi0 hz0 hz1 hz2 rfl (by decide) _ _ _ rfl (hf5.alloc _) ⟨w5.heap.size, 0, none⟩ 1 1 [.int .i64 (X : Nat)] rfl rfl (cell_one_new' _ _ _) (by intro u hu; simp at hu; rw [hu]; rfl) (by unfold maxLen; omega) (by omega) (by simp; omega) ?_)
                  intro v6 w6 hf6 hg6 _
                  have o6 : On (fun k => ∃ cs, Blk (w5.alloc (.cells #[.int .i64 (X : Nat)] 3)) k 3 cs) (w5.alloc (.cells #[.int .i64 (X : Nat)] 3)) w6 := own_frame (hf5.alloc _) hg6
                  have a5 : On (fun _ => False) w5 (w5.alloc (.cells #[.int .i64 (X : Nat)] 3)) := (on_refl _ _).alloc _
                  have hx6 := ax_typed (t := 3) (hx5.on a5 id id) o6 (fun k h => h) (by decide) (by decide)
                  have hq6 := (hq5.on a5 (fun _ e => e.elim)).on o6 (typed_not (t := 3) (fun k h => h) (by decide))
                  have hG6 : w.grownBy w6 none := grown_new (grown_alloc hG5 _) hg6 (own_base hf5)
                  obtain ⟨fa6, fc6, rfl⟩ := own_slice1 hf6
                  have hf7 : w6.ownsRow w.heap.size 3 1 (.slice fa6 (k + 1) fc6) (k + 1) (ints (agX K N (freshM n)) (k + 1)) := by rw [ints_succ, HXE.out]; exact hf6
                  clear hf6 hg6 hx5 hq5 hf5 hG5 a5 o6 hi0 hz0 hz1 hz2
                  go_wp2_with fail
                  go_roundw
                  case rel => exact ⟨k + 1, by omega, by go_num, by go_num, hx6, hq6, by rw [if_pos HR.out]; exact hf7, hG6⟩
                  case measure => simp [intOf]; omega
                · have q1 : ((rd : Int) == 0) = false := by simp; omega
                  have q2 : decide ((rd : Int) = 0) = false := by simp; omega
                  have q3 : decide (rd = 0) = false := by simp; omega
                  have HR := Lib.hid hr0
                  have hF : m = F := by rw [HF.out, if_neg hr0]
                  clear hr0
                  subst hF
                  obtain ⟨fb, fc6, hfe, hfc⟩ := own_cell hf5 hkm
                  cases hfe
                  rw [HXE.out] at hfc
                  have hkmI : (k : Int) < m := by omega
                  go_wp2_with fail
                  go_roundw
                  case rel => exact ⟨k + 1, by omega, by go_num, by go_num, hx5, hq5, by rw [if_neg HR.out]; exact hf5, hG5⟩
                  case measure => simp [intOf]; omega
          · by_cases e1 : K k = 1
            · have e0b : (K k == 0) = false := by simp; omega
              have e1b : (K k == 1) = true := by simp; omega
              have ON := one_any hax
              have hstep : agStep (agS K N (freshM n) k).1 (agS K N (freshM n) k).2 (K k) (N k) = ((oneM (agS K N (freshM n) k).1).1, (oneM (agS K N (freshM n) k).1).2, holdM (agS K N (freshM n) k).2 (oneM (agS K N (freshM n) k).1).1 1) := by
                unfold agStep
                rw [if_neg e0, if_pos e1]
              have HST := Lib.hid hstep
              clear hstep e0 e1
              go_wp2_with fail
              rw [← HA.out, ← HX.out]
              refine ON.mono ?_; rintro e w4 ⟨rfl, hx4, ho4⟩
              have hq4 := hq.on ho4 (not_two hax (by decide) (by decide))
              have hf4 := own_on hf ho4 (not_two hax (by decide) (by decide))
              have hG4 := ho4.grown hG hfr
              have hstep := HST.out
              clear ON hax hq hf hG ho4 HST
              obtain ⟨X, hX⟩ : ∃ X, X = (oneM (agS K N (freshM n) k).1).1 := ⟨_, rfl⟩
              rw [← hX] at hx4 hstep ⊢
              have HXE := Lib.hid (show agX K N (freshM n) k = X by unfold agX; rw [hstep])
              have HS1 := Lib.hid (show (agS K N (freshM n) (k + 1)).1 = _ by show (agStep _ _ _ _).2.1 = _; rw [hstep])
              have HS2 := Lib.hid (show (agS K N (freshM n) (k + 1)).2 = holdM (agS K N (freshM n) k).2 X 1 by show (agStep _ _ _ _).2.2 = _; rw [hstep])
              have gh := got_hold (agS K N (freshM n) k).2 X 1
              rw [show sz (fr 1) = 1 by decide] at gh
              have hx4 := hx4.swap gh
              have HX4 : Ax w4 g gm (.pointer (some ⟨b, 0, none⟩)) (agS K N (freshM n) (k + 1)).1 (blks (agS K N (freshM n) (k + 1)).2) := by rw [HS1.out, HS2.out]; exact hx4
              clear hx4 hstep hX
              by_cases hX0 : X = 0
              · have hdec : decide ((0 : Int) < (X : Int)) = false := by rw [decide_eq_false_iff_not]; omega
                have hdec2 : decide (0 < X) = false := by rw [decide_eq_false_iff_not]; omega
                have hq5 : Ql w4 w.heap.size (.slice la ll lc) (agS K N (freshM n) (k + 1)).2 := by rw [HS2.out]; unfold holdM; rw [if_pos hX0]; exact hq4
                obtain ⟨w5, hw5⟩ : ∃ w5, w5 = w4 := ⟨_, rfl⟩
                rw [← hw5] at HX4 hq5 hf4 hG4 ⊢
                have hx5 := HX4
                have hf5 := hf4
                have hG5 := hG4
                clear hw5 HX4 hf4 hG4 hq4 hX0
                by_cases hr0 : rd = 0
                · have q1 : ((rd : Int) == 0) = true := by simp; omega
                  have q2 : decide ((rd : Int) = 0) = true := by simp; omega
                  have q3 : decide (rd = 0) = true := by simp; omega
                  have HR := Lib.hid hr0
                  have hF : k = F := by rw [HF.out, if_pos hr0]
                  clear hr0
                  subst hF
                  have hlf : (ints (agX K N (freshM n)) k).length = k := ints_len _ _
                  obtain ⟨i0, hi0, hz0, hz1, hz2⟩ := info_parts infoI
                  have hsz5 := hG5.size
                  go_wp2_with (at_builtin; refine wpList_append_own _ rfl (.tmp 86) (.tmp 88) 31 rfl w.heap.size 3 i0 _ 1 8 Try.underlying31 hi0 hz0 hz1 hz2 rfl (by decide) _ _ _ rfl (hf5.alloc _) ⟨w5.heap.size, 0, none⟩ 1 1 [.int .i64 (X : Nat)] rfl rfl (cell_one_new' _ _ _) (by intro u hu; simp at hu; rw [hu]; rfl) (by unfold maxLen; omega) (by omega) (by simp; omega) ?_)
                  intro v6 w6 hf6 hg6 _
                  have o6 : On (fun k => ∃ cs, Blk (w5.alloc (.cells #[.int .i64 (X : Nat)] 3)) k 3 cs) (w5.alloc (.cells #[.int .i64 (X : Nat)] 3)) w6 := own_frame (hf5.alloc _) hg6
                  have a5 : On (fun _ => False) w5 (w5.alloc (.cells #[.int .i64 (X : Nat)] 3)) := (on_refl _ _).alloc _
                  have hx6 := ax_typed (t := 3) (hx5.on a5 id id) o6 (fun k h => h) (by decide) (by decide)
                  have hq6 := (hq5.on a5 (fun _ e => e.elim)).on o6 (typed_not (t := 3) (fun k h => h) (by decide))
                  have hG6 : w.grownBy w6 none := grown_new (grown_alloc hG5 _) hg6 (own_base hf5)
                  obtain ⟨fa6, fc6, rfl⟩ := own_slice1 hf6
                  have hf7 : w6.ownsRow w.heap.size 3 1 (.slice fa6 (k + 1) fc6) (k + 1) (ints (agX K N (freshM n)) (k + 1)) := by rw [ints_succ, HXE.out]; exact hf6
                  clear hf6 hg6 hx5 hq5 hf5 hG5 a5 o6 hi0 hz0 hz1 hz2
                  go_wp2_with fail
                  go_roundw
                  case rel => exact ⟨k + 1, by omega, by go_num, by go_num, hx6, hq6, by rw [if_pos HR.out]; exact hf7, hG6⟩
                  case measure => simp [intOf]; omega
                · have q1 : ((rd : Int) == 0) = false := by simp; omega
                  have q2 : decide ((rd : Int) = 0) = false := by simp; omega
                  have q3 : decide (rd = 0) = false := by simp; omega
                  have HR := Lib.hid hr0
                  have hF : m = F := by rw [HF.out, if_neg hr0]
                  clear hr0
                  subst hF
                  obtain ⟨fb, fc6, hfe, hfc⟩ := own_cell hf5 hkm
                  cases hfe
                  rw [HXE.out] at hfc
                  have hkmI : (k : Int) < m := by omega
                  go_wp2_with fail
                  go_roundw
                  case rel => exact ⟨k + 1, by omega, by go_num, by go_num, hx5, hq5, by rw [if_neg HR.out]; exact hf5, hG5⟩
                  case measure => simp [intOf]; omega
              · have hdec : decide ((0 : Int) < (X : Int)) = true := by rw [decide_eq_true_iff]; omega
                have hdec2 : decide (0 < X) = true := by rw [decide_eq_true_iff]; omega
                have hlen4 := (agS_fine K N (freshM n) k).2
                have hsz4 := hG4.size
                have hll2 := HLL.out
                rw [hll2] at hq4 ⊢
                go_wp2_with (at_builtin; refine append_q rfl (.tmp 78) (.tmp 82) rfl rfl hq4 X 1 rfl (by omega) (by omega) ?_)
                intro v5 w5 hq5 o5
                have a4 : On (fun _ => False) w4 (w4.alloc (.cells #[.int .i64 (X : Nat), .int .i64 (1 : Nat)] 39)) := (on_refl _ _).alloc _
                have hx5 := ax_typed (t := 39) (HX4.on a4 id id) o5 (fun k h => h.1) (by decide) (by decide)
                have hf5 := own_on (hf4.alloc (.cells #[.int .i64 (X : Nat), .int .i64 (1 : Nat)] 39)) o5 (typed_not (t := 39) (fun k h => h.1) (by decide))
                have hG5 := o5.grown (grown_alloc hG4 (.cells #[.int .i64 (X : Nat), .int .i64 (1 : Nat)] 39)) (fun k h => h.2)
                have hq5 : Ql w5 w.heap.size v5 (agS K N (freshM n) (k + 1)).2 := by rw [HS2.out]; unfold holdM; rw [if_neg hX0]; exact hq5
                obtain ⟨la5, lc5, rfl⟩ := hq5.slice
                clear HX4 hf4 hG4 hq4 hX0 o5 a4 hlen4 hsz4
                by_cases hr0 : rd = 0
                · have q1 : ((rd : Int) == 0) = true := by simp; omega
                  have q2 : decide ((rd : Int) = 0) = true := by simp; omega
                  have q3 : decide (rd = 0) = true := by simp; omega
                  have HR := Lib.hid hr0
                  have hF : k = F := by rw [HF.out, if_pos hr0]
                  clear hr0
                  subst hF
                  have hlf : (ints (agX K N (freshM n)) k).length = k := ints_len _ _
                  obtain ⟨i0, hi0, hz0, hz1, hz2⟩ := info_parts infoI
                  have hsz5 := hG5.size
                  go_wp2_with (at_builtin; refine wpList_append_own _ rfl (.tmp 86) (.tmp 88) 31 rfl w.heap.size 3 i0 _ 1 8 Try.underlying31 hi0 hz0 hz1 hz2 rfl (by decide) _ _ _ rfl (hf5.alloc _) ⟨w5.heap.size, 0, none⟩ 1 1 [.int .i64 (X : Nat)] rfl rfl (cell_one_new' _ _ _) (by intro u hu; simp at hu; rw [hu]; rfl) (by unfold maxLen; omega) (by omega) (by simp; omega) ?_)
                  intro v6 w6 hf6 hg6 _
                  have o6 : On (fun k => ∃ cs, Blk (w5.alloc (.cells #[.int .i64 (X : Nat)] 3)) k 3 cs) (w5.alloc (.cells #[.int .i64 (X : Nat)] 3)) w6 := own_frame (hf5.alloc _) hg6
                  have a5 : On (fun _ => False) w5 (w5.alloc (.cells #[.int .i64 (X : Nat)] 3)) := (on_refl _ _).alloc _
                  have hx6 := ax_typed (t := 3) (hx5.on a5 id id) o6 (fun k h => h) (by decide) (by decide)
                  have hq6 := (hq5.on a5 (fun _ e => e.elim)).on o6 (typed_not (t := 3) (fun k h => h) (by decide))
                  have hG6 : w.grownBy w6 none := grown_new (grown_alloc hG5 _) hg6 (own_base hf5)
                  obtain ⟨fa6, fc6, rfl⟩ := own_slice1 hf6
                  have hf7 : w6.ownsRow w.heap.size 3 1 (.slice fa6 (k + 1) fc6) (k + 1) (ints (agX K N (freshM n)) (k + 1)) := by rw [ints_succ, HXE.out]; exact hf6
                  clear hf6 hg6 hx5 hq5 hf5 hG5 a5 o6 hi0 hz0 hz1 hz2
                  go_wp2_with fail
                  go_roundw
                  case rel => exact ⟨k + 1, by omega, by go_num, by go_num, hx6, hq6, by rw [if_pos HR.out]; exact hf7, hG6⟩
                  case measure => simp [intOf]; omega
                · have q1 : ((rd : Int) == 0) = false := by simp; omega
                  have q2 : decide ((rd : Int) = 0) = false := by simp; omega
                  have q3 : decide (rd = 0) = false := by simp; omega
                  have HR := Lib.hid hr0
                  have hF : m = F := by rw [HF.out, if_neg hr0]
                  clear hr0
                  subst hF
                  obtain ⟨fb, fc6, hfe, hfc⟩ := own_cell hf5 hkm
                  cases hfe
                  rw [HXE.out] at hfc
                  have hkmI : (k : Int) < m := by omega
                  go_wp2_with fail
                  go_roundw
                  case rel => exact ⟨k + 1, by omega, by go_num, by go_num, hx5, hq5, by rw [if_neg HR.out]; exact hf5, hG5⟩
                  case measure => simp [intOf]; omega
            · by_cases e2 : K k = 2
              · have e0b : (K k == 0) = false := by simp; omega
                have e1b : (K k == 1) = false := by simp; omega
                have e2b : (K k == 2) = true := by simp; omega
                by_cases hL : (agS K N (freshM n) k).2 = []
                · have hstep : agStep (agS K N (freshM n) k).1 (agS K N (freshM n) k).2 (K k) (N k) = (0, (agS K N (freshM n) k).1, (agS K N (freshM n) k).2) := by
                    unfold agStep
                    rw [if_neg e0, if_neg e1, if_pos e2, hL]
                  have hl0 : ll = 0 := by rw [HLL.out, hL]; rfl
                  have hdec : decide ((0 : Int) < (ll : Int)) = false := by rw [decide_eq_false_iff_not]; omega
                  have hdec2 : decide (0 < ll) = false := by rw [decide_eq_false_iff_not]; omega
                  have HXE := Lib.hid (show agX K N (freshM n) k = 0 by unfold agX; rw [hstep])
                  have hs1 : (agS K N (freshM n) (k + 1)).1 = (agS K N (freshM n) k).1 := by show (agStep _ _ _ _).2.1 = _; rw [hstep]
                  have hs2 : (agS K N (freshM n) (k + 1)).2 = (agS K N (freshM n) k).2 := by show (agStep _ _ _ _).2.2 = _; rw [hstep]
                  have hx5 : Ax wa g gm (.pointer (some ⟨b, 0, none⟩)) (agS K N (freshM n) (k + 1)).1 (blks (agS K N (freshM n) (k + 1)).2) := by rw [hs1, hs2]; exact hax
                  have hq5 : Ql wa w.heap.size (.slice la ll lc) (agS K N (freshM n) (k + 1)).2 := by rw [hs2]; exact hq
                  have hf5 := hf
                  have hG5 := hG
                  clear hax hq hf hG hstep hs1 hs2
                  clear e0 e1 e2 hl0 hL
                  by_cases hr0 : rd = 0
                  · have q1 : ((rd : Int) == 0) = true := by simp; omega
                    have q2 : decide ((rd : Int) = 0) = true := by simp; omega
                    have q3 : decide (rd = 0) = true := by simp; omega
                    have HR := Lib.hid hr0
                    have hF : k = F := by rw [HF.out, if_pos hr0]
                    clear hr0
                    subst hF
                    have hlf : (ints (agX K N (freshM n)) k).length = k := ints_len _ _
                    obtain ⟨i0, hi0, hz0, hz1, hz2⟩ := info_parts infoI
                    have hsz5 := hG5.size
                    go_wp2_with (at_builtin; rw [← HA.out, ← HSW.out]; refine wpList_append_own _ rfl (.tmp 86) (.tmp 88) 31 rfl w.heap.size 3 i0 _ 1 8 Try.underlying31 hi0 hz0 hz1 hz2 rfl (by decide) _ _ _ rfl (hf5.alloc _) ⟨wa.heap.size, 0, none⟩ 1 1 [.int .i64 0] rfl rfl (cell_one_new' _ _ _) (by intro u hu; simp at hu; rw [hu]; rfl) (by unfold maxLen; omega) (by omega) (by simp; omega) ?_)
                    intro v6 w6 hf6 hg6 _
                    have o6 : On (fun k => ∃ cs, Blk (wa.alloc (.cells #[.int .i64 0] 3)) k 3 cs) (wa.alloc (.cells #[.int .i64 0] 3)) w6 := own_frame (hf5.alloc _) hg6
                    have a5 : On (fun _ => False) wa (wa.alloc (.cells #[.int .i64 0] 3)) := (on_refl _ _).alloc _
                    have hx6 := ax_typed (t := 3) (hx5.on a5 id id) o6 (fun k h => h) (by decide) (by decide)
                    have hq6 := (hq5.on a5 (fun _ e => e.elim)).on o6 (typed_not (t := 3) (fun k h => h) (by decide))
                    have hG6 : w.grownBy w6 none := grown_new (grown_alloc hG5 _) hg6 (own_base hf5)
                    obtain ⟨fa6, fc6, rfl⟩ := own_slice1 hf6
                    have hf7 : w6.ownsRow w.heap.size 3 1 (.slice fa6 (k + 1) fc6) (k + 1) (ints (agX K N (freshM n)) (k + 1)) := by rw [ints_succ, HXE.out]; exact hf6
                    clear hf6 hg6 hx5 hq5 hf5 hG5 a5 o6 hi0 hz0 hz1 hz2
                    go_wp2_with fail
                    go_roundw
                    case rel => exact ⟨k + 1, by omega, by go_num, by go_num, hx6, hq6, by rw [if_pos HR.out]; exact hf7, hG6⟩
                    case measure => simp [intOf]; omega
                  · have q1 : ((rd : Int) == 0) = false := by simp; omega
                    have q2 : decide ((rd : Int) = 0) = false := by simp; omega
                    have q3 : decide (rd = 0) = false := by simp; omega
                    have HR := Lib.hid hr0
                    have hF : m = F := by rw [HF.out, if_neg hr0]
                    clear hr0
                    subst hF
                    obtain ⟨fb, fc6, hfe, hfc⟩ := own_cell hf5 hkm
                    cases hfe
                    rw [HXE.out] at hfc
                    have hfc : wa.cell? ⟨fb, k, none⟩ = some (.int .i64 0) := hfc
                    have hkmI : (k : Int) < m := by omega
                    rw [HA.out] at hfc
                    go_wp2_with fail
                    go_roundw
                    case rel => exact ⟨k + 1, by omega, by go_num, by go_num, by rw [← HA.out]; exact hx5, by rw [← HA.out]; exact hq5, by rw [← HA.out, if_neg HR.out]; exact hf5, by rw [← HA.out]; exact hG5⟩
                    case measure => simp [intOf]; omega
                · obtain ⟨x, L', hL'⟩ := List.exists_cons_of_ne_nil hL
                  obtain ⟨hx1, hx2⟩ := (agS_fine K N (freshM n) k).1 x (by rw [hL']; exact List.mem_cons_self)
                  have hstep : agStep (agS K N (freshM n) k).1 (agS K N (freshM n) k).2 (K k) (N k) = (0, putM (agS K N (freshM n) k).1 x.1 (fr x.2), L') := by
                    unfold agStep
                    rw [if_neg e0, if_neg e1, if_pos e2, hL']
                  have hl0 : ll = L'.length + 1 := by rw [HLL.out, hL']; rfl
                  have hdec : decide ((0 : Int) < (ll : Int)) = true := by rw [decide_eq_true_iff]; omega
                  have hdec2 : decide (0 < ll) = true := by rw [decide_eq_true_iff]; omega
                  have hll1 : 1 ≤ ll := by omega
                  have HXE := Lib.hid (show agX K N (freshM n) k = 0 by unfold agX; rw [hstep])
                  have hs1 : (agS K N (freshM n) (k + 1)).1 = putM (agS K N (freshM n) k).1 x.1 (fr x.2) := by show (agStep _ _ _ _).2.1 = _; rw [hstep]
                  have hs2 : (agS K N (freshM n) (k + 1)).2 = L' := by show (agStep _ _ _ _).2.2 = _; rw [hstep]
                  rw [hL'] at hax hq
                  obtain ⟨qb, qo, qc, hve, c1, c2⟩ := hq.head
                  have hve := hve
                  injection hve with v1 v2 v3
                  subst v1 v3
                  have HV := Lib.hid hl0
                  have RL := release_any (p := x.1) (n := x.2) (H := blks L') hax.drew hx1 hx2
                  have hne := not_two hax.drew (t := 39) (by decide) (by decide)
                  have hnei := not_two hax.drew (t := 3) (by decide) (by decide)
                  clear e0 e1 e2 hl0 hL v2 hstep hax
                  go_wp2_with fail
                  rw [← HA.out, ← HX.out]
                  refine wp_region_still_tail 9 (by kernel_rfl) (by kernel_rfl) ?_
                  change wpStill _ _ wa.drew (fun a' => wpList _ _ _ _ a' wa.drew) _ _
                  simp only [List.take_succ_cons, List.take_zero, List.drop_succ_cons, List.drop_zero]
                  repeat still_step
                  refine wpStill_nil ?_
                  go_wp2_with fail
                  refine RL.mono ?_; rintro e w4 ⟨rfl, hx4, ho4⟩
                  obtain ⟨hqt, hc1⟩ := hq.tail
                  have hq4 : Ql w4 w.heap.size (.slice (some ⟨qb, qo + 2, none⟩) L'.length (lc - 1)) L' := (show Ql wa.drew _ _ _ from hqt).on ho4 hne
                  have hf5 := own_on (show wa.drew.ownsRow _ _ _ _ _ _ from hf) ho4 hnei
                  have hG5 := ho4.grown (grown_drewN hG 1) hfr
                  have hx5 : Ax w4 g gm (.pointer (some ⟨b, 0, none⟩)) (agS K N (freshM n) (k + 1)).1 (blks (agS K N (freshM n) (k + 1)).2) := by rw [hs1, hs2]; exact hx4
                  by_cases hcc : lc = 1
                  · subst hcc
                    have hq5 : Ql w4 w.heap.size (.slice (some ⟨qb, qo, none⟩) L'.length 0) (agS K N (freshM n) (k + 1)).2 := by rw [hs2]; exact (show Ql wa.drew _ _ _ from hq.tail0).on ho4 hne
                    clear hq hqt hq4 hf hG ho4 hne hnei hx4 RL hs1 hs2
                    by_cases hr0 : rd = 0
                    · have q1 : ((rd : Int) == 0) = true := by simp; omega
                      have q2 : decide ((rd : Int) = 0) = true := by simp; omega
                      have q3 : decide (rd = 0) = true := by simp; omega
                      have HR := Lib.hid hr0
                      have hF : k = F := by rw [HF.out, if_pos hr0]
                      clear hr0
                      subst hF
                      have hlf : (ints (agX K N (freshM n)) k).length = k := ints_len _ _
                      obtain ⟨i0, hi0, hz0, hz1, hz2⟩ := info_parts infoI
                      have hsz5 := hG5.size
                      go_wp2_with (at_builtin; refine wpList_append_own _ rfl (.tmp 86) (.tmp 88) 31 rfl w.heap.size 3 i0 _ 1 8 Try.underlying31 hi0 hz0 hz1 hz2 rfl (by decide) _ _ _ rfl (hf5.alloc _) ⟨w4.heap.size, 0, none⟩ 1 1 [.int .i64 0] rfl rfl (cell_one_new' _ _ _) (by intro u hu; simp at hu; rw [hu]; rfl) (by unfold maxLen; omega) (by omega) (by simp; omega) ?_)
                      intro v6 w6 hf6 hg6 _
                      have o6 : On (fun k => ∃ cs, Blk (w4.alloc (.cells #[.int .i64 0] 3)) k 3 cs) (w4.alloc (.cells #[.int .i64 0] 3)) w6 := own_frame (hf5.alloc _) hg6
                      have a5 : On (fun _ => False) w4 (w4.alloc (.cells #[.int .i64 0] 3)) := (on_refl _ _).alloc _
                      have hx6 := ax_typed (t := 3) (hx5.on a5 id id) o6 (fun k h => h) (by decide) (by decide)
                      have hq6 := (hq5.on a5 (fun _ e => e.elim)).on o6 (typed_not (t := 3) (fun k h => h) (by decide))
                      have hG6 : w.grownBy w6 none := grown_new (grown_alloc hG5 _) hg6 (own_base hf5)
                      obtain ⟨fa6, fc6, rfl⟩ := own_slice1 hf6
                      have hf7 : w6.ownsRow w.heap.size 3 1 (.slice fa6 (k + 1) fc6) (k + 1) (ints (agX K N (freshM n)) (k + 1)) := by rw [ints_succ, HXE.out]; exact hf6
                      clear hf6 hg6 hx5 hq5 hf5 hG5 a5 o6 hi0 hz0 hz1 hz2
                      go_wp2_with fail
                      go_roundw
                      case rel => exact ⟨k + 1, by omega, by go_num, by go_num, hx6, hq6, by rw [if_pos HR.out]; exact hf7, hG6⟩
                      case measure => simp [intOf]; omega
                    · have q1 : ((rd : Int) == 0) = false := by simp; omega
                      have q2 : decide ((rd : Int) = 0) = false := by simp; omega
                      have q3 : decide (rd = 0) = false := by simp; omega
                      have HR := Lib.hid hr0
                      have hF : m = F := by rw [HF.out, if_neg hr0]
                      clear hr0
                      subst hF
                      obtain ⟨fb, fc6, hfe, hfc⟩ := own_cell hf5 hkm
                      cases hfe
                      rw [HXE.out] at hfc
                      have hfc : w4.cell? ⟨fb, k, none⟩ = some (.int .i64 0) := hfc
                      have hkmI : (k : Int) < m := by omega
                      go_wp2_with fail
                      go_roundw
                      case rel => exact ⟨k + 1, by omega, by go_num, by go_num, hx5, hq5, by rw [if_neg HR.out]; exact hf5, hG5⟩
                      case measure => simp [intOf]; omega
                  · have hq5 : Ql w4 w.heap.size (.slice (some ⟨qb, qo + 2, none⟩) L'.length (lc - 1)) (agS K N (freshM n) (k + 1)).2 := by rw [hs2]; exact hq4
                    clear hq hqt hq4 hf hG ho4 hne hnei hx4 RL hs1 hs2
                    by_cases hr0 : rd = 0
                    · have q1 : ((rd : Int) == 0) = true := by simp; omega
                      have q2 : decide ((rd : Int) = 0) = true := by simp; omega
                      have q3 : decide (rd = 0) = true := by simp; omega
                      have HR := Lib.hid hr0
                      have hF : k = F := by rw [HF.out, if_pos hr0]
                      clear hr0
                      subst hF
                      have hlf : (ints (agX K N (freshM n)) k).length = k := ints_len _ _
                      obtain ⟨i0, hi0, hz0, hz1, hz2⟩ := info_parts infoI
                      have hsz5 := hG5.size
                      go_wp2_with (at_builtin; refine wpList_append_own _ rfl (.tmp 86) (.tmp 88) 31 rfl w.heap.size 3 i0 _ 1 8 Try.underlying31 hi0 hz0 hz1 hz2 rfl (by decide) _ _ _ rfl (hf5.alloc _) ⟨w4.heap.size, 0, none⟩ 1 1 [.int .i64 0] rfl rfl (cell_one_new' _ _ _) (by intro u hu; simp at hu; rw [hu]; rfl) (by unfold maxLen; omega) (by omega) (by simp; omega) ?_)
                      intro v6 w6 hf6 hg6 _
                      have o6 : On (fun k => ∃ cs, Blk (w4.alloc (.cells #[.int .i64 0] 3)) k 3 cs) (w4.alloc (.cells #[.int .i64 0] 3)) w6 := own_frame (hf5.alloc _) hg6
                      have a5 : On (fun _ => False) w4 (w4.alloc (.cells #[.int .i64 0] 3)) := (on_refl _ _).alloc _
                      have hx6 := ax_typed (t := 3) (hx5.on a5 id id) o6 (fun k h => h) (by decide) (by decide)
                      have hq6 := (hq5.on a5 (fun _ e => e.elim)).on o6 (typed_not (t := 3) (fun k h => h) (by decide))
                      have hG6 : w.grownBy w6 none := grown_new (grown_alloc hG5 _) hg6 (own_base hf5)
                      obtain ⟨fa6, fc6, rfl⟩ := own_slice1 hf6
                      have hf7 : w6.ownsRow w.heap.size 3 1 (.slice fa6 (k + 1) fc6) (k + 1) (ints (agX K N (freshM n)) (k + 1)) := by rw [ints_succ, HXE.out]; exact hf6
                      clear hf6 hg6 hx5 hq5 hf5 hG5 a5 o6 hi0 hz0 hz1 hz2
                      go_wp2_with fail
                      go_roundw
                      case rel => exact ⟨k + 1, by omega, by go_num, by go_num, hx6, hq6, by rw [if_pos HR.out]; exact hf7, hG6⟩
                      case measure => simp [intOf]; omega
                    · have q1 : ((rd : Int) == 0) = false := by simp; omega
                      have q2 : decide ((rd : Int) = 0) = false := by simp; omega
                      have q3 : decide (rd = 0) = false := by simp; omega
                      have HR := Lib.hid hr0
                      have hF : m = F := by rw [HF.out, if_neg hr0]
                      clear hr0
                      subst hF
                      obtain ⟨fb, fc6, hfe, hfc⟩ := own_cell hf5 hkm
                      cases hfe
                      rw [HXE.out] at hfc
                      have hfc : w4.cell? ⟨fb, k, none⟩ = some (.int .i64 0) := hfc
                      have hkmI : (k : Int) < m := by omega
                      go_wp2_with fail
                      go_roundw
                      case rel => exact ⟨k + 1, by omega, by go_num, by go_num, hx5, hq5, by rw [if_neg HR.out]; exact hf5, hG5⟩
                      case measure => simp [intOf]; omega
              · have hstep : agStep (agS K N (freshM n) k).1 (agS K N (freshM n) k).2 (K k) (N k) = (0, (agS K N (freshM n) k).1, (agS K N (freshM n) k).2) := by
                  unfold agStep
                  rw [if_neg e0, if_neg e1, if_neg e2]
                have e0b : (K k == 0) = false := by simp; omega
                have e1b : (K k == 1) = false := by simp; omega
                have e2b : (K k == 2) = false := by simp; omega
                have HXE := Lib.hid (show agX K N (freshM n) k = 0 by unfold agX; rw [hstep])
                have hs1 : (agS K N (freshM n) (k + 1)).1 = (agS K N (freshM n) k).1 := by show (agStep _ _ _ _).2.1 = _; rw [hstep]
                have hs2 : (agS K N (freshM n) (k + 1)).2 = (agS K N (freshM n) k).2 := by show (agStep _ _ _ _).2.2 = _; rw [hstep]
                have hx5 : Ax wa g gm (.pointer (some ⟨b, 0, none⟩)) (agS K N (freshM n) (k + 1)).1 (blks (agS K N (freshM n) (k + 1)).2) := by rw [hs1, hs2]; exact hax
                have hq5 : Ql wa w.heap.size (.slice la ll lc) (agS K N (freshM n) (k + 1)).2 := by rw [hs2]; exact hq
                have hf5 := hf
                have hG5 := hG
                clear hax hq hf hG hstep hs1 hs2
                clear e0 e1 e2
                by_cases hr0 : rd = 0
                · have q1 : ((rd : Int) == 0) = true := by simp; omega
                  have q2 : decide ((rd : Int) = 0) = true := by simp; omega
                  have q3 : decide (rd = 0) = true := by simp; omega
                  have HR := Lib.hid hr0
                  have hF : k = F := by rw [HF.out, if_pos hr0]
                  clear hr0
                  subst hF
                  have hlf : (ints (agX K N (freshM n)) k).length = k := ints_len _ _
                  obtain ⟨i0, hi0, hz0, hz1, hz2⟩ := info_parts infoI
                  have hsz5 := hG5.size
                  go_wp2_with (at_builtin; rw [← HA.out, ← HSW.out]; refine wpList_append_own _ rfl (.tmp 86) (.tmp 88) 31 rfl w.heap.size 3 i0 _ 1 8 Try.underlying31 hi0 hz0 hz1 hz2 rfl (by decide) _ _ _ rfl (hf5.alloc _) ⟨wa.heap.size, 0, none⟩ 1 1 [.int .i64 0] rfl rfl (cell_one_new' _ _ _) (by intro u hu; simp at hu; rw [hu]; rfl) (by unfold maxLen; omega) (by omega) (by simp; omega) ?_)
                  intro v6 w6 hf6 hg6 _
                  have o6 : On (fun k => ∃ cs, Blk (wa.alloc (.cells #[.int .i64 0] 3)) k 3 cs) (wa.alloc (.cells #[.int .i64 0] 3)) w6 := own_frame (hf5.alloc _) hg6
                  have a5 : On (fun _ => False) wa (wa.alloc (.cells #[.int .i64 0] 3)) := (on_refl _ _).alloc _
                  have hx6 := ax_typed (t := 3) (hx5.on a5 id id) o6 (fun k h => h) (by decide) (by decide)
                  have hq6 := (hq5.on a5 (fun _ e => e.elim)).on o6 (typed_not (t := 3) (fun k h => h) (by decide))
                  have hG6 : w.grownBy w6 none := grown_new (grown_alloc hG5 _) hg6 (own_base hf5)
                  obtain ⟨fa6, fc6, rfl⟩ := own_slice1 hf6
                  have hf7 : w6.ownsRow w.heap.size 3 1 (.slice fa6 (k + 1) fc6) (k + 1) (ints (agX K N (freshM n)) (k + 1)) := by rw [ints_succ, HXE.out]; exact hf6
                  clear hf6 hg6 hx5 hq5 hf5 hG5 a5 o6 hi0 hz0 hz1 hz2
                  go_wp2_with fail
                  go_roundw
                  case rel => exact ⟨k + 1, by omega, by go_num, by go_num, hx6, hq6, by rw [if_pos HR.out]; exact hf7, hG6⟩
                  case measure => simp [intOf]; omega
                · have q1 : ((rd : Int) == 0) = false := by simp; omega
                  have q2 : decide ((rd : Int) = 0) = false := by simp; omega
                  have q3 : decide (rd = 0) = false := by simp; omega
                  have HR := Lib.hid hr0
                  have hF : m = F := by rw [HF.out, if_neg hr0]
                  clear hr0
                  subst hF
                  obtain ⟨fb, fc6, hfe, hfc⟩ := own_cell hf5 hkm
                  cases hfe
                  rw [HXE.out] at hfc
                  have hfc : wa.cell? ⟨fb, k, none⟩ = some (.int .i64 0) := hfc
                  have hkmI : (k : Int) < m := by omega
                  rw [HA.out] at hfc
                  go_wp2_with fail
                  go_roundw
                  case rel => exact ⟨k + 1, by omega, by go_num, by go_num, by rw [← HA.out]; exact hx5, by rw [← HA.out]; exact hq5, by rw [← HA.out, if_neg HR.out]; exact hf5, by rw [← HA.out]; exact hG5⟩
                  case measure => simp [intOf]; omega
        · have hax0 := hax
          have hne := not_two hax (t := 3) (by decide) (by decide)
          have hFm : F = m := by rw [HF.out]; split <;> omega
          obtain ⟨-, M, har, -⟩ := hax
          have RS := restart_raw har
          rw [agS_size] at RS
          have hkm2 : k = m := by omega
          clear har hax0 hq
          rcases Nat.lt_or_ge 300 len with h3 | h3
          · have hm3 : m = 300 := by have := HM.out; omega
            have g1 : decide ((k : Int) < (len : Int)) = true := by rw [decide_eq_true_iff]; omega
            have g3 : decide (k < len) = true := by rw [decide_eq_true_iff]; omega
            have g2 : decide ((k : Int) < 300) = false := by rw [decide_eq_false_iff_not]; omega
            have HQ := Lib.hid (And.intro hkm2 hFm)
            clear hkm2 hFm hm3 hkm hm300
            go_wp2_with fail
            refine RS.mono ?_; rintro e w6 ⟨rfl, ha6, ho6⟩
            have hx6 : Ax w6 g gm (.pointer (some ⟨b, 0, none⟩)) (freshM n) [] := ⟨inv_fresh (by omega), M, ha6, fun i _ => trivial⟩
            have hf6 := own_on hf ho6 hne
            have hG6 := ho6.grown hG hfr
            clear RS ha6 ho6 hf hG hne
            go_wp2_with fail
            go_roundw
            case rel => exact ⟨rd + 1, [], by omega, by go_num, hx6, by rw [if_neg (by omega), ← HQ.out.2]; exact hf6, hG6⟩
            case measure => simp [intOf]; omega
          · have hm3 : m = len := by have := HM.out; omega
            have g1 : decide ((k : Int) < (len : Int)) = false := by rw [decide_eq_false_iff_not]; omega
            have g3 : decide (k < len) = false := by rw [decide_eq_false_iff_not]; omega
            have HQ := Lib.hid (And.intro hkm2 hFm)
            clear hkm2 hFm hm3 hkm hm300 hml
            go_wp2_with fail
            refine RS.mono ?_; rintro e w6 ⟨rfl, ha6, ho6⟩
            have hx6 : Ax w6 g gm (.pointer (some ⟨b, 0, none⟩)) (freshM n) [] := ⟨inv_fresh (by omega), M, ha6, fun i _ => trivial⟩
            have hf6 := own_on hf ho6 hne
            have hG6 := ho6.grown hG hfr
            clear RS ha6 ho6 hf hG hne
            go_wp2_with fail
            go_roundw
            case rel => exact ⟨rd + 1, [], by omega, by go_num, hx6, by rw [if_neg (by omega), ← HQ.out.2]; exact hf6, hG6⟩
            case measure => simp [intOf]; omega
    · have hrde : rd = 2 := by omega
      have g1 : decide ((rd : Int) < 2) = false := by rw [decide_eq_false_iff_not]; omega
      clear hrde hrd2 hrd
      go_wp2_with fail
      go_ret
      exact ⟨rfl, hG⟩
theorem again_int (s : Int) (hs : 0 ≤ s ∧ s ≤ 65535) (S0 : Option Addr) (len c : Nat) (K N Q : Nat → Int) (hlen : len ≤ 9223372036854775807) (w : World) (hS : Script w w.heap.size S0 len K N Q) :
    Calls Try.prog 3 #[.int .u16 s, .slice S0 len c] w fun e w' => e = .returned (.bool true) ∧ w.grownBy w' none := by
  obtain ⟨s, rfl⟩ := Int.eq_ofNat_of_zero_le hs.1
  exact again_walk s (by omega) S0 len c K N Q hlen w hS
end
end Go.Proofs.Ytplhonlgbidemaa
