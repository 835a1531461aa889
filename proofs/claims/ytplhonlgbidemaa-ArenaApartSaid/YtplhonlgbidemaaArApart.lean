/- ArenaApart, walked. -/
import Derived.Test.YtplhonlgbidemaaArDa
namespace Go.Proofs.Ytplhonlgbidemaa
open Go.RowKit
section
variable {base x g gm r n : Nat} {mt : Value} {A : AM} {H : List Bk} {L : List (Nat × Nat)} {full : Bool} {lv : Value} {w w' : World}
/-- A byte of a block that is held is written. -/
theorem setByte_held {p a j b : Nat} (h : Ax w g gm mt A (⟨p, a, false⟩ :: H)) (hj : j < 12 * a) (hb : b < 256) :
    Calls Try.prog 16 #[.pointer (some ⟨g, 0, none⟩), .int .i64 ((p + j : Nat) : Int), .int .u8 (b : Nat)] w fun e w' =>
      e = .returned (.tuple #[]) ∧ Ax w' g gm mt A (⟨p, a, false⟩ :: H) ∧ On (two g gm) w w' := by
  obtain ⟨hi, M, ha, hc⟩ := h
  have hl := hi.loose
  refine (setByte_in ha (p := p + j) (by omega) hb).mono ?_
  rintro e w' ⟨rfl, ha', ho⟩
  refine ⟨rfl, ⟨hi, _, ha', fun i hi38 => (hc i hi38).keep fun z hz => ?_⟩, ho⟩
  have hap := hi.apart hi38 hz
  have hsp := sz_pos i
  unfold num4
  dsimp only
  rw [if_neg (by omega), if_neg (by omega), if_neg (by omega), if_neg (by omega)]
/-- The list's pair k. -/
theorem Wd.pair (h : Wd base x g gm r mt n A L full lv w) {k : Nat} (hk : k < L.length) : ∃ (b c p m : Nat), lv = .slice (some ⟨b, 0, none⟩) L.length c ∧ L[k] = (p, m) ∧ 1 ≤ m ∧ m ≤ 128 ∧
    w.cell? ⟨b, k * 2, none⟩ = some (.int .i64 (p : Nat)) ∧ w.cell? ⟨b, k * 2 + 1, none⟩ = some (.int .i64 (m : Nat)) ∧ A.start ≤ p ∧ p + 12 * sz (fr m) ≤ A.size + 1 ∧ b < w.heap.size := by
  obtain ⟨hq, hcan, -⟩ := h
  obtain ⟨b, c, cs, e, -, -, hb, -, hat⟩ := own_held hq.own (by omega)
  obtain ⟨hp1, hp2⟩ := prs_at L k hk
  have hm := hcan _ (List.getElem_mem hk)
  have hl := (hq.ax.inv.swap (held_at L hk)).loose
  refine ⟨b, c, _, _, e, rfl, hm.1, hm.2, (hb.cell _).trans (hat _ _ hp1), (hb.cell _).trans (hat _ _ hp2), hl.2.1, hl.2.2, hb.lt⟩
theorem Wd.newb (_ : Wd base x g gm r mt n A L full lv w) (t : TypeId) (cs : Array Value) : Blk (w.alloc (.cells cs t)) w.heap.size t cs := Blk.new w t cs
theorem Wd.far (h : Wd base x g gm r mt n A L full lv w) {i k : Nat} (hk : k < i) (hi : i < L.length) {p m q o : Nat} (e1 : L[i] = (p, m)) (e2 : L[k]'(by omega) = (q, o)) : q + 12 * sz (fr o) ≤ p ∨ p + 12 * sz (fr m) ≤ q := by
  have hp := (List.pairwise_append.1 h.1.ax.inv.dj).2.1
  unfold heldB at hp
  rw [List.pairwise_map] at hp
  have := List.pairwise_iff_getElem.1 hp k i (by omega) hi hk
  rw [e1, e2] at this
  unfold Dj at this
  dsimp only at this
  rcases this with e | e | e | e
  · cases e
  · cases e
  · exact .inl e
  · exact .inr e
end
/-- The loop over a block's bytes. -/
def ApB (W : World) (base x g gm r : Nat) (mt : Value) (n : Nat) (A : AM) (L : List (Nat × Nat)) (full : Bool) (lv : Value) (hb p m : Nat) (i : Value) (wr : World) : Prop :=
  ∃ j : Nat, j ≤ 12 * m ∧ i = .int .i64 j ∧ Wd base x g gm r mt n A L full lv wr ∧ Blk wr hb 39 #[.int .i64 (p : Nat), .int .i64 (m : Nat)] ∧ (∀ k, lv.ownBlock = some k → k < hb) ∧ W.grownBy wr none
/-- The loops at the end. -/
def ApE (W : World) (base x g gm r : Nat) (mt : Value) (n : Nat) (A : AM) (L : List (Nat × Nat)) (full : Bool) (lv : Value) (i : Value) (wr : World) : Prop :=
  ∃ j : Nat, j ≤ L.length ∧ i = .int .i64 j ∧ Wd base x g gm r mt n A L full lv wr ∧ W.grownBy wr none
def ApF (W : World) (base x g gm r : Nat) (mt : Value) (n : Nat) (A : AM) (L : List (Nat × Nat)) (full : Bool) (lv : Value) (hb p m t : Nat) (i : Value) (wr : World) : Prop :=
  ∃ j : Nat, j ≤ t ∧ i = .int .i64 j ∧ Wd base x g gm r mt n A L full lv wr ∧ Blk wr hb 39 #[.int .i64 (p : Nat), .int .i64 (m : Nat)] ∧ W.grownBy wr none
set_option maxRecDepth 100000 in
set_option maxHeartbeats 8000000 in
theorem apart_walk (s : Nat) (hs : s ≤ 65535) (S0 : Option Addr) (len c : Nat) (K N Q : Nat → Int) (hlen : len ≤ 9223372036854775807) (w : World) (hS : Script w w.heap.size S0 len K N Q) :
    Calls Try.prog 8 #[.int .u16 (s : Nat), .slice S0 len c] w fun e w' => e = .returned (.bool true) ∧ w.grownBy w' none := by
  obtain ⟨n, hn⟩ : ∃ n, n = 2048 + s % 12000 := ⟨_, rfl⟩
  have hn1 : 2048 ≤ n := by omega
  have hn2 : n ≤ 1000000 := by omega
  go_enter Try.func8, Try.ntmps8
  go_wp2_with fail
  refine (awake_any _).mono ?_; rintro e w0 ⟨rfl, hG0⟩
  have BG := begin_any w0 hs
  rw [← hn] at BG
  clear hn
  go_wp2_with fail
  refine BG.mono ?_; rintro e w1 ⟨x, g, gm, r, b, rfl, hx, hg, hgm, hr, hbx, hax, hrf, hG1⟩
  have hsz := hG0.size
  have hG := grown_trans hG0 hG1
  have hW := begun (w := w) ⟨by omega, by omega, by omega, by omega⟩ hn1 hn2 hbx hax hrf
  clear BG hG0 hG1 hbx hax hrf hx hg hgm hr hsz
  go_wp2_with fail
  go_loopw [6] (fun i wr => PlL w w.heap.size x g gm r (.pointer (some ⟨b, 0, none⟩)) n len i wr) (fun i _ => len - (intOf i).toNat)
  case atStart => exact ⟨0, _, _, _, _, by omega, by omega, rfl, by simp, hW, hG⟩
  case round =>
    clear hW hG
    obtain ⟨k, A, L, full, lv, hk, hk2, rfl, hL, hW, hG⟩ := hrel
    by_cases hkl : k < len ∧ k < 300
    · obtain ⟨hkl, hkm⟩ := hkl
      have hkI : (k : Int) < (len : Int) := by omega
      have hkM : (k : Int) < 300 := by omega
      obtain ⟨bs, os, rfl, hbs, c0, c1, c2⟩ := step_at (hS.keep hG (Nat.le_refl _)) hkl
      have DO := does_any hW (by omega) (K k) (N k) (Q k)
      obtain ⟨la, lc, rfl⟩ := own_slice hW.1.own
      have cl := hW.1.box.cell 2
      simp at cl
      go_wp2_with fail
      refine DO.mono ?_; rintro e w2 ⟨rfl, ho, A', L', full', lv', hW2, hL2⟩
      have hG2 := ho.grown hG (fun _ h => h)
      clear DO ho hW hG c0 c1 c2 cl
      obtain ⟨la2, lc2, rfl⟩ := own_slice hW2.1.own
      have cl := hW2.1.box.cell 2
      simp at cl
      by_cases hmore : L.length < L'.length
      · have hmI : (L.length : Int) < (L'.length : Int) := by omega
        have hm0 : (0 : Int) ≤ (L.length : Int) := by omega
        obtain ⟨lb, c4, p, m, e, hpm, hm1, hm2, cp, co, hst, hbd, hlb⟩ := hW2.pair hmore
        cases e
        obtain ⟨t, ht⟩ : ∃ t, t = L.length := ⟨_, rfl⟩
        have hnA := hW2.size
        have hW3 := hW2.on ((on_refl _ w2).alloc (.cells #[.int .i64 (p : Nat), .int .i64 (m : Nat)] 39))
        have hb3 := Blk.new w2 39 #[.int .i64 (p : Nat), .int .i64 (m : Nat)]
        have hG3 := grown_alloc hG2 (.cells #[.int .i64 (p : Nat), .int .i64 (m : Nat)] 39)
        clear hW2 hG2
        go_wp2_with fail
        clear cl cp co
        have hlb2 : ∀ k, (Value.slice (some ⟨lb, 0, none⟩) L'.length lc2).ownBlock = some k → k < w2.heap.size := fun k e => by
          have e : lb = k := by simpa [Value.ownBlock] using e
          omega
        go_loopw [9] (fun i wr => ApB w w.heap.size x g gm r (.pointer (some ⟨b, 0, none⟩)) n A' L' full' (.slice (some ⟨lb, 0, none⟩) L'.length lc2) w2.heap.size p m i wr) (fun i _ => 12 * m - (intOf i).toNat)
        case atStart => exact ⟨0, by omega, rfl, hW3, hb3, hlb2, hG3⟩
        case round =>
          clear hW3 hb3 hG3
          obtain ⟨j, hj, rfl, hW, hb, -, hG⟩ := hrel
          have d0 := hb.cell 0
          have d1 := hb.cell 1
          simp at d0 d1
          by_cases hjm : j < 12 * m
          · have hjI : (j : Int) < 12 * (m : Int) := by omega
            obtain ⟨v, hv1, hv2⟩ := byte_facts ((p : Int) + (j : Int))
            have wA : IntKind.i64.wrap ((p : Int) + (j : Int)) = (p : Int) + (j : Int) := by rw [IntKind.wrap_i64]; omega
            have hsf := sz_fr m
            have hHP := held_at L' hmore
            rw [hpm] at hHP
            have hWd := hW.on ((on_refl _ _).drew)
            have hbd2 := hb.drew
            have hGd := grown_drew hG
            have SB := setByte_held (hWd.1.ax.swap hHP) (j := j) (b := v) (by dsimp only; omega) hv2
            have ep : ((p + j : Nat) : Int) = (p : Int) + (j : Int) := by omega
            dsimp only at SB
            rw [ep] at SB
            have HP2 := Lib.hid hHP
            clear hHP
            go_wp2_with fail
            clear hW hb hG d0 d1
            refine wp_region_still_tail 13 (by kernel_rfl) (by kernel_rfl) ?_
            change wpStill _ _ (World.drew _) (fun a' => wpList _ _ _ _ a' (World.drew _)) _ _
            generalize World.drew _ = w5 at *
            have cg := hWd.1.box.cell 0
            have d0 := hbd2.cell 0
            have d1 := hbd2.cell 1
            simp at cg d0 d1
            simp only [List.take_succ_cons, List.take_zero, List.drop_succ_cons, List.drop_zero]
            repeat still_step
            refine wpStill_nil ?_
            go_wp2_with fail
            refine SB.mono ?_; rintro e w6 ⟨rfl, hx6, ho6⟩
            have hq6 := hWd.1.prog (hx6.swap HP2.out.symm) ho6
            have hb6 := hbd2.on ho6 (by rintro (e | e); exact hbd2.apart hWd.1.ax.blk.1.choose_spec (by decide) e; exact hbd2.apart hWd.1.ax.blk.2.choose_spec (by decide) e)
            have hG6 := ho6.grown hGd (by rintro k (e | e); exact e ▸ hWd.1.bg; exact e ▸ hWd.1.bm)
            have hW6 : Wd w.heap.size x g gm r (.pointer (some ⟨b, 0, none⟩)) n A' L' full' (.slice (some ⟨lb, 0, none⟩) L'.length lc2) w6 := ⟨hq6, hWd.2⟩
            clear SB hx6 ho6 cg d0 d1 hWd hbd2 hGd hq6
            go_wp2_with fail
            go_roundw
            case rel => exact ⟨j + 1, by omega, by go_num, hW6, hb6, hlb2, hG6⟩
            case measure => simp [intOf]; omega
          · obtain rfl : j = 12 * m := by omega
            have hjI : decide (((12 * m : Nat) : Int) < 12 * (m : Int)) = false := by rw [decide_eq_false_iff_not]; omega
            go_wp2_with fail
            go_roundw
            case rel => exact ⟨k + 1, _, _, _, _, by omega, by omega, by go_num, by omega, hW, hG⟩
            case measure => simp [intOf]; omega
      · have hmI : decide ((L.length : Int) < (L'.length : Int)) = false := by rw [decide_eq_false_iff_not]; omega
        have hmI2 : decide (L.length < L'.length) = false := by rw [decide_eq_false_iff_not]; omega
        go_wp2_with fail
        go_roundw
        case rel => exact ⟨k + 1, _, _, _, _, by omega, by omega, by go_num, by omega, hW2, hG2⟩
        case measure => simp [intOf]; omega
    · by_cases hk1 : k < len
      · have hkI : (k : Int) < (len : Int) := by omega
        have hkM : decide ((k : Int) < 300) = false := by rw [decide_eq_false_iff_not]; omega
        have hkM2 : decide (k < 300) = false := by rw [decide_eq_false_iff_not]; omega
        obtain ⟨la, lc, rfl⟩ := own_slice hW.1.own
        have hLb : L.length ≤ 100000 := by omega
        have hnA := hW.size
        clear hkl hk hk2 hL
        go_wp2_with fail
        go_loopw [10] (fun i wr => ApE w w.heap.size x g gm r (.pointer (some ⟨b, 0, none⟩)) n A L full (.slice la L.length lc) i wr) (fun i _ => L.length - (intOf i).toNat)
        case atStart => exact ⟨0, by omega, rfl, hW, hG⟩
        case round =>
          clear hW hG
          obtain ⟨i, hi, rfl, hW, hG⟩ := hrel
          have cl := hW.1.box.cell 2
          simp at cl
          by_cases hil : i < L.length
          · have hiI : (i : Int) < (L.length : Int) := by omega
            have hi0 : (0 : Int) ≤ (i : Int) := by omega
            obtain ⟨lb, c4, p, m, e, hpm, hm1, hm2, cp, co, hst, hbd, hlb⟩ := hW.pair hil
            cases e
            have htx := hW.1.ax.inv.text
            have hW3 := hW.on ((on_refl _ wr).alloc (.cells #[.int .i64 (p : Nat), .int .i64 (m : Nat)] 39))
            have hb3 := Blk.new wr 39 #[.int .i64 (p : Nat), .int .i64 (m : Nat)]
            have hG3 := grown_alloc hG (.cells #[.int .i64 (p : Nat), .int .i64 (m : Nat)] 39)
            clear hW hG
            obtain ⟨Fz, Mz, har⟩ := hW3.1.ax.ar
            have TT := fun q => drawn (q := q) (text_any (har.drewN q))
            have cg := hW3.1.box.cell 0
            simp at cg
            have gt1 : IntKind.i64.wrap ((A.text : Int) - 1) = (A.text : Int) - 1 := by rw [IntKind.wrap_i64]; omega
            have gt2 : decide ((p : Int) ≤ (A.text : Int) - 1) = false := by rw [decide_eq_false_iff_not]; omega
            clear har
            go_wp2_with fail
            go_quiet ((go_at_call 24; exact TT _))
            clear TT cg gt1 gt2 cl cp co
            have hW4 := hW3.on ((on_refl _ _).drewN nq)
            have hb4 := hb3.drewN nq
            have hG4 := grown_drewN hG3 nq
            clear hW3 hb3 hG3
            generalize World.drewN _ nq = w4 at *
            go_wp2_with fail
            go_loopw [12] (fun j wx => ApF w w.heap.size x g gm r (.pointer (some ⟨b, 0, none⟩)) n A L full (.slice (some ⟨lb, 0, none⟩) L.length lc) wr.heap.size p m i j wx) (fun j _ => i - (intOf j).toNat)
            case atStart => exact ⟨0, by omega, rfl, hW4, hb4, hG4⟩
            case round =>
              clear hW4 hb4 hG4
              obtain ⟨j, hj, rfl, hW, hb, hG⟩ := hrel
              by_cases hji : j < i
              · have hjI : (j : Int) < (i : Int) := by omega
                have hj0 : (0 : Int) ≤ (j : Int) := by omega
                have hjL : (j : Int) < (L.length : Int) := by omega
                have hjl : j < L.length := by omega
                obtain ⟨lb2, c5, q, o, e, hqo, ho1, ho2, cq, co, hst2, hbd2, -⟩ := hW.pair hjl
                cases e
                have cl := hW.1.box.cell 2
                simp at cl
                have hfar := hW.far hji hil hpm hqo
                have FO := fun w => for_any w o ho1 ho2
                have FM := fun w => for_any w m hm1 hm2
                have SO := fun w => size_any w (fr o) (by have := fr_lt ho2; omega)
                have SM := fun w => size_any w (fr m) (by have := fr_lt hm2; omega)
                have hzo := sz_le (fr_lt ho2)
                have hzm := sz_le (fr_lt hm2)
                obtain ⟨fo, hfo⟩ : ∃ fo, fo = fr o := ⟨_, rfl⟩
                obtain ⟨fm, hfm⟩ : ∃ fm, fm = fr m := ⟨_, rfl⟩
                rw [← hfo] at FO SO hfar hzo
                rw [← hfm] at FM SM hfar hzm
                obtain ⟨zo, hzo2⟩ : ∃ zo, zo = sz fo := ⟨_, rfl⟩
                obtain ⟨zm, hzm2⟩ : ∃ zm, zm = sz fm := ⟨_, rfl⟩
                rw [← hzo2] at SO hfar hzo
                rw [← hzm2] at SM hfar hzm
                clear hfo hfm hzo2 hzm2
                have a1 : IntKind.i64.wrap (12 * (zo : Int)) = 12 * (zo : Int) := by rw [IntKind.wrap_i64]; omega
                have a2 : IntKind.i64.wrap (12 * (zm : Int)) = 12 * (zm : Int) := by rw [IntKind.wrap_i64]; omega
                have a3 : IntKind.i64.wrap ((q : Int) + 12 * (zo : Int)) = (q : Int) + 12 * (zo : Int) := by rw [IntKind.wrap_i64]; omega
                have a4 : IntKind.i64.wrap ((p : Int) + 12 * (zm : Int)) = (p : Int) + 12 * (zm : Int) := by rw [IntKind.wrap_i64]; omega
                have hW3 := hW.on ((on_refl _ _).alloc (.cells #[.int .i64 (q : Nat), .int .i64 (o : Nat)] 39))
                have hb3 := hb.alloc (.cells #[.int .i64 (q : Nat), .int .i64 (o : Nat)] 39)
                have hG3 := grown_alloc hG (.cells #[.int .i64 (q : Nat), .int .i64 (o : Nat)] 39)
                have d0 : World.cell? _ ⟨_, 0, none⟩ = some (.int .i64 (p : Nat)) := hb3.cell 0
                have d1 : World.cell? _ ⟨_, 1, none⟩ = some (.int .i64 (m : Nat)) := hb3.cell 1
                have ho3 := hW.newb 39 #[.int .i64 (q : Nat), .int .i64 (o : Nat)]
                have e0 : World.cell? _ ⟨_, 0, none⟩ = some (.int .i64 (q : Nat)) := ho3.cell 0
                have e1 : World.cell? _ ⟨_, 1, none⟩ = some (.int .i64 (o : Nat)) := ho3.cell 1
                clear hW hb hG ho3
                by_cases hcase : q + 12 * zo ≤ p
                · have gg : decide ((p : Int) < (q : Int) + 12 * (zo : Int)) = false := by rw [decide_eq_false_iff_not]; omega
                  clear hfar hcase FM SM
                  go_wp2_with fail
                  clear cl cq co
                  generalize World.alloc _ _ = w5 at *
                  go_quiet (first | (go_at_call 30; exact drawn (FO _)) | (go_at_call 29; exact drawn (SO _)))
                  go_wp2_with fail
                  go_roundw
                  case rel => exact ⟨j + 1, by omega, by go_num, hW3.on ((on_refl _ _).drewN _), hb3.drewN _, grown_drewN hG3 _⟩
                  case measure => simp [intOf]; omega
                · have gg : decide ((p : Int) < (q : Int) + 12 * (zo : Int)) = true := by rw [decide_eq_true_iff]; omega
                  have gh : decide ((q : Int) < (p : Int) + 12 * (zm : Int)) = false := by rw [decide_eq_false_iff_not]; omega
                  clear hfar hcase
                  go_wp2_with fail
                  clear cl cq co
                  generalize World.alloc _ _ = w5 at *
                  go_quiet (first | (go_at_call_of 30 (Value.int .i64 (o : Int)); exact drawn (FO _)) | (go_at_call_of 30 (Value.int .i64 (m : Int)); exact drawn (FM _)) | (go_at_call_of 29 (Value.int .i64 (fo : Int)); exact drawn (SO _)) | (go_at_call_of 29 (Value.int .i64 (fm : Int)); exact drawn (SM _)))
                  go_wp2_with fail
                  go_roundw
                  case rel => exact ⟨j + 1, by omega, by go_num, hW3.on ((on_refl _ _).drewN _), hb3.drewN _, grown_drewN hG3 _⟩
                  case measure => simp [intOf]; omega
              · obtain rfl : j = i := by omega
                have hjI : decide ((j : Int) < (j : Int)) = false := by rw [decide_eq_false_iff_not]; omega
                go_wp2_with fail
                go_roundw
                case rel => exact ⟨j + 1, by omega, by go_num, hW, hG⟩
                case measure => simp [intOf]; omega
          · have hiI : decide ((i : Int) < (L.length : Int)) = false := by rw [decide_eq_false_iff_not]; omega
            have hiI2 : decide (i < L.length) = false := by rw [decide_eq_false_iff_not]; omega
            clear hil
            go_wp2_with fail
            go_ret
            exact ⟨rfl, hG⟩
      · have hkI : decide ((k : Int) < (len : Int)) = false := by rw [decide_eq_false_iff_not]; omega
        have hkI2 : decide (k < len) = false := by rw [decide_eq_false_iff_not]; omega
        obtain ⟨la, lc, rfl⟩ := own_slice hW.1.own
        have hLb : L.length ≤ 100000 := by omega
        have hnA := hW.size
        clear hkl hk hk2 hL
        go_wp2_with fail
        go_loopw [10] (fun i wr => ApE w w.heap.size x g gm r (.pointer (some ⟨b, 0, none⟩)) n A L full (.slice la L.length lc) i wr) (fun i _ => L.length - (intOf i).toNat)
        case atStart => exact ⟨0, by omega, rfl, hW, hG⟩
        case round =>
          clear hW hG
          obtain ⟨i, hi, rfl, hW, hG⟩ := hrel
          have cl := hW.1.box.cell 2
          simp at cl
          by_cases hil : i < L.length
          · have hiI : (i : Int) < (L.length : Int) := by omega
            have hi0 : (0 : Int) ≤ (i : Int) := by omega
            obtain ⟨lb, c4, p, m, e, hpm, hm1, hm2, cp, co, hst, hbd, hlb⟩ := hW.pair hil
            cases e
            have htx := hW.1.ax.inv.text
            have hW3 := hW.on ((on_refl _ wr).alloc (.cells #[.int .i64 (p : Nat), .int .i64 (m : Nat)] 39))
            have hb3 := Blk.new wr 39 #[.int .i64 (p : Nat), .int .i64 (m : Nat)]
            have hG3 := grown_alloc hG (.cells #[.int .i64 (p : Nat), .int .i64 (m : Nat)] 39)
            clear hW hG
            obtain ⟨Fz, Mz, har⟩ := hW3.1.ax.ar
            have TT := fun q => drawn (q := q) (text_any (har.drewN q))
            have cg := hW3.1.box.cell 0
            simp at cg
            have gt1 : IntKind.i64.wrap ((A.text : Int) - 1) = (A.text : Int) - 1 := by rw [IntKind.wrap_i64]; omega
            have gt2 : decide ((p : Int) ≤ (A.text : Int) - 1) = false := by rw [decide_eq_false_iff_not]; omega
            clear har
            go_wp2_with fail
            go_quiet ((go_at_call 24; exact TT _))
            clear TT cg gt1 gt2 cl cp co
            have hW4 := hW3.on ((on_refl _ _).drewN nq)
            have hb4 := hb3.drewN nq
            have hG4 := grown_drewN hG3 nq
            clear hW3 hb3 hG3
            generalize World.drewN _ nq = w4 at *
            go_wp2_with fail
            go_loopw [12] (fun j wx => ApF w w.heap.size x g gm r (.pointer (some ⟨b, 0, none⟩)) n A L full (.slice (some ⟨lb, 0, none⟩) L.length lc) wr.heap.size p m i j wx) (fun j _ => i - (intOf j).toNat)
            case atStart => exact ⟨0, by omega, rfl, hW4, hb4, hG4⟩
            case round =>
              clear hW4 hb4 hG4
              obtain ⟨j, hj, rfl, hW, hb, hG⟩ := hrel
              by_cases hji : j < i
              · have hjI : (j : Int) < (i : Int) := by omega
                have hj0 : (0 : Int) ≤ (j : Int) := by omega
                have hjL : (j : Int) < (L.length : Int) := by omega
                have hjl : j < L.length := by omega
                obtain ⟨lb2, c5, q, o, e, hqo, ho1, ho2, cq, co, hst2, hbd2, -⟩ := hW.pair hjl
                cases e
                have cl := hW.1.box.cell 2
                simp at cl
                have hfar := hW.far hji hil hpm hqo
                have FO := fun w => for_any w o ho1 ho2
                have FM := fun w => for_any w m hm1 hm2
                have SO := fun w => size_any w (fr o) (by have := fr_lt ho2; omega)
                have SM := fun w => size_any w (fr m) (by have := fr_lt hm2; omega)
                have hzo := sz_le (fr_lt ho2)
                have hzm := sz_le (fr_lt hm2)
                obtain ⟨fo, hfo⟩ : ∃ fo, fo = fr o := ⟨_, rfl⟩
                obtain ⟨fm, hfm⟩ : ∃ fm, fm = fr m := ⟨_, rfl⟩
                rw [← hfo] at FO SO hfar hzo
                rw [← hfm] at FM SM hfar hzm
                obtain ⟨zo, hzo2⟩ : ∃ zo, zo = sz fo := ⟨_, rfl⟩
                obtain ⟨zm, hzm2⟩ : ∃ zm, zm = sz fm := ⟨_, rfl⟩
                rw [← hzo2] at SO hfar hzo
                rw [← hzm2] at SM hfar hzm
                clear hfo hfm hzo2 hzm2
                have a1 : IntKind.i64.wrap (12 * (zo : Int)) = 12 * (zo : Int) := by rw [IntKind.wrap_i64]; omega
                have a2 : IntKind.i64.wrap (12 * (zm : Int)) = 12 * (zm : Int) := by rw [IntKind.wrap_i64]; omega
                have a3 : IntKind.i64.wrap ((q : Int) + 12 * (zo : Int)) = (q : Int) + 12 * (zo : Int) := by rw [IntKind.wrap_i64]; omega
                have a4 : IntKind.i64.wrap ((p : Int) + 12 * (zm : Int)) = (p : Int) + 12 * (zm : Int) := by rw [IntKind.wrap_i64]; omega
                have hW3 := hW.on ((on_refl _ _).alloc (.cells #[.int .i64 (q : Nat), .int .i64 (o : Nat)] 39))
                have hb3 := hb.alloc (.cells #[.int .i64 (q : Nat), .int .i64 (o : Nat)] 39)
                have hG3 := grown_alloc hG (.cells #[.int .i64 (q : Nat), .int .i64 (o : Nat)] 39)
                have d0 : World.cell? _ ⟨_, 0, none⟩ = some (.int .i64 (p : Nat)) := hb3.cell 0
                have d1 : World.cell? _ ⟨_, 1, none⟩ = some (.int .i64 (m : Nat)) := hb3.cell 1
                have ho3 := hW.newb 39 #[.int .i64 (q : Nat), .int .i64 (o : Nat)]
                have e0 : World.cell? _ ⟨_, 0, none⟩ = some (.int .i64 (q : Nat)) := ho3.cell 0
                have e1 : World.cell? _ ⟨_, 1, none⟩ = some (.int .i64 (o : Nat)) := ho3.cell 1
                clear hW hb hG ho3
                by_cases hcase : q + 12 * zo ≤ p
                · have gg : decide ((p : Int) < (q : Int) + 12 * (zo : Int)) = false := by rw [decide_eq_false_iff_not]; omega
                  clear hfar hcase FM SM
                  go_wp2_with fail
                  clear cl cq co
                  generalize World.alloc _ _ = w5 at *
                  go_quiet (first | (go_at_call 30; exact drawn (FO _)) | (go_at_call 29; exact drawn (SO _)))
                  go_wp2_with fail
                  go_roundw
                  case rel => exact ⟨j + 1, by omega, by go_num, hW3.on ((on_refl _ _).drewN _), hb3.drewN _, grown_drewN hG3 _⟩
                  case measure => simp [intOf]; omega
                · have gg : decide ((p : Int) < (q : Int) + 12 * (zo : Int)) = true := by rw [decide_eq_true_iff]; omega
                  have gh : decide ((q : Int) < (p : Int) + 12 * (zm : Int)) = false := by rw [decide_eq_false_iff_not]; omega
                  clear hfar hcase
                  go_wp2_with fail
                  clear cl cq co
                  generalize World.alloc _ _ = w5 at *
                  go_quiet (first | (go_at_call_of 30 (Value.int .i64 (o : Int)); exact drawn (FO _)) | (go_at_call_of 30 (Value.int .i64 (m : Int)); exact drawn (FM _)) | (go_at_call_of 29 (Value.int .i64 (fo : Int)); exact drawn (SO _)) | (go_at_call_of 29 (Value.int .i64 (fm : Int)); exact drawn (SM _)))
                  go_wp2_with fail
                  go_roundw
                  case rel => exact ⟨j + 1, by omega, by go_num, hW3.on ((on_refl _ _).drewN _), hb3.drewN _, grown_drewN hG3 _⟩
                  case measure => simp [intOf]; omega
              · obtain rfl : j = i := by omega
                have hjI : decide ((j : Int) < (j : Int)) = false := by rw [decide_eq_false_iff_not]; omega
                go_wp2_with fail
                go_roundw
                case rel => exact ⟨j + 1, by omega, by go_num, hW, hG⟩
                case measure => simp [intOf]; omega
          · have hiI : decide ((i : Int) < (L.length : Int)) = false := by rw [decide_eq_false_iff_not]; omega
            have hiI2 : decide (i < L.length) = false := by rw [decide_eq_false_iff_not]; omega
            clear hil
            go_wp2_with fail
            go_ret
            exact ⟨rfl, hG⟩
theorem apart_int (s : Int) (hs : 0 ≤ s ∧ s ≤ 65535) (S0 : Option Addr) (len c : Nat) (K N Q : Nat → Int) (hlen : len ≤ 9223372036854775807) (w : World) (hS : Script w w.heap.size S0 len K N Q) :
    Calls Try.prog 8 #[.int .u16 s, .slice S0 len c] w fun e w' => e = .returned (.bool true) ∧ w.grownBy w' none := by
  obtain ⟨s, rfl⟩ := Int.eq_ofNat_of_zero_le hs.1
  exact apart_walk s (by omega) S0 len c K N Q hlen w hS
end Go.Proofs.Ytplhonlgbidemaa
