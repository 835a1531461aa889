/- The document's glue, walked. -/
import Derived.Test.YtplhonlgbidemaaArDj
namespace Go.Proofs.Ytplhonlgbidemaa
open Go.RowKit
theorem cell_one_of (w : World) (t : TypeId) (x : Value) : ∀ j u, [x][j]? = some u → (w.alloc (.cells #[x] t)).cell? ((⟨w.heap.size, 0, none⟩ : Addr).add j) = some u := by
  intro j u h
  rw [WideShapes.add_plain, Nat.zero_add, (Blk.new w t #[x]).cell]
  rw [← h]
  simp
section
variable {w w' : World} {r : Nat} {A : AM} {H : List Bk}
set_option maxRecDepth 100000 in
set_option maxHeartbeats 4000000 in
theorem rglue_any (h : Rf w r A) (hi : Inv A H) (hs : A.size ≤ 1000000) :
    Calls Try.prog 63 #[.pointer (some ⟨r, 0, none⟩)] w fun e w' => e = .returned (.tuple #[]) ∧ Rf w' r (glueM A) ∧ On (fun k => k = r) w w' := by
  have few := hi.few
  obtain ⟨i0, hi0, hz0, hz1, hz2⟩ := info_parts infoI'
  obtain ⟨j0, hj0, hy0, hy1, hy2⟩ := info_parts infoBo
  have hlt := h.lt
  have c43 := h.glue
  have f43 := h.free 43
  have hV : ∃ V : Nat → Value, (∀ i, i < 38 → RowV w r (V i) (A.rows i)) ∧ Rg (w.setCell ⟨r, 43, none⟩ (.int .i64 ((255 : Nat) : Int))) r A 0 V := by
    obtain ⟨cs, hb, h0, h1, h2, h3, h4, h5, h6⟩ := h
    refine ⟨fun i => if hi : i < 38 then (h1 i hi).choose else .bool false, fun i hi => by simp only [dif_pos hi]; exact (h1 i hi).choose_spec.2, _, hb.put 43 _, by rw [get_set cs _ h0, if_neg (by omega)], fun i hi => ?_, by rw [get_set cs _ h2, if_neg (by omega)], by rw [get_set cs _ h3, if_neg (by omega)], by rw [get_set cs _ h4, if_neg (by omega)], by rw [get_set cs _ h5, if_neg (by omega)], by rw [get_set cs _ h6, if_pos rfl]⟩
    rw [if_neg (Nat.not_lt_zero i)]
    simp only [dif_pos hi]
    rw [get_set cs _ (h1 i hi).choose_spec.1, if_neg (by omega)]
  obtain ⟨V, hV, hR0⟩ := hV
  have ho0 : On (fun b => b = r) w (w.setCell ⟨r, 43, none⟩ (.int .i64 ((255 : Nat) : Int))) := (on_refl (fun b => b = r) w).put (g := r) (i := 43) rfl _
  have e255 : ((255 : Nat) : Int) = 255 := rfl
  rw [e255] at hR0 ho0
  go_enter Try.func63, Try.ntmps63
  go_wp2_with fail
  clear c43 f43
  generalize World.setCell _ _ _ = w1 at *
  go_loopw [2, 3, 4, 5] (fun a n g i wr => ∃ k : Nat, k ≤ 38 ∧ i = .int .i64 k ∧ GlL w r A V k (outs A k) a n g wr) (fun _ _ _ i _ => 38 - (intOf i).toNat)
  case atStart => exact ⟨0, by omega, rfl, hR0, ho0, World.ownsRow_nil _ _ _ _, World.ownsRow_nil _ _ _ _, World.ownsRow_nil _ _ _ _, fun b e => by cases e⟩
  case round =>
    clear hR0 ho0
    obtain ⟨k, hk, rfl, hG⟩ := hrel
    by_cases hk38 : k < 38
    · have g1 : decide ((k : Int) < 38) = true := by rw [decide_eq_true_iff]; omega
      have hik : (0 : Int) ≤ (k : Int) := by omega
      have hik2 : (k : Int) < 38 := by omega
      obtain ⟨ra, rc, hv, hrc, hrn, hrow⟩ := hV k hk38
      go_wp2_with fail
      go_loopw [2, 3, 4, 6] (fun a n g x wr => ∃ j : Nat, j ≤ (A.rows k).length ∧ x = .int .i64 j ∧ GlL w r A V k (outs A k ++ bks k ((A.rows k).take j)) a n g wr) (fun _ _ _ x _ => (A.rows k).length - (intOf x).toNat)
      case atStart => exact ⟨0, by omega, rfl, by simpa [bks] using hG⟩
      case round =>
        clear hG
        obtain ⟨j, hj, rfl, hG⟩ := hrel
        have hcr := hG.1.cell hk38
        rw [hv] at hcr
        have hfr := hG.1.free (1 + k)
        by_cases hjl : j < (A.rows k).length
        · have g2 : decide ((j : Int) < ((A.rows k).length : Int)) = true := by rw [decide_eq_true_iff]; omega
          have g3 : decide (j < (A.rows k).length) = true := by rw [decide_eq_true_iff]; omega
          obtain ⟨x, hx⟩ : ∃ x, (A.rows k)[j]? = some x := ⟨_, List.getElem?_eq_getElem hjl⟩
          obtain ⟨b, off, rfl, hbr, hcx, -⟩ := hrow j x hx
          have hcx2 := cell_over hG.2.1 hcx hbr
          have hle := outs_le A hk38 (pre := (A.rows k).take j) (rest := (A.rows k).drop j) (List.take_append_drop _ _).symm
          obtain ⟨L, hLe⟩ : ∃ L, L = outs A k ++ bks k ((A.rows k).take j) := ⟨_, rfl⟩
          have hLl : L.length ≤ 1000001 := by rw [hLe, List.length_append]; simp only [bks, List.length_map]; omega
          have hjb : j ≤ 1000001 := by rw [List.length_take] at hle; omega
          have hnext : outs A k ++ bks k ((A.rows k).take (j + 1)) = L ++ [⟨x, sz k, false⟩] := by rw [hLe, List.take_add_one, hx]; simp [bks]
          rw [← hLe] at hG
          have HN := Lib.hid hnext
          clear hLe hle hnext hx
          have hszr := hG.2.1.size
          have ha := hG.2.2.1
          have hn := hG.2.2.2.1
          have hb := hG.2.2.2.2.1
          have hd := hG.2.2.2.2.2
          go_wp2_with (at_builtin; refine wpList_append_lies _ rfl (.tmp 29) (.tmp 39) 31 rfl w.heap.size 3 i0 _ 1 8 Try.underlying31 hi0 hz0 hz1 hz2 rfl (by decide) _ _ _ rfl (ha.alloc _) ⟨wr.heap.size, 0, none⟩ 1 1 [.int .i64 (x : Nat)] rfl rfl (cell_one_of _ _ _) (by intro u hu; simp at hu; rw [hu]; rfl) (by omega) (by unfold maxLen; omega) (by omega) (by simp; omega) (wr.heap.size + 1) (by simp) ?_)
          intro ga ca w2 oa2 ga2 la2 _
          go_wp2_with fail
          refine (size_any _ k (by omega)).mono ?_; rintro e w3 ⟨rfl, rfl⟩
          have s1 : On (fun q => u2.ownBlock = some q) wr w3 := (((on_refl (fun _ => False) wr).alloc (.cells #[.int .i64 (x : Nat)] 3)).mono (fun _ e => e.elim)).trans (On.of_grown ga2 (fun _ e => e))
          have hn3 := own_over hn s1 (fun q e e' => hd q e' e)
          have hb3 := own_over hb s1 (fun q e e' => by
            obtain ⟨-, c1, h1⟩ := own_block hb q e
            obtain ⟨-, c2, h2⟩ := own_block ha q e'
            exact h1.apart h2 (by decide) rfl)
          have hsz3 := s1.size
          go_wp2_with (at_builtin; refine wpList_append_lies _ rfl (.tmp 41) (.tmp 44) 31 rfl w.heap.size 3 i0 _ 1 8 Try.underlying31 hi0 hz0 hz1 hz2 rfl (by decide) _ _ _ rfl (hn3.alloc _) ⟨w3.heap.size, 0, none⟩ 1 1 [.int .i64 (sz k : Nat)] rfl rfl (cell_one_of _ _ _) (by intro u hu; simp at hu; rw [hu]; rfl) (by omega) (by unfold maxLen; omega) (by omega) (by simp; omega) (w3.heap.size + 1) (by simp) ?_)
          intro gn cn w4 on4 gn4 ln4 _
          have s2 : On (fun q => u3.ownBlock = some q) w3 w4 := (((on_refl (fun _ => False) w3).alloc (.cells #[.int .i64 (sz k : Nat)] 3)).mono (fun _ e => e.elim)).trans (On.of_grown gn4 (fun _ e => e))
          have hb4 := own_over hb3 s2 (fun q e e' => by
            obtain ⟨-, c1, h1⟩ := own_block hb3 q e
            obtain ⟨-, c2, h2⟩ := own_block hn3 q e'
            exact h1.apart h2 (by decide) rfl)
          have hsz4 := s2.size
          go_wp2_with (at_builtin; refine wpList_append_own _ rfl (.tmp 46) (.tmp 47) 107 rfl w.heap.size 4 j0 _ 1 1 Try.underlying107 hj0 hy0 hy1 hy2 rfl (by decide) _ _ _ rfl (hb4.alloc _) ⟨w4.heap.size, 0, none⟩ 1 1 [.bool false] rfl rfl (cell_one_of _ _ _) (by intro u hu; simp at hu; rw [hu]; rfl) (by unfold maxLen; omega) (by omega) (by simp; omega) ?_)
          intro v6 w6 o6 g6 _
          have hG6 := hG.more hlt ((on_refl _ wr).alloc _) ga2 oa2 (fun q e => by
            have e : ga = q := by simpa [Value.ownBlock] using e
            subst e
            rcases la2 with h | h
            · exact .inl h
            · exact .inr (by omega)) ((on_refl _ w3).alloc _) gn4 on4 (fun q e => by
            have e : gn = q := by simpa [Value.ownBlock] using e
            subst e
            rcases ln4 with h | h
            · exact .inl h
            · exact .inr (by omega)) ((on_refl _ w4).alloc _) g6 o6
          clear hG ha hn hb hd s1 s2 hn3 hb3 hb4 oa2 ga2 la2 on4 gn4 ln4 o6 g6
          go_wp2_with fail
          go_roundw
          case rel => exact ⟨j + 1, by omega, by go_num, by rw [HN.out]; exact hG6⟩
          case measure => simp [intOf]; omega
        · obtain rfl : j = (A.rows k).length := by omega
          have g2 : decide (((A.rows k).length : Int) < ((A.rows k).length : Int)) = false := by rw [decide_eq_false_iff_not]; omega
          have hG2 := hG.next hk38 hlt
          clear hG hrow
          go_wp2_with fail
          go_roundw
          case rel => exact ⟨k + 1, by omega, by go_num, hG2⟩
          case measure => simp [intOf]; omega
    · obtain rfl : k = 38 := by omega
      have e38 : ((38 : Nat) : Int) = 38 := rfl
      rw [e38]
      rw [outs_all] at hG
      by_cases h0 : (frees A.rows).length = 0
      · have hnil : frees A.rows = [] := List.eq_nil_of_length_eq_zero h0
        have hgm : glueM A = bare A := by unfold glueM; rw [hnil]; rfl
        rw [hnil] at hG
        obtain ⟨hR, hO, ha, -, -, -⟩ := hG
        obtain ⟨va, ca, rfl⟩ := own_slice ha
        have hB := (hR.bare (fun k => k = r)).toRf rfl
        clear hR ha hnil h0
        go_wp2_with fail
        go_loopw [7, 8, 9] (fun i _ _ wx => i = .int .i64 (-1) ∧ wx = wr) (fun _ _ _ _ => 0)
        case atStart => exact ⟨rfl, rfl⟩
        case round =>
          obtain ⟨rfl, hw⟩ := hrel
          rw [hw]
          clear hw
          go_wp2_with fail
          go_loopw [10] (fun i wy => i = .int .i64 (-1) ∧ On (fun k => k = r) w wy ∧ Rf wy r (bare A)) (fun _ _ => 0)
          case atStart => exact ⟨rfl, hO, hB⟩
          case round =>
            obtain ⟨rfl, hO, hB⟩ := hrel
            go_wp2_with fail
            go_end0
            exact ⟨rfl, by rw [hgm]; exact hB, hO⟩
      · obtain ⟨hR, hO, ha, hn, hb, hd⟩ := hG
        have hla : (pof (frees A.rows)).length = (frees A.rows).length := by simp [pof]
        have hln : (nof (frees A.rows)).length = (frees A.rows).length := by simp [nof]
        have hlb : (gof (frees A.rows)).length = (frees A.rows).length := by simp [gof]
        rw [← hla] at ha
        rw [← hln] at hn
        rw [← hlb] at hb
        obtain ⟨ba, ca, rfl, hba, cla⟩ := own_cl ha (by omega) (fun i => .int .i64 (plc (frees A.rows) i : Nat)) (fun i hi => by unfold pof at hi ⊢; rw [List.length_map] at hi; rw [List.getElem?_map, List.getElem?_eq_getElem hi]; simp [plc, hi])
        obtain ⟨bn, cn, rfl, hbn, cln⟩ := own_cl hn (by omega) (fun i => .int .i64 (uns (frees A.rows) i : Nat)) (fun i hi => by unfold nof at hi ⊢; rw [List.length_map] at hi; rw [List.getElem?_map, List.getElem?_eq_getElem hi]; simp [uns, hi])
        obtain ⟨bi, ci, rfl, hbi, clb⟩ := own_cl hb (by omega) (fun i => .bool (gns (frees A.rows) i)) (fun i hi => by unfold gof at hi ⊢; rw [List.length_map] at hi; rw [List.getElem?_map, List.getElem?_eq_getElem hi]; simp [gns, hi])
        rw [hla] at cla ⊢
        rw [hln] at cln ⊢
        rw [hlb] at clb ⊢
        have hT : Tri wr ba bn bi (frees A.rows).length (plc (frees A.rows)) (uns (frees A.rows)) (gns (frees A.rows)) := ⟨cla, cln, clb, fun e => hd ba rfl (by rw [e]; rfl)⟩
        have hB := hR.bare (B4 r ba bn bi)
        have hIb := hi.bare
        have em : frees A.rows = mkB (plc (frees A.rows)) (uns (frees A.rows)) (gns (frees A.rows)) (frees A.rows).length := mk_of _
        have hg0 : ∀ i, i < (frees A.rows).length → gns (frees A.rows) i = false := by
          intro i hil
          have : (frees A.rows)[i] ∈ frees A.rows := List.getElem_mem hil
          obtain ⟨k, -, hb⟩ := List.mem_flatMap.1 this
          obtain ⟨x, -, he⟩ := List.mem_map.1 hb
          unfold gns
          rw [List.getElem?_eq_getElem hil, ← he]
          rfl
        have hfin : stickM (plc (frees A.rows)) (joinM (plc (frees A.rows)) (frees A.rows).length (frees A.rows).length (uns (frees A.rows), gns (frees A.rows))).1 (joinM (plc (frees A.rows)) (frees A.rows).length (frees A.rows).length (uns (frees A.rows), gns (frees A.rows))).2 (frees A.rows).length (bare A) = glueM A := rfl
        obtain ⟨fin, hfe⟩ : ∃ fin, fin = glueM A := ⟨_, rfl⟩
        rw [← hfe] at hfin
        have HFE := Lib.hid hfe
        clear hfe
        rw [em] at hIb
        have hds := hIb.ds hg0
        have hlen0 : 0 < (frees A.rows).length := by omega
        clear em hg0 ha hn hb hd hR hla hln hlb cla cln clb h0 hV
        generalize (frees A.rows).length = len at *
        generalize plc (frees A.rows) = P at *
        generalize uns (frees A.rows) = N0 at *
        generalize gns (frees A.rows) = G0 at *
        have hrlt := hlt
        have hlb : len ≤ 1000001 := by omega
        have hX : Gx w r A H ba bn bi len P N0 G0 wr := ⟨hT, hIb, hB, hO⟩
        obtain ⟨s0, hs0⟩ : ∃ s0, s0 = joinM P len len (N0, G0) := ⟨_, rfl⟩
        rw [← hs0] at hfin
        have HF := Lib.hid hfin
        have HS := Lib.hid hs0
        clear hfin hs0 few hT hB hIb hO
        go_wp2_with fail
        go_loopw [7, 8, 9] (fun i _ _ wx => ∃ (k : Nat) (N : Nat → Nat) (G : Nat → Bool), k ≤ len ∧ i = .int .i64 ((k : Int) - 1) ∧ joinM P len k (N, G) = s0 ∧ Gx w r A H ba bn bi len P N G wx) (fun i _ _ _ => (intOf i + 1).toNat)
        case atStart => exact ⟨len, N0, G0, by omega, rfl, HS.out.symm, hX⟩
        case round =>
          clear hX
          obtain ⟨k, N, G, hk, rfl, hjo, hX⟩ := hrel
          by_cases hk0 : k = 0
          · subst hk0
            have hjo : (N, G) = s0 := hjo
            subst hjo
            go_wp2_with fail
            have hP0 : Px w r A (mkB P N G len ++ H) ba bn bi len P N G (bare A) wr := ⟨hX.tri, rfl, hX.inv, hX.rf, hX.on⟩
            clear hX HS hds
            have hds : True := trivial
            go_loopw [10] (fun i wx => ∃ (k : Nat) (P1 N1 : Nat → Nat) (A1 : AM), k ≤ len ∧ i = .int .i64 ((k : Int) - 1) ∧ Px w r A (mkB P1 N1 G k ++ H) ba bn bi len P1 N1 G A1 wx ∧ stickM P1 N1 G k A1 = fin) (fun i _ => (intOf i + 1).toNat)
            case atStart => exact ⟨len, P, N, bare A, by omega, rfl, hP0, HF.out⟩
            case round =>
              clear hP0 HF
              obtain ⟨k, P1, N1, A1, hk1, rfl, hX, hst⟩ := hrel
              by_cases hk0 : k = 0
              · subst hk0
                have hst : A1 = fin := hst
                subst hst
                have hrf := hX.rf.toRf (.inl rfl)
                have hon := hX.on
                clear hX
                go_wp2_with fail
                go_end0
                exact ⟨rfl, by rw [← HFE.out]; exact hrf, hon⟩
              · obtain ⟨i, rfl⟩ : ∃ i, k = i + 1 := ⟨k - 1, by omega⟩
                have ei : ((i + 1 : Nat) : Int) - 1 = (i : Int) := by omega
                rw [ei]
                have hik : (i : Int) < len := by omega
                have hil : i < len := by omega
                have cg := hX.tri.g.cell hil
                have hst2 : stickM P1 N1 G i (if G i = true then A1 else layM A1 (P1 i) (N1 i)) = fin := hst
                clear hst
                by_cases hG : G i = true
                · rw [if_pos hG] at hst2
                  rw [hG] at cg
                  have HJ := Lib.hid hst2
                  clear hst2
                  go_wp2_with fail
                  go_roundw
                  case rel =>
                    have hi := hX.inv
                    rw [mk_more, List.append_assoc] at hi
                    exact ⟨i, P1, N1, A1, by omega, rfl, ⟨hX.tri, hX.size, (hi.swap List.perm_middle).drop, hX.rf, hX.on⟩, HJ.out⟩
                  case measure => simp [intOf]
                · rw [if_neg hG] at hst2
                  have hG : G i = false := by simpa using hG
                  rw [hG] at cg
                  have HJ := Lib.hid hst2
                  clear hst2
                  have hi := hX.inv
                  rw [mk_more, List.append_assoc, hG] at hi
                  have hi := hi.swap List.perm_middle
                  have hL := hi.loose
                  rw [hX.size] at hL
                  have hX1 : Px w r A (⟨P1 i, N1 i, false⟩ :: (mkB P1 N1 G i ++ H)) ba bn bi len (upf P1 i (P1 i)) (upf N1 i (N1 i)) G A1 wr := by
                    rw [upf_self, upf_self]; exact ⟨hX.tri, hX.size, hi, hX.rf, hX.on⟩
                  clear hX hi
                  go_wp2_with fail
                  go_loopw [136] (fun _ wy => ∃ (p m : Nat) (A2 : AM), 1 ≤ m ∧ p + 12 * m ≤ A.size + 1 ∧ Px w r A (⟨p, m, false⟩ :: (mkB P1 N1 G i ++ H)) ba bn bi len (upf P1 i p) (upf N1 i m) G A2 wy ∧ layM A2 p m = layM A1 (P1 i) (N1 i)) (fun _ wy => nAt wy bn i)
                  case atStart => exact ⟨P1 i, N1 i, A1, hL.1, hL.2.2, hX1, rfl⟩
                  case round =>
                    clear hX1 cg hL
                    obtain ⟨p, m, A2, hm1, hpm, hX, hlay⟩ := hrel
                    have cp := hX.tri.a.cell hil
                    have cm := hX.tri.n.cell hil
                    rw [upf_at] at cp cm
                    have hbel := hX.below
                    have hsh := hX.inv.short (by rw [hX.size]; omega) 2 (by omega)
                    by_cases hbig : 128 < m
                    · have hbig' : (128 : Int) < (m : Int) := by omega
                      have PT := bput_any hX.rf (.inl rfl) hbel (i := 37) p (by omega) (by have := hsh 37 (by omega); omega)
                      have hHL := Lib.hid hlay
                      clear hlay
                      go_wp2_with fail
                      refine PT.mono ?_; rintro e w3 ⟨rfl, hrf3, ho3⟩
                      clear PT
                      have hi2 : Inv A2 (⟨p, 128 + (m - 128), false⟩ :: (mkB P1 N1 G i ++ H)) := by rw [show 128 + (m - 128) = m by omega]; exact hX.inv
                      have hX3 := hX.laid hrlt hba hbn hbi (A2 := putM A2 p 37) rfl ((hi2.split (by omega) (by omega)).put (r := 37) (by omega) rfl) hrf3 ho3
                      have hMu := Lib.hid (nAt_of hX.tri hil)
                      clear hX hrf3 ho3 hi2 cp cm hbel hsh
                      have cp := hX3.tri.a.cell hil
                      have cm := hX3.tri.n.cell hil
                      have fp := hX3.tri.a.free i
                      have fm := hX3.tri.n.free i
                      rw [upf_at] at cp cm
                      have hX4 := hX3.moved (i := i) hrlt hba hbn (p + 1536) (m - 128)
                      rw [upf_upf, upf_upf] at hX4
                      have ep : ((p + 1536 : Nat) : Int) = (p : Int) + 1536 := by omega
                      have em : ((m - 128 : Nat) : Int) = (m : Int) - 128 := by omega
                      rw [ep, em] at hX4
                      have hne := hX3.tri.ne
                      clear hX3 ep em
                      go_wp2_with fail
                      go_roundw
                      case rel => exact ⟨p + 1536, m - 128, putM A2 p 37, by omega, by omega, hX4, by rw [← layM_far hbig]; exact hHL.out⟩
                      case measure =>
                        have e1 := nAt_of hX4.tri hil
                        have e2 := hMu.out
                        rw [e1, e2, upf_at, upf_at]
                        omega
                    · have hbig' : decide ((128 : Int) < (m : Int)) = false := by rw [decide_eq_false_iff_not]; omega
                      have hbig2 : decide (128 < m) = false := by rw [decide_eq_false_iff_not]; omega
                      rw [layM_rest hm1 (by omega)] at hlay
                      rw [← hlay] at HJ
                      clear hlay
                      go_wp2_with fail
                      have hX5 := hX.laid (w' := World.drew _) hrlt hba hbn hbi rfl hX.inv (hX.rf.on (s := fun _ => False) ((on_refl _ _).drew) id (fun _ e => e.elim)) ((on_refl _ _).drew)
                      have RT := brest_any hX5.rf (.inl rfl) hX5.below (p := p) (n := m) hsh hm1 (by omega) (by omega)
                      have RI := hX5.inv.rest hm1 (by omega)
                      clear hX hbel cp cm
                      refine wp_region_still_tail 9 (by kernel_rfl) (by kernel_rfl) ?_
                      change wpStill _ _ (World.drew _) (fun a' => wpList _ _ _ _ a' (World.drew _)) _ _
                      generalize World.drew _ = W1 at *
                      have cp := hX5.tri.a.cell hil
                      have cm := hX5.tri.n.cell hil
                      rw [upf_at] at cp cm
                      simp only [List.take_succ_cons, List.take_zero, List.drop_succ_cons, List.drop_zero]
                      repeat still_step
                      refine wpStill_nil ?_
                      go_wp2_with fail
                      refine RT.mono ?_; rintro e w3 ⟨rfl, hrf3, ho3⟩
                      clear RT cp cm
                      have hX6 := hX5.laid hrlt hba hbn hbi (restM_size A2 p m) RI hrf3 ho3
                      clear hX5 RI hrf3 ho3 hsh
                      go_wp2_with fail
                      go_roundw
                      case rel => exact ⟨i, upf P1 i p, upf N1 i m, restM A2 p m, by omega, rfl, by rw [mk_far]; exact hX6, by rw [stick_far i _ (Nat.le_refl _)]; exact HJ.out⟩
                      case measure => simp [intOf]
          · obtain ⟨i, rfl⟩ : ∃ i, k = i + 1 := ⟨k - 1, by omega⟩
            have ei : ((i + 1 : Nat) : Int) - 1 = (i : Int) := by omega
            rw [ei]
            have hik : (i : Int) < len := by omega
            have hil : i < len := by omega
            have cg := hX.tri.g.cell hil
            have hjo2 : joinM P len i (if G i = true then (N, G) else growM P len N G i) = s0 := hjo
            clear hjo
            by_cases hG : G i = true
            · rw [if_pos hG] at hjo2
              rw [hG] at cg
              have HJ := Lib.hid hjo2
              clear hjo2
              go_wp2_with fail
              go_loopw [8, 9] (fun m _ wy => m = .bool false ∧ Gx w r A H ba bn bi len P N G wy) (fun _ _ _ => 0)
              case atStart => exact ⟨rfl, hX⟩
              case round =>
                clear hX cg
                obtain ⟨rfl, hX⟩ := hrel
                go_wp2_with fail
                go_roundw
                case rel => exact ⟨i, N, G, by omega, rfl, HJ.out, hX⟩
                case measure => simp [intOf]
            · rw [if_neg hG] at hjo2
              have hG : G i = false := by simpa using hG
              rw [hG] at cg
              have HJ := Lib.hid hjo2
              clear hjo2
              go_wp2_with fail
              go_loopw [8, 9] (fun m _ wy => ∃ (b : Bool) (N1 : Nat → Nat) (G1 : Nat → Bool), m = .bool b ∧ Gx w r A H ba bn bi len P N1 G1 wy ∧ G1 i = false ∧ growM P len N1 G1 i = growM P len N G i ∧ (b = false → nxt P len N1 G1 i = none)) (fun m _ wy => 2 * alive3 wy bi len + moreOf m)
              case atStart => exact ⟨true, N, G, rfl, hX, hG, rfl, fun e => by cases e⟩
              case round =>
                clear hX cg
                obtain ⟨b, N1, G1, rfl, hX, hG1, hg1, hb⟩ := hrel
                cases b with
                | false =>
                  have hn := hb rfl
                  rw [growM_stop hn] at hg1
                  have HG := Lib.hid hg1
                  clear hg1 hb hn
                  go_wp2_with fail
                  go_roundw
                  case rel => exact ⟨i, N1, G1, by omega, rfl, by rw [HG.out]; exact HJ.out, hX⟩
                  case measure => simp [intOf]
                | true =>
                  clear hb
                  have HA := Lib.hid (alive3_of hX.tri)
                  have HG := Lib.hid hg1
                  clear hg1
                  go_wp2_with fail
                  go_loopw [8, 9] (fun m x wz => ∃ (j : Nat) (b : Bool) (N2 : Nat → Nat) (G2 : Nat → Bool), j ≤ len ∧ m = .bool b ∧ x = .int .i64 j ∧ Gx w r A H ba bn bi len P N2 G2 wz ∧ G2 i = false ∧ growM P len N2 G2 i = growM P len N G i ∧ (b = false → Dry P N2 G2 i j ∧ cnt G2 len ≤ cnt G1 len) ∧ (b = true → cnt G2 len < cnt G1 len)) (fun _ x _ => len - (intOf x).toNat)
                  case atStart => exact ⟨0, false, N1, G1, by omega, rfl, rfl, hX, hG1, HG.out, fun _ => ⟨fun j hj => by omega, Nat.le_refl _⟩, fun e => by cases e⟩
                  case round =>
                    clear hX hG1
                    obtain ⟨j, b, N2, G2, hj, rfl, rfl, hX, hG2, hg2, hb0, hb1⟩ := hrel
                    by_cases hjl : j < len
                    · have g1 : decide ((j : Int) < (len : Int)) = true := by rw [decide_eq_true_iff]; omega
                      have hji : (j : Int) < (len : Int) := by omega
                      have cgj := hX.tri.g.cell hjl
                      have cpj := hX.tri.a.cell hjl
                      have cnj := hX.tri.n.cell hjl
                      have cpi := hX.tri.a.cell hil
                      have cni := hX.tri.n.cell hil
                      obtain ⟨hn1, hp1⟩ := hX.fits hil hG2
                      have HB0 := Lib.hid hb0
                      have HB1 := Lib.hid hb1
                      have HG2 := Lib.hid hg2
                      clear hb0 hb1 hg2
                      by_cases hGj : G2 j = true
                      · rw [hGj] at cgj
                        go_wp2_with fail
                        go_quiet (fail)
                        go_wp2_with fail
                        go_roundw
                        case rel => exact ⟨j + 1, b, N2, G2, by omega, rfl, by go_num, hX.drewN _, hG2, HG2.out, fun e => ⟨(HB0.out e).1.more (fun h => by rw [hGj] at h; exact absurd h.1 (by simp)), (HB0.out e).2⟩, HB1.out⟩
                        case measure => simp [intOf]; omega
                      · have hGj : G2 j = false := by simpa using hGj
                        rw [hGj] at cgj
                        obtain ⟨hn2, hp2⟩ := hX.fits hjl hGj
                        have w1 : IntKind.i64.wrap (12 * (N2 i : Int)) = 12 * (N2 i : Int) := by rw [IntKind.wrap_i64]; omega
                        have w2 : IntKind.i64.wrap ((P i : Int) + 12 * (N2 i : Int)) = (P i : Int) + 12 * (N2 i : Int) := by rw [IntKind.wrap_i64]; omega
                        have w3 : IntKind.i64.wrap ((N2 i : Int) + (N2 j : Int)) = (N2 i : Int) + (N2 j : Int) := by rw [IntKind.wrap_i64]; omega
                        by_cases hpe : P j = P i + 12 * N2 i
                        · have g3 : ((P j : Int) == (P i : Int) + 12 * (N2 i : Int)) = true := by simp; omega
                          by_cases hbig : N2 i + N2 j < 65536
                          · have g4 : decide ((N2 i : Int) + (N2 j : Int) < 65536) = true := by rw [decide_eq_true_iff]; omega
                            have hnx : nxt P len N2 G2 i = some j := nxt_of hds hjl hpe hGj hbig
                            have hM := fun n1 => (hX.drewN n1).merge hrlt hbn hbi hil hG2 hnx
                            have hcn := Lib.hid (cnt_one hjl hGj)
                            have hgr : growM P len (upf N2 i (N2 i + N2 j)) (upf G2 j true) i = growM P len N G i := by rw [← growM_step hnx]; exact HG2.out
                            have HGR := Lib.hid hgr
                            have HCL : cnt (upf G2 j true) len < cnt G1 len := by
                              have e1 := hcn.out
                              cases b with
                              | false => have := (HB0.out rfl).2; omega
                              | true => have := HB1.out rfl; omega
                            have HCL := Lib.hid HCL
                            have hji2 := (hM 0).1
                            have hgi2 : upf G2 j true i = false := by unfold upf; rw [if_neg (fun e => hji2 e.symm)]; exact hG2
                            have HGI := Lib.hid hgi2
                            have fg := hX.tri.g.free j
                            have fn := hX.tri.n.free i
                            clear hpe hgr hgi2
                            have HNX := Lib.hid hnx
                            clear hnx
                            go_wp2_with fail
                            go_quiet (fail)
                            rename Nat => n1
                            have hM := (hM n1).2
                            have hX3 := hX.drewN n1
                            clear hX cgj cpj cnj cpi cni fg fn
                            generalize World.drewN _ n1 = W1 at *
                            have cgj := hX3.tri.g.cell hjl
                            rw [hGj] at cgj
                            have fg := hX3.tri.g.free j
                            have hT4 := (hX3.tri.putG j true).on (s := fun _ => False) ((on_refl _ _).drew) id id id
                            clear hX3
                            go_wp2_with fail
                            clear cgj fg
                            generalize World.setCell W1 _ _ = W2 at *
                            refine wp_region_still_tail 12 (by kernel_rfl) (by kernel_rfl) ?_
                            change wpStill _ _ W2.drew (fun a' => wpList _ _ _ _ a' W2.drew) _ _
                            have cni := hT4.n.cell hil
                            have cnj := hT4.n.cell hjl
                            simp only [List.take_succ_cons, List.take_zero, List.drop_succ_cons, List.drop_zero]
                            repeat still_step
                            refine wpStill_nil ?_
                            have fn := hT4.n.free i
                            rw [Int.natCast_add] at hM
                            clear hT4
                            go_wp2_with fail
                            go_roundw
                            case rel => exact ⟨j + 1, true, _, _, by omega, rfl, by go_num, hM, HGI.out, HGR.out, (fun e => by cases e), fun _ => HCL.out⟩
                            case measure => simp [intOf]; omega
                          · have g4 : decide ((N2 i : Int) + (N2 j : Int) < 65536) = false := by rw [decide_eq_false_iff_not]; omega
                            have g5 : decide (N2 i + N2 j < 65536) = false := by rw [decide_eq_false_iff_not]; omega
                            go_wp2_with fail
                            go_quiet (fail)
                            go_wp2_with fail
                            go_roundw
                            case rel => exact ⟨j + 1, b, N2, G2, by omega, rfl, by go_num, hX.drewN _, hG2, HG2.out, fun e => ⟨(HB0.out e).1.more (fun h => hbig h.2.2), (HB0.out e).2⟩, HB1.out⟩
                            case measure => simp [intOf]; omega
                        · have g3 : ((P j : Int) == (P i : Int) + 12 * (N2 i : Int)) = false := by simp; omega
                          go_wp2_with fail
                          go_quiet (fail)
                          go_wp2_with fail
                          go_roundw
                          case rel => exact ⟨j + 1, b, N2, G2, by omega, rfl, by go_num, hX.drewN _, hG2, HG2.out, fun e => ⟨(HB0.out e).1.more (fun h => hpe h.2.1), (HB0.out e).2⟩, HB1.out⟩
                          case measure => simp [intOf]; omega
                    · obtain rfl : j = len := by omega
                      have HB0 := Lib.hid hb0
                      have HB1 := Lib.hid hb1
                      have HG2 := Lib.hid hg2
                      clear hb0 hb1 hg2
                      go_wp2_with fail
                      go_roundw
                      case rel => exact ⟨b, N2, G2, rfl, hX, hG2, HG2.out, fun e => (HB0.out e).1.all⟩
                      case measure =>
                        have e1 := HA.out
                        have e2 := alive3_of hX.tri
                        rw [e1, e2]
                        cases b with
                        | false => have := (HB0.out rfl).2; simp [moreOf]; omega
                        | true => have := HB1.out rfl; simp [moreOf]; omega
end
end Go.Proofs.Ytplhonlgbidemaa
