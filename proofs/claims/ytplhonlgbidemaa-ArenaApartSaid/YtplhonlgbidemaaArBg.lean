/- begin, Push, Pop. -/
import Derived.Test.YtplhonlgbidemaaArRf
namespace Go.Proofs.Ytplhonlgbidemaa
open Go.RowKit

theorem rest2_same (A : AM) (r : Nat) : (rest2 A r).2.size = A.size ∧ (rest2 A r).2.text = A.text := by
  unfold rest2
  split
  · exact ⟨((sm_take A _).trans (sm_rest _ _ _)).size, ((sm_take A _).trans (sm_rest _ _ _)).text⟩
  · unfold lastM; split <;> exact ⟨rfl, rfl⟩
theorem rareM_same (A : AM) (r : Nat) : (rareM A r).2.size = A.size ∧ (rareM A r).2.text = A.text := by
  have h := (sm_glue A).1
  unfold rareM
  split
  · split
    · obtain ⟨h1, h2⟩ := rest2_same (glueM A) r
      exact ⟨h1.trans h.size, h2.trans h.text⟩
    · exact ⟨h.size, h.text⟩
  · exact rest2_same A r
theorem unitsM_same (A : AM) (n : Nat) : (unitsM A n).2.size = A.size ∧ (unitsM A n).2.text = A.text := by
  unfold unitsM
  split
  · split
    · exact ⟨rfl, rfl⟩
    · exact rareM_same A _
  · exact ⟨rfl, rfl⟩
theorem oneM_same (A : AM) : (oneM A).2.size = A.size ∧ (oneM A).2.text = A.text := by
  unfold oneM
  split
  · split
    · exact rareM_same A _
    · exact ⟨rfl, rfl⟩
  · exact ⟨rfl, rfl⟩
section
variable {w : World} {g gm : Nat} {mt : Value} {A : AM} {F M : Nat → Nat} {H : List Bk}
theorem shut_ar (ha : Ar w g gm mt A F M) :
    Calls Try.prog 33 #[.pointer (some ⟨g, 0, none⟩)] w fun e w' => e = .returned (.bool false) ∧ w' = w := by
  have c0 := ha.mem
  go_enter Try.func33, Try.ntmps33
  go_wp2_with fail
  go_ret
  exact ⟨rfl, rfl⟩
set_option maxRecDepth 100000 in
set_option maxHeartbeats 1000000 in
theorem push_raw (ha : Ar w g gm mt A F M) {b : Nat} (hb : b < 256) (ht : A.text < A.size + 13) :
    Calls Try.prog 22 #[.pointer (some ⟨g, 0, none⟩), .int .u8 (b : Nat)] w fun e w' =>
      e = .returned (.bool (decide (A.text + 1 < A.start))) ∧ Ar w' g gm mt { A with text := A.text + 1 } F (fun i => if i = A.text then b else M i) ∧ On (two g gm) w w' := by
  have SH := shut_ar ha
  have SB := setByte_in ha ht hb
  have ct := ha.text
  have hs := ha.small
  clear ha
  go_enter Try.func22, Try.ntmps22
  go_wp2_with fail
  refine SH.mono ?_; rintro e w1 ⟨rfl, rfl⟩
  go_wp2_with fail
  refine SB.mono ?_; rintro e w2 ⟨rfl, hA2, ho2⟩
  have ct2 := hA2.text
  have ft2 := hA2.free 208
  have e1 : ((A.text + 1 : Nat) : Int) = (A.text : Int) + 1 := by omega
  have hA3 := hA2.putText (A.text + 1)
  have ho3 := ho2.put (g := g) (i := 208) (.inl rfl) (.int .i64 ((A.text + 1 : Nat) : Int))
  rw [e1] at hA3 ho3
  have cs2 := hA2.start
  clear SH SB hA2 ho2
  go_wp2_with fail
  go_quiet (fail)
  go_wp2_with fail
  go_ret
  refine ⟨?_, hA3.drewN _, ho3.drewN _⟩
  have e5 : decide (A.text + 1 < A.start) = decide ((A.text : Int) + 1 < (A.start : Nat)) := by
    apply decide_eq_decide.2; omega
  rw [e5]
  rfl
theorem push_any (h : Ax w g gm mt A H) {b : Nat} (hb : b < 256) (ht : A.text < A.start) :
    Calls Try.prog 22 #[.pointer (some ⟨g, 0, none⟩), .int .u8 (b : Nat)] w fun e w' =>
      e = .returned (.bool (decide (A.text + 1 < A.start))) ∧ Ax w' g gm mt { A with text := A.text + 1 } H ∧ On (two g gm) w w' := by
  obtain ⟨hi, M, ha, hc⟩ := h
  have ho := hi.ord
  refine (push_raw ha hb (by omega)).mono ?_
  rintro e w' ⟨rfl, ha', ho'⟩
  refine ⟨rfl, ⟨⟨hi.dj, hi.inn, ⟨by have := hi.text.1; show 1 ≤ A.text + 1; omega, ht⟩, hi.ord, hi.gap, hi.glue, hi.size⟩, _, ha', fun i hi38 => (hc i hi38).keep fun x hx => ?_⟩, ho'⟩
  have := hi.free hi38 hx
  unfold num4
  dsimp only
  rw [if_neg (by omega), if_neg (by omega), if_neg (by omega), if_neg (by omega)]
theorem pop_raw (ha : Ar w g gm mt A F M) (ht : 1 ≤ A.text) (hts : A.text ≤ 4294967296) :
    Calls Try.prog 23 #[.pointer (some ⟨g, 0, none⟩)] w fun e w' =>
      e = .returned (.tuple #[]) ∧ Ar w' g gm mt { A with text := A.text - 1 } F M ∧ On (two g gm) w w' := by
  have ct := ha.text
  have ft := ha.free 208
  have e1 : ((A.text - 1 : Nat) : Int) = (A.text : Int) - 1 := by omega
  have hA := ha.putText (A.text - 1)
  have ho := (on_refl (two g gm) w).put (g := g) (i := 208) (.inl rfl) (.int .i64 ((A.text - 1 : Nat) : Int))
  rw [e1] at hA ho
  go_enter Try.func23, Try.ntmps23
  go_wp2_with fail
  go_end0
  exact ⟨rfl, hA, ho⟩
set_option maxRecDepth 100000 in
set_option maxHeartbeats 1000000 in
theorem begin_any (w : World) {s : Nat} (hs : s ≤ 65535) :
    Calls Try.prog 21 #[.int .u16 (s : Nat)] w fun e w' => ∃ x g gm r b, e = .returned (.pointer (some ⟨x, 0, none⟩)) ∧ w.heap.size ≤ x ∧ w.heap.size ≤ g ∧ w.heap.size ≤ gm ∧ w.heap.size ≤ r ∧
      Blk w' x 52 #[.pointer (some ⟨g, 0, none⟩), .pointer (some ⟨r, 0, none⟩), .slice none 0 0, .bool false] ∧ Ax w' g gm (.pointer (some ⟨b, 0, none⟩)) (freshM (2048 + s % 12000)) [] ∧ Rf w' r (freshM (2048 + s % 12000)) ∧ w.grownBy w' none := by
  obtain ⟨n, hn⟩ : ∃ n, n = 2048 + s % 12000 := ⟨_, rfl⟩
  have hn1 : 2048 ≤ n := by omega
  have hn2 : n ≤ 16777216 := by omega
  have en : (2048 : Int) + (s : Int) % 12000 = (n : Int) := by omega
  rw [← hn]
  clear hn
  go_enter Try.func21, Try.ntmps21
  go_wp2_with fail
  refine (much_any _).mono ?_; rintro e w1 ⟨b, rfl, hb, hm, hG1⟩
  have N := anew_much (size := n) hn1 hn2 hm
  clear hm
  go_wp2_with fail
  refine N.mono ?_; rintro e w2 ⟨g, gm, rfl, hg, hgm, hx2, hG2⟩
  have hG := grown_own hG1 hb hG2
  have hsz := hG1.size
  clear N hG1 hG2
  go_wp2_with fail
  refine (rnew_any w2 hn2).mono ?_; rintro e w3 ⟨r, rfl, hr, hR3, hG3⟩
  have hsz2 := hG.size
  have hx3 := hx2.on (s := fun _ => False) (On.of_grown hG3 (by simp)) id id
  have hG := grown_trans hG hG3
  have hb4 := Blk.new w3 52 #[.pointer (some ⟨g, 0, none⟩), .pointer (some ⟨r, 0, none⟩), .slice none 0 0, .bool false]
  have o4 : On (fun _ => False) w3 (w3.alloc (.cells #[.pointer (some ⟨g, 0, none⟩), .pointer (some ⟨r, 0, none⟩), .slice none 0 0, .bool false] 52)) := (on_refl _ _).alloc _
  have hx4 := hx3.on o4 id id
  have hR4 := hR3.on o4 id (fun k e => e.elim)
  have hG4 := grown_alloc hG (.cells #[.pointer (some ⟨g, 0, none⟩), .pointer (some ⟨r, 0, none⟩), .slice none 0 0, .bool false] 52)
  have hsz3 := hG.size
  clear hx2 hG3 hx3 hR3 o4 hG
  go_wp2_with fail
  go_ret
  exact ⟨w3.heap.size, g, gm, r, b, rfl, hsz3, by omega, by omega, by omega, hb4, hx4, hR4, hG4⟩
end
end Go.Proofs.Ytplhonlgbidemaa
