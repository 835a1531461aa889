/- The meter's exported functions that this seat reaches: each does to the meter what the plain words say. -/
import Derived.Test.YtplhonlgbidemaaMtW
namespace Go.Proofs.Ytplhonlgbidemaa
open Go.RowKit

/-- The greater, behind a name: the walk then parts nowhere. -/
def mx (a b : Int) : Int := max a b
theorem run_mx (P : Program) (ts : Array TypeId) (t : TypeId) (k k' : IntKind) (x y : Int) (w : World) : (Builtin.max_ ts t #[.int k x, .int k' y]).run P w = .ok (.int k (mx x y)) w := by
  have e : mx x y = if y > x then y else x := by unfold mx; split <;> omega
  simp [Builtin.max_, Builtin.max2, e]

section
attribute [local go_sem ↓] run_mx
set_option maxHeartbeats 1000000 in
theorem new_any (a b c d e : Int) (w : World) :
    Calls Try.prog 25 #[.agg #[.int .i64 a, .int .i64 b, .int .i64 c, .int .i64 d, .int .i64 e]] w fun r w' => r = .returned (.pointer (some ⟨w.heap.size + 1, 0, none⟩)) ∧ Mtr w' (w.heap.size + 1) (Mt.new a b c d e) ∧ w.grownBy w' none ∧ w'.heap.size = w.heap.size + 2 := by
  go_enter Try.func25, Try.ntmps25
  go_wp2
  go_region
  go_wp2
  go_region
  go_wp2
  go_ret
  refine ⟨rfl, ?_, grown_drew (grown_drew (grown_alloc (grown_alloc (grown_refl _ _) _) _)), by simp⟩
  have h := Blk.new (w.alloc (.cells #[.int .i64 a, .int .i64 b, .int .i64 c, .int .i64 d, .int .i64 e] 57)) 79 (Mt.new a b c d e).cells
  rw [World.size_alloc] at h
  exact h
end

/-- Where n more may not be used, or may. -/
theorem may_yes {cd q u n : Int} (h0 : cd = 0) (h : max n 0 ≤ q - u) : may cd q u n = true ∧ used cd q u n = u + max n 0 ∧ ∀ c, code cd q u n c = 0 := by
  have e : may cd q u n = true := by simp [may, h0]; omega
  refine ⟨e, by simp [used, e], fun c => ?_⟩
  unfold code; rw [if_pos h0, if_pos h]
theorem may_no {cd q u n : Int} (h0 : cd = 0) (h : q - u < max n 0) : may cd q u n = false ∧ used cd q u n = u ∧ ∀ c, code cd q u n c = c := by
  have e : may cd q u n = false := by simp [may]; omega
  refine ⟨e, by simp [used, e], fun c => ?_⟩
  unfold code; rw [if_pos h0, if_neg (by omega)]
theorem may_dead {cd q u n : Int} (h0 : ¬ cd = 0) : may cd q u n = false ∧ used cd q u n = u ∧ ∀ c, code cd q u n c = cd := by
  have e : may cd q u n = false := by simp [may, h0]
  refine ⟨e, by simp [used, e], fun c => ?_⟩
  unfold code; rw [if_neg h0]

section
variable {w : World} {b : Nat} {m : Mt}

/-- One call of use, in all its ways: what it leaves is said of the cell where now stands and of the code. -/
theorem use_any (o : Nat) (n c q u : Int) (w : World) (hc : w.cell? ⟨b, 11, none⟩ = some (.int .i64 m.cd)) (fc : w.frozen? ⟨b, 11, none⟩ = false)
    (h0 : w.cell? ⟨b, o, none⟩ = some (.int .i64 q)) (h1 : w.cell? ⟨b, o + 1, none⟩ = some (.int .i64 u)) (f1 : w.frozen? ⟨b, o + 1, none⟩ = false) (hf : Fits q u) :
    Calls Try.prog 47 #[.pointer (some ⟨b, 0, none⟩), .pointer (some ⟨b, o, none⟩), .int .i64 n, .int .i64 c] w fun e w' => e = .returned (.bool (may m.cd q u n)) ∧
      (may m.cd q u n = true → w' = w.setCell ⟨b, o + 1, none⟩ (.int .i64 (used m.cd q u n)) ∧ code m.cd q u n c = m.cd) ∧
      (may m.cd q u n = false → m.cd = 0 → w' = w.setCell ⟨b, 11, none⟩ (.int .i64 (code m.cd q u n c)) ∧ used m.cd q u n = u) ∧
      (may m.cd q u n = false → ¬ m.cd = 0 → w' = w ∧ used m.cd q u n = u ∧ code m.cd q u n c = m.cd) := by
  obtain ⟨k0, k1, k2⟩ := hf
  by_cases hcd : m.cd = 0
  · rw [hcd] at hc ⊢
    by_cases hk : max n 0 ≤ q - u
    · obtain ⟨e1, e2, e3⟩ := may_yes (rfl : (0 : Int) = 0) hk
      refine (use_yes b o n c q u w hc h0 h1 f1 k0 k1 k2 hk).mono ?_
      rintro e w' ⟨rfl, rfl⟩
      rw [e1, e2, e3]
      exact ⟨rfl, (fun _ => ⟨rfl, rfl⟩), (fun h => by cases h), (fun h => by cases h)⟩
    · obtain ⟨e1, e2, e3⟩ := may_no (rfl : (0 : Int) = 0) (show q - u < max n 0 by omega)
      refine (use_no b o n c q u w hc fc h0 h1 k0 k1 k2 (by omega)).mono ?_
      rintro e w' ⟨rfl, rfl⟩
      rw [e1, e2, e3]
      exact ⟨rfl, (fun h => by cases h), (fun _ _ => ⟨rfl, rfl⟩), (fun _ h => absurd rfl h)⟩
  · obtain ⟨e1, e2, e3⟩ := may_dead hcd (q := q) (u := u) (n := n)
    refine (use_dead b o n c m.cd w hc hcd).mono ?_
    rintro e w' ⟨rfl, rfl⟩
    rw [e1, e2, e3]
    exact ⟨rfl, (fun h => by cases h), (fun _ h => absurd h hcd), (fun _ _ => ⟨rfl, rfl, rfl⟩)⟩

/-- use, on a meter: thing number k (its cells 2k, 2k+1). -/
theorem use_mtr (k : Nat) (hk : k < 5) (n c q u : Int) (m' : Mt) (h : Mtr w b m) (hq : m.cells[2 * k]? = some (.int .i64 q)) (hu : m.cells[2 * k + 1]? = some (.int .i64 u)) (hf : Fits q u)
    (hm' : m'.cells = (m.cells.setIfInBounds (2 * k + 1) (.int .i64 (used m.cd q u n))).setIfInBounds 11 (.int .i64 (code m.cd q u n c))) :
    Calls Try.prog 47 #[.pointer (some ⟨b, 0, none⟩), .pointer (some ⟨b, 2 * k, none⟩), .int .i64 n, .int .i64 c] w fun e w' => e = .returned (.bool (may m.cd q u n)) ∧ Mtr w' b m' ∧ w.grownBy w' (some b) ∧ w'.heap.size = w.heap.size := by
  refine (use_any (m := m) (2 * k) n c q u w h.cellsAt.2.2.2.2.2.2.2.2.2.2.2 (Blk.free h _) ((Blk.cell h _).trans hq) ((Blk.cell h _).trans hu) (Blk.free h _) hf).mono ?_
  rintro e w' ⟨rfl, hy, hn, hd⟩
  refine ⟨rfl, ?_⟩
  have hself : ∀ (i : Nat) (v : Value) (cs : Array Value), cs[i]? = some v → cs.setIfInBounds i v = cs := by
    intro i v cs hi
    apply Array.ext_getElem?
    intro j
    rw [Array.getElem?_setIfInBounds]
    split
    · rename_i e; subst e
      obtain ⟨hlt, _⟩ := Array.getElem?_eq_some_iff.1 hi
      rw [if_pos hlt, hi]
    · rfl
  cases hmay : may m.cd q u n with
  | true =>
    obtain ⟨rfl, e⟩ := hy hmay
    refine ⟨?_, grown_put (grown_refl _ _) _ _, by simp⟩
    have h1 := Blk.put h (2 * k + 1) (.int .i64 (used m.cd q u n))
    unfold Mtr
    rw [hm', e, hself 11 _ _ (by rw [Array.getElem?_setIfInBounds_ne (by omega)]; rfl)]
    exact h1
  | false =>
    by_cases hcd : m.cd = 0
    · obtain ⟨rfl, e⟩ := hn hmay hcd
      refine ⟨?_, grown_put (grown_refl _ _) _ _, by simp⟩
      have h1 := Blk.put h 11 (.int .i64 (code m.cd q u n c))
      unfold Mtr
      rw [hm', e, hself (2 * k + 1) _ _ hu]
      exact h1
    · obtain ⟨rfl, e, e'⟩ := hd hmay hcd
      refine ⟨?_, grown_refl _ _, rfl⟩
      unfold Mtr
      rw [hm', e, e', hself (2 * k + 1) _ _ hu, hself 11 _ _ rfl]
      exact h

theorem code_any (h : Mtr w b m) :
    Calls Try.prog 32 #[.pointer (some ⟨b, 0, none⟩)] w fun e w' => e = .returned (.int .i64 m.cd) ∧ w = w' := by
  have hc := h.cellsAt.2.2.2.2.2.2.2.2.2.2.2
  go_enter Try.func32, Try.ntmps32
  go_wp2_with (go_at_call 38; refine (load_any _ _ _ _ hc).mono ?_; rintro e w' ⟨rfl, rfl⟩)
  go_ret
  exact ⟨rfl, rfl⟩

theorem free_any (n : Int) (hn : n ≤ 9223372036854775807) (h : Mtr w b m) (hg : m.Good) :
    Calls Try.prog 39 #[.pointer (some ⟨b, 0, none⟩), .int .i64 n] w fun e w' => e = .returned (.tuple #[]) ∧ Mtr w' b (m.free n) ∧ w.grownBy w' (some b) ∧ w'.heap.size = w.heap.size := by
  obtain ⟨k0, k1, k2⟩ := hg.m1
  have hc := h.cellsAt.2.1
  have fc := Blk.free h 1
  have hb := Blk.put h 1 (.int .i64 (m.um - min (max n 0) m.um))
  have hb' : Mtr (w.setCell ⟨b, 1, none⟩ (.int .i64 (m.um - min (max n 0) m.um))) b (m.free n) := hb
  have U := give_any b 0 m.um (max n 0) w hc fc k0 (by omega) (by omega) (by omega)
  obtain ⟨x, hx⟩ : ∃ x, x = max n 0 := ⟨_, rfl⟩
  have hmax : (if 0 > n then 0 else n) = x := by split <;> omega
  rw [← hx] at U hb'
  clear hb hc fc
  have H := Lib.hid hx
  have HB := Lib.hid hb'
  have HH := Lib.hid hmax
  clear hx hb' hmax
  by_cases h0 : 0 ≤ n
  · obtain rfl : x = n := by have := H.out; omega
    go_enter Try.func39, Try.ntmps39
    go_wp2_with (go_at_call 52; refine U.mono ?_; rintro e w' ⟨rfl, rfl⟩)
    first | go_end0 | refine bodyPost_ret (results_none rfl _ _ _) rfl ?_
    exact ⟨rfl, HB.out, grown_put (grown_refl _ _) _ _, by simp⟩
  · obtain rfl : x = 0 := by have := H.out; omega
    go_enter Try.func39, Try.ntmps39
    go_wp2_with (go_at_call 52; refine U.mono ?_; rintro e w' ⟨rfl, rfl⟩)
    first | go_end0 | refine bodyPost_ret (results_none rfl _ _ _) rfl ?_
    exact ⟨rfl, HB.out, grown_put (grown_refl _ _) _ _, by simp⟩

end
end Go.Proofs.Ytplhonlgbidemaa
