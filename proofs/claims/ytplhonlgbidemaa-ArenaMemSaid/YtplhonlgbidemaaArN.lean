/- New. -/
import Derived.Test.YtplhonlgbidemaaArW
import Derived.Test.YtplhonlgbidemaaMcC
import Derived.Deep.OwnRows
namespace Go.Proofs.Ytplhonlgbidemaa
open Go.RowKit

/-- The lesser, behind a name. -/
def mn (a b : Int) : Int := min a b
theorem run_mn (P : Program) (ts : Array TypeId) (t : TypeId) (k k' : IntKind) (x y : Int) (w : World) : (Builtin.min_ ts t #[.int k x, .int k' y]).run P w = .ok (.int k (mn x y)) w := by
  have e : mn x y = if y < x then y else x := by unfold mn; split <;> omega
  simp [Builtin.min_, Builtin.min2, e]
noncomputable def zeroAr : Array Value := match ((Try.prog.info? 69).bind fun i => i.zero) with | some (.agg cs) => cs | _ => #[]
theorem zar_run (w : World) : (zeroValue 69).run Try.prog w = .ok (.agg zeroAr) w := by kernel_rfl
theorem zar_size : zeroAr.size = 213 := by kernel_rfl
theorem zar_cells : (∀ i, i < 38 → zeroAr[170 + i]? = some (.int .i64 0)) ∧ zeroAr[208]? = some (.int .i64 0) ∧ zeroAr[209]? = some (.int .i64 0) ∧ zeroAr[210]? = some (.int .i64 0) ∧ zeroAr[211]? = some (.int .i64 0) ∧ zeroAr[212]? = some (.int .u32 0) := by
  refine ⟨?_, by kernel_rfl, by kernel_rfl, by kernel_rfl, by kernel_rfl, by kernel_rfl⟩
  have h : ((List.range 38).all fun i => match zeroAr[170 + i]? with | some (.int .i64 n) => n == 0 | _ => false) = true := by kernel_rfl
  intro i hi
  have := List.all_eq_true.1 h i (List.mem_range.2 hi)
  split at this
  · next n e => rw [e, eq_of_beq this]
  · cases this
theorem info8 : (Try.prog.info? 5).map (fun i => (i.zero, i.size, i.bytes)) = some (some (.int .u8 0), 1, 1) := by kernel_rfl
theorem run_made (n : Nat) (hn : n ≤ 1073741824) (w : World) :
    (Instr.makeSlice 47 (.int .i64 (n : Int)) (.int .i64 (n : Int))).run Try.prog w = .ok (.slice (some ⟨w.heap.size, 0, none⟩) n n) (w.alloc (.cells (madeCells #[.int .u8 0] n) 5)) :=
  run_make_row' 47 5 (.int .u8 0) 1 Try.underlying47 info8 rfl .i64 .i64 n (by omega) (by omega) w
theorem made_at (n i : Nat) (h : i < n) : (madeCells #[.int .u8 0] n)[i]? = some (.int .u8 0) := by simp [madeCells, h, Nat.mod_one]

/-- The units of the rows before k. -/
def cu (k : Nat) : Nat := if k = 0 then 0 else sz (k - 1)
theorem cu_next (k : Nat) : sz k = cu k + min (k / 4 + 1) 4 := by
  unfold cu
  have h1 := sz_is k
  have h2 := sz_is (k - 1)
  split <;> omega
theorem fr_cu {k j : Nat} (hj : j < min (k / 4 + 1) 4) : fr (cu k + j + 1) = k := by
  unfold cu
  have h2 := sz_is (k - 1)
  have h3 := fr_is ((if k = 0 then 0 else sz (k - 1)) + j + 1)
  split at h3 <;> split <;> omega
/-- An arena whose tables are laid for the rows before k, the numbers of units up to c. -/
def Nw (w : World) (g gm : Nat) (z : Array Value) (n k c : Nat) : Prop :=
  ∃ cs, Blk w g 69 cs ∧ Blk w gm 5 (madeCells #[.int .u8 0] n) ∧ cs.size = 213 ∧ (∀ j, j < 3 ∨ 170 ≤ j → cs[j]? = z[j]?) ∧ (∀ i, i < k → cs[3 + i]? = some (.int .i64 (sz i : Nat))) ∧ (∀ i, 1 ≤ i → i ≤ c → cs[41 + i]? = some (.int .i64 (fr i : Nat)))
section
variable {w w' : World} {g gm n k c : Nat} {z : Array Value}
theorem Nw.at (h : Nw w g gm z n k c) {j : Nat} (hj : j < 213) : ∃ v, w.cell? ⟨g, j, none⟩ = some v := by
  obtain ⟨cs, h1, h2, h3, -⟩ := h
  exact ⟨cs[j], by rw [h1.cell]; simp⟩
theorem Nw.free (h : Nw w g gm z n k c) (j : Nat) : w.frozen? ⟨g, j, none⟩ = false := by obtain ⟨cs, h1, -⟩ := h; exact h1.free j
theorem Nw.lt (h : Nw w g gm z n k c) : g < w.heap.size := by obtain ⟨cs, h1, -⟩ := h; exact h1.lt
theorem Nw.which (h : Nw w g gm z n k c) (hne : gm ≠ g) (hk : k < 38) (hc : c < 128) (hf : fr (c + 1) = k) : Nw (w.setCell ⟨g, 41 + (c + 1), none⟩ (.int .i64 (k : Nat))) g gm z n k (c + 1) := by
  obtain ⟨cs, h1, h2, h3, h4, h5, h6⟩ := h
  refine ⟨_, h1.put (41 + (c + 1)) _, h2.far (by simpa using hne) _, by simpa using h3, fun j hj => ?_, fun i hi => ?_, fun i hi1 hi2 => ?_⟩
  · rw [Array.getElem?_setIfInBounds, if_neg (by omega)]; exact h4 j hj
  · rw [get_set cs _ (h5 i hi), if_neg (by omega)]
  · by_cases e : i = c + 1
    · subst e
      rw [Array.getElem?_setIfInBounds, if_pos rfl, if_pos (by omega), hf]
    · rw [get_set cs _ (h6 i hi1 (by omega)), if_neg (by omega)]
theorem Nw.units (h : Nw w g gm z n k c) (hne : gm ≠ g) (hk : k < 38) : Nw (w.setCell ⟨g, 3 + k, none⟩ (.int .i64 (sz k : Nat))) g gm z n (k + 1) c := by
  obtain ⟨cs, h1, h2, h3, h4, h5, h6⟩ := h
  refine ⟨_, h1.put (3 + k) _, h2.far (by simpa using hne) _, by simpa using h3, fun j hj => ?_, fun i hi => ?_, fun i hi1 hi2 => ?_⟩
  · rw [Array.getElem?_setIfInBounds, if_neg (by omega)]; exact h4 j hj
  · by_cases e : i = k
    · subst e
      rw [Array.getElem?_setIfInBounds, if_pos rfl, if_pos (by omega)]
    · rw [get_set cs _ (h5 i (by omega)), if_neg (by omega)]
  · rw [get_set cs _ (h6 i hi1 hi2), if_neg (by omega)]
/-- The loop over the sizes. -/
def NwO (w : World) (g gm : Nat) (z : Array Value) (n : Nat) (c i : Value) (wr : World) : Prop :=
  ∃ k : Nat, k ≤ 38 ∧ i = .int .i64 k ∧ c = .int .i64 (cu k : Nat) ∧ Nw wr g gm z n k (cu k) ∧ On (fun b => b = g) w wr
/-- The loop over the numbers of one size. -/
def NwI (w : World) (g gm : Nat) (z : Array Value) (n k : Nat) (c i : Value) (wr : World) : Prop :=
  ∃ j : Nat, j ≤ min (k / 4 + 1) 4 ∧ i = .int .i64 j ∧ c = .int .i64 (cu k + j : Nat) ∧ Nw wr g gm z n k (cu k + j) ∧ On (fun b => b = g) w wr
end
section
attribute [local go_sem ↓] run_mn
set_option maxRecDepth 100000 in
set_option maxHeartbeats 2000000 in
theorem anew_any {w : World} {b size : Nat} {m : Mt} (h1 : 2048 ≤ size) (h2 : size ≤ 16777216) (hm : Mtr w b m) (hg : m.Good) (hy : may m.cd m.qm m.um ((size : Int) + 12) = true) :
    Calls Try.prog 10 #[.int .i64 (size : Nat), .pointer (some ⟨b, 0, none⟩)] w fun e w' => ∃ g gm, e = .returned (.tuple #[.pointer (some ⟨g, 0, none⟩), .int .i64 0]) ∧
      w.heap.size ≤ g ∧ w.heap.size ≤ gm ∧ Ax w' g gm (.pointer (some ⟨b, 0, none⟩)) (freshM size) [] ∧ Mtr w' b (m.mem ((size : Int) + 12)) ∧ w.grownBy w' (some b) := by
  have U := mem_to ((size : Int) + 12) true hy rfl hg hm
  have hmk := run_made (size + 1 + 12) (by omega)
  have e13 : ((size + 1 + 12 : Nat) : Int) = (size : Int) + 1 + 12 := by omega
  rw [e13] at hmk
  have hz := zar_run
  have hzs := zar_size
  have hzc := zar_cells
  generalize zeroAr = zs at *
  have hzn : ¬ zs = #[] := by intro e; rw [e] at hzs; cases hzs
  have b1 : ¬ (size : Int) < 2048 := by omega
  have b2 : ¬ (4294967259 : Int) < size := by omega
  go_enter Try.func10, Try.ntmps10
  go_wp2_with fail
  refine U.mono ?_; rintro e w1 ⟨rfl, m1, hw1, -⟩
  clear U
  obtain ⟨g, hgd⟩ : ∃ g, g = w1.heap.size + 1 := ⟨_, rfl⟩
  obtain ⟨gm, hgm⟩ : ∃ gm, gm = w1.heap.size := ⟨_, rfl⟩
  obtain ⟨z, hz0⟩ : ∃ z, z = ((zs.setIfInBounds 0 (.slice (some ⟨w1.heap.size, 0, none⟩) (size + 1 + 12) (size + 1 + 12))).setIfInBounds 1 (.int .i64 (size : Int))).setIfInBounds 2 (.pointer (some ⟨b, 0, none⟩)) := ⟨_, rfl⟩
  obtain ⟨w2, hw2⟩ : ∃ w2, w2 = (w1.alloc (.cells (madeCells #[.int .u8 0] (size + 1 + 12)) 5)).alloc (.cells z 69) := ⟨_, rfl⟩
  have zz : z.size = 213 ∧ z[0]? = some (.slice (some ⟨gm, 0, none⟩) (size + 13) (size + 13)) ∧ z[1]? = some (.int .i64 (size : Nat)) ∧ z[2]? = some (.pointer (some ⟨b, 0, none⟩)) ∧ ∀ j, 3 ≤ j → z[j]? = zs[j]? := by
    rw [hz0, ← hgm]
    refine ⟨by simpa using hzs, ?_, ?_, ?_, fun j hj => ?_⟩
    · rw [Array.getElem?_setIfInBounds, if_neg (by omega), Array.getElem?_setIfInBounds, if_neg (by omega), Array.getElem?_setIfInBounds, if_pos rfl, if_pos (by omega)]
    · rw [Array.getElem?_setIfInBounds, if_neg (by omega), Array.getElem?_setIfInBounds, if_pos rfl, if_pos (by simp; omega)]
    · rw [Array.getElem?_setIfInBounds, if_pos rfl, if_pos (by simp; omega)]
    · rw [Array.getElem?_setIfInBounds, if_neg (by omega), Array.getElem?_setIfInBounds, if_neg (by omega), Array.getElem?_setIfInBounds, if_neg (by omega)]
  have hN2 : Nw w2 g gm z (size + 1 + 12) 0 (cu 0) := by
    refine ⟨z, ?_, ?_, zz.1, fun _ _ => rfl, fun i hi => by omega, fun i hi1 hi2 => by (have : cu 0 = 0 := rfl); omega⟩
    · rw [hw2, hgd]; have := Blk.new (w1.alloc (.cells (madeCells #[.int .u8 0] (size + 1 + 12)) 5)) 69 z; rw [World.size_alloc] at this; exact this
    · rw [hw2, hgm]; exact (Blk.new w1 5 _).alloc _
  have hG2 : w.grownBy w2 (some b) := by rw [hw2]; exact grown_alloc (grown_alloc hw1 _) _
  have m2 : Mtr w2 b (m.mem ((size : Int) + 12)) := by rw [hw2]; exact Blk.alloc (Blk.alloc m1 _) _
  have hbm : b < w1.heap.size := Blk.lt m1
  have hne : gm ≠ g := by omega
  have hgw : w.heap.size ≤ gm := by have := hw1.size; omega
  have hbg : b ≠ g ∧ b ≠ gm := by omega
  have hgw2 : w.heap.size ≤ g := by omega
  go_wp2_with fail
  rw [← hgd, ← hgm]
  rw [← hgm] at hz0
  rw [← hz0, ← hw2]
  have HZ := Lib.hid zz
  have HC := Lib.hid hzc
  clear hz0 hw2 hw1 m1 hgd hgm hz hzs hzn zz hzc hmk
  go_loopw [7, 30] (fun c i wr => NwO w2 g gm z (size + 1 + 12) c i wr) (fun _ i _ => 38 - (intOf i).toNat)
  case atStart => exact ⟨0, by omega, rfl, rfl, hN2, on_refl _ _⟩
  case round =>
    obtain ⟨k, hk, rfl, rfl, hN, hO⟩ := hrel
    by_cases hk38 : k < 38
    · have hkI : (k : Int) < 38 := by omega
      have emn : mn ((k : Int) / 4 + 1) 4 = ((min (k / 4 + 1) 4 : Nat) : Int) := by unfold mn; omega
      obtain ⟨q, hq⟩ : ∃ q, RowKit.Hid (q = min (k / 4 + 1) 4) := ⟨_, Lib.hid rfl⟩
      rw [← hq.out] at emn
      go_wp2_with fail
      go_loopw [7, 37] (fun c i wr => NwI w2 g gm z (size + 1 + 12) k c i wr) (fun _ i _ => q - (intOf i).toNat)
      case atStart => exact ⟨0, by omega, rfl, rfl, hN, hO⟩
      case round =>
        clear hN hO
        obtain ⟨j, hj, rfl, rfl, hN, hO⟩ := hrel
        rw [← hq.out] at hj
        have hnext := cu_next k
        rw [← hq.out] at hnext
        have hszk := sz_le hk38
        by_cases hjq : j < q
        · have hf := fr_cu (k := k) (j := j) (by rw [← hq.out]; exact hjq)
          have hN3 := hN.which hne hk38 (by omega) hf
          have hO3 := hO.put (g := g) (i := 41 + (cu k + j + 1)) rfl (.int .i64 (k : Nat))
          obtain ⟨v, cv⟩ := hN.at (j := 41 + (cu k + j + 1)) (by omega)
          have fv := hN.free (41 + (cu k + j + 1))
          have hlt1 : (cu k : Int) + j + 1 < 129 := by omega
          clear hf hnext
          go_wp2_with fail
          go_roundw
          case rel => exact ⟨j + 1, by rw [← hq.out]; omega, by go_num, by go_num, hN3, hO3⟩
          case measure => simp [intOf]; omega
        · obtain rfl : j = q := by omega
          have hN3 := hN.units hne hk38
          have hO3 := hO.put (g := g) (i := 3 + k) rfl (.int .i64 (sz k : Nat))
          obtain ⟨v, cv⟩ := hN.at (j := 3 + k) (by omega)
          have fv := hN.free (3 + k)
          have esz : ((sz k : Nat) : Int) = (cu k : Int) + (j : Nat) := by omega
          have ecu : cu (k + 1) = cu k + j := by rw [← hnext]; rfl
          rw [esz] at hN3 hO3
          clear hnext esz hN hO
          go_wp2_with fail
          go_roundw
          case rel => exact ⟨k + 1, by omega, by go_num, by rw [ecu], by rw [ecu]; exact hN3, hO3⟩
          case measure => simp [intOf]; omega
    · obtain rfl : k = 38 := by omega
      obtain ⟨cs, hb1, hb2, hs, hz, hu, hwh⟩ := hN
      obtain ⟨z0, z1, z2, z3, z4⟩ := HZ.out
      obtain ⟨y0, y1, y2, y3, y4, y5⟩ := HC.out
      have hA : Ar wr g gm (.pointer (some ⟨b, 0, none⟩)) { size := size, rows := fun _ => [], text := 0, start := 0, low := 0, high := 0, glue := 0 } (fun _ => 0) (fun _ => 0) := by
        refine ⟨cs, _, hb1, hb2, ?_, ?_, ?_, hu, hwh, fun i hi => ?_, ?_, ?_, ?_, ?_, ?_, by dsimp only; omega, fun i hi => ⟨Nat.zero_lt_succ _, made_at _ _ hi⟩⟩
        · rw [hz 0 (by omega)]; exact z1
        · rw [hz 1 (by omega)]; exact z2
        · rw [hz 2 (by omega)]; exact z3
        · rw [hz _ (by omega), z4 _ (by omega)]; exact y0 i hi
        · rw [hz _ (by omega), z4 _ (by omega)]; exact y1
        · rw [hz _ (by omega), z4 _ (by omega)]; exact y2
        · rw [hz _ (by omega), z4 _ (by omega)]; exact y3
        · rw [hz _ (by omega), z4 _ (by omega)]; exact y4
        · rw [hz _ (by omega), z4 _ (by omega)]; exact y5
      have RS := restart_raw hA
      clear hb1 hb2 hs hz hu hwh hA
      go_wp2_with fail
      refine RS.mono ?_; rintro e w3 ⟨rfl, hA3, hO3⟩
      go_wp2_with fail
      go_ret2
      have o3 := hO.mono (s' := two g gm) (fun k hk => .inl hk) |>.trans hO3
      have hbt : ¬ two g gm b := by unfold two; omega
      refine ⟨g, gm, rfl, hgw2, hgw, ⟨inv_fresh (by omega), _, hA3, fun _ _ => trivial⟩, Blk.on m2 o3 hbt, ?_⟩
      exact ⟨o3.os.trans hG2.os, o3.tape.trans hG2.tape, o3.output.trans hG2.output, Nat.le_trans hG2.size o3.size, fun i hi hr => (o3.block i (Nat.lt_of_lt_of_le hi hG2.size) (by unfold two; omega)).trans (hG2.block i hi hr)⟩
end
end Go.Proofs.Ytplhonlgbidemaa
