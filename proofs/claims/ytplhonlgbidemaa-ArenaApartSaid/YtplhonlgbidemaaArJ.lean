/- blocks. -/
import Derived.Test.YtplhonlgbidemaaArT
import Derived.Test.YtplhonlgbidemaaArG
namespace Go.Proofs.Ytplhonlgbidemaa
open Go.RowKit

/-- Blocks as cells. -/
def bkCells (l : List Bk) : List Value := l.flatMap fun b => [.int .i64 (b.p : Nat), .int .i64 (b.n : Nat), .bool b.g]
theorem bkCells_app (l m : List Bk) : bkCells (l ++ m) = bkCells l ++ bkCells m := by simp [bkCells]
theorem info102 : (Try.prog.info? 102).map (fun i => (i.zero, i.size, i.bytes)) = some (some (.agg #[.int .i64 0, .int .i64 0, .bool false]), 3, 24) := by kernel_rfl
theorem cell_three_new (w : World) (t : TypeId) (x y z : Value) : ∀ j u, [x, y, z][j]? = some u → (w.alloc (.cells #[x, y, z] t)).cell? ((⟨w.heap.size, 0, none⟩ : Addr).add j) = some u := by
  intro j u h
  rw [WideShapes.add_plain, Nat.zero_add, (Blk.new w t #[x, y, z]).cell]
  rw [← h]
  simp
theorem On.gr {s : Nat → Prop} {w w' w2 : World} {row : Option Nat} (h : On s w w') (hg : w'.grownBy w2 row) (hr : ∀ k, row = some k → w.heap.size ≤ k) : On s w w2 :=
  ⟨hg.os.trans h.os, hg.tape.trans h.tape, hg.output.trans h.output, Nat.le_trans h.size hg.size,
    fun k hk hs => (hg.block k (Nat.lt_of_lt_of_le hk h.size) (fun e => by have := hr k e.symm; omega)).trans (h.block k hk hs)⟩
theorem On.alloc {s : Nat → Prop} {w w' : World} (h : On s w w') (o : Obj) : On s w (w'.alloc o) := h.gr (World.grownBy_alloc w' o none) (by simp)

/-- Rows below i are given out. -/
def outs (A : AM) (i : Nat) : List Bk := (List.range i).flatMap fun j => bks j (A.rows j)
theorem outs_succ (A : AM) (i : Nat) : outs A (i + 1) = outs A i ++ bks i (A.rows i) := by simp [outs, List.range_succ]
theorem outs_all (A : AM) : outs A 38 = frees A.rows := rfl
theorem outs_le (A : AM) {i : Nat} (hi : i < 38) {pre rest : List Nat} (h : A.rows i = pre ++ rest) : (outs A i).length + pre.length ≤ (frees A.rows).length := by
  have h1 : ∀ d, (outs A (i + 1)).length ≤ (outs A (i + 1 + d)).length := by
    intro d
    induction d with
    | zero => exact Nat.le_refl _
    | succ d ih => rw [← Nat.add_assoc, outs_succ A (i + 1 + d), List.length_append]; omega
  have h2 := h1 (37 - i)
  rw [show i + 1 + (37 - i) = 38 by omega, outs_all, outs_succ, List.length_append] at h2
  have h3 : (bks i (A.rows i)).length = pre.length + rest.length := by simp [bks, h]
  omega

/-- What the loop over the rows keeps. -/
def BlL (w : World) (g gm : Nat) (mt : Value) (A : AM) (M : Nat → Nat) (o i : Value) (wr : World) : Prop :=
  ∃ k : Nat, k ≤ 38 ∧ i = .int .i64 k ∧ Ar wr g gm mt A (fun j => if j < k then 0 else hd (A.rows j)) M ∧ On (two g gm) w wr ∧ wr.ownsRow w.heap.size 102 3 o (outs A k).length (bkCells (outs A k))
/-- What the loop over a row keeps. -/
def BlI (w : World) (g gm : Nat) (mt : Value) (A : AM) (M : Nat → Nat) (k : Nat) (o x : Value) (wr : World) : Prop :=
  ∃ pre rest : List Nat, pre ++ rest = A.rows k ∧ x = .int .i64 (hd rest : Nat) ∧ Ar wr g gm mt A (fun j => if j < k then 0 else hd (A.rows j)) M ∧ On (two g gm) w wr
    ∧ wr.ownsRow w.heap.size 102 3 o (outs A k ++ bks k pre).length (bkCells (outs A k ++ bks k pre))
theorem own_base {w : World} {base : Nat} {e : TypeId} {s n : Nat} {v : Value} {xs : List Value} (h : w.ownsRow base e s v n xs) : ∀ k, v.ownBlock = some k → base ≤ k := by
  intro k hk
  obtain ⟨-, ⟨rfl, -⟩ | ⟨gl, cap, cur, rfl, h1, -⟩⟩ := h
  · cases hk
  · cases hk; exact h1
theorem own_far {w : World} {base : Nat} {e : TypeId} {s n : Nat} {v : Value} {xs : List Value} (h : w.ownsRow base e s v n xs) {p : Addr} (hp : p.block < base) (u : Value) : (w.setCell p u).ownsRow base e s v n xs := by
  obtain ⟨hl, h | ⟨gl, cap, cur, h0, h1, h2, h3⟩⟩ := h
  · exact ⟨hl, .inl h⟩
  · exact ⟨hl, .inr ⟨gl, cap, cur, h0, h1, (Below.heap_setCell w p u gl (by omega)).trans h2, h3⟩⟩
theorem chain_at {M : Nat → Nat} {pre rest : List Nat} {x : Nat} (h : Chain M (pre ++ x :: rest)) : num4 M x = hd rest := by
  induction pre with
  | nil => exact h.1
  | cons y pre ih => exact ih h.2
def lenOf : Value → Nat
  | .slice _ n _ => n
  | _ => 0
theorem own_slice {w : World} {base : Nat} {e : TypeId} {s n : Nat} {v : Value} {xs : List Value} (h : w.ownsRow base e s v n xs) : ∃ A c, v = .slice A n c := by
  obtain ⟨-, ⟨h, h2⟩ | ⟨gl, cap, cur, h, -⟩⟩ := h
  · exact ⟨none, 0, by rw [h, h2]⟩
  · exact ⟨_, _, h⟩
section
variable {w w' : World} {g gm : Nat} {mt : Value} {A : AM} {H : List Bk}
set_option maxRecDepth 100000 in
set_option maxHeartbeats 1000000 in
theorem blocks_any (h : Ax w g gm mt A H) :
    Calls Try.prog 59 #[.pointer (some ⟨g, 0, none⟩)] w fun e w' => ∃ v, e = .returned v ∧
      w'.ownsRow w.heap.size 102 3 v (frees A.rows).length (bkCells (frees A.rows)) ∧ Ax w' g gm mt { A with rows := fun _ => [] } (frees A.rows ++ H) ∧ On (two g gm) w w' := by
  obtain ⟨hi, M, ha, hc⟩ := h
  have hsz := ha.small
  have few := hi.few
  have hlt := ha.lt
  have hltm := ha.ltm
  obtain ⟨i0, hi0, hz0, hz1, hz2⟩ := info_parts info102
  have hst := hi.text
  have hpos : ∀ k, k < 38 → ∀ x ∈ A.rows k, 1 ≤ x ∧ x + 4 ≤ A.size + 13 := by
    intro k hk x hx
    have := hi.free hk hx
    have := sz_pos k
    omega
  go_enter Try.func59, Try.ntmps59
  go_wp2_with fail
  go_loopw [3, 6] (fun o i wr => BlL w g gm mt A M o i wr) (fun _ i _ => 38 - (intOf i).toNat)
  case atStart => exact ⟨0, by omega, rfl, ha.cong rfl rfl rfl rfl rfl rfl (fun i _ => rfl) (fun _ _ => rfl), on_refl _ _, World.ownsRow_nil w _ _ _⟩
  case round =>
    obtain ⟨k, hk, rfl, hA, hO, hown⟩ := hrel
    obtain ⟨oa, oc, rfl⟩ := own_slice hown
    by_cases hlt38 : k < 38
    · have c1 := hA.row hlt38
      rw [if_neg (Nat.lt_irrefl k)] at c1
      have hk38 : (k : Int) < 38 := by omega
      obtain ⟨y0, hy0⟩ : ∃ y, RowKit.Hid (y = hd (A.rows k)) := ⟨_, Lib.hid rfl⟩
      rw [← hy0.out] at c1
      go_wp2_with fail
      go_loopw [3, 5] (fun o x wr => BlI w g gm mt A M k o x wr) (fun o _ _ => (frees A.rows).length + 1 - lenOf o)
      case atStart => exact ⟨[], A.rows k, rfl, by rw [hy0.out], hA, hO, by simpa [bks] using hown⟩
      case round =>
        obtain ⟨pre, rest, hpr, rfl, hA, hO, hown⟩ := hrel
        obtain ⟨oa, oc, rfl⟩ := own_slice hown
        have hle := outs_le A hlt38 hpr.symm
        cases rest with
        | nil =>
          have c2 := hA.row hlt38
          rw [if_neg (Nat.lt_irrefl k)] at c2
          have f2 := hA.free (170 + k)
          have P := hA.putRow (v := 0) hlt38
          have e0 : hd [] = 0 := rfl
          go_wp2_with fail
          go_roundw
          case rel =>
            refine ⟨k + 1, by omega, by go_num, P.cong rfl rfl rfl rfl rfl rfl (fun j _ => ?_) (fun _ _ => rfl), hO.put (.inl rfl) _, ?_⟩
            · by_cases e : j = k
              · rw [if_pos (by omega), if_pos e]
              · rw [if_neg e]
                by_cases e2 : j < k
                · rw [if_pos e2, if_pos (by omega)]
                · rw [if_neg e2, if_neg (by omega)]
            · have ho := own_far hown (p := ⟨g, 170 + k, none⟩) hlt (.int .i64 0)
              rw [outs_succ, ← hpr, List.append_nil]
              exact ho
          case measure => simp [intOf]; omega
        | cons x rest =>
          have e0 : hd (x :: rest) = x := rfl
          rw [e0]
          have hx := hpos k hlt38 x (by rw [← hpr]; simp)
          have c2 := hA.units hlt38
          have hlen : (outs A k ++ bks k pre).length = (outs A k).length + pre.length := by simp [bks]
          have hbel : pre.length < (A.rows k).length := by rw [← hpr]; simp
          have hle2 := outs_le A hlt38 (pre := pre ++ [x]) (rest := rest) (by rw [← hpr]; simp)
          rw [List.length_append] at hle2
          dsimp only [List.length_cons, List.length_nil] at hle2
          have e1 : outs A k ++ bks k (pre ++ [x]) = (outs A k ++ bks k pre) ++ [⟨x, sz k, false⟩] := by simp [bks]
          have hs2 := hO.size
          have hne : x ≠ 0 := by omega
          go_wp2_with (at_builtin; refine wpList_append_own _ rfl (.tmp 20) (.tmp 29) 95 rfl w.heap.size 102 i0 _ 3 24 Try.underlying95 hi0 hz0 hz1 hz2 rfl (by decide) _ _ _ rfl (hown.alloc _) ⟨wr.heap.size, 0, none⟩ 1 1 [.int .i64 (x : Nat), .int .i64 (sz k : Nat), .bool false] rfl rfl (cell_three_new _ _ _ _ _) (by intro u hu; simp at hu; rcases hu with rfl | rfl | rfl <;> rfl) (by unfold maxLen; omega) (by omega) (by simp; omega) ?_)
          intro v' w1 hown' hg1 _
          have hob : ∀ b, (Value.slice oa ((outs A k).length + pre.length) oc).ownBlock = some b → w.heap.size ≤ b := by
            intro b hb; refine own_base hown b ?_; cases oa <;> exact hb
          have hO1 := (hO.alloc (.cells #[.int .i64 (x : Nat), .int .i64 (sz k : Nat), .bool false] 102)).gr hg1 hob
          have hA1 : Ar w1 g gm mt A (fun j => if j < k then 0 else hd (A.rows j)) M :=
            hA.on (s := fun b => w.heap.size ≤ b) ((On.of_grown (World.grownBy_alloc wr _ none) (by simp)).trans (On.of_grown hg1 hob)) (by omega) (by omega)
          have hnx : num4 M x = hd rest := chain_at (by rw [hpr]; exact hc k hlt38)
          obtain ⟨oa', oc', rfl⟩ := own_slice hown'
          have N := num4_any hA1 (p := x) hx.2
          go_wp2_with fail
          refine N.mono ?_; rintro e w2 ⟨rfl, rfl⟩
          go_wp2_with fail
          go_roundw
          case rel =>
            refine ⟨pre ++ [x], rest, by rw [← hpr]; simp, ?_, hA1, hO1, ?_⟩
            · rfl
            · rw [e1, bkCells_app, List.length_append, hlen]; exact hown'
          case measure => simp only [lenOf, hlen]; omega
    · obtain rfl : k = 38 := by omega
      go_wp2_with fail
      go_ret
      refine ⟨_, rfl, ?_, ⟨?_, M, hA.cong rfl rfl rfl rfl rfl rfl (fun j hj => by rw [if_pos hj]; rfl) (fun _ _ => rfl), fun _ _ => trivial⟩, hO⟩
      · rw [outs_all] at hown; exact hown
      · refine hi.perm ?_ rfl rfl rfl rfl rfl rfl
        show (frees A.rows ++ H).Perm (frees (fun _ => []) ++ (frees A.rows ++ H))
        have e : frees (fun _ => []) = [] := frees_none A
        rw [e]
        exact List.Perm.refl _
end
end Go.Proofs.Ytplhonlgbidemaa
