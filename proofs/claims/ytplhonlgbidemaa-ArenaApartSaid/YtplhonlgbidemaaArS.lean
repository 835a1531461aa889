/- slices.Backward, stick. -/
import Derived.Test.YtplhonlgbidemaaArR
import Derived.RangeFuncNested
import Derived.RangeFuncBound
import Derived.RangeFuncCalls
import Derived.RangeFuncLeaves
import Derived.RangeFuncBox
import Derived.Shelf.Abstract
import Derived.Shelf.RegionOpen
import Derived.WalkKit
import Derived.OwnWalkIn
import Derived.TacticsInMore
import Derived.LoopNIn
import Derived.LoopIn
namespace Go.Proofs.Ytplhonlgbidemaa
open Go.RowKit Go.Shelf

attribute [local go_sem] Oper.semAt_some

/-- The first k numbers, the last first. -/
def dn (len k : Nat) : List Nat := (List.range k).map fun j => len - 1 - j
theorem dn_succ (len k : Nat) : dn len (k + 1) = dn len k ++ [len - 1 - k] := by simp [dn, List.range_succ]
theorem dn_length (len k : Nat) : (dn len k).length = k := by simp [dn]
def encB (P N : Nat → Nat) (G : Nat → Bool) (x : Nat) : Array Value := #[.int .i64 (x : Int), .agg #[.int .i64 (P x : Nat), .int .i64 (N x : Nat), .bool (G x)]]
/-- What a round keeps: the list, and the box of its slice. -/
def K2 (gl bx : Nat) (W W' : World) : Prop := ∀ k, (k = gl ∨ k = bx) → k < W.heap.size → W'.heap[k]? = W.heap[k]? ∧ k < W'.heap.size
theorem K2.refl (gl bx : Nat) (W : World) : K2 gl bx W W := fun _ _ h => ⟨rfl, h⟩
theorem K2.trans {gl bx : Nat} {A B C : World} (h : K2 gl bx A B) (k : K2 gl bx B C) : K2 gl bx A C := fun i hi hl => by
  obtain ⟨h1, h2⟩ := h i hi hl
  obtain ⟨h3, h4⟩ := k i hi h2
  exact ⟨h3.trans h1, h4⟩
theorem K2.cell {gl bx : Nat} {W W' : World} (h : K2 gl bx W W') {p : Addr} {v : Value} (hp : p.block = gl ∨ p.block = bx) (hc : W.cell? p = some v) : W'.cell? p = some v := by
  have := (h p.block hp (World.block_lt_of_cell? _ _ hc)).1
  rw [World.cell?_of_block this]; exact hc
theorem Bs.k2 {gl bx len : Nat} {W W' : World} {P N : Nat → Nat} {G : Nat → Bool} (h : Bs W gl len P N G) (k : K2 gl bx W W') : Bs W' gl len P N G := by
  obtain ⟨cs, hb, h⟩ := h
  exact ⟨cs, (k gl (.inl rfl) hb.lt).1.trans hb, h⟩
theorem K2.of_on {gl bx : Nat} {s : Nat → Prop} {W W' : World} (h : On s W W') (h1 : ¬ s gl) (h2 : ¬ s bx) : K2 gl bx W W' := fun k hk hl => by
  refine ⟨h.block k hl ?_, Nat.lt_of_lt_of_le hl h.size⟩
  rcases hk with rfl | rfl <;> assumption

set_option maxRecDepth 100000 in
set_option maxHeartbeats 2000000 in
/-- The closure of slices.Backward. -/
theorem back1_in (n : Nat) (hn : 1 ≤ n) (l bx gl len cap : Nat) (P N : Nat → Nat) (G : Nat → Bool) (hlen : len ≤ 4294967296) (hcap : len ≤ cap) (J Jx : List Nat → World → Prop)
    (hY : ∀ pre x W, J pre W → pre.length < len → YieldAt Fence.wide (n - 1) Try.prog l (encB P N G x) W fun e W' =>
      (e = .returned (.bool true) ∧ J (pre ++ [x]) W' ∧ K2 gl bx W W') ∨ (e = .returned (.bool false) ∧ Jx (pre ++ [x]) W'))
    (W : World) (hBs : W.cell? ⟨bx, 0, none⟩ = some (.slice (some ⟨gl, 0, none⟩) len cap)) (hL : Bs W gl len P N G) (h0 : J [] W) :
    CallsIn Fence.wide n Try.prog 64 #[.func (.yield l) #[] #[], .pointer (some ⟨bx, 0, none⟩)] W fun e W' => (∃ v, e = .returned v) ∧
      ((∃ ys, ys = dn len len ∧ J ys W') ∨ (∃ pre, True ∧ Jx pre W')) := by
  refine callsIn_of_wp Try.func64 rfl trivial ?_ rfl
  simp only [Try.ntmps64, List.size_toArray, List.length_cons, List.length_nil, Nat.reduceAdd, Nat.reduceSub, Array.replicate_succ, Array.replicate_zero, List.push_toArray, List.append_toArray, List.nil_append, List.cons_append]
  gi_wp2
  gi_loopw [3] (fun i wr => ∃ k : Nat, k ≤ len ∧ i = .int .i64 ((len : Int) - 1 - k) ∧ J (dn len k) wr ∧ K2 gl bx W wr)
    (fun i _ => (intOf i + 1).toNat)
  case atStart => exact ⟨0, Nat.zero_le _, by simp, h0, K2.refl _ _ _⟩
  case round =>
    obtain ⟨k, hk, rfl, hJs, hkk⟩ := hrel
    have hBs' := hkk.cell (.inr rfl) hBs
    have hL' := hL.k2 hkk
    by_cases hlt : k < len
    · obtain ⟨i, hi⟩ : ∃ i, i = len - 1 - k := ⟨_, rfl⟩
      have ei : (len : Int) - 1 - k = (i : Int) := by omega
      have hil : i < len := by omega
      have hil' : (i : Int) < len := by omega
      rw [ei]
      have HI := Lib.hid hi
      clear hi ei
      have c0 := hL'.p hil
      have c1 := hL'.n hil
      have c2 := hL'.g hil
      obtain ⟨fn, tmps, assign, body, hy, hR⟩ := hY _ i wr hJs (by rw [dn_length]; exact hlt)
      dsimp only [encB] at hy
      gi_wp2
      refine hR.mono ?_
      rintro e W3 (⟨rfl, hJ3, hk3⟩ | ⟨rfl, hJx3⟩)
      · gi_wp2
        go_roundw
        case rel =>
          have hi := HI.out
          exact ⟨k + 1, by omega, by go_num, by rw [dn_succ, ← hi]; exact hJ3, hkk.trans hk3⟩
        case measure => simp [intOf]
      · gi_wp2
        refine bodyPost_ret (results_none rfl _ _ _) rfl ?_
        exact ⟨⟨_, rfl⟩, .inr ⟨_, trivial, hJx3⟩⟩
    · obtain rfl : k = len := by omega
      gi_wp2
      go_end0
      exact ⟨⟨_, rfl⟩, .inl ⟨_, rfl, hJs⟩⟩
set_option maxRecDepth 100000 in
set_option maxHeartbeats 1000000 in
/-- .. at no list: no round. -/
theorem back1_nil_in (n : Nat) (l bx : Nat) (J : List Nat → World → Prop) (W : World) (hBs : W.cell? ⟨bx, 0, none⟩ = some (.slice none 0 0)) (h0 : J [] W) :
    CallsIn Fence.wide n Try.prog 64 #[.func (.yield l) #[] #[], .pointer (some ⟨bx, 0, none⟩)] W fun e W' => (∃ v, e = .returned v) ∧ J [] W' := by
  refine callsIn_of_wp Try.func64 rfl trivial ?_ rfl
  simp only [Try.ntmps64, List.size_toArray, List.length_cons, List.length_nil, Nat.reduceAdd, Nat.reduceSub, Array.replicate_succ, Array.replicate_zero, List.push_toArray, List.append_toArray, List.nil_append, List.cons_append]
  gi_wp2
  gi_loopw [3] (fun i wr => i = .int .i64 (-1) ∧ J [] wr) (fun _ _ => 0)
  case atStart => exact ⟨rfl, h0⟩
  case round =>
    obtain ⟨rfl, hJs⟩ := hrel
    gi_wp2
    go_end0
    exact ⟨⟨_, rfl⟩, hJs⟩
set_option maxHeartbeats 1000000 in
theorem back_in (n : Nat) (a : Option Addr) (len cap : Nat) (w : World) :
    CallsIn Fence.wide n Try.prog 61 #[.slice a len cap] w fun e w' => e = .returned (.func (.func 64) #[] #[.pointer (some ⟨w.heap.size, 0, none⟩)]) ∧ w' = w.alloc (.cells #[.slice a len cap] 95) := by
  refine callsIn_of_wp Try.func61 rfl trivial ?_ rfl
  simp only [Try.ntmps61, List.size_toArray, List.length_cons, List.length_nil, Nat.reduceAdd, Nat.reduceSub, Array.replicate_succ, Array.replicate_zero, List.push_toArray, List.append_toArray, List.nil_append, List.cons_append]
  gi_wp2
  go_ret
  exact ⟨rfl, rfl⟩

/-- The list value: its blocks are in gl, or there are none. -/
def Lst (W : World) (sv : Value) (gl len : Nat) (P N : Nat → Nat) (G : Nat → Bool) : Prop :=
  (sv = .slice none 0 0 ∧ len = 0) ∨ ∃ cap, sv = .slice (some ⟨gl, 0, none⟩) len cap ∧ len ≤ cap ∧ Bs W gl len P N G
theorem back_stops (n : Nat) (hn : 1 ≤ n) (bx gl len : Nat) (P N : Nat → Nat) (G : Nat → Bool) (sv : Value) (hlen : len ≤ 4294967296) (w : World) (hbx : bx < w.heap.size) (hc : w.cell? ⟨bx, 0, none⟩ = some sv) (hI : Lst w sv gl len P N G) :
    SeqStopsK Fence.wide n Try.prog 64 #[.pointer (some ⟨bx, 0, none⟩)] (encB P N G) (K2 gl bx) (fun ys => ys = dn len len) (fun _ => True) len w := fun l J Jx W hW _ _ hY h0 => by
  have hc' := (hW.cell (p := ⟨bx, 0, none⟩) hbx).trans hc
  rcases hI with ⟨rfl, rfl⟩ | ⟨cap, rfl, hcap, hB⟩
  · exact (back1_nil_in n l bx J W hc' h0).mono fun e W' ⟨he, hj⟩ => ⟨he, .inl ⟨_, rfl, hj⟩⟩
  · obtain ⟨cs, hb, h⟩ := hB
    exact back1_in n hn l bx gl len cap P N G hlen hcap J Jx hY W hc' ⟨cs, (hW.block gl hb.lt).trans hb, h⟩ h0

theorem stickM_cong {P P' N N' : Nat → Nat} {G G' : Nat → Bool} {len : Nat} (h : ∀ i, i < len → P i = P' i ∧ N i = N' i ∧ G i = G' i) (A : AM) : stickM P N G len A = stickM P' N' G' len A := by
  induction len generalizing A with
  | zero => rfl
  | succ len ih =>
    obtain ⟨h1, h2, h3⟩ := h len (by omega)
    unfold stickM
    rw [h1, h2, h3]
    exact ih (fun i hi => h i (by omega)) _
theorem bkCells_at (L : List Bk) : ∀ i, i < L.length → (bkCells L)[i * 3]? = some (.int .i64 (plc L i : Nat)) ∧ (bkCells L)[i * 3 + 1]? = some (.int .i64 (uns L i : Nat)) ∧ (bkCells L)[i * 3 + 2]? = some (.bool (gns L i)) := by
  induction L with
  | nil => intro i hi; simp at hi
  | cons b L ih =>
    intro i hi
    cases i with
    | zero => exact ⟨rfl, rfl, rfl⟩
    | succ i =>
      have := ih i (by simpa using hi)
      have e : ∀ j, (bkCells (b :: L))[(i + 1) * 3 + j]? = (bkCells L)[i * 3 + j]? := by
        intro j
        rw [show (i + 1) * 3 + j = (i * 3 + j) + 3 by omega]
        rfl
      have e0 := e 0
      rw [Nat.add_zero, Nat.add_zero] at e0
      rw [e0, e 1, e 2]
      exact this
theorem own_lst {w : World} {base : Nat} {v : Value} {L : List Bk} (h : w.ownsRow base 102 3 v L.length (bkCells L)) (hbase : base ≤ w.heap.size) : ∃ gl, base ≤ gl ∧ gl ≤ w.heap.size ∧ Lst w v gl L.length (plc L) (uns L) (gns L) := by
  obtain ⟨hl, ⟨rfl, h0⟩ | ⟨gl, cap, cur, rfl, hgl, hcur, hn, hcap, hsz, htake⟩⟩ := h
  · exact ⟨base, Nat.le_refl _, hbase, .inl ⟨rfl, h0⟩⟩
  · refine ⟨gl, hgl, Nat.le_of_lt (Array.getElem?_eq_some_iff.1 hcur).1, .inr ⟨cap, rfl, hn, cur, hcur, fun i hi => ?_⟩⟩
    have h1 := bkCells_at L i hi
    have e : ∀ j, j < L.length * 3 → cur[j]? = (bkCells L)[j]? := by
      intro j hj
      rw [← htake, List.getElem?_take, if_pos hj, Array.getElem?_toList]
    rw [e _ (by omega), e _ (by omega), e _ (by omega)]
    exact h1
theorem Lst.on {s : Nat → Prop} {w w' : World} {v : Value} {gl len : Nat} {P N : Nat → Nat} {G : Nat → Bool} (h : Lst w v gl len P N G) (ho : On s w w') (hs : ¬ s gl) : Lst w' v gl len P N G := by
  rcases h with h | ⟨cap, h1, h2, h3⟩
  · exact .inl h
  · exact .inr ⟨cap, h1, h2, h3.on ho hs⟩
set_option maxRecDepth 100000 in
theorem join_nil (w : World) : Calls Try.prog 60 #[.slice none 0 0] w fun e w' => e = .returned (.tuple #[]) ∧ On (fun _ => False) w w' := by
  have hmm := @run_makeMap Try.prog
  go_enter Try.func60, Try.ntmps60
  go_wp2_with fail
  go_loopw [12] (fun i wr => i = .int .i64 0 ∧ On (fun _ => False) w wr) (fun _ _ => 0)
  case atStart => exact ⟨rfl, (on_refl _ _).alloc _⟩
  case round =>
    obtain ⟨rfl, hO⟩ := hrel
    go_wp2_with fail
    go_loopw [5] (fun i wr => i = .int .i64 (-1) ∧ On (fun _ => False) w wr) (fun _ _ => 0)
    case atStart => exact ⟨rfl, hO⟩
    case round =>
      clear hO
      obtain ⟨rfl, hO⟩ := hrel
      go_wp2_with fail
      go_end0
      exact ⟨rfl, hO⟩
/-- join, of a list or of none. -/
theorem join_lst {w : World} {v : Value} {gl len : Nat} {P N : Nat → Nat} {G : Nat → Bool} {A : AM} {H : List Bk} (h : Lst w v gl len P N G) (hi : Inv A (mkB P N G len ++ H)) (hd : Ds P len) (hP : ∀ i, i < len → P i ≤ 4294967296) (hlen : len ≤ 4294967296) :
    Calls Try.prog 60 #[v] w fun e w' =>
      e = .returned (.tuple #[]) ∧ Lst w' v gl len P (joinM P len len (N, G)).1 (joinM P len len (N, G)).2 ∧ Inv A (mkB P (joinM P len len (N, G)).1 (joinM P len len (N, G)).2 len ++ H) ∧ On (fun k => k = gl) w w' := by
  rcases h with ⟨rfl, rfl⟩ | ⟨cap, rfl, h2, h3⟩
  · refine (join_nil w).mono ?_
    rintro e w' ⟨rfl, h⟩
    exact ⟨rfl, .inl ⟨rfl, rfl⟩, hi, h.mono fun _ h => h.elim⟩
  · refine (join_any h3 hi hd hP hlen h2).mono ?_
    rintro e w' ⟨rfl, h4, h5, h6⟩
    exact ⟨rfl, .inr ⟨cap, rfl, h2, h4⟩, h5, h6⟩

theorem On.trans' {s s' : Nat → Prop} {w w' w2 : World} (h : On s w w') (k : On s' w' w2) (hs : ∀ k, s' k → w.heap.size ≤ k) : On s w w2 :=
  ⟨k.os.trans h.os, k.tape.trans h.tape, k.output.trans h.output, Nat.le_trans h.size k.size, fun i hi hr => (k.block i (Nat.lt_of_lt_of_le hi h.size) (fun e => by have := hs i e; omega)).trans (h.block i hi hr)⟩
theorem own_no {W : World} {row : Option Nat} {k : Nat} {t : TypeId} {cs : Array Value} (h : Blk W k t cs) (hr : ∀ r, row = some r → ∃ o : Obj, W.heap[r]? = some o ∧ o.isCells = false) : ¬ row = some k := by
  intro e
  obtain ⟨o, h1, h2⟩ := hr k e
  rw [show W.heap[k]? = _ from h] at h1
  cases h1
  cases h2
theorem Ay.blk {c : Prop} {W : World} {g gm : Nat} {mt : Value} {A : AM} {H : List Bk} (h : Ay c W g gm mt A H) : (∃ cs, Blk W g 69 cs) ∧ ∃ ds, Blk W gm 5 ds := by
  obtain ⟨⟨F, M, cs, ds, h1, h2, -⟩, -⟩ := h
  exact ⟨⟨cs, h1⟩, ds, h2⟩
/-- What the rounds of stick keep. -/
def StI (w : World) (g gm : Nat) (mt : Value) (A0 : AM) (H : List Bk) (P N : Nat → Nat) (G : Nat → Bool) (len : Nat) (fin : AM) (n0 : Nat) (pre : List Nat) (W : World) : Prop :=
  n0 ≤ W.heap.size ∧ (∃ A, A.size = A0.size ∧ Ay (pre = dn len pre.length) W g gm mt A (mkB P N G (len - pre.length) ++ H) ∧ (pre = dn len pre.length → stickM P N G (len - pre.length) A = fin)) ∧ Blk W w.heap.size 25 #[.pointer (some ⟨g, 0, none⟩)] ∧ On (two g gm) w W

section
variable {w : World} {g gm : Nat} {mt : Value} {A : AM} {H : List Bk}
theorem stI_own {P N : Nat → Nat} {G : Nat → Bool} {len n0 : Nat} {fin : AM} (hn : w.heap.size ≤ n0) : OwnFrom n0 (StI w g gm mt A H P N G len fin n0) := by
  intro pre W W' row hs hg hr
  obtain ⟨h0, ⟨A', h1, h2, h3⟩, h4, h5⟩ := hs
  obtain ⟨⟨cs, hb1⟩, ds, hb2⟩ := h2.blk
  have hr2 : ∀ r, row = some r → ∃ o : Obj, W.heap[r]? = some o ∧ o.isCells = false := fun r e => (hr r e).2
  have o1 : On (fun k => row = some k) W W' := On.of_grown hg fun k e => e
  exact ⟨Nat.le_trans h0 hg.size, ⟨A', h1, h2.on o1 (own_no hb1 hr2) (own_no hb2 hr2), h3⟩, h4.on o1 (own_no h4 hr2), h5.trans' o1 fun k e => Nat.le_trans hn (hr k e).1⟩
theorem stI_alloc {P N : Nat → Nat} {G : Nat → Bool} {len n0 : Nat} {fin : AM} {pre : List Nat} {W : World} (h : StI w g gm mt A H P N G len fin n0 pre W) (o : Obj) : StI w g gm mt A H P N G len fin n0 pre (W.alloc o) := by
  obtain ⟨h0, ⟨A', h1, h2, h3⟩, h4, h5⟩ := h
  exact ⟨by simp; omega, ⟨A', h1, h2.on (s := fun _ => False) ((on_refl _ _).alloc _) id id, h3⟩, h4.alloc _, h5.alloc _⟩
theorem mkB_succ (P N : Nat → Nat) (G : Nat → Bool) (i : Nat) : mkB P N G (i + 1) = mkB P N G i ++ [⟨P i, N i, G i⟩] := by simp [mkB, List.range_succ]
theorem stickM_succ (P N : Nat → Nat) (G : Nat → Bool) (i : Nat) (A : AM) : stickM P N G (i + 1) A = stickM P N G i (if G i then A else layM A (P i) (N i)) := rfl
theorem dn_next {len x : Nat} {pre : List Nat} (h : pre ++ [x] = dn len (pre ++ [x]).length) : pre = dn len pre.length ∧ x = len - 1 - pre.length := by
  rw [List.length_append, List.length_singleton, dn_succ] at h
  have h1 := List.append_inj h (by rw [dn_length])
  exact ⟨h1.1, by simpa using h1.2⟩
theorem Ay.imp {c c' : Prop} {W : World} {A' : AM} {H H' : List Bk} (h : Ay c W g gm mt A' H) (hc : c' → c ∧ H.Perm H') : Ay c' W g gm mt A' H' := ⟨h.1, fun k => (h.2 (hc k).1).swap (hc k).2⟩
theorem Ay.split {c : Prop} {W : World} {A' : AM} {H : List Bk} {p a b : Nat} (h : Ay c W g gm mt A' (⟨p, a + b, false⟩ :: H)) (ha : 1 ≤ a) (hb : 1 ≤ b) : Ay c W g gm mt A' (⟨p, a, false⟩ :: ⟨p + 12 * a, b, false⟩ :: H) :=
  ⟨h.1, fun k => ⟨(h.2 k).1.split ha hb, (h.2 k).2⟩⟩
theorem keeps_on {s : Nat → Prop} {W W' : World} (h : On s W W') (hs : ∀ k, s k → ∃ t cs, Blk W k t cs) (B : Nat) : KeepsFrom B W W' := by
  refine ⟨h.size, fun k o _ hk ho => ?_⟩
  rw [h.block k (Array.getElem?_eq_some_iff.1 hk).1 ?_]
  · exact hk
  · intro e
    obtain ⟨t, cs, hb⟩ := hs k e
    rw [show W.heap[k]? = _ from hb] at hk
    cases hk
    cases ho
/-- The units of the loop's block. -/
def nOf (W : World) (bx : Nat) : Nat := match W.cell? ⟨bx, 1, none⟩ with | some (.int _ n) => n.toNat | _ => 0
def three (g gm bx : Nat) : Nat → Prop := fun k => k = g ∨ k = gm ∨ k = bx
/-- What the loop over the great pieces keeps. -/
def StL (w W : World) (g gm : Nat) (mt : Value) (A0 : AM) (H1 : List Bk) (c : Prop) (lay : AM) (bx : Nat) (wr : World) : Prop :=
  ∃ p n A1, A1.size = A0.size ∧ Blk wr bx 102 #[.int .i64 (p : Nat), .int .i64 (n : Nat), .bool false] ∧ Ay c wr g gm mt A1 (⟨p, n, false⟩ :: H1) ∧ (c → layM A1 p n = lay) ∧ 1 ≤ n ∧ p + 12 * n ≤ A0.size + 1
    ∧ On (three g gm bx) W wr ∧ On (two g gm) w wr ∧ Blk wr w.heap.size 25 #[.pointer (some ⟨g, 0, none⟩)]
theorem K2.alloc (gl bx : Nat) (W : World) (o : Obj) : K2 gl bx W (W.alloc o) := fun k _ hl => ⟨Below.heap_alloc W o k hl, by simp; omega⟩
theorem K2.putObj {gl bx n0 l : Nat} (W : World) (o' : Obj) (h1 : gl < n0) (h2 : bx < n0) (hl : n0 ≤ l) : K2 gl bx W (W.putObj l o') := fun k hk h => by
  have hkl : k ≠ l := by rcases hk with rfl | rfl <;> omega
  exact ⟨World.putObj_heap_other (by omega), by simp [World.putObj]; omega⟩
set_option maxRecDepth 100000 in
set_option maxHeartbeats 4000000 in
theorem stick_any (h : Ax w g gm mt A H) :
    Calls Try.prog 49 #[.pointer (some ⟨g, 0, none⟩)] w fun e w' => e = .returned (.tuple #[]) ∧ Ax w' g gm mt (glueM A) H ∧ On (two g gm) w w' := by
  obtain ⟨hlg, hlgm, hne⟩ := h.lt
  obtain ⟨hi, M, ha, hc⟩ := h
  have c1 := ha.glue
  have f1 := ha.free 212
  have ha1 := ha.putGlue 255
  have ho1 : On (two g gm) w (w.setCell ⟨g, 212, none⟩ (.int .u32 ((255 : Nat) : Int))) := (on_refl _ w).put (.inl rfl) _
  have hb2 : Blk ((w.setCell ⟨g, 212, none⟩ (.int .u32 ((255 : Nat) : Int))).alloc (.cells #[.pointer (some ⟨g, 0, none⟩)] 25)) w.heap.size 25 #[.pointer (some ⟨g, 0, none⟩)] := by
    have := Blk.new (w.setCell ⟨g, 212, none⟩ (.int .u32 ((255 : Nat) : Int))) 25 #[.pointer (some ⟨g, 0, none⟩)]
    simpa using this
  have ha2 := ha1.on (s := fun _ => False) ((on_refl _ _).alloc (.cells #[.pointer (some ⟨g, 0, none⟩)] 25)) id id
  have ho2 := ho1.alloc (.cells #[.pointer (some ⟨g, 0, none⟩)] 25)
  have hi2 : Inv { A with glue := 255 } H := ⟨hi.dj, hi.inn, hi.text, hi.ord, hi.gap, Nat.le_refl _, hi.size⟩
  have hx2 : Ax _ g gm mt { A with glue := 255 } H := ⟨hi2, M, ha2, hc⟩
  have e255 : ((255 : Nat) : Int) = 255 := rfl
  rw [e255] at hb2 ho2 hx2
  have BL := blocks_any hx2
  obtain ⟨fin, hfin0⟩ : ∃ fin, fin = glueM A := ⟨_, rfl⟩
  rw [← hfin0]
  refine (callsIn_wide (n := 8)).1 ?_
  refine callsIn_of_wp_marks Try.func49 rfl trivial ?_ rfl
  simp only [Try.ntmps49, List.size_toArray, List.length_cons, List.length_nil, Nat.reduceAdd, Nat.reduceSub, Array.replicate_succ, Array.replicate_zero, List.push_toArray, List.append_toArray, List.nil_append, List.cons_append]
  gi_wp2
  refine ⟨trivial, ?_⟩
  refine (callsIn_wide.2 BL).mono ?_
  clear BL
  rintro e w3 ⟨v, rfl, hown, hx3, ho3⟩
  have hlb := hb2.lt
  have hb3 := hb2.on ho3 (by unfold two; omega)
  obtain ⟨gl, hgl, hgl3, hls⟩ := own_lst hown ho3.size
  have ho := ho2.trans ho3
  have hsz2 : w.heap.size < ((w.setCell ⟨g, 212, none⟩ (.int .u32 255)).alloc (.cells #[.pointer (some ⟨g, 0, none⟩)] 25)).heap.size := by simp
  have hgl : w.heap.size < gl := by omega
  clear ho2 ho3 hb2 hx2 hown ha2 hi2 ho1 ha1 hlb hsz2
  change Ax w3 g gm mt (bare A) (frees A.rows ++ H) at hx3
  have em : frees A.rows = mkB (plc (frees A.rows)) (uns (frees A.rows)) (gns (frees A.rows)) (frees A.rows).length := mk_of _
  have hinv := hx3.inv
  rw [em] at hinv
  have hg0 : ∀ i, i < (frees A.rows).length → gns (frees A.rows) i = false := by
    intro i hil
    have : (frees A.rows)[i] ∈ frees A.rows := List.getElem_mem hil
    obtain ⟨k, -, hb⟩ := List.mem_flatMap.1 this
    obtain ⟨x, -, he⟩ := List.mem_map.1 hb
    unfold gns
    rw [List.getElem?_eq_getElem hil, ← he]
    rfl
  have hds := hinv.ds hg0
  have few := hi.few
  have hAs := hi.size
  have hP : ∀ i, i < (frees A.rows).length → plc (frees A.rows) i ≤ 4294967296 := by
    intro i hil
    rcases hinv.inn _ (List.mem_append.2 (.inr (List.mem_append.2 (.inl (mem_mk.2 ⟨i, hil, rfl⟩))))) with e | e
    · rw [hg0 i hil] at e; cases e
    · have := e.2.2.1; dsimp only at this; change _ ≤ A.size + 1 at this; omega
  have JN := join_lst hls hinv hds hP (by omega)
  have hfin : stickM (plc (frees A.rows)) (joinM (plc (frees A.rows)) (frees A.rows).length (frees A.rows).length (uns (frees A.rows), gns (frees A.rows))).1 (joinM (plc (frees A.rows)) (frees A.rows).length (frees A.rows).length (uns (frees A.rows), gns (frees A.rows))).2 (frees A.rows).length (bare A) = fin := hfin0.symm
  clear hds hg0 hP em hinv hls hfin0
  generalize (frees A.rows).length = len at *
  generalize plc (frees A.rows) = P at *
  generalize joinM P len len (uns (frees A.rows), gns (frees A.rows)) = s at *
  obtain ⟨N, G⟩ := s
  dsimp only at JN hfin
  have HF := Lib.hid hfin
  clear hfin
  gi_wp2
  refine ⟨trivial, ?_⟩
  refine (callsIn_wide.2 JN).mono ?_
  clear JN
  rintro e w4 ⟨rfl, hls, hinv, ho4⟩
  have hb4 := hb3.on ho4 (by omega)
  have hgl4 : gl ≤ w4.heap.size := Nat.le_trans hgl3 ho4.size
  have hxA : Ax w4 g gm mt (bare A) (mkB P N G len ++ H) := ⟨hinv, (hx3.on ho4 (by omega) (by omega)).2⟩
  have ho := ho.trans' ho4 (by intro k hk; omega)
  clear hb3 ho4 hx3
  obtain ⟨Gt, hGt⟩ : ∃ Gt : Nat → Bool, Gt = fun x => if x < len then G x else true := ⟨_, rfl⟩
  have hGe : ∀ i, i < len → P i = P i ∧ N i = N i ∧ G i = Gt i := by
    intro i hil; rw [hGt]; dsimp only; rw [if_pos hil]; exact ⟨rfl, rfl, rfl⟩
  have hall : ∀ x, Gt x = false → 1 ≤ N x ∧ P x + 12 * N x ≤ A.size + 1 := by
    intro x hx
    rw [hGt] at hx
    dsimp only at hx
    split at hx
    · rename_i hxl
      rcases hinv.inn _ (List.mem_append.2 (.inr (List.mem_append.2 (.inl (mem_mk.2 ⟨x, hxl, rfl⟩))))) with e | e
      · dsimp only at e; rw [hx] at e; cases e
      · exact ⟨e.1, e.2.2.1⟩
    · cases hx
  have hls' : Lst w4 v gl len P N Gt := by
    rcases hls with h | ⟨cap, h1, h2, cs, hb, h3⟩
    · exact .inl h
    · exact .inr ⟨cap, h1, h2, cs, hb, fun i hil => by rw [← (hGe i hil).2.2]; exact h3 i hil⟩
  rw [mk_cong hGe] at hxA
  have hfin := HF.out
  rw [stickM_cong hGe] at hfin
  have HF := Lib.hid hfin
  have hlen : len ≤ 4294967296 := by omega
  clear hfin hGe hls hinv hGt few
  obtain ⟨a, cp, rfl⟩ : ∃ a cp, v = .slice a len cp := by
    rcases hls' with ⟨h1, h2⟩ | ⟨cap, h1, -⟩
    · exact ⟨none, 0, by rw [h1, h2]⟩
    · exact ⟨_, _, h1⟩
  gi_wp2
  refine ⟨trivial, ?_⟩
  refine (back_in _ _ _ _ _).mono ?_
  rintro e w5 ⟨rfl, hw5⟩
  have hb5 : Blk w5 w.heap.size 25 #[.pointer (some ⟨g, 0, none⟩)] := by rw [hw5]; exact hb4.alloc _
  have bx5 : Blk w5 w4.heap.size 95 #[.slice a len cp] := by rw [hw5]; exact Blk.new _ _ _
  have ho5 : On (two g gm) w w5 := by rw [hw5]; exact ho.alloc _
  have hx5 : Ax w5 g gm mt (bare A) (mkB P N Gt len ++ H) := by rw [hw5]; exact hxA.on (s := fun _ => False) ((on_refl _ _).alloc _) id id
  have hl5 : Lst w5 (.slice a len cp) gl len P N Gt := by rw [hw5]; exact hls'.on (s := fun _ => False) ((on_refl _ _).alloc _) id
  have hs5 : w5.heap.size = w4.heap.size + 1 := by rw [hw5]; simp
  have hs4 : w.heap.size < w4.heap.size := hb4.lt
  clear hb4 ho hxA hls' hw5
  gi_wp2
  have hxx : StI w g gm mt A H P N Gt len fin w5.heap.size [] w5 :=
    ⟨Nat.le_refl _, ⟨bare A, rfl, ⟨hx5.ar, fun _ => by simpa using hx5⟩, fun _ => by simpa using HF.out⟩, hb5, ho5⟩
  have cbx := bx5.cell 0
  refine wpIn_rangeFunc_ownH rfl (by omega) (gf := 64) (lb := #[.pointer (some ⟨w4.heap.size, 0, none⟩)]) rfl trivial (enters_of Try.func64 (by kernel_rfl) rfl)
    (back_stops _ (by omega) w4.heap.size gl len P N Gt _ hlen w5 (by omega) cbx hl5) (fun h k => K2.trans h k) (fun W l o o' hl _ _ _ => K2.putObj W o' (by omega) (by omega) hl) (Below.refl _ _) (fun _ => rfl)
    (StI w g gm mt A H P N Gt len fin w5.heap.size) (fun _ _ _ => False) (stI_own (by omega)) (fun _ _ _ _ _ hs _ _ => hs) hxx
    (fun x a' W => ∃ Bx, w5.heap.size ≤ Bx ∧ Blk W Bx 102 #[.int .i64 (P x : Nat), .int .i64 (N x : Nat), .bool (Gt x)] ∧ a' = { tmps := #[.pointer (some ⟨g, 0, none⟩), .pointer (some ⟨w.heap.size, 0, none⟩), .slice a len cp, undef, .pointer (some ⟨Bx, 0, none⟩), .pointer (some ⟨g, 0, none⟩), .pointer (some ⟨g, 0, none⟩), .pointer (some ⟨g, 212, none⟩), .pointer (some ⟨g, 0, none⟩), .slice a len cp, .slice a len cp, .tuple #[], .slice a len cp, .func (.func 64) #[] #[.pointer (some ⟨w4.heap.size, 0, none⟩)], .int .i64 (x : Int), .agg #[.int .i64 (P x : Nat), .int .i64 (N x : Nat), .bool (Gt x)], undef, undef, undef, undef, undef, undef, undef, undef, undef, undef, undef, undef, undef, undef, undef, undef, undef, undef, undef, undef, undef, undef, undef], defers := [] })
    (fun x a' _ X Y row hs hg hr => by
      obtain ⟨Bx, h1, h2, h3⟩ := hs
      exact ⟨Bx, h1, h2.on (s := fun k => row = some k) (On.of_grown hg fun k e => e) (own_no h2 fun r e => (hr r e).2), h3⟩)
    ?assign ?body ?done ?stop
  case assign =>
    rintro l pre x W K hI hK
    have hsz := hI.1
    simp only [encB]
    gi_wp2
    exact hK _ _ ((KeepsOthers.alloc _ _).from _) (K2.alloc _ _ _ _) (stI_alloc hI _) ⟨W.heap.size, hsz, Blk.new _ _ _, rfl⟩
  case body =>
    rintro l pre x a' W hl ⟨r, hr⟩ hI ⟨Bx, hBx, hbx, rfl⟩ hlt
    obtain ⟨h0, ⟨A', h1, h2, h3⟩, h4, h5⟩ := hI
    have cg := hbx.cell 2
    have cp := hbx.cell 0
    have cn := hbx.cell 1
    simp at cg cp cn
    have hlen1 : (pre ++ [x]).length = pre.length + 1 := by simp
    cases hgx : Gt x with
    | true =>
      rw [hgx] at cg
      gi_wp2
      refine ⟨KeepsFrom.refl _ _, K2.refl _ _ _, h0, ⟨A', h1, ?_, ?_⟩, h4, h5⟩
      · refine ⟨h2.1, fun hc' => ?_⟩
        obtain ⟨e1, e2⟩ := dn_next hc'
        have hh := h2.2 e1
        have ek : len - pre.length = (len - (pre ++ [x]).length) + 1 := by omega
        rw [ek, mkB_succ] at hh
        have ex : len - (pre ++ [x]).length = x := by omega
        rw [ex] at hh ⊢
        have hp : (mkB P N Gt x ++ [(⟨P x, N x, Gt x⟩ : Bk)] ++ H).Perm ((⟨P x, N x, Gt x⟩ : Bk) :: (mkB P N Gt x ++ H)) := by
          rw [List.append_assoc]; exact List.perm_middle
        exact ⟨(hh.1.swap hp).drop, hh.2⟩
      · intro hc'
        obtain ⟨e1, e2⟩ := dn_next hc'
        rw [← h3 e1]
        have ek : len - pre.length = (len - (pre ++ [x]).length) + 1 := by omega
        have ex : len - (pre ++ [x]).length = x := by omega
        rw [ek, ex, stickM_succ, hgx, if_pos rfl]
    | false =>
      rw [hgx] at cg hbx
      obtain ⟨hb1, hb2⟩ := hall x hgx
      have hy : Ay (pre ++ [x] = dn len (pre ++ [x]).length) W g gm mt A' (⟨P x, N x, false⟩ :: (mkB P N Gt (len - (pre ++ [x]).length) ++ H)) := by
        refine h2.imp fun hc' => ?_
        obtain ⟨e1, e2⟩ := dn_next hc'
        refine ⟨e1, ?_⟩
        have ek : len - pre.length = (len - (pre ++ [x]).length) + 1 := by omega
        have ex : len - (pre ++ [x]).length = x := by omega
        rw [ek, mkB_succ, ex, hgx, List.append_assoc]
        exact List.perm_middle
      have hst : pre ++ [x] = dn len (pre ++ [x]).length → stickM P N Gt (len - (pre ++ [x]).length) (layM A' (P x) (N x)) = fin := by
        intro hc'
        obtain ⟨e1, e2⟩ := dn_next hc'
        have hh := h3 e1
        have ek : len - pre.length = (len - (pre ++ [x]).length) + 1 := by omega
        have ex : len - (pre ++ [x]).length = x := by omega
        rw [ek, stickM_succ, ex, hgx, if_neg (by simp)] at hh
        rw [ex]
        exact hh
      have HST := Lib.hid hst
      obtain ⟨⟨csg, hbg⟩, dsg, hbm⟩ := hy.blk
      have HKP : ∀ W', On (three g gm Bx) W W' → KeepsFrom w5.heap.size W W' ∧ K2 gl w4.heap.size W W' := fun W' h => by
        refine ⟨keeps_on h (fun k hk => ?_) _, K2.of_on h ?_ ?_⟩
        · rcases hk with rfl | rfl | rfl
          · exact ⟨_, _, hbg⟩
          · exact ⟨_, _, hbm⟩
          · exact ⟨_, _, hbx⟩
        · unfold three; omega
        · unfold three; omega
      have HKP := Lib.hid HKP
      obtain ⟨c, hcd⟩ : ∃ c : Prop, c = (pre ++ [x] = dn len (pre ++ [x]).length) := ⟨_, rfl⟩
      obtain ⟨H1, hH1⟩ : ∃ H1, H1 = mkB P N Gt (len - (pre ++ [x]).length) ++ H := ⟨_, rfl⟩
      rw [← hcd, ← hH1] at hy
      have HC := Lib.hid hcd
      have HH := Lib.hid hH1
      clear h2 h3 hst hbg hbm hcd hH1
      gi_wp2
      gi_loopw [18] (fun _ wr => StL w W g gm mt A H1 c (layM A' (P x) (N x)) Bx wr) (fun _ wr => nOf wr Bx)
      case atStart => exact ⟨P x, N x, A', h1, hbx, hy, fun _ => rfl, hb1, hb2, on_refl _ _, h5, h4⟩
      case round =>
        clear hbx hy h5 h4 cg cp cn
        obtain ⟨p, m, A1, k1, k2, k3, k4, k5, k6, k7, k8, k9⟩ := hrel
        have cp := k2.cell 0
        have cn := k2.cell 1
        have cb := k9.cell 0
        simp at cp cn cb
        by_cases hbig : 128 < m
        · have hm : (128 : Int) < m := by omega
          have k3' : Ay c wr g gm mt A1 (⟨p, 128 + (m - 128), false⟩ :: H1) := by rw [show 128 + (m - 128) = m by omega]; exact k3
          have PT := put_both (k3'.split (by omega) (by omega)) (r := 37) (by rw [k1]; omega) (by omega) rfl
          have fp := k2.free 0
          have fn := k2.free 1
          gi_wp2
          refine ⟨trivial, ?_⟩
          refine (CallsIn.inRound l (callsIn_wide.2 PT)).mono ?_
          rintro e w6 ⟨rfl, q1, q2⟩
          have r2 := k2.on q2 (by unfold two; omega)
          have cp6 := r2.cell 0
          have cn6 := r2.cell 1
          have fp6 := r2.free 0
          have fn6 := r2.free 1
          simp at cp6 cn6
          have o6 := k7.trans (q2.mono (s' := three g gm Bx) (by unfold two three; omega))
          have r3 := (r2.put 0 (.int .i64 ((p + 1536 : Nat) : Int))).put 1 (.int .i64 ((m - 128 : Nat) : Int))
          have o7 := (o6.put (g := Bx) (i := 0) (by unfold three; omega) (.int .i64 ((p + 1536 : Nat) : Int))).put (g := Bx) (i := 1) (by unfold three; omega) (.int .i64 ((m - 128 : Nat) : Int))
          have o8 := (on_refl (fun k => k = Bx) w6).put (g := Bx) (i := 0) rfl (.int .i64 ((p + 1536 : Nat) : Int)) |>.put (g := Bx) (i := 1) rfl (.int .i64 ((m - 128 : Nat) : Int))
          have q3 := q1.on o8 (by omega) (by omega)
          have k8' := (k8.trans q2).trans' o8 (by intro k hk; omega)
          have k9' := (k9.on q2 (by unfold two; omega)).on o8 (by omega)
          have ep : ((p + 1536 : Nat) : Int) = (p : Int) + 1536 := by omega
          have em : ((m - 128 : Nat) : Int) = (m : Int) - 128 := by omega
          rw [ep, em] at r3 o7 q3 k8' k9'
          clear cp cn fp fn o8 PT k3 k3' cb
          gi_wp2
          go_roundw
          case rel =>
            refine ⟨p + 1536, m - 128, putM A1 p 37, k1, ?_, q3, fun hc' => ?_, by omega, by omega, o7, k8', k9'⟩
            · rw [ep, em]; exact r3
            · rw [← k4 hc', layM_far hbig]
          case measure =>
            have e1 : nOf ((w6.setCell ⟨Bx, 0, none⟩ (.int .i64 ((p : Int) + 1536))).setCell ⟨Bx, 1, none⟩ (.int .i64 ((m : Int) - 128))) Bx = m - 128 := by
              unfold nOf
              rw [r3.cell]
              show ((m : Int) - 128).toNat = m - 128
              omega
            have e2 : nOf wr Bx = m := by
              unfold nOf
              rw [k2.cell]
              rfl
            rw [e1, e2]
            omega
        · have hm : ¬ (128 : Int) < m := by omega
          have SP := spread_both k3 k5 (by omega) (by rw [k1]; exact k6)
          gi_wp2
          refine ⟨trivial, ?_⟩
          refine (CallsIn.inRound l (callsIn_wide.2 SP)).mono ?_
          rintro e W' ⟨rfl, q1, q2⟩
          have o2 := k7.trans (q2.mono (s' := three g gm Bx) (by unfold two three; omega))
          gi_wp2
          refine ⟨(HKP.out W' o2).1, (HKP.out W' o2).2, Nat.le_trans h0 o2.size, ⟨restM A1 p m, by rw [(restM_same A1 p m).1]; exact k1, by rw [← HC.out, ← HH.out]; exact q1, fun hc' => ?_⟩, k9.on q2 (by unfold two; omega), k8.trans q2⟩
          have hc2 := hc'
          rw [← HC.out] at hc2
          rw [← HST.out hc', ← k4 hc2, layM_rest k5 (by omega)]
  case done =>
    rintro D ys W hD rfl hI hK
    gi_wp2
    obtain ⟨h0, ⟨A', h1, h2, h3⟩, h4, h5⟩ := hI
    have e1 : dn len len = dn len (dn len len).length := by rw [dn_length]
    have hh := h2.2 e1
    have hf := h3 e1
    rw [dn_length, Nat.sub_self] at hh hf
    have hDw : w.heap.size < D := by omega
    have hon : On (fun k => k = D) W (W.putObj D (.deferred none)) := On.of_grown (grownBy_putObj' W D (.deferred none)) fun k e => by cases e; rfl
    refine ⟨by simp, .inl ⟨_, _, rfl, run_takeDeferred hK, ?_⟩⟩
    refine ⟨_, results_none rfl _ _ _, rfl, ?_, h5.trans' hon (by intro k hk; omega)⟩
    rw [← hf]
    exact hh.on hon (by omega) (by omega)
  case stop =>
    rintro D c pre W _ _ h _
    exact h.elim
end
end Go.Proofs.Ytplhonlgbidemaa
