/- The document's glue: what its second and its third part keep. -/
import Derived.Test.YtplhonlgbidemaaArDi
namespace Go.Proofs.Ytplhonlgbidemaa
open Go.RowKit

theorem On.high {s : Nat → Prop} {w w' : World} (h : On s w w') {b : Nat} (hb : w.heap.size ≤ b) (i : Nat) (v : Value) : On s w (w'.setCell ⟨b, i, none⟩ v) := by
  have k := (on_refl (fun k => k = b) w').put (g := b) (i := i) rfl v
  exact ⟨k.os.trans h.os, k.tape.trans h.tape, k.output.trans h.output, Nat.le_trans h.size k.size, fun i hi hr => (k.block i (Nat.lt_of_lt_of_le hi h.size) (fun e => by omega)).trans (h.block i hi hr)⟩
theorem upf_self {α : Type} (f : Nat → α) (i : Nat) : upf f i (f i) = f := by
  funext j; unfold upf; split
  · subst_vars; rfl
  · rfl
theorem upf_upf {α : Type} (f : Nat → α) (i : Nat) (u v : α) : upf (upf f i u) i v = upf f i v := by
  funext j; unfold upf; split <;> rfl
theorem upf_at {α : Type} (f : Nat → α) (i : Nat) (v : α) : upf f i v i = v := if_pos rfl
theorem stick_far {P N : Nat → Nat} {G : Nat → Bool} {i p n : Nat} (k : Nat) : ∀ A : AM, k ≤ i → stickM (upf P i p) (upf N i n) G k A = stickM P N G k A := by
  induction k with
  | zero => intro A _; rfl
  | succ k ih =>
    intro A h
    unfold stickM
    have e1 : upf P i p k = P k := if_neg (by omega)
    have e2 : upf N i n k = N k := if_neg (by omega)
    rw [e1, e2]
    exact ih _ (by omega)
theorem mk_far {P N : Nat → Nat} {G : Nat → Bool} {i p n : Nat} : mkB (upf P i p) (upf N i n) G i = mkB P N G i :=
  mk_cong fun j hj => ⟨if_neg (by omega), if_neg (by omega), rfl⟩
theorem mk_more (P N : Nat → Nat) (G : Nat → Bool) (i : Nat) : mkB P N G (i + 1) = mkB P N G i ++ [⟨P i, N i, G i⟩] := by simp [mkB, List.range_succ]
theorem row_frees (rows : Nat → List Nat) {i : Nat} (hi : i < 38) : (rows i).length ≤ (frees rows).length := by
  have h : ((List.range 38).flatMap fun i => bks i (rows i)).length = (frees rows).length := rfl
  rw [← h, List.length_flatMap]
  have : (rows i).length ∈ (List.range 38).map fun i => (bks i (rows i)).length := List.mem_map.2 ⟨i, List.mem_range.2 hi, by simp [bks]⟩
  generalize ((List.range 38).map fun i => (bks i (rows i)).length) = l at *
  induction l with
  | nil => cases this
  | cons x l ih =>
    rw [List.sum_cons]
    rcases List.mem_cons.1 this with e | e
    · omega
    · have := ih e; omega
theorem Inv.short {A : AM} {H : List Bk} (h : Inv A H) (hs : A.size ≤ 1000000) (k : Nat) (hk : k ≤ 15000000) : Few A k := by
  intro i hi
  have := row_frees A.rows hi
  have := h.few
  omega

theorem restM_size (A : AM) (p n : Nat) : (restM A p n).size = A.size := by unfold restM; split <;> rfl
/-- The blocks that glue writes. -/
def B4 (r ba bn bi : Nat) : Nat → Prop := fun k => k = r ∨ k = ba ∨ k = bn ∨ k = bi
/-- What the second part keeps. -/
structure Gx (w : World) (r : Nat) (A : AM) (H : List Bk) (ba bn bi len : Nat) (P N : Nat → Nat) (G : Nat → Bool) (wx : World) : Prop where
  tri : Tri wx ba bn bi len P N G
  inv : Inv (bare A) (mkB P N G len ++ H)
  rf : RfB wx (B4 r ba bn bi) r (bare A)
  on : On (fun k => k = r) w wx
/-- How many blocks count still. -/
def alive3 (w : World) (bi len : Nat) : Nat := cnt (fun i => match w.cell? ⟨bi, i, none⟩ with | some (.bool false) => false | _ => true) len
def moreOf : Value → Nat
  | .bool true => 1
  | _ => 0
def nAt (w : World) (bn i : Nat) : Nat := match w.cell? ⟨bn, i, none⟩ with | some (.int _ n) => n.toNat | _ => 0
theorem cnt_like {G G' : Nat → Bool} {n : Nat} (h : ∀ i, i < n → G i = G' i) : cnt G n = cnt G' n := by
  induction n with
  | zero => rfl
  | succ n ih => unfold cnt; rw [ih fun i hi => h i (by omega), h n (by omega)]
theorem alive3_of {w : World} {ba bn bi len : Nat} {P N : Nat → Nat} {G : Nat → Bool} (h : Tri w ba bn bi len P N G) : alive3 w bi len = cnt G len := by
  refine cnt_like fun i hi => ?_
  rw [h.g.cell hi]
  cases G i <;> rfl
theorem nAt_of {w : World} {ba bn bi len i : Nat} {P N : Nat → Nat} {G : Nat → Bool} (h : Tri w ba bn bi len P N G) (hi : i < len) : nAt w bn i = N i := by
  unfold nAt
  rw [h.n.cell hi]
  rfl
section
variable {w wx : World} {r : Nat} {A : AM} {H : List Bk} {ba bn bi len : Nat} {P N : Nat → Nat} {G : Nat → Bool}
theorem Gx.drewN (h : Gx w r A H ba bn bi len P N G wx) (n : Nat) : Gx w r A H ba bn bi len P N G (wx.drewN n) :=
  ⟨h.tri.on ((on_refl (fun _ => False) _).drewN n) id id id, h.inv, h.rf.on ((on_refl (fun _ => False) _).drewN n) id (fun _ e => e.elim), h.on.drewN n⟩
theorem Gx.fits (h : Gx w r A H ba bn bi len P N G wx) {i : Nat} (hi : i < len) (hg : G i = false) : 1 ≤ N i ∧ P i + 12 * N i ≤ A.size + 1 := by
  rcases h.inv.inn ⟨P i, N i, G i⟩ (List.mem_append.2 (.inr (List.mem_append.2 (.inl (mem_mk.2 ⟨i, hi, rfl⟩))))) with e | e
  · dsimp only at e; rw [hg] at e; cases e
  · exact ⟨e.1, e.2.2.1⟩
theorem Gx.merge (h : Gx w r A H ba bn bi len P N G wx) {i k : Nat} (hr : r < w.heap.size) (hbn : w.heap.size ≤ bn) (hbi : w.heap.size ≤ bi) (hi : i < len) (hgi : G i = false) (hn : nxt P len N G i = some k) :
    k ≠ i ∧ Gx w r A H ba bn bi len P (upf N i (N i + N k)) (upf G k true) ((wx.setCell ⟨bi, k, none⟩ (.bool true)).drew.setCell ⟨bn, i, none⟩ (.int .i64 ((N i + N k : Nat) : Int))) := by
  obtain ⟨hki, hinv⟩ := h.inv.merge hi hgi hn
  have o1 := (on_refl (fun k => k = bi) wx).put (g := bi) (i := k) rfl (.bool true)
  have o2 := (on_refl (fun k => k = bn) (wx.setCell ⟨bi, k, none⟩ (.bool true)).drew).put (g := bn) (i := i) rfl (.int .i64 ((N i + N k : Nat) : Int))
  refine ⟨hki, ?_, hinv, ?_, ?_⟩
  · exact (((h.tri.putG k true).on (s := fun _ => False) ((on_refl _ _).drew) id id id).putN i (N i + N k))
  · refine ((h.rf.on o1 (by omega) (fun k e => .inr (.inr (.inr (.inr e))))).on (s := fun _ => False) ((on_refl _ _).drew) id (fun _ e => e.elim)).on o2 (by omega) (fun k e => .inr (.inr (.inr (.inl e))))
  · exact ((h.on.high hbi k _).drew).high hbn i _
end
/-- What the third part keeps: the blocks below k are still to be laid. -/
structure Px (w : World) (r : Nat) (A : AM) (H : List Bk) (ba bn bi len : Nat) (P N : Nat → Nat) (G : Nat → Bool) (A1 : AM) (wx : World) : Prop where
  tri : Tri wx ba bn bi len P N G
  size : A1.size = A.size
  inv : Inv A1 H
  rf : RfB wx (B4 r ba bn bi) r A1
  on : On (fun k => k = r) w wx
section
variable {w wx w' : World} {r : Nat} {A A1 : AM} {H : List Bk} {ba bn bi len : Nat} {P N : Nat → Nat} {G : Nat → Bool}
theorem Px.moved (h : Px w r A H ba bn bi len P N G A1 wx) {i : Nat} (hr : r < w.heap.size) (hba : w.heap.size ≤ ba) (hbn : w.heap.size ≤ bn) (p n : Nat) :
    Px w r A H ba bn bi len (upf P i p) (upf N i n) G A1 ((wx.setCell ⟨ba, i, none⟩ (.int .i64 (p : Nat))).setCell ⟨bn, i, none⟩ (.int .i64 (n : Nat))) := by
  have o1 := (on_refl (fun k => k = ba) wx).put (g := ba) (i := i) rfl (.int .i64 (p : Nat))
  have o2 := (on_refl (fun k => k = bn) (wx.setCell ⟨ba, i, none⟩ (.int .i64 (p : Nat)))).put (g := bn) (i := i) rfl (.int .i64 (n : Nat))
  exact ⟨(h.tri.putA i p).putN i n, h.size, h.inv, (h.rf.on o1 (by omega) (fun k e => .inr (.inr (.inl e)))).on o2 (by omega) (fun k e => .inr (.inr (.inr (.inl e)))), (h.on.high hba i _).high hbn i _⟩
/-- Behind a call that lays blocks. -/
theorem Px.laid {A2 : AM} {H' : List Bk} (h : Px w r A H ba bn bi len P N G A1 wx) (hr : r < w.heap.size) (hba : w.heap.size ≤ ba) (hbn : w.heap.size ≤ bn) (hbi : w.heap.size ≤ bi) (hs : A2.size = A1.size) (hi : Inv A2 H') (hrf : RfB w' (B4 r ba bn bi) r A2) (ho : On (fun k => k = r) wx w') :
    Px w r A H' ba bn bi len P N G A2 w' :=
  ⟨h.tri.on ho (by omega) (by omega) (by omega), hs.trans h.size, hi, hrf, h.on.trans ho⟩
theorem Px.below (h : Px w r A H ba bn bi len P N G A1 wx) : ∀ k, B4 r ba bn bi k → k < wx.heap.size := by
  intro k hk
  rcases hk with e | e | e | e
  · rw [e]; exact h.rf.lt
  · rw [e]; exact h.tri.a.lt
  · rw [e]; exact h.tri.n.lt
  · rw [e]; exact h.tri.g.lt
end
end Go.Proofs.Ytplhonlgbidemaa
