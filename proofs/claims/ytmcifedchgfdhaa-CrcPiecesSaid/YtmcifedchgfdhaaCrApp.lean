/- Rows of bytes of one's own, and append to them. -/
import Derived.Test.YtmcifedchgfdhaaCrAw
import Derived.Laws.AppendOwnNone
import Derived.Laws.OwnMore
import Derived.Deep.AppendLies
import Derived.Deep.OwnRows
namespace Go.Proofs.Ytmcifedchgfdhaa
open Go.RowKit

/-- The bytes X as cells. -/
def vals (X : Nat → Nat) (n : Nat) : List Value := (List.range n).map fun i => .int .u8 (X i : Nat)
theorem vals_length (X : Nat → Nat) (n : Nat) : (vals X n).length = n := by simp [vals]
theorem vals_get (X : Nat → Nat) {n i : Nat} (h : i < n) : (vals X n)[i]? = some (.int .u8 (X i : Nat)) := by simp [vals, h]
theorem vals_one (X : Nat → Nat) (n : Nat) : ∀ u ∈ vals X n, u.oneCell' = true := by
  intro u hu
  obtain ⟨i, _, rfl⟩ := List.mem_map.1 hu
  rfl
theorem vals_app (X Y : Nat → Nat) (n m : Nat) : vals X n ++ vals Y m = vals (fun i => if i < n then X i else Y (i - n)) (n + m) := by
  apply List.ext_getElem?
  intro i
  by_cases h : i < n
  · rw [List.getElem?_append_left (by rw [vals_length]; exact h), vals_get X h, vals_get _ (by omega), if_pos h]
  · rw [List.getElem?_append_right (by rw [vals_length]; omega), vals_length]
    by_cases h2 : i < n + m
    · rw [vals_get Y (by omega), vals_get _ h2, if_neg h]
    · rw [List.getElem?_eq_none (by rw [vals_length]; omega), List.getElem?_eq_none (by rw [vals_length]; omega)]

theorem info8 : (Try.prog.info? 5).map (fun i => (i.zero, i.size, i.bytes)) = some (some (.int .u8 0), 1, 1) := by kernel_rfl

theorem append_rd {w : World} {ops : Array Oper} {rest : List Oper} {o : Oper} {a : Act} {Q : Exit → Act → World → Prop} (hgd : o.guard = none) (s x : Operand)
    (ho : o.op = .call { callee := .builtin .append, args := #[s, x], argTypes := #[22, 22] }) (base : Nat) (v : Value) (n0 : Nat) (xs : List Value) (hs : a.eval s = v) (hown : w.ownsRow base 5 1 v n0 xs)
    {A : Option Addr} {n c : Nat} {X : Nat → Nat} {g : Nat} (hR : Rd w g A n X) (hA : A = none → n = 0 ∧ c = 0) (hx : a.eval x = .slice A n c) (hbig : n0 + n ≤ 1073741824) (hbase : base ≤ w.heap.size)
    (h : ∀ v' w', w'.ownsRow base 5 1 v' (n0 + n) (xs ++ vals X n) → w.grownBy w' v.ownBlock → wpList Try.prog ops Q rest (a.put o.dst v') w') : wpList Try.prog ops Q (o :: rest) a w := by
  obtain ⟨i0, hi, hz0, hz1, hz2⟩ := info_parts info8
  cases A with
  | none =>
    obtain ⟨rfl, rfl⟩ := hA rfl
    exact wpList_append_own_none hgd s x 22 ho base 5 i0 1 Try.underlying22 hi v n0 xs hs hown hx (h v w (by simpa [vals] using hown) (grown_refl _ _))
  | some ad =>
    refine wpList_append_own w hgd s x 22 ho base 5 i0 (.int .u8 0) 1 1 Try.underlying22 hi hz0 hz1 hz2 rfl (by decide) v n0 xs hs hown ad n c (vals X n) hx (by rw [vals_length]; omega) ?_ (vals_one X n) (by unfold maxLen; omega) (by omega) hbase (fun v' w' h1 h2 _ => h v' w' h1 h2)
    intro j u hj
    have hlt : j < n := by
      rcases Nat.lt_or_ge j n with hh | hh
      · exact hh
      · rw [List.getElem?_eq_none (by rw [vals_length]; omega)] at hj; cases hj
    rw [vals_get X hlt] at hj
    cases hj
    obtain ⟨hX, b, off, e, -, hc⟩ := hR j hlt
    cases e
    rw [WideShapes.add_plain]
    exact hc

theorem bytes_owns {w : World} {base n : Nat} {v : Value} {X : Nat → Nat} (h : w.ownsRow base 5 1 v n (vals X n)) (hX : ∀ i, i < n → X i < 256) :
    ∃ A c, v = .slice A n c ∧ n ≤ c ∧ Bytes w w.heap.size A n (fun i => (X i : Int)) ∧ ∀ b off, A = some ⟨b, off, none⟩ → off = 0 ∧ base ≤ b := by
  have h0 := h
  obtain ⟨hlen, ⟨rfl, rfl⟩ | ⟨gl, cap, cur, rfl, hgl, hcur, hn, hcap, hsz, htake⟩⟩ := h0
  · exact ⟨none, 0, rfl, Nat.le_refl _, fun i hi => by omega, fun b off e => by cases e⟩
  · refine ⟨some ⟨gl, 0, none⟩, cap, rfl, hn, fun i hi => ⟨by have := hX i hi; dsimp only; omega, gl, 0, rfl, ?_, ?_⟩, fun b off e => by cases e; exact ⟨rfl, hgl⟩⟩
    · rcases Nat.lt_or_ge gl w.heap.size with hh | hh
      · exact hh
      · rw [Array.getElem?_eq_none hh] at hcur; cases hcur
    · rw [Nat.zero_add, h.cellAt i (by omega), vals_get X hi]
/-- Of, behind what has grown: of bytes that were there before. -/
theorem of_grown {W w : World} {A : Option Addr} {n : Nat} {X : Nat → Nat} (cap : Nat) (hB : Bytes W W.heap.size A n (fun i => (X i : Int))) (hn : n ≤ 9223372036854775807) (hG : W.grownBy w none) :
    Calls Try.prog 9 #[.slice A n cap] w fun e w' => e = .returned (.int .u32 ((crcOf X n : Nat) : Int)) ∧ W.grownBy w' none := by
  have h1 := hB.keep hG (Nat.le_refl _)
  refine (of_any cap (X := X) (fun i hi => ⟨(h1 i hi).1, ?_⟩) hn).mono ?_
  · obtain ⟨-, b, off, e, hlt, hc⟩ := h1 i hi
    exact ⟨b, off, e, Nat.lt_of_lt_of_le hlt hG.size, hc⟩
  · rintro e w' ⟨rfl, h⟩
    exact ⟨rfl, grown_trans hG h⟩

theorem grown_new {W w w' : World} {row : Option Nat} (h : W.grownBy w none) (hg : w.grownBy w' row) (hr : ∀ k, row = some k → W.heap.size ≤ k) : W.grownBy w' none :=
  ⟨hg.os.trans h.os, hg.tape.trans h.tape, hg.output.trans h.output, Nat.le_trans h.size hg.size,
    fun k hk _ => (hg.block k (Nat.lt_of_lt_of_le hk h.size) (fun e => by have := hr k e.symm; omega)).trans (h.block k hk (by simp))⟩
end Go.Proofs.Ytmcifedchgfdhaa
