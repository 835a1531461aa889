/- A window in plain words: a ring of bytes that holds what was put last. And a frame over several blocks. No program is spoken of but in a block's type. -/
import Derived.Test.YtpofgfomccmijaaMem
namespace Go.Proofs.Ytpofgfomccmijaa
open Go.RowKit

/-- Nothing but the blocks gs has turned; new blocks may have come. -/
structure Fr (gs : List Nat) (w w' : World) : Prop where
  os : w'.os = w.os
  tape : w'.tape = w.tape
  output : w'.output = w.output
  size : w.heap.size ≤ w'.heap.size
  block : ∀ k, k < w.heap.size → k ∉ gs → w'.heap[k]? = w.heap[k]?

section
variable {w w' w2 : World} {gs : List Nat}
theorem Fr.refl (gs : List Nat) (w : World) : Fr gs w w := ⟨rfl, rfl, rfl, Nat.le_refl _, fun _ _ _ => rfl⟩
theorem Fr.trans (h : Fr gs w w') (k : Fr gs w' w2) : Fr gs w w2 :=
  ⟨k.os.trans h.os, k.tape.trans h.tape, k.output.trans h.output, Nat.le_trans h.size k.size, fun i hi hn => (k.block i (Nat.lt_of_lt_of_le hi h.size) hn).trans (h.block i hi hn)⟩
theorem Fr.of_grown {row : Option Nat} (h : w.grownBy w' row) (hr : ∀ g, row = some g → g ∈ gs) : Fr gs w w' :=
  ⟨h.os, h.tape, h.output, h.size, fun k hk hn => h.block k hk (fun e => hn (hr k e.symm))⟩
theorem Fr.put {g : Nat} (h : Fr gs w w') (hg : g ∈ gs) (i : Nat) (u : Value) : Fr gs w (w'.setCell ⟨g, i, none⟩ u) :=
  ⟨h.os, h.tape, h.output, by simpa using h.size, fun k hk hn => (Below.heap_setCell w' ⟨g, i, none⟩ u k (fun e => hn (by rw [show k = g from e]; exact hg))).trans (h.block k hk hn)⟩
theorem Fr.drew (h : Fr gs w w') : Fr gs w w'.drew := ⟨h.os, h.tape, h.output, h.size, h.block⟩
theorem Fr.drewN (h : Fr gs w w') (n : Nat) : Fr gs w (w'.drewN n) := ⟨h.os, h.tape, h.output, h.size, h.block⟩
theorem Fr.alloc (h : Fr gs w w') (o : Obj) : Fr gs w (w'.alloc o) :=
  h.trans ⟨rfl, rfl, rfl, by simp, fun k hk _ => Below.heap_alloc w' o k hk⟩
theorem Fr.blk {g : Nat} {t : TypeId} {cs : Array Value} (h : Fr gs w w') (hb : Blk w g t cs) (hg : g ∉ gs) : Blk w' g t cs := (h.block g hb.lt hg).trans hb
theorem Fr.own {W : World} (h : Fr gs w w') (hW : W.grownBy w none) (hg : ∀ g ∈ gs, W.heap.size ≤ g) : W.grownBy w' none :=
  ⟨h.os.trans hW.os, h.tape.trans hW.tape, h.output.trans hW.output, Nat.le_trans hW.size h.size,
    fun k hk hr => (h.block k (Nat.lt_of_lt_of_le hk hW.size) (fun hm => by have := hg k hm; omega)).trans (hW.block k hk hr)⟩
end

/-- A row of n bytes. -/
def rowOf (n : Nat) (R : Nat → Int) : Array Value := ((List.range n).map fun i => Value.int .u8 (R i)).toArray
theorem rowOf_size (n : Nat) (R : Nat → Int) : (rowOf n R).size = n := by simp [rowOf]
theorem rowOf_get {n i : Nat} (R : Nat → Int) (h : i < n) : (rowOf n R)[i]? = some (.int .u8 (R i)) := by simp [rowOf, h]
theorem rowOf_put {n i : Nat} (R : Nat → Int) (b : Int) (_h : i < n) : (rowOf n R).setIfInBounds i (.int .u8 b) = rowOf n (fun j => if j = i then b else R j) := by
  apply Array.ext_getElem?
  intro j
  rw [Array.getElem?_setIfInBounds, rowOf_size]
  by_cases hj : j < n
  · rw [rowOf_get _ hj, rowOf_get _ hj]
    by_cases hij : i = j
    · subst hij; simp [hj]
    · rw [if_neg hij, if_neg (fun e => hij e.symm)]
  · have e1 : (rowOf n R)[j]? = none := Array.getElem?_eq_none (by rw [rowOf_size]; omega)
    have e2 : (rowOf n (fun j => if j = i then b else R j))[j]? = none := Array.getElem?_eq_none (by rw [rowOf_size]; omega)
    rw [e1, e2]
    split
    · omega
    · rfl

/-- Where the byte at a distance lies. -/
def slotOf (n next d : Nat) : Nat := if d + 1 ≤ next then next - 1 - d else next + n - 1 - d

/-- The ring holds the list M, the last byte first, as far as it reaches. -/
structure Ring (n next : Nat) (R : Nat → Int) (M : List Int) : Prop where
  lt : next < n
  at_ : ∀ d, d < M.length → d < n → R (slotOf n next d) = M.getD d 0
  byte : ∀ i, 0 ≤ R i ∧ R i ≤ 255

theorem Ring.empty {n next : Nat} {R : Nat → Int} {M : List Int} (h : Ring n next R M) : Ring n next R [] := ⟨h.lt, fun d hd => absurd hd (by simp), h.byte⟩
theorem Ring.new {n : Nat} (h : 0 < n) : Ring n 0 (fun _ => 0) [] := ⟨h, fun d hd => absurd hd (by simp), fun _ => ⟨by omega, by omega⟩⟩

def nextOf (n next : Nat) : Nat := if next + 1 = n then 0 else next + 1

theorem Ring.more {n next : Nat} {R : Nat → Int} {M : List Int} (h : Ring n next R M) {b : Int} (hb : 0 ≤ b ∧ b ≤ 255) :
    Ring n (nextOf n next) (fun j => if j = next then b else R j) (b :: M) := by
  have hlt := h.lt
  refine ⟨by unfold nextOf; split <;> omega, fun d hd hn => ?_, fun i => by split <;> first | exact hb | exact h.byte i⟩
  cases d with
  | zero =>
    have e : slotOf n (nextOf n next) 0 = next := by unfold slotOf nextOf; split <;> split <;> omega
    rw [e]; simp
  | succ e =>
    have e1 : slotOf n (nextOf n next) (e + 1) = slotOf n next e := by unfold slotOf nextOf; split <;> split <;> split <;> omega
    have e2 : slotOf n next e ≠ next := by unfold slotOf; split <;> omega
    rw [e1]
    rw [if_neg e2, h.at_ e (by simpa using hd) (by omega)]
    simp

/-- How many bytes are there. -/
def cntOf (n : Nat) (M : List Int) : Nat := min M.length n
theorem cntOf_more (n : Nat) (M : List Int) (b : Int) : cntOf n (b :: M) = min (cntOf n M + 1) n := by unfold cntOf; simp; omega

/-- The byte at a distance; 0 where none is. -/
def atOf (n : Nat) (M : List Int) (d : Int) : Int := if 0 ≤ d ∧ d < cntOf n M then M.getD d.toNat 0 else 0
def hasOf (n : Nat) (M : List Int) (d : Int) : Bool := decide (0 ≤ d ∧ d < cntOf n M)

/-- Block gw is a window over block gr, of n bytes, with the meter gm; it holds M. -/
def Wnd (w : World) (gw gr gm n : Nat) (M : List Int) : Prop :=
  n ≤ 1073741824 ∧ ∃ next R, Ring n next R M ∧ gw ≠ gr ∧
    Blk w gw 53 #[.slice (some ⟨gr, 0, none⟩) n n, .int .i64 (next : Nat), .int .i64 (cntOf n M : Nat), .pointer (some ⟨gm, 0, none⟩)] ∧ Blk w gr 5 (rowOf n R)
/-- A window that is closed. -/
def Wsh (w : World) (gw gm : Nat) : Prop := Blk w gw 53 #[.slice none 0 0, .int .i64 0, .int .i64 0, .pointer (some ⟨gm, 0, none⟩)]

theorem Wnd.fr {w w' : World} {gw gr gm n : Nat} {M : List Int} {gs : List Nat} (h : Wnd w gw gr gm n M) (hf : Fr gs w w') (h1 : gw ∉ gs) (h2 : gr ∉ gs) : Wnd w' gw gr gm n M := by
  obtain ⟨hn, next, R, hr, hne, hb, hb'⟩ := h
  exact ⟨hn, next, R, hr, hne, hf.blk hb h1, hf.blk hb' h2⟩
theorem Wnd.keep {w w' : World} {gw gr gm n : Nat} {M : List Int} {row : Option Nat} (h : Wnd w gw gr gm n M) (hg : w.grownBy w' row) (h1 : some gw ≠ row) (h2 : some gr ≠ row) : Wnd w' gw gr gm n M := by
  obtain ⟨hn, next, R, hr, hne, hb, hb'⟩ := h
  exact ⟨hn, next, R, hr, hne, hb.grown hg h1, hb'.grown hg h2⟩
theorem atOf_byte {n next : Nat} {R : Nat → Int} {M : List Int} (h : Ring n next R M) (d : Int) : 0 ≤ atOf n M d ∧ atOf n M d ≤ 255 := by
  unfold atOf
  split
  · rename_i hd
    unfold cntOf at hd
    rw [← h.at_ d.toNat (by omega) (by omega)]
    exact h.byte _
  · omega
end Go.Proofs.Ytpofgfomccmijaa
