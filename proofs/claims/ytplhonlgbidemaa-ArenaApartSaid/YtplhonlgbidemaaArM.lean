/- The arena's lists and numbers, without the program. -/
import Derived.Test.YtplhonlgbidemaaMem
namespace Go.Proofs.Ytplhonlgbidemaa

/-- The units of size i. -/
def sz (i : Nat) : Nat := if i < 4 then i + 1 else if i < 8 then 4 + 2 * (i - 3) else if i < 12 then 12 + 3 * (i - 7) else 24 + 4 * (i - 11)
/-- The size for n units. -/
def fr (n : Nat) : Nat := if n ≤ 4 then n - 1 else if n ≤ 12 then 3 + (n - 3) / 2 else if n ≤ 24 then 7 + (n - 10) / 3 else 11 + (n - 21) / 4
theorem sz_is (i : Nat) : (i < 4 ∧ sz i = i + 1) ∨ (4 ≤ i ∧ i < 8 ∧ sz i = 2 * i - 2) ∨ (8 ≤ i ∧ i < 12 ∧ sz i = 3 * i - 9) ∨ (12 ≤ i ∧ sz i = 4 * i - 20) := by
  unfold sz; (repeat' split) <;> omega
theorem fr_is (n : Nat) : (n ≤ 4 ∧ fr n = n - 1) ∨ (4 < n ∧ n ≤ 12 ∧ fr n = 3 + (n - 3) / 2) ∨ (12 < n ∧ n ≤ 24 ∧ fr n = 7 + (n - 10) / 3) ∨ (24 < n ∧ fr n = 11 + (n - 21) / 4) := by
  unfold fr; (repeat' split) <;> omega
theorem fr_lt {n : Nat} (h : n ≤ 128) : fr n < 38 := by have := fr_is n; omega
theorem sz_pos (i : Nat) : 1 ≤ sz i := by have := sz_is i; omega
theorem sz_le {i : Nat} (h : i < 38) : sz i ≤ 128 := by have := sz_is i; omega
theorem sz_lt {i j : Nat} (h : i < j) : sz i < sz j := by have := sz_is i; have := sz_is j; omega
theorem sz_fr (n : Nat) : n ≤ sz (fr n) := by have := fr_is n; have := sz_is (fr n); omega
theorem fr_sz (i : Nat) : fr (sz i) = i := by have := sz_is i; have := fr_is (sz i); omega
theorem fr_one {n : Nat} (h1 : 1 ≤ n) (h : sz (fr n) ≠ n) : 1 ≤ fr n := by have := fr_is n; have := sz_is (fr n); omega
theorem sz_before {n : Nat} (h1 : 1 ≤ n) (h : 1 ≤ fr n) : sz (fr n - 1) < n := by have := fr_is n; have := sz_is (fr n - 1); omega
theorem sz_rest {n : Nat} (h1 : 1 ≤ n) (h : sz (fr n) ≠ n) : sz (fr (n - sz (fr n - 1))) = n - sz (fr n - 1) := by
  have h2 := fr_is n
  have h3 := sz_is (fr n)
  have h4 := sz_is (fr n - 1)
  have h5 : n - sz (fr n - 1) = 1 ∨ n - sz (fr n - 1) = 2 ∨ n - sz (fr n - 1) = 3 := by omega
  rcases h5 with e | e | e <;> rw [e] <;> rfl
theorem fr_mono {a b : Nat} (h : a ≤ b) : fr a ≤ fr b := by have := fr_is a; have := fr_is b; omega
theorem sz_all (i : Nat) : sz i = if i < 4 then i + 1 else if i < 8 then 4 + 2 * (i - 3) else if i < 12 then 12 + 3 * (i - 7) else 24 + 4 * (i - 11) := rfl

/-- A block: its place, its units; whether it counts no more. -/
structure Bk where
  p : Nat
  n : Nat
  g : Bool
def Dj (a b : Bk) : Prop := a.g = true ∨ b.g = true ∨ a.p + 12 * a.n ≤ b.p ∨ b.p + 12 * b.n ≤ a.p
theorem Dj.symm {a b : Bk} (h : Dj a b) : Dj b a := by unfold Dj at *; rcases h with h | h | h | h <;> simp [h]

/-- An arena: its rows of free blocks, and its bounds. -/
structure AM where
  size : Nat
  rows : Nat → List Nat
  text : Nat
  start : Nat
  low : Nat
  high : Nat
  glue : Nat
def bks (i : Nat) (l : List Nat) : List Bk := l.map fun x => ⟨x, sz i, false⟩
def frees (rows : Nat → List Nat) : List Bk := (List.range 38).flatMap fun i => bks i (rows i)
def In (A : AM) (b : Bk) : Prop := b.g = true ∨ (1 ≤ b.n ∧ A.start ≤ b.p ∧ b.p + 12 * b.n ≤ A.size + 1 ∧ (A.low = A.high ∨ b.p + 12 * b.n ≤ A.low ∨ A.high ≤ b.p))
/-- The free blocks and the blocks H lie apart, each where it may. -/
structure Inv (A : AM) (H : List Bk) : Prop where
  dj : (frees A.rows ++ H).Pairwise Dj
  inn : ∀ b ∈ frees A.rows ++ H, In A b
  text : 1 ≤ A.text ∧ A.text ≤ A.start
  ord : A.start ≤ A.low ∧ A.low ≤ A.high ∧ A.high ≤ A.size + 1
  gap : (A.high - A.low) % 12 = 0
  glue : A.glue ≤ 255
  size : A.size ≤ 4294967259

def upr (rows : Nat → List Nat) (r : Nat) (l : List Nat) : Nat → List Nat := fun i => if i = r then l else rows i
theorem upr_same (rows : Nat → List Nat) (r : Nat) (l : List Nat) : upr rows r l r = l := if_pos rfl
theorem upr_self (rows : Nat → List Nat) (r : Nat) : upr rows r (rows r) = rows := by
  funext i; unfold upr; split
  · subst_vars; rfl
  · rfl
theorem upr_upr (rows : Nat → List Nat) (r : Nat) (l l' : List Nat) : upr (upr rows r l) r l' = upr rows r l' := by
  funext i; unfold upr; split <;> simp_all

theorem flat_far (rows : Nat → List Nat) (r : Nat) (l : List Nat) (ks : List Nat) (h : r ∉ ks) : ks.flatMap (fun i => bks i (upr rows r l i)) = ks.flatMap (fun i => bks i (rows i)) := by
  induction ks with
  | nil => rfl
  | cons k ks ih =>
    simp only [List.mem_cons, not_or] at h
    simp only [List.flatMap_cons]
    rw [ih h.2]
    unfold upr
    rw [if_neg (fun e => h.1 e.symm)]
theorem flat_one (rows : Nat → List Nat) (r x : Nat) (l : List Nat) (ks : List Nat) (hn : ks.Nodup) (h : r ∈ ks) :
    (ks.flatMap fun i => bks i (upr rows r (x :: l) i)).Perm (⟨x, sz r, false⟩ :: ks.flatMap fun i => bks i (upr rows r l i)) := by
  induction ks with
  | nil => cases h
  | cons k ks ih =>
    have hn' := List.nodup_cons.1 hn
    simp only [List.flatMap_cons]
    by_cases hk : k = r
    · subst hk
      rw [flat_far _ _ _ _ hn'.1, flat_far _ _ _ _ hn'.1, upr_same, upr_same]
      exact List.Perm.refl _
    · have hm : r ∈ ks := by
        rcases List.mem_cons.1 h with e | e
        · exact absurd e.symm hk
        · exact e
      have hr := ih hn'.2 hm
      have e : ∀ l, upr rows r l k = rows k := fun l => if_neg hk
      rw [e, e]
      exact (hr.append_left _).trans List.perm_middle
theorem frees_one (rows : Nat → List Nat) {r : Nat} (hr : r < 38) (x : Nat) (l : List Nat) :
    (frees (upr rows r (x :: l))).Perm (⟨x, sz r, false⟩ :: frees (upr rows r l)) :=
  flat_one rows r x l _ List.nodup_range (List.mem_range.2 hr)

theorem Inv.perm {A A' : AM} {H H' : List Bk} (h : Inv A H) (hp : (frees A.rows ++ H).Perm (frees A'.rows ++ H')) (h1 : A'.size = A.size) (h2 : A'.text = A.text) (h3 : A'.start = A.start) (h4 : A'.low = A.low) (h5 : A'.high = A.high) (h6 : A'.glue = A.glue) : Inv A' H' := by
  refine ⟨(hp.pairwise_iff (fun {_ _} h => Dj.symm h)).1 h.dj, fun b hb => ?_, by rw [h2, h3]; exact h.text, by rw [h1, h3, h4, h5]; exact h.ord, by rw [h4, h5]; exact h.gap, by rw [h6]; exact h.glue, by rw [h1]; exact h.size⟩
  have := h.inn b (hp.mem_iff.2 hb)
  unfold In at *
  rw [h1, h3, h4, h5]
  exact this

/-- To the front of a row. -/
def putM (A : AM) (p r : Nat) : AM := { A with rows := upr A.rows r (p :: A.rows r) }
/-- The front of a row leaves. -/
def takeM (A : AM) (r : Nat) : AM := { A with rows := upr A.rows r (A.rows r).tail }
def hd : List Nat → Nat
  | [] => 0
  | x :: _ => x
theorem Inv.put {A : AM} {H : List Bk} {p r n : Nat} (hr : r < 38) (hn : n = sz r) (h : Inv A (⟨p, n, false⟩ :: H)) : Inv (putM A p r) H := by
  subst hn
  refine h.perm ?_ rfl rfl rfl rfl rfl rfl
  refine List.perm_middle.trans ?_
  refine List.Perm.trans ?_ ((frees_one A.rows hr p (A.rows r)).symm.append_right H)
  rw [upr_self]
  exact List.Perm.refl _
theorem Inv.take {A : AM} {H : List Bk} {x r : Nat} {l : List Nat} (hr : r < 38) (he : A.rows r = x :: l) (h : Inv A H) : Inv (takeM A r) (⟨x, sz r, false⟩ :: H) := by
  refine h.perm ?_ rfl rfl rfl rfl rfl rfl
  have e : A.rows = upr A.rows r (x :: l) := by rw [← he, upr_self]
  refine List.Perm.trans ?_ List.perm_middle.symm
  show (frees A.rows ++ H).Perm (⟨x, sz r, false⟩ :: frees (upr A.rows r (A.rows r).tail) ++ H)
  rw [he]
  refine List.Perm.append_right H ?_
  conv => lhs; rw [e]
  exact frees_one A.rows hr x l
/-- Loose blocks may be seen otherwise. -/
theorem Inv.turn {A : AM} {H H' : List Bk} (h : Inv A H) (hd : H'.Pairwise Dj) (hx : ∀ a ∈ frees A.rows, ∀ b ∈ H', Dj a b) (hi : ∀ b ∈ H', In A b) : Inv A H' := by
  refine ⟨List.pairwise_append.2 ⟨(List.pairwise_append.1 h.dj).1, hd, fun a ha b hb => hx a ha b hb⟩, fun b hb => ?_, h.text, h.ord, h.gap, h.glue, h.size⟩
  rcases List.mem_append.1 hb with hb | hb
  · exact h.inn b (List.mem_append.2 (.inl hb))
  · exact hi b hb
theorem Inv.split {A : AM} {H : List Bk} {p a b : Nat} (h : Inv A (⟨p, a + b, false⟩ :: H)) (ha : 1 ≤ a) (hb : 1 ≤ b) : Inv A (⟨p, a, false⟩ :: ⟨p + 12 * a, b, false⟩ :: H) := by
  have hp := List.pairwise_append.1 h.dj
  have h0 := List.pairwise_cons.1 hp.2.1
  have hin := h.inn ⟨p, a + b, false⟩ (by simp)
  refine h.turn ?_ ?_ ?_
  · refine List.pairwise_cons.2 ⟨fun c hc => ?_, List.pairwise_cons.2 ⟨fun c hc => ?_, h0.2⟩⟩
    · rcases List.mem_cons.1 hc with rfl | hc
      · exact .inr (.inr (.inl (Nat.le_refl _)))
      · have := h0.1 c hc
        unfold Dj at *; dsimp only at *
        rcases this with h | h | h | h
        · cases h
        · exact .inr (.inl h)
        · exact .inr (.inr (.inl (by omega)))
        · exact .inr (.inr (.inr (by omega)))
    · have := h0.1 c hc
      unfold Dj at *; dsimp only at *
      rcases this with h | h | h | h
      · cases h
      · exact .inr (.inl h)
      · exact .inr (.inr (.inl (by omega)))
      · exact .inr (.inr (.inr (by omega)))
  · intro c hc d hd
    have hcd := fun d hd => hp.2.2 c hc d hd
    rcases List.mem_cons.1 hd with rfl | hd
    · have := hcd ⟨p, a + b, false⟩ (by simp)
      unfold Dj at *; dsimp only at *
      rcases this with h | h | h | h
      · exact .inl h
      · cases h
      · exact .inr (.inr (.inl (by omega)))
      · exact .inr (.inr (.inr (by omega)))
    · rcases List.mem_cons.1 hd with rfl | hd
      · have := hcd ⟨p, a + b, false⟩ (by simp)
        unfold Dj at *; dsimp only at *
        rcases this with h | h | h | h
        · exact .inl h
        · cases h
        · exact .inr (.inr (.inl (by omega)))
        · exact .inr (.inr (.inr (by omega)))
      · exact hcd d (List.mem_cons_of_mem _ hd)
  · intro d hd
    unfold In at hin; dsimp only at hin
    rcases hin with hin | ⟨h1, h2, h3, h4⟩
    · cases hin
    rcases List.mem_cons.1 hd with rfl | hd
    · exact .inr ⟨ha, h2, by dsimp only; omega, by dsimp only; omega⟩
    · rcases List.mem_cons.1 hd with rfl | hd
      · exact .inr ⟨hb, by dsimp only; omega, by dsimp only; omega, by dsimp only; omega⟩
      · exact h.inn d (List.mem_append.2 (.inr (List.mem_cons_of_mem _ hd)))
/-- Whatever is loose may be forgotten. -/
theorem Inv.drop {A : AM} {b : Bk} {H : List Bk} (h : Inv A (b :: H)) : Inv A H := by
  have hp := List.pairwise_append.1 h.dj
  exact h.turn (List.pairwise_cons.1 hp.2.1).2 (fun a ha c hc => hp.2.2 a ha c (List.mem_cons_of_mem _ hc)) (fun c hc => h.inn c (List.mem_append.2 (.inr (List.mem_cons_of_mem _ hc))))
theorem Inv.swap {A : AM} {H H' : List Bk} (h : Inv A H) (hp : H.Perm H') : Inv A H' := h.perm (hp.append_left _) rfl rfl rfl rfl rfl rfl

/-- n units, free at p: to their rows. -/
def restM (A : AM) (p n : Nat) : AM := if sz (fr n) = n then putM A p (fr n) else putM (putM A (p + 12 * sz (fr n - 1)) (fr (n - sz (fr n - 1)))) p (fr n - 1)
theorem Inv.rest {A : AM} {H : List Bk} {p n : Nat} (h1 : 1 ≤ n) (h2 : n ≤ 128) (h : Inv A (⟨p, n, false⟩ :: H)) : Inv (restM A p n) H := by
  unfold restM
  split
  · exact h.put (fr_lt h2) (by omega)
  · rename_i hne
    have hf := fr_one h1 hne
    have hs := sz_before h1 hf
    have hr := sz_rest h1 hne
    have hp := sz_pos (fr n - 1)
    have h' : Inv A (⟨p, sz (fr n - 1) + (n - sz (fr n - 1)), false⟩ :: H) := by
      have e : sz (fr n - 1) + (n - sz (fr n - 1)) = n := by omega
      rw [e]; exact h
    have h'' := (h'.split hp (by omega)).swap (List.Perm.swap _ _ _)
    exact (h''.put (fr_lt (by omega)) hr.symm).put (by have := fr_lt h2; omega) rfl

/-- Where the blocks' links are: four bytes, the least first. -/
def num4 (M : Nat → Nat) (p : Nat) : Nat := M p + 256 * M (p + 1) + 65536 * M (p + 2) + 16777216 * M (p + 3)
def Chain (M : Nat → Nat) : List Nat → Prop
  | [] => True
  | x :: l => num4 M x = hd l ∧ Chain M l
theorem Chain.keep {M M' : Nat → Nat} {l : List Nat} (h : Chain M l) (he : ∀ x ∈ l, num4 M' x = num4 M x) : Chain M' l := by
  induction l with
  | nil => trivial
  | cons x l ih => exact ⟨(he x (by simp)).trans h.1, ih h.2 fun y hy => he y (List.mem_cons_of_mem _ hy)⟩
theorem mem_frees {rows : Nat → List Nat} {i x : Nat} (hi : i < 38) (hx : x ∈ rows i) : (⟨x, sz i, false⟩ : Bk) ∈ frees rows :=
  List.mem_flatMap.2 ⟨i, List.mem_range.2 hi, List.mem_map.2 ⟨x, hx, rfl⟩⟩
theorem Inv.free {A : AM} {H : List Bk} (h : Inv A H) {i x : Nat} (hi : i < 38) (hx : x ∈ A.rows i) : A.start ≤ x ∧ x + 12 * sz i ≤ A.size + 1 := by
  rcases h.inn _ (List.mem_append.2 (.inl (mem_frees hi hx))) with h | ⟨-, h1, h2, -⟩
  · cases h
  · exact ⟨h1, h2⟩
theorem Inv.loose {A : AM} {H : List Bk} {p n : Nat} (h : Inv A (⟨p, n, false⟩ :: H)) : 1 ≤ n ∧ A.start ≤ p ∧ p + 12 * n ≤ A.size + 1 := by
  rcases h.inn ⟨p, n, false⟩ (by simp) with h | ⟨h0, h1, h2, -⟩
  · cases h
  · exact ⟨h0, h1, h2⟩
theorem Inv.apart {A : AM} {H : List Bk} {p n i x : Nat} (h : Inv A (⟨p, n, false⟩ :: H)) (hi : i < 38) (hx : x ∈ A.rows i) : x + 12 * sz i ≤ p ∨ p + 12 * n ≤ x := by
  have := (List.pairwise_append.1 h.dj).2.2 _ (mem_frees hi hx) ⟨p, n, false⟩ (by simp)
  rcases this with h | h | h | h
  · cases h
  · cases h
  · exact .inl h
  · exact .inr h
end Go.Proofs.Ytplhonlgbidemaa
