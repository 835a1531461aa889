/- A step of the laws: what it keeps. -/
import Derived.Test.YtplhonlgbidemaaArPw
namespace Go.Proofs.Ytplhonlgbidemaa
open Go.RowKit

/-- The world, between two steps. -/
def Wd (base x g gm r : Nat) (mt : Value) (n : Nat) (A : AM) (L : List (Nat × Nat)) (full : Bool) (lv : Value) (w : World) : Prop :=
  Wq base x g gm r mt A (heldB L) A L full lv w ∧ Can L ∧ A.size = n ∧ 2048 ≤ n ∧ n ≤ 1000000 ∧ (full = false → A.text < A.start)
/-- What a step leaves. -/
def DoesPost (base x g gm r : Nat) (mt : Value) (n : Nat) (L : List (Nat × Nat)) (w : World) : Ending → World → Prop := fun e w' =>
  e = .returned (.bool true) ∧ On (fun k => base ≤ k) w w' ∧ ∃ A' L' full' lv', Wd base x g gm r mt n A' L' full' lv' w' ∧ L'.length ≤ L.length + 1
section
variable {base x g gm r n : Nat} {mt : Value} {A : AM} {L : List (Nat × Nat)} {full : Bool} {lv : Value} {w w' : World}
theorem Wd.on (h : Wd base x g gm r mt n A L full lv w) (ho : On (fun _ => False) w w') : Wd base x g gm r mt n A L full lv w' := ⟨h.1.on ho, h.2⟩
theorem Wd.size (h : Wd base x g gm r mt n A L full lv w) : A.size ≤ 1000000 := by obtain ⟨-, -, h1, -, h2, -⟩ := h; omega
end
/-- The place of a block: a number without a sign, counted round. -/
theorem pick_facts (Q : Int) (len : Nat) (h0 : 0 < len) (hl : len ≤ 100000) : ∃ q k : Nat, IntKind.u64.wrap Q = (q : Int) ∧ IntKind.u64.wrap (len : Int) = (len : Int) ∧ (q : Int).tmod (len : Int) = (k : Int) ∧ IntKind.u64.wrap (k : Int) = (k : Int) ∧ IntKind.i64.wrap (k : Int) = (k : Int) ∧ k < len := by
  have hm := Nat.mod_lt (Q % 18446744073709551616).toNat h0
  refine ⟨(Q % 18446744073709551616).toNat, (Q % 18446744073709551616).toNat % len, ?_, ?_, ?_, ?_, ?_, hm⟩
  · rw [IntKind.wrap_u64]; omega
  · rw [IntKind.wrap_u64]; omega
  · exact (Int.ofNat_tmod _ _).symm
  · rw [IntKind.wrap_u64]; omega
  · rw [IntKind.wrap_i64]; omega
theorem erase_perm {α : Type} : ∀ (l : List α) (k : Nat) (h : k < l.length), l.Perm (l[k] :: l.eraseIdx k) := by
  intro l
  induction l with
  | nil => intro k h; cases h
  | cons y l ih =>
    intro k h
    cases k with
    | zero => exact List.Perm.refl _
    | succ k => exact ((ih k (by simpa using h)).cons y).trans (List.Perm.swap _ _ _)
theorem held_at (L : List (Nat × Nat)) {k : Nat} (hk : k < L.length) : (heldB L).Perm (⟨(L[k]).1, sz (fr (L[k]).2), false⟩ :: heldB (L.eraseIdx k)) :=
  (erase_perm L k hk).map _
theorem held_set (L : List (Nat × Nat)) {k : Nat} (hk : k < L.length) (p m : Nat) : ((⟨p, sz (fr m), false⟩ : Bk) :: heldB (L.eraseIdx k)).Perm (heldB (L.set k (p, m))) := by
  have h := held_at (L.set k (p, m)) (k := k) (by simpa using hk)
  rw [List.getElem_set_self, List.eraseIdx_set_eq] at h
  exact h.symm
theorem can_set {L : List (Nat × Nat)} (h : Can L) {k p m : Nat} (h1 : 1 ≤ m) (h2 : m ≤ 128) : Can (L.set k (p, m)) := by
  intro y hy
  rcases List.mem_or_eq_of_mem_set hy with e | e
  · exact h y e
  · rw [e]; exact ⟨h1, h2⟩
theorem can_erase {L : List (Nat × Nat)} (h : Can L) (k : Nat) : Can (L.eraseIdx k) := fun y hy => h y (List.mem_of_mem_eraseIdx hy)
theorem prs_set (L : List (Nat × Nat)) : ∀ (k p m : Nat), k < L.length → prs (L.set k (p, m)) = ((prs L).set (k * 2) (.int .i64 (p : Nat))).set (k * 2 + 1) (.int .i64 (m : Nat)) := by
  induction L with
  | nil => intro k p m h; cases h
  | cons y L ih =>
    intro k p m h
    have e : ∀ y L, prs (y :: L) = .int .i64 (y.1 : Nat) :: .int .i64 (y.2 : Nat) :: prs L := fun _ _ => rfl
    cases k with
    | zero => rfl
    | succ k =>
      rw [List.set_cons_succ, e, e, ih k p m (by simpa using h), show (k + 1) * 2 = (k * 2 + 1) + 1 by omega]
      rfl
section
variable {base x g gm r : Nat} {mt : Value} {A : AM} {H : List Bk} {A2 : AM} {L : List (Nat × Nat)} {full : Bool} {w : World}
/-- A pair of the list is written in its place. -/
theorem Wq.setAt {b c : Nat} (h : Wq base x g gm r mt A H A2 L full (.slice (some ⟨b, 0, none⟩) L.length c) w) {k : Nat} (hk : k < L.length) (p m : Nat) :
    Wq base x g gm r mt A H A2 (L.set k (p, m)) full (.slice (some ⟨b, 0, none⟩) L.length c) ((w.setCell ⟨b, k * 2, none⟩ (.int .i64 (p : Nat))).setCell ⟨b, k * 2 + 1, none⟩ (.int .i64 (m : Nat))) := by
  have ho := ((on_refl (fun j => j = b) w).put (g := b) (i := k * 2) rfl (.int .i64 (p : Nat))).put (g := b) (i := k * 2 + 1) rfl (.int .i64 (m : Nat))
  obtain ⟨hl, ⟨e, -⟩ | ⟨gl, cap, cur, e, hgl, hcur, hn, hcap, hsz, htake⟩⟩ := h.own
  · cases e
  · injection e with e1 e2 e3
    injection e1 with e1
    injection e1 with e1
    subst e1 e3
    obtain ⟨hb, ha, hr⟩ := h.list ho (fun j e => by rw [e]; exact ⟨_, hcur⟩)
    refine ⟨hb, ⟨by rw [prs_len], .inr ⟨b, c, _, by rw [List.length_set], hgl, ((show Blk w b _ cur from hcur).put (k * 2) (.int .i64 (p : Nat))).put (k * 2 + 1) (.int .i64 (m : Nat)), by rw [List.length_set]; exact hn, hcap, by simpa using hsz, ?_⟩⟩, ha, hr, h.bx, h.bg, h.bm, h.br⟩
    rw [prs_set L k p m hk, List.length_set, Array.toList_setIfInBounds, Array.toList_setIfInBounds, List.take_set, List.take_set, htake]
end
theorem rest2_room {A : AM} (r : Nat) (h : A.text < A.start) : (rest2 A r).2.text < (rest2 A r).2.start := by
  unfold rest2
  split
  · rename_i i _
    have k := (sm_take A i).trans (sm_rest (takeM A i) (hd (A.rows i) + 12 * sz r) (sz i - sz r))
    dsimp only
    rw [k.text, k.start]; exact h
  · unfold lastM
    split
    · exact h
    · dsimp only; omega
theorem rareM_room {A : AM} (r : Nat) (h : A.text < A.start) : (rareM A r).2.text < (rareM A r).2.start := by
  have hg := (sm_glue A).1
  have h2 : (glueM A).text < (glueM A).start := by rw [hg.text, hg.start]; exact h
  unfold rareM
  split
  · split
    · exact rest2_room r h2
    · exact h2
  · exact rest2_room r h
theorem unitsM_room {A : AM} (n : Nat) (h : A.text < A.start) : (unitsM A n).2.text < (unitsM A n).2.start := by
  unfold unitsM
  split
  · split
    · exact h
    · exact rareM_room _ h
  · exact h
theorem oneM_room {A : AM} (h : A.text < A.start) : (oneM A).2.text < (oneM A).2.start := by
  unfold oneM
  split
  · split
    · exact rareM_room _ h
    · exact h
  · exact h
theorem shrinkM_room {A : AM} (p o n : Nat) (h : A.text < A.start) : (shrinkM A p o n).2.text < (shrinkM A p o n).2.start := by
  unfold shrinkM
  split
  · exact h
  · split
    · have k := sm_rest A (p + 12 * sz (fr n)) (sz (fr o) - sz (fr n))
      dsimp only
      rw [k.text, k.start]; exact h
    · exact h
theorem shrinkM_size (A : AM) (p o n : Nat) : (shrinkM A p o n).2.size = A.size := by
  unfold shrinkM
  split
  · rfl
  · split
    · exact (sm_rest A (p + 12 * sz (fr n)) (sz (fr o) - sz (fr n))).size
    · rfl
theorem held_got (L : List (Nat × Nat)) {p n : Nat} (hp : p ≠ 0) : (got p (sz (fr n)) (heldB L)).Perm (heldB (L ++ [(p, n)])) := by
  unfold got heldB
  rw [if_neg hp, List.map_append]
  exact (List.perm_append_singleton _ _).symm
theorem can_more {L : List (Nat × Nat)} (h : Can L) {p n : Nat} (h1 : 1 ≤ n) (h2 : n ≤ 128) : Can (L ++ [(p, n)]) := by
  intro y hy
  rcases List.mem_append.1 hy with e | e
  · exact h y e
  · rw [List.mem_singleton.1 e]; exact ⟨h1, h2⟩
theorem byte_facts (N : Int) : ∃ b : Nat, IntKind.u8.wrap N = (b : Int) ∧ b < 256 := by
  refine ⟨(N % 256).toNat, ?_, by omega⟩
  have e : IntKind.u8.wrap N = N % 256 := by simp [IntKind.wrap, IntKind.bits, IntKind.signed]
  rw [e]
  omega
end Go.Proofs.Ytplhonlgbidemaa
