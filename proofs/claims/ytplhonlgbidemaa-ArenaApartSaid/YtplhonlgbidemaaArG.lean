/- Gluing, without the program. -/
import Derived.Test.YtplhonlgbidemaaArM
namespace Go.Proofs.Ytplhonlgbidemaa

theorem nodup_le : ∀ (N : Nat) (l : List Nat), l.Nodup → (∀ x ∈ l, x < N) → l.length ≤ N := by
  intro N
  induction N with
  | zero =>
    intro l _ h
    cases l with
    | nil => simp
    | cons x l => have := h x (by simp); omega
  | succ N ih =>
    intro l hn h
    have h1 := ih (l.erase N) (hn.erase N) fun x hx => by
      have h2 := (List.Nodup.mem_erase_iff hn).1 hx
      have := h x h2.2
      omega
    have h3 := List.length_erase (a := N) (l := l)
    split at h3 <;> omega

/-- Blocks by their numbers. -/
def mkB (P N : Nat → Nat) (G : Nat → Bool) (len : Nat) : List Bk := (List.range len).map fun i => ⟨P i, N i, G i⟩
theorem mk_length (P N : Nat → Nat) (G : Nat → Bool) (len : Nat) : (mkB P N G len).length = len := by simp [mkB]
theorem mem_mk {P N : Nat → Nat} {G : Nat → Bool} {len : Nat} {b : Bk} : b ∈ mkB P N G len ↔ ∃ i, i < len ∧ b = ⟨P i, N i, G i⟩ := by
  unfold mkB
  rw [List.mem_map]
  constructor
  · rintro ⟨i, hi, rfl⟩; exact ⟨i, List.mem_range.1 hi, rfl⟩
  · rintro ⟨i, hi, rfl⟩; exact ⟨i, List.mem_range.2 hi, rfl⟩
theorem mk_pair {P N : Nat → Nat} {G : Nat → Bool} {len : Nat} {R : Bk → Bk → Prop} :
    (mkB P N G len).Pairwise R ↔ ∀ i j, i < j → j < len → R ⟨P i, N i, G i⟩ ⟨P j, N j, G j⟩ := by
  rw [List.pairwise_iff_getElem]
  constructor
  · intro h i j hij hj
    have := h i j (by rw [mk_length]; omega) (by rw [mk_length]; omega) hij
    simpa [mkB] using this
  · intro h i j hi hj hij
    rw [mk_length] at hi hj
    have := h i j hij hj
    simpa [mkB] using this
theorem mk_cong {P P' N N' : Nat → Nat} {G G' : Nat → Bool} {len : Nat} (h : ∀ i, i < len → P i = P' i ∧ N i = N' i ∧ G i = G' i) : mkB P N G len = mkB P' N' G' len := by
  unfold mkB
  refine List.map_congr_left fun i hi => ?_
  obtain ⟨h1, h2, h3⟩ := h i (List.mem_range.1 hi)
  rw [h1, h2, h3]
theorem mk_of (L : List Bk) : L = mkB (fun i => (L[i]?.getD ⟨0, 0, false⟩).p) (fun i => (L[i]?.getD ⟨0, 0, false⟩).n) (fun i => (L[i]?.getD ⟨0, 0, false⟩).g) L.length := by
  apply List.ext_getElem
  · rw [mk_length]
  · intro i h1 h2
    simp [mkB, List.getElem?_eq_getElem h1]

/-- Distinct places. -/
def Ds (P : Nat → Nat) (len : Nat) : Prop := ∀ i j, i < len → j < len → P i = P j → i = j
/-- The number of the block at place q. -/
def look (P : Nat → Nat) : Nat → Nat → Option Nat
  | 0, _ => none
  | len + 1, q => if P len = q then some len else look P len q
theorem look_some {P : Nat → Nat} {len q k : Nat} (h : look P len q = some k) : k < len ∧ P k = q := by
  induction len with
  | zero => cases h
  | succ len ih =>
    unfold look at h
    split at h
    · injection h with h; subst h; exact ⟨by omega, by assumption⟩
    · have := ih h; exact ⟨by omega, this.2⟩
theorem look_none {P : Nat → Nat} {len q : Nat} (h : look P len q = none) (k : Nat) (hk : k < len) : P k ≠ q := by
  induction len with
  | zero => omega
  | succ len ih =>
    unfold look at h
    split at h
    · cases h
    · rename_i hne
      by_cases e : k = len
      · subst e; exact hne
      · exact ih h (by omega)
theorem look_of {P : Nat → Nat} {len q k : Nat} (hd : Ds P len) (hk : k < len) (hp : P k = q) : look P len q = some k := by
  cases h : look P len q with
  | none => exact absurd hp (look_none h k hk)
  | some j =>
    have hj := look_some h
    rw [hd j k hj.1 hk (by rw [hj.2, hp])]

def upf {α : Type} (f : Nat → α) (i : Nat) (v : α) : Nat → α := fun j => if j = i then v else f j
/-- The block that block i takes in next. -/
def nxt (P : Nat → Nat) (len : Nat) (N : Nat → Nat) (G : Nat → Bool) (i : Nat) : Option Nat :=
  match look P len (P i + 12 * N i) with
  | some k => if G k = false ∧ N i + N k < 65536 then some k else none
  | none => none
def cnt (G : Nat → Bool) : Nat → Nat
  | 0 => 0
  | n + 1 => cnt G n + (if G n then 0 else 1)
theorem cnt_far {G : Nat → Bool} {k n : Nat} (h : n ≤ k) : cnt (upf G k true) n = cnt G n := by
  induction n with
  | zero => rfl
  | succ n ih =>
    unfold cnt
    have e : upf G k true n = G n := if_neg (by omega)
    rw [ih (by omega), e]
theorem cnt_one {G : Nat → Bool} {k n : Nat} (h : k < n) (hg : G k = false) : cnt G n = cnt (upf G k true) n + 1 := by
  induction n with
  | zero => omega
  | succ n ih =>
    by_cases e : k = n
    · subst e
      unfold cnt
      rw [cnt_far (Nat.le_refl _)]
      simp [upf, hg]
    · unfold cnt
      rw [ih (by omega)]
      have : upf G k true n = G n := if_neg (fun h => e h.symm)
      rw [this]
      omega
def grow (P : Nat → Nat) (len : Nat) : Nat → (Nat → Nat) → (Nat → Bool) → Nat → (Nat → Nat) × (Nat → Bool)
  | 0, N, G, _ => (N, G)
  | f + 1, N, G, i => match nxt P len N G i with
    | none => (N, G)
    | some k => grow P len f (upf N i (N i + N k)) (upf G k true) i
/-- Block i takes in what it may. -/
def growM (P : Nat → Nat) (len : Nat) (N : Nat → Nat) (G : Nat → Bool) (i : Nat) : (Nat → Nat) × (Nat → Bool) := grow P len (cnt G len) N G i
theorem nxt_some {P N : Nat → Nat} {G : Nat → Bool} {len i k : Nat} (h : nxt P len N G i = some k) : k < len ∧ P k = P i + 12 * N i ∧ G k = false ∧ N i + N k < 65536 := by
  unfold nxt at h
  split at h
  · rename_i j hj
    split at h
    · rename_i hc
      injection h with h
      subst h
      have := look_some hj
      exact ⟨this.1, this.2, hc.1, hc.2⟩
    · cases h
  · cases h
theorem nxt_of {P N : Nat → Nat} {G : Nat → Bool} {len i k : Nat} (hd : Ds P len) (hk : k < len) (hp : P k = P i + 12 * N i) (hg : G k = false) (hn : N i + N k < 65536) : nxt P len N G i = some k := by
  unfold nxt
  rw [look_of hd hk hp]
  simp [hg, hn]
theorem growM_stop {P N : Nat → Nat} {G : Nat → Bool} {len i : Nat} (h : nxt P len N G i = none) : growM P len N G i = (N, G) := by
  unfold growM
  cases cnt G len with
  | zero => rfl
  | succ f => simp only [grow]; rw [h]
theorem growM_step {P N : Nat → Nat} {G : Nat → Bool} {len i k : Nat} (h : nxt P len N G i = some k) : growM P len N G i = growM P len (upf N i (N i + N k)) (upf G k true) i := by
  obtain ⟨hk, -, hg, -⟩ := nxt_some h
  unfold growM
  rw [cnt_one hk hg]
  conv => lhs; simp only [grow]; rw [h]
/-- All blocks, the last first. -/
def joinM (P : Nat → Nat) (len : Nat) : Nat → (Nat → Nat) × (Nat → Bool) → (Nat → Nat) × (Nat → Bool)
  | 0, s => s
  | i + 1, s => joinM P len i (if s.2 i then s else growM P len s.1 s.2 i)

/-- A block of any size comes to the rows. -/
def layF : Nat → AM → Nat → Nat → AM
  | 0, A, _, _ => A
  | f + 1, A, p, n => if n ≤ 128 then restM A p n else layF f (putM A p 37) (p + 1536) (n - 128)
theorem layF_eq : ∀ (f f' : Nat) (A : AM) (p n : Nat), 1 ≤ n → n ≤ f → n ≤ f' → layF f A p n = layF f' A p n := by
  intro f
  induction f with
  | zero => intro f' A p n h1 h2; omega
  | succ f ih =>
    intro f' A p n h1 h2 h3
    cases f' with
    | zero => omega
    | succ f' =>
      unfold layF
      split
      · rfl
      · exact ih f' _ _ _ (by omega) (by omega) (by omega)
def layM (A : AM) (p n : Nat) : AM := layF n A p n
theorem layM_far {A : AM} {p n : Nat} (h : 128 < n) : layM A p n = layM (putM A p 37) (p + 1536) (n - 128) := by
  unfold layM
  obtain ⟨m, rfl⟩ : ∃ m, n = m + 1 := ⟨n - 1, by omega⟩
  conv => lhs; unfold layF
  rw [if_neg (by omega)]
  exact layF_eq _ _ _ _ _ (by omega) (by omega) (by omega)
theorem layM_rest {A : AM} {p n : Nat} (h1 : 1 ≤ n) (h : n ≤ 128) : layM A p n = restM A p n := by
  unfold layM
  obtain ⟨m, rfl⟩ : ∃ m, n = m + 1 := ⟨n - 1, by omega⟩
  unfold layF
  rw [if_pos h]
def stickM (P N : Nat → Nat) (G : Nat → Bool) : Nat → AM → AM
  | 0, A => A
  | i + 1, A => stickM P N G i (if G i then A else layM A (P i) (N i))
def bare (A : AM) : AM := { A with rows := fun _ => [], glue := 255 }
def plc (L : List Bk) : Nat → Nat := fun i => (L[i]?.getD ⟨0, 0, false⟩).p
def uns (L : List Bk) : Nat → Nat := fun i => (L[i]?.getD ⟨0, 0, false⟩).n
def gns (L : List Bk) : Nat → Bool := fun i => (L[i]?.getD ⟨0, 0, false⟩).g
/-- To glue. -/
def glueM (A : AM) : AM :=
  let L := frees A.rows
  let s := joinM (plc L) L.length L.length (uns L, gns L)
  stickM (plc L) s.1 s.2 L.length (bare A)

theorem frees_none (A : AM) : frees (bare A).rows = [] := by
  unfold frees bare
  simp [bks]
theorem Inv.bare {A : AM} {H : List Bk} (h : Inv A H) : Inv (bare A) (frees A.rows ++ H) := by
  refine ⟨by rw [frees_none]; exact h.dj, fun b hb => ?_, h.text, h.ord, h.gap, Nat.le_refl _, h.size⟩
  rw [frees_none] at hb
  exact h.inn b hb
theorem Inv.few {A : AM} {H : List Bk} (h : Inv A H) : (frees A.rows).length ≤ A.size + 1 := by
  have h1 := (List.pairwise_append.1 h.dj).1
  have hg : ∀ b ∈ frees A.rows, b.g = false := by
    intro b hb
    obtain ⟨i, -, hb⟩ := List.mem_flatMap.1 hb
    obtain ⟨x, -, rfl⟩ := List.mem_map.1 hb
    rfl
  have hin : ∀ b ∈ frees A.rows, 1 ≤ b.n ∧ b.p + 12 * b.n ≤ A.size + 1 := by
    intro b hb
    rcases h.inn b (List.mem_append.2 (.inl hb)) with e | e
    · rw [hg b hb] at e; cases e
    · exact ⟨e.1, e.2.2.1⟩
  have hn : ((frees A.rows).map Bk.p).Nodup := by
    rw [List.Nodup, List.pairwise_map]
    refine h1.imp_of_mem fun {a b} ha hb hab e => ?_
    have h2 := hin a ha
    have h3 := hin b hb
    unfold Dj at hab
    rw [hg a ha, hg b hb] at hab
    rcases hab with e | e | e | e
    · cases e
    · cases e
    · omega
    · omega
  have := nodup_le (A.size + 1) _ hn fun x hx => by
    obtain ⟨b, hb, rfl⟩ := List.mem_map.1 hx
    have := hin b hb
    omega
  rw [List.length_map] at this
  exact this
theorem Inv.ds {A : AM} {H : List Bk} {P N : Nat → Nat} {G : Nat → Bool} {len : Nat} (h : Inv A (mkB P N G len ++ H)) (hg : ∀ i, i < len → G i = false) : Ds P len := by
  have h1 := mk_pair.1 (List.pairwise_append.1 (List.pairwise_append.1 h.dj).2.1).1
  have hin := fun i hi => h.inn ⟨P i, N i, G i⟩ (List.mem_append.2 (.inr (List.mem_append.2 (.inl (mem_mk.2 ⟨i, hi, rfl⟩)))))
  have key : ∀ i j, i < j → j < len → P i ≠ P j := by
    intro i j hij hj e
    have a := h1 i j hij hj
    have b := hin i (by omega)
    have c := hin j hj
    unfold Dj at a; unfold In at b c
    rw [hg i (by omega)] at a b
    rw [hg j hj] at a c
    dsimp only at a b c
    rcases a with a | a | a | a
    · cases a
    · cases a
    · rcases b with b | b
      · cases b
      · omega
    · rcases c with c | c
      · cases c
      · omega
  intro i j hi hj e
  rcases Nat.lt_trichotomy i j with h | h | h
  · exact absurd e (key i j h hj)
  · exact h
  · exact absurd e.symm (key j i h hi)
theorem Inv.merge {A : AM} {H : List Bk} {P N : Nat → Nat} {G : Nat → Bool} {len i k : Nat} (h : Inv A (mkB P N G len ++ H)) (hi : i < len) (hgi : G i = false) (hn : nxt P len N G i = some k) :
    k ≠ i ∧ Inv A (mkB P (upf N i (N i + N k)) (upf G k true) len ++ H) := by
  obtain ⟨hk, hp, hgk, -⟩ := nxt_some hn
  have hq := List.pairwise_append.1 h.dj
  have hq2 := List.pairwise_append.1 hq.2.1
  have h1 := mk_pair.1 hq2.1
  have hin := fun j hj => h.inn ⟨P j, N j, G j⟩ (List.mem_append.2 (.inr (List.mem_append.2 (.inl (mem_mk.2 ⟨j, hj, rfl⟩)))))
  have ii := hin i hi
  have ik := hin k hk
  unfold In at ii ik
  rw [hgi] at ii
  rw [hgk] at ik
  dsimp only at ii ik
  have ii : 1 ≤ N i ∧ A.start ≤ P i ∧ P i + 12 * N i ≤ A.size + 1 ∧ (A.low = A.high ∨ P i + 12 * N i ≤ A.low ∨ A.high ≤ P i) := by
    rcases ii with e | e
    · cases e
    · exact e
  have ik : 1 ≤ N k ∧ A.start ≤ P k ∧ P k + 12 * N k ≤ A.size + 1 ∧ (A.low = A.high ∨ P k + 12 * N k ≤ A.low ∨ A.high ≤ P k) := by
    rcases ik with e | e
    · cases e
    · exact e
  have hki : k ≠ i := by rintro rfl; omega
  have hord := h.ord
  have dj : ∀ a b, a < len → b < len → a ≠ b → Dj ⟨P a, N a, G a⟩ ⟨P b, N b, G b⟩ := by
    intro a b ha hb hab
    rcases Nat.lt_or_gt_of_ne hab with e | e
    · exact h1 a b e hb
    · exact (h1 b a e ha).symm
  -- block i, grown, against any other block that is apart from both
  have two : ∀ c : Bk, (c.g = false → 1 ≤ c.n) → Dj ⟨P i, N i, G i⟩ c → Dj ⟨P k, N k, G k⟩ c → Dj ⟨P i, N i + N k, G i⟩ c := by
    intro c hc a b
    unfold Dj at *
    dsimp only at *
    rw [hgi] at a ⊢
    rw [hgk] at b
    by_cases hg : c.g = true
    · exact .inr (.inl hg)
    · have := hc (by simpa using hg)
      rcases a with a | a | a | a
      · cases a
      · exact .inr (.inl a)
      · rcases b with b | b | b | b
        · cases b
        · exact .inr (.inl b)
        · exact .inr (.inr (.inl (by omega)))
        · omega
      · exact .inr (.inr (.inr a))
  have vN : ∀ j, j ≠ i → upf N i (N i + N k) j = N j := fun j e => if_neg e
  have vi : upf N i (N i + N k) i = N i + N k := if_pos rfl
  have wG : ∀ j, j ≠ k → upf G k true j = G j := fun j e => if_neg e
  have wk : upf G k true k = true := if_pos rfl
  refine ⟨hki, h.turn (List.pairwise_append.2 ⟨mk_pair.2 fun a b hab hb => ?_, hq2.2.1, fun a ha b hb => ?_⟩) (fun a ha b hb => ?_) (fun b hb => ?_)⟩
  · by_cases ak : a = k
    · subst ak; exact .inl wk
    by_cases bk : b = k
    · subst bk; exact .inr (.inl wk)
    rw [wG a ak, wG b bk]
    by_cases ai : a = i
    · subst ai
      rw [vi, vN b (by omega)]
      refine two _ (fun hg => ?_) (dj a b (by omega) hb (by omega)) (dj k b hk hb (fun e => bk e.symm))
      have := hin b hb
      unfold In at this; dsimp only at this hg
      rw [hg] at this
      rcases this with e | e
      · cases e
      · exact e.1
    · by_cases bi : b = i
      · subst bi
        rw [vi, vN a ai]
        refine (two _ (fun hg => ?_) (dj b a hb (by omega) (by omega)) (dj k a hk (by omega) (fun e => ak e.symm))).symm
        have := hin a (by omega)
        unfold In at this; dsimp only at this hg
        rw [hg] at this
        rcases this with e | e
        · cases e
        · exact e.1
      · rw [vN a ai, vN b bi]
        exact dj a b (by omega) hb (by omega)
  · obtain ⟨j, hj, rfl⟩ := mem_mk.1 ha
    have old := fun x hx => hq2.2.2 ⟨P x, N x, G x⟩ (mem_mk.2 ⟨x, hx, rfl⟩) b hb
    by_cases jk : j = k
    · subst jk; exact .inl wk
    rw [wG j jk]
    by_cases ji : j = i
    · subst ji
      rw [vi]
      refine two b (fun hg => ?_) (old j hj) (old k hk)
      rcases h.inn b (by simp [hb]) with e | e
      · rw [hg] at e; cases e
      · exact e.1
    · rw [vN j ji]; exact old j hj
  · rcases List.mem_append.1 hb with hb | hb
    · obtain ⟨j, hj, rfl⟩ := mem_mk.1 hb
      have old := fun x hx => hq.2.2 a ha ⟨P x, N x, G x⟩ (List.mem_append.2 (.inl (mem_mk.2 ⟨x, hx, rfl⟩)))
      by_cases jk : j = k
      · subst jk; exact .inr (.inl wk)
      rw [wG j jk]
      by_cases ji : j = i
      · subst ji
        rw [vi]
        refine (two a (fun hg => ?_) (old j hj).symm (old k hk).symm).symm
        rcases h.inn a (by simp [ha]) with e | e
        · rw [hg] at e; cases e
        · exact e.1
      · rw [vN j ji]; exact old j hj
    · exact hq.2.2 a ha b (List.mem_append.2 (.inr hb))
  · rcases List.mem_append.1 hb with hb | hb
    · obtain ⟨j, hj, rfl⟩ := mem_mk.1 hb
      by_cases jk : j = k
      · subst jk; exact .inl wk
      rw [wG j jk]
      by_cases ji : j = i
      · subst ji
        rw [vi]
        refine .inr ⟨by dsimp only; omega, ii.2.1, by dsimp only; omega, ?_⟩
        dsimp only
        omega
      · rw [vN j ji]; exact hin j hj
    · exact h.inn b (List.mem_append.2 (.inr (List.mem_append.2 (.inr hb))))
end Go.Proofs.Ytplhonlgbidemaa
