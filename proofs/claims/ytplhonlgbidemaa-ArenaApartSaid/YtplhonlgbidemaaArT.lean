/- put, take, spread, part, shut. -/
import Derived.Test.YtplhonlgbidemaaArB
import Derived.StillTailTactics
namespace Go.Proofs.Ytplhonlgbidemaa
open Go.RowKit

/-- An arena whose rows are A's; the blocks H are loose. -/
def Ax (w : World) (g gm : Nat) (mt : Value) (A : AM) (H : List Bk) : Prop :=
  Inv A H ∧ ∃ M, Ar w g gm mt A (fun i => hd (A.rows i)) M ∧ ∀ i, i < 38 → Chain M (A.rows i)

section
variable {w w' : World} {g gm : Nat} {mt : Value} {A : AM} {H : List Bk}
theorem Ax.on {s : Nat → Prop} (h : Ax w g gm mt A H) (ho : On s w w') (h1 : ¬ s g) (h2 : ¬ s gm) : Ax w' g gm mt A H := by
  obtain ⟨hi, M, ha, hc⟩ := h; exact ⟨hi, M, ha.on ho h1 h2, hc⟩
theorem Ax.drewN (h : Ax w g gm mt A H) (n : Nat) : Ax (w.drewN n) g gm mt A H := h
theorem Ax.drew (h : Ax w g gm mt A H) : Ax w.drew g gm mt A H := h
theorem Ax.swap {H' : List Bk} (h : Ax w g gm mt A H) (hp : H.Perm H') : Ax w g gm mt A H' := ⟨h.1.swap hp, h.2⟩
theorem Ax.inv (h : Ax w g gm mt A H) : Inv A H := h.1
theorem Ax.lt (h : Ax w g gm mt A H) : g < w.heap.size ∧ gm < w.heap.size ∧ g ≠ gm := by obtain ⟨-, M, ha, -⟩ := h; exact ⟨ha.lt, ha.ltm, ha.ne⟩

theorem num4_any {F M : Nat → Nat} (ha : Ar w g gm mt A F M) {p : Nat} (hp : p + 4 ≤ A.size + 13) :
    Calls Try.prog 20 #[.pointer (some ⟨g, 0, none⟩), .int .i64 (p : Nat), .int .i64 4] w fun e w' => e = .returned (.int .i64 (num4 M p : Nat)) ∧ w' = w := by
  have h := num_any ha (p := p) (k := 4) hp (by omega)
  rw [numK_four] at h
  exact h
theorem put_any {p n r : Nat} (h : Ax w g gm mt A (⟨p, n, false⟩ :: H)) (hr : r < 38) (hn : n = sz r) :
    Calls Try.prog 36 #[.pointer (some ⟨g, 0, none⟩), .int .i64 (p : Nat), .int .i64 (r : Nat)] w fun e w' =>
      e = .returned (.tuple #[]) ∧ Ax w' g gm mt (putM A p r) H ∧ On (two g gm) w w' := by
  obtain ⟨hi, M, ha, hc⟩ := h
  have hl := hi.loose
  have hsz := ha.small
  have c1 := ha.row hr
  have hx : hd (A.rows r) < 4294967296 := by
    cases e : A.rows r with
    | nil => simp [hd]
    | cons x l => have := hi.free hr (x := x) (by rw [e]; simp); simp only [hd]; omega
  have S := setNum_any ha (p := p) (k := 4) ((hd (A.rows r) : Nat) : Int) (by omega) (by omega)
  have hfin : ∀ w', Ar w' g gm mt A (fun i => if i = r then p else hd (A.rows i)) (fun i => if p ≤ i ∧ i < p + 4 then byteOf ((hd (A.rows r) : Nat) : Int) (i - p) else M i) → Ax w' g gm mt (putM A p r) H := by
    intro w' h'
    refine ⟨hi.put hr hn, _, h'.cong rfl rfl rfl rfl rfl rfl (fun i _ => ?_) (fun _ _ => rfl), fun i hi38 => ?_⟩
    · show hd (upr A.rows r (p :: A.rows r) i) = _
      unfold upr
      by_cases e : i = r
      · rw [if_pos e, if_pos e]; rfl
      · rw [if_neg e, if_neg e]
    · have hk : ∀ j, j < 38 → ∀ x ∈ A.rows j, num4 (fun i => if p ≤ i ∧ i < p + 4 then byteOf ((hd (A.rows r) : Nat) : Int) (i - p) else M i) x = num4 M x := by
        intro j hj x hx
        have := hi.apart hj hx
        have := sz_pos j
        exact num4_far (by omega)
      show Chain _ (upr A.rows r (p :: A.rows r) i)
      unfold upr
      by_cases e : i = r
      · subst e
        rw [if_pos rfl]
        exact ⟨num4_set hx, (hc i hi38).keep (hk i hi38)⟩
      · rw [if_neg e]
        exact (hc i hi38).keep (hk i hi38)
  clear hi hl hc hx
  generalize hd (A.rows r) = x at *
  go_enter Try.func36, Try.ntmps36
  go_wp2_with fail
  refine S.mono ?_; rintro e w1 ⟨rfl, hA1, hO1⟩
  have c2 := hA1.row hr
  have f2 := hA1.free (170 + r)
  go_wp2_with fail
  go_end0
  exact ⟨rfl, hfin _ (hA1.putRow hr), hO1.put (.inl rfl) _⟩
theorem shut_no (h : Ax w g gm mt A H) :
    Calls Try.prog 33 #[.pointer (some ⟨g, 0, none⟩)] w fun e w' => e = .returned (.bool false) ∧ w' = w := by
  obtain ⟨hi, M, ha, hc⟩ := h
  have c0 := ha.mem
  go_enter Try.func33, Try.ntmps33
  go_wp2_with fail
  go_ret
  exact ⟨rfl, rfl⟩
set_option maxRecDepth 100000 in
theorem take_any {r x : Nat} {l : List Nat} (h : Ax w g gm mt A H) (hr : r < 38) (hx : A.rows r = x :: l) :
    Calls Try.prog 34 #[.pointer (some ⟨g, 0, none⟩), .int .i64 (r : Nat)] w fun e w' =>
      e = .returned (.int .i64 (x : Nat)) ∧ Ax w' g gm mt (takeM A r) (⟨x, sz r, false⟩ :: H) ∧ On (two g gm) w w' := by
  obtain ⟨hi, M, ha, hc⟩ := h
  have hin := hi.free hr (x := x) (by rw [hx]; simp)
  have hsz := sz_pos r
  have hcr := hc r hr
  rw [hx] at hcr
  have c1 := ha.row hr
  have N' := num4_any ha.drew (p := x) (by omega)
  rw [hcr.1] at N'
  have hfin : ∀ w', Ar w' g gm mt A (fun i => if i = r then hd l else hd (A.rows i)) M → Ax w' g gm mt (takeM A r) (⟨x, sz r, false⟩ :: H) := by
    intro w' h'
    refine ⟨hi.take hr hx, M, h'.cong rfl rfl rfl rfl rfl rfl (fun i _ => ?_) (fun _ _ => rfl), fun i hi38 => ?_⟩
    · show hd (upr A.rows r (A.rows r).tail i) = _
      unfold upr
      by_cases e : i = r
      · rw [if_pos e, if_pos e, hx]; rfl
      · rw [if_neg e, if_neg e]
    · show Chain _ (upr A.rows r (A.rows r).tail i)
      unfold upr
      by_cases e : i = r
      · rw [if_pos e, hx]; exact hcr.2
      · rw [if_neg e]; exact hc i hi38
  rw [hx] at c1
  change w.cell? _ = some (.int .i64 (x : Nat)) at c1
  have hr' : (r : Int) < 38 := by omega
  clear hi hc hcr hin hx
  generalize hd l = y at *
  go_enter Try.func34, Try.ntmps34
  go_wp2_with fail
  refine wp_region_still_tail 8 (by kernel_rfl) (by kernel_rfl) ?_
  change wpStill _ _ w.drew (fun a' => wpList _ _ _ _ a' w.drew) _ _
  simp only [List.take_succ_cons, List.take_zero, List.drop_succ_cons, List.drop_zero]
  repeat (first | still_step | still_call N')
  refine wpStill_nil ?_
  have c2 := ha.drew.row hr
  have f2 := ha.drew.free (170 + r)
  go_wp2_with fail
  go_ret
  exact ⟨rfl, hfin _ (ha.drew.putRow hr), ((on_refl _ w).drew).put (.inl rfl) _⟩
theorem spread_any {p n : Nat} (h : Ax w g gm mt A (⟨p, n, false⟩ :: H)) (hn : n ≤ 128) :
    Calls Try.prog 62 #[.pointer (some ⟨g, 0, none⟩), .int .i64 (p : Nat), .int .i64 (n : Nat)] w fun e w' =>
      e = .returned (.tuple #[]) ∧ Ax w' g gm mt (restM A p n) H ∧ On (two g gm) w w' := by
  have h0 := h
  obtain ⟨hi, M, ha, hc⟩ := h
  have hl := hi.loose
  have hsz := ha.small
  have f1 := fr_lt hn
  have c1 := ha.which hl.1 hn
  have c2 := ha.units f1
  by_cases he : sz (fr n) = n
  · have P := put_any h0 f1 he.symm
    have em : restM A p n = putM A p (fr n) := if_pos he
    rw [em]
    have he' : (sz (fr n) : Int) = n := by omega
    rw [he] at c2
    clear hi hc h0
    go_enter Try.func62, Try.ntmps62
    go_wp2_with fail
    refine P.mono ?_; rintro e w1 ⟨rfl, hA1, hO1⟩
    go_wp2_with fail
    go_end0
    exact ⟨rfl, hA1, hO1⟩
  · have k1 := fr_one hl.1 he
    have k2 := sz_before hl.1 k1
    have k3 := sz_rest hl.1 he
    have k4 := sz_pos (fr n - 1)
    have em : restM A p n = putM (putM A (p + 12 * sz (fr n - 1)) (fr (n - sz (fr n - 1)))) p (fr n - 1) := if_neg he
    rw [em]
    have h1 : Ax w g gm mt A (⟨p, sz (fr n - 1) + (n - sz (fr n - 1)), false⟩ :: H) := by
      rw [show sz (fr n - 1) + (n - sz (fr n - 1)) = n by omega]; exact h0
    have h2 : Ax w g gm mt A (⟨p + 12 * sz (fr n - 1), n - sz (fr n - 1), false⟩ :: ⟨p, sz (fr n - 1), false⟩ :: H) := ⟨(h1.1.split k4 (by omega)).swap (List.Perm.swap _ _ _), h1.2⟩
    have P := put_any h2 (fr_lt (by omega)) k3.symm
    have e3 : ((p + 12 * sz (fr n - 1) : Nat) : Int) = (p : Int) + (sz (fr n - 1) : Nat) * 12 := by omega
    rw [e3] at P
    have c3 := ha.units (i := fr n - 1) (by omega)
    have c4 := ha.which (n := n - sz (fr n - 1)) (by omega) (by omega)
    have he' : ¬ (sz (fr n) : Int) = n := by omega
    have q1 : ((fr n : Nat) : Int) - 1 = ((fr n - 1 : Nat) : Int) := by omega
    have q2 : ((n : Nat) : Int) - ((sz (fr n - 1) : Nat) : Int) = ((n - sz (fr n - 1) : Nat) : Int) := by omega
    have k5 := sz_le f1
    clear hi hc h0 h1 h2 em
    go_enter Try.func62, Try.ntmps62
    go_wp2_with fail
    refine P.mono ?_; rintro e w1 ⟨rfl, hA1, hO1⟩
    have P2 := put_any hA1 (r := fr n - 1) (by omega) rfl
    go_wp2_with fail
    refine P2.mono ?_; rintro e w2 ⟨rfl, hA2, hO2⟩
    go_wp2_with fail
    go_end0
    exact ⟨rfl, hA2, hO1.trans hO2⟩
set_option maxRecDepth 100000 in
/-- Of a block of size o a lesser one of size r stays loose. -/
theorem part_any {p o r : Nat} (h : Ax w g gm mt A (⟨p, sz o, false⟩ :: H)) (hr : r < o) (ho : o < 38) :
    Calls Try.prog 50 #[.pointer (some ⟨g, 0, none⟩), .int .i64 (p : Nat), .int .i64 (o : Nat), .int .i64 (r : Nat)] w fun e w' =>
      e = .returned (.tuple #[]) ∧ Ax w' g gm mt (restM A (p + 12 * sz r) (sz o - sz r)) (⟨p, sz r, false⟩ :: H) ∧ On (two g gm) w w' := by
  have h0 := h
  obtain ⟨hi, M, ha, hc⟩ := h
  have hl := hi.loose
  have hsz := ha.small
  have s1 := sz_lt hr
  have s2 := sz_le ho
  have s3 := sz_pos r
  have h1 : Ax w g gm mt A (⟨p, sz r + (sz o - sz r), false⟩ :: H) := by
    rw [show sz r + (sz o - sz r) = sz o by omega]; exact h0
  have h2 : Ax w g gm mt A (⟨p + 12 * sz r, sz o - sz r, false⟩ :: ⟨p, sz r, false⟩ :: H) := ⟨(h1.1.split s3 (by omega)).swap (List.Perm.swap _ _ _), h1.2⟩
  have P := spread_any (Ax.drew h2) (by omega)
  have e3 : ((p + 12 * sz r : Nat) : Int) = (p : Int) + (sz r : Nat) * 12 := by omega
  have e4 : ((sz o - sz r : Nat) : Int) = (sz o : Int) - (sz r : Nat) := by omega
  rw [e3, e4] at P
  have c1 := ha.drew.units (i := r) (by omega)
  have c2 := ha.drew.units ho
  have b1 : (r : Int) < 38 := by omega
  have b2 : (o : Int) < 38 := by omega
  clear hi hc h0 h1 h2
  go_enter Try.func50, Try.ntmps50
  refine wp_region_still_tail 23 (by kernel_rfl) (by kernel_rfl) ?_
  change wpStill _ _ w.drew (fun a' => wpList _ _ _ _ a' w.drew) _ _
  simp only [List.take_succ_cons, List.take_zero, List.drop_succ_cons, List.drop_zero]
  repeat still_step
  refine wpStill_nil ?_
  go_wp2_with fail
  refine P.mono ?_; rintro e w1 ⟨rfl, hA1, hO1⟩
  go_wp2_with fail
  go_end0
  exact ⟨rfl, hA1, ((on_refl _ w).drew).trans hO1⟩
end
end Go.Proofs.Ytplhonlgbidemaa
