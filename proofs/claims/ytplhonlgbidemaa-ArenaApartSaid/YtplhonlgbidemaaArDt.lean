/- The document's functions: rest, Free, Push, Shrink. -/
import Derived.Test.YtplhonlgbidemaaArDs
import Derived.BigQuiet
namespace Go.Proofs.Ytplhonlgbidemaa
open Go.RowKit

/-- No row is long. -/
def Few (A : AM) (k : Nat) : Prop := ∀ i, i < 38 → (A.rows i).length + k ≤ 16777216
theorem Few.put {A : AM} {k : Nat} (h : Few A (k + 1)) (p i : Nat) : Few (putM A p i) k := by
  intro j hj
  have := h j hj
  show (upr A.rows i (p :: A.rows i) j).length + k ≤ _
  unfold upr
  split
  · subst_vars; simp; omega
  · omega
theorem Few.take {A : AM} {k : Nat} (h : Few A k) (i : Nat) : Few (takeM A i) k := by
  intro j hj
  have := h j hj
  show (upr A.rows i (A.rows i).tail j).length + k ≤ _
  unfold upr
  split
  · subst_vars; simp; omega
  · omega
theorem Few.le {A : AM} {k j : Nat} (h : Few A k) (hj : j ≤ k) : Few A j := fun i hi => by have := h i hi; omega
section
variable {w w' : World} {r : Nat} {A : AM}
theorem rlen_any (h : Rf w r A) {i : Nat} (hi : i < 38) : ∃ a c, w.cell? ⟨r, 1 + i, none⟩ = some (.slice a (A.rows i).length c) := by
  obtain ⟨v, hv, a, c, rfl, -⟩ := h.row hi
  exact ⟨a, c, hv⟩
set_option maxRecDepth 100000 in
set_option maxHeartbeats 2000000 in
theorem rrest_any (h : Rf w r A) {p n : Nat} (hF : Few A 2) (h1 : 1 ≤ n) (h2 : n ≤ 128) (hp : p ≤ 33554432) :
    Calls Try.prog 56 #[.pointer (some ⟨r, 0, none⟩), .int .i64 (p : Nat), .int .i64 (n : Nat)] w fun e w' => e = .returned (.tuple #[]) ∧ Rf w' r (restM A p n) ∧ On (fun k => k = r) w w' := by
  have FN := for_any w n h1 h2
  have hfl := fr_lt h2
  have SN := size_any w (fr n) (by omega)
  have hle := sz_le hfl
  go_enter Try.func56, Try.ntmps56
  by_cases he : sz (fr n) = n
  · have g1 : ((sz (fr n) : Int) == (n : Int)) = true := by simp; omega
    have g2 : decide (sz (fr n) = n) = true := by simp; omega
    have P1 := rput_any h p hfl (by have := hF (fr n) hfl; omega)
    have em : restM A p n = putM A p (fr n) := by unfold restM; rw [if_pos he]
    have HM := Lib.hid em
    clear em he hle
    go_wp2_with fail
    refine FN.mono ?_; rintro e w1 ⟨rfl, rfl⟩
    go_wp2_with fail
    refine SN.mono ?_; rintro e w2 ⟨rfl, rfl⟩
    go_wp2_with fail
    refine P1.mono ?_; rintro e w3 ⟨rfl, hr3, ho3⟩
    go_wp2_with fail
    first | go_end0 | refine bodyPost_ret (results_none rfl _ _ _) rfl ?_
    exact ⟨rfl, by rw [HM.out]; exact hr3, ho3⟩
  · have g1 : ((sz (fr n) : Int) == (n : Int)) = false := by simp; omega
    have g2 : decide (sz (fr n) = n) = false := by simp; omega
    have hf1 := fr_one h1 he
    have hb := sz_before h1 hf1
    have hz := sz_pos (fr n - 1)
    obtain ⟨k, hk⟩ : ∃ k, k = sz (fr n - 1) := ⟨_, rfl⟩
    obtain ⟨q, hq⟩ : ∃ q, q = fr n - 1 := ⟨_, rfl⟩
    have hfr : fr (n - k) < 38 := fr_lt (by omega)
    have em : restM A p n = putM (putM A (p + 12 * k) (fr (n - k))) p q := by unfold restM; rw [if_neg he, hk, hq]
    have S1 := size_any w q (by omega)
    have F1 := for_any w (n - k) (by omega) (by omega)
    have P1 := rput_any h (p + 12 * k) hfr (by have := hF _ hfr; omega)
    rw [hq, ← hk] at S1
    have eq1 : ((q : Nat) : Int) = (fr n : Int) - 1 := by omega
    have ek : ((n - k : Nat) : Int) = (n : Int) - (k : Int) := by omega
    have ep : ((p + 12 * k : Nat) : Int) = (p : Int) + 12 * (k : Int) := by omega
    rw [← hq, eq1] at S1
    rw [ek] at F1
    rw [ep] at P1
    have hF1 := hF.put (p + 12 * k) (fr (n - k))
    have HM := Lib.hid em
    have HQ := Lib.hid eq1
    have hkn : k < n := by omega
    have hk1 : 1 ≤ k := by omega
    have hq38 : q < 38 := by omega
    clear em ek ep hk hq hb hz hf1 he hle eq1 hF hfr
    go_wp2_with fail
    refine FN.mono ?_; rintro e w1 ⟨rfl, rfl⟩
    go_wp2_with fail
    refine SN.mono ?_; rintro e w2 ⟨rfl, rfl⟩
    go_wp2_with fail
    refine S1.mono ?_; rintro e w3 ⟨rfl, rfl⟩
    go_wp2_with fail
    refine F1.mono ?_; rintro e w4 ⟨rfl, rfl⟩
    go_wp2_with fail
    refine P1.mono ?_; rintro e w5 ⟨rfl, hr5, ho5⟩
    have P2 := rput_any hr5 p hq38 (by have := hF1 _ hq38; omega)
    rw [HQ.out] at P2
    go_wp2_with fail
    refine P2.mono ?_; rintro e w6 ⟨rfl, hr6, ho6⟩
    go_wp2_with fail
    first | go_end0 | refine bodyPost_ret (results_none rfl _ _ _) rfl ?_
    exact ⟨rfl, by rw [HM.out]; exact hr6, ho5.trans ho6⟩
theorem rfree_any (h : Rf w r A) {p n : Nat} (hF : Few A 1) (h1 : 1 ≤ n) (h2 : n ≤ 128) :
    Calls Try.prog 42 #[.pointer (some ⟨r, 0, none⟩), .int .i64 (p : Nat), .int .i64 (n : Nat)] w fun e w' => e = .returned (.tuple #[]) ∧ Rf w' r (putM A p (fr n)) ∧ On (fun k => k = r) w w' := by
  have FN := for_any w n h1 h2
  have hfl := fr_lt h2
  have P1 := rput_any h p hfl (by have := hF (fr n) hfl; omega)
  go_enter Try.func42, Try.ntmps42
  go_wp2_with fail
  refine FN.mono ?_; rintro e w1 ⟨rfl, rfl⟩
  go_wp2_with fail
  refine P1.mono ?_; rintro e w3 ⟨rfl, hr3, ho3⟩
  go_wp2_with fail
  first | go_end0 | refine bodyPost_ret (results_none rfl _ _ _) rfl ?_
  exact ⟨rfl, hr3, ho3⟩
set_option maxRecDepth 100000 in
theorem rpush_any (h : Rf w r A) (ht : A.text ≤ 33554432) :
    Calls Try.prog 45 #[.pointer (some ⟨r, 0, none⟩)] w fun e w' => e = .returned (.bool (decide (A.text + 1 < A.start))) ∧ Rf w' r { A with text := A.text + 1 } ∧ On (fun k => k = r) w w' := by
  have c39 := h.text
  have f39 := h.free 39
  have h1 := h.putText (A.text + 1)
  have o1 := (on_refl (fun k => k = r) w).put (g := r) (i := 39) rfl (.int .i64 ((A.text + 1 : Nat) : Int))
  have e1 : ((A.text + 1 : Nat) : Int) = (A.text : Int) + 1 := by omega
  rw [e1] at h1 o1
  go_enter Try.func45, Try.ntmps45
  go_wp2_with fail
  generalize World.setCell _ _ _ = w1 at *
  have c39 := h1.text
  have c40 := h1.start
  dsimp only at c39 c40
  rw [e1] at c39
  clear f39
  go_quiet (fail)
  go_wp2_with fail
  go_ret
  have ed : decide ((A.text : Int) + 1 < (A.start : Int)) = decide (A.text + 1 < A.start) := by apply decide_eq_decide.2; omega
  exact ⟨by rw [← ed]; rfl, h1, o1.drewN _⟩
end
end Go.Proofs.Ytplhonlgbidemaa
