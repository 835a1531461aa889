/- put and spread, where nothing is known of the rows. -/
import Derived.Test.YtplhonlgbidemaaArK
namespace Go.Proofs.Ytplhonlgbidemaa
open Go.RowKit

section
variable {w w' : World} {g gm : Nat} {mt : Value} {A : AM} {H : List Bk} {F M : Nat → Nat}
theorem put_raw {p r : Nat} (ha : Ar w g gm mt A F M) (hp : p + 4 ≤ A.size + 13) (hr : r < 38) :
    Calls Try.prog 36 #[.pointer (some ⟨g, 0, none⟩), .int .i64 (p : Nat), .int .i64 (r : Nat)] w fun e w' =>
      e = .returned (.tuple #[]) ∧ (∃ F' M', Ar w' g gm mt A F' M') ∧ On (two g gm) w w' := by
  have hsz := ha.small
  have c1 := ha.row hr
  have S := setNum_any ha (p := p) (k := 4) ((F r : Nat) : Int) (by omega) (by omega)
  have hfin : ∀ w', Ar w' g gm mt A (fun i => if i = r then p else F i) (fun i => if p ≤ i ∧ i < p + 4 then byteOf ((F r : Nat) : Int) (i - p) else M i) → ∃ F' M', Ar w' g gm mt A F' M' := fun w' h => ⟨_, _, h⟩
  generalize F r = x at *
  go_enter Try.func36, Try.ntmps36
  go_wp2_with fail
  refine S.mono ?_; rintro e w1 ⟨rfl, hA1, hO1⟩
  have c2 := hA1.row hr
  have f2 := hA1.free (170 + r)
  go_wp2_with fail
  go_end0
  exact ⟨rfl, hfin _ (hA1.putRow hr), hO1.put (.inl rfl) _⟩
theorem spread_raw {p n : Nat} (ha : Ar w g gm mt A F M) (h1 : 1 ≤ n) (hn : n ≤ 128) (hp : p + 12 * n ≤ A.size + 1) :
    Calls Try.prog 62 #[.pointer (some ⟨g, 0, none⟩), .int .i64 (p : Nat), .int .i64 (n : Nat)] w fun e w' =>
      e = .returned (.tuple #[]) ∧ (∃ F' M', Ar w' g gm mt A F' M') ∧ On (two g gm) w w' := by
  have hsz := ha.small
  have f1 := fr_lt hn
  have c1 := ha.which h1 hn
  have c2 := ha.units f1
  by_cases he : sz (fr n) = n
  · have P := put_raw ha (p := p) (by omega) f1
    have he' : (sz (fr n) : Int) = n := by omega
    rw [he] at c2
    go_enter Try.func62, Try.ntmps62
    go_wp2_with fail
    refine P.mono ?_; rintro e w1 ⟨rfl, hA1, hO1⟩
    go_wp2_with fail
    go_end0
    exact ⟨rfl, hA1, hO1⟩
  · have k1 := fr_one h1 he
    have k2 := sz_before h1 k1
    have k4 := sz_pos (fr n - 1)
    have P := put_raw ha (p := p + 12 * sz (fr n - 1)) (r := fr (n - sz (fr n - 1))) (by omega) (fr_lt (by omega))
    have e3 : ((p + 12 * sz (fr n - 1) : Nat) : Int) = (p : Int) + (sz (fr n - 1) : Nat) * 12 := by omega
    rw [e3] at P
    have c3 := ha.units (i := fr n - 1) (by omega)
    have c4 := ha.which (n := n - sz (fr n - 1)) (by omega) (by omega)
    have he' : ¬ (sz (fr n) : Int) = n := by omega
    have q1 : ((fr n : Nat) : Int) - 1 = ((fr n - 1 : Nat) : Int) := by omega
    have q2 : ((n : Nat) : Int) - ((sz (fr n - 1) : Nat) : Int) = ((n - sz (fr n - 1) : Nat) : Int) := by omega
    have k5 := sz_le f1
    go_enter Try.func62, Try.ntmps62
    go_wp2_with fail
    refine P.mono ?_; rintro e w1 ⟨rfl, ⟨F1, M1, hA1⟩, hO1⟩
    have P2 := put_raw hA1 (p := p) (r := fr n - 1) (by omega) (by omega)
    go_wp2_with fail
    refine P2.mono ?_; rintro e w2 ⟨rfl, hA2, hO2⟩
    go_wp2_with fail
    go_end0
    exact ⟨rfl, hA2, hO1.trans hO2⟩

/-- An arena; where c holds, its rows are A's and the blocks H are loose. -/
def Ay (c : Prop) (w : World) (g gm : Nat) (mt : Value) (A : AM) (H : List Bk) : Prop := (∃ F M, Ar w g gm mt A F M) ∧ (c → Ax w g gm mt A H)
theorem Ax.ar (h : Ax w g gm mt A H) : ∃ F M, Ar w g gm mt A F M := by obtain ⟨-, M, h, -⟩ := h; exact ⟨_, M, h⟩
theorem Ar.rows {A' : AM} (h : Ar w g gm mt A F M) (h0 : A'.size = A.size) (h1 : A'.text = A.text) (h2 : A'.start = A.start) (h3 : A'.low = A.low) (h4 : A'.high = A.high) (h5 : A'.glue = A.glue) : Ar w g gm mt A' F M :=
  h.cong h0 h1 h2 h3 h4 h5 (fun _ _ => rfl) (fun _ _ => rfl)
theorem restM_same (A : AM) (p n : Nat) : (restM A p n).size = A.size ∧ (restM A p n).text = A.text ∧ (restM A p n).start = A.start ∧ (restM A p n).low = A.low ∧ (restM A p n).high = A.high ∧ (restM A p n).glue = A.glue := by
  unfold restM
  split <;> exact ⟨rfl, rfl, rfl, rfl, rfl, rfl⟩
theorem Ay.on {c : Prop} {s : Nat → Prop} (h : Ay c w g gm mt A H) (ho : On s w w') (h1 : ¬ s g) (h2 : ¬ s gm) : Ay c w' g gm mt A H := by
  obtain ⟨⟨F, M, h⟩, hx⟩ := h
  exact ⟨⟨F, M, h.on ho h1 h2⟩, fun hc => (hx hc).on ho h1 h2⟩
theorem put_both {c : Prop} {p n r : Nat} (h : Ay c w g gm mt A (⟨p, n, false⟩ :: H)) (hp : p + 4 ≤ A.size + 13) (hr : r < 38) (hn : n = sz r) :
    Calls Try.prog 36 #[.pointer (some ⟨g, 0, none⟩), .int .i64 (p : Nat), .int .i64 (r : Nat)] w fun e w' =>
      e = .returned (.tuple #[]) ∧ Ay c w' g gm mt (putM A p r) H ∧ On (two g gm) w w' := by
  obtain ⟨⟨F, M, h⟩, hx⟩ := h
  by_cases hc : c
  · refine (put_any (hx hc) hr hn).mono ?_
    rintro e w' ⟨h1, h2, h3⟩
    exact ⟨h1, ⟨h2.ar, fun _ => h2⟩, h3⟩
  · refine (put_raw h hp hr).mono ?_
    rintro e w' ⟨h1, ⟨F', M', h2⟩, h3⟩
    exact ⟨h1, ⟨⟨F', M', h2.rows rfl rfl rfl rfl rfl rfl⟩, fun h => absurd h hc⟩, h3⟩
theorem spread_both {c : Prop} {p n : Nat} (h : Ay c w g gm mt A (⟨p, n, false⟩ :: H)) (h1 : 1 ≤ n) (hn : n ≤ 128) (hp : p + 12 * n ≤ A.size + 1) :
    Calls Try.prog 62 #[.pointer (some ⟨g, 0, none⟩), .int .i64 (p : Nat), .int .i64 (n : Nat)] w fun e w' =>
      e = .returned (.tuple #[]) ∧ Ay c w' g gm mt (restM A p n) H ∧ On (two g gm) w w' := by
  obtain ⟨⟨F, M, h⟩, hx⟩ := h
  by_cases hc : c
  · refine (spread_any (hx hc) hn).mono ?_
    rintro e w' ⟨h1, h2, h3⟩
    exact ⟨h1, ⟨h2.ar, fun _ => h2⟩, h3⟩
  · refine (spread_raw h h1 hn hp).mono ?_
    rintro e w' ⟨h1, ⟨F', M', h2⟩, h3⟩
    obtain ⟨a, b, c', d, e', f⟩ := restM_same A p n
    exact ⟨h1, ⟨⟨F', M', h2.rows a b c' d e' f⟩, fun h => absurd h hc⟩, h3⟩
end
end Go.Proofs.Ytplhonlgbidemaa
