/- A step, whatever it is. -/
import Derived.Test.YtplhonlgbidemaaArPo
import Derived.Test.YtplhonlgbidemaaArPr
import Derived.Test.YtplhonlgbidemaaArPp
import Derived.Test.YtplhonlgbidemaaArPu
import Derived.Test.YtplhonlgbidemaaArP1
import Derived.Test.YtplhonlgbidemaaArPn
import Derived.Test.YtplhonlgbidemaaArPs
import Derived.Test.YtplhonlgbidemaaArPf
import Derived.Test.YtplhonlgbidemaaArSc
namespace Go.Proofs.Ytplhonlgbidemaa
open Go.RowKit
section
variable {base x g gm r n : Nat} {mt : Value} {A : AM} {L : List (Nat × Nat)} {full : Bool} {lv : Value} {w : World}
theorem does_any (h : Wd base x g gm r mt n A L full lv w) (hL : L.length ≤ 100000) (K N Q : Int) :
    Calls Try.prog 28 #[.pointer (some ⟨x, 0, none⟩), .agg #[.int .i64 K, .int .i64 N, .int .i64 Q]] w (DoesPost base x g gm r mt n L w) := by
  by_cases k0 : K = 0
  · subst k0
    by_cases hN : 1 ≤ N ∧ N ≤ 128
    · exact does_units h hL (m := N.toNat) (by omega) (by omega) (by omega)
    · exact does_units_no h hL (by omega)
  by_cases k1 : K = 1
  · subst k1; exact does_one h hL
  by_cases k2 : K = 2
  · subst k2; exact does_free h hL
  by_cases k3 : K = 3
  · subst k3; exact does_shrink h hL
  by_cases k4 : K = 4
  · subst k4; exact does_push h hL
  by_cases k5 : K = 5
  · subst k5; exact does_restart h hL
  exact does_other h hL k0 k1 k2 k3 k4 k5
end
/-- The loop over the script. -/
def PlL (W : World) (base x g gm r : Nat) (mt : Value) (n len : Nat) (i : Value) (wr : World) : Prop :=
  ∃ (k : Nat) (A : AM) (L : List (Nat × Nat)) (full : Bool) (lv : Value), k ≤ len ∧ k ≤ 100000 ∧ i = .int .i64 k ∧ L.length ≤ k ∧ Wd base x g gm r mt n A L full lv wr ∧ W.grownBy wr none
/-- A step's cells. -/
theorem step_at {w : World} {B len k : Nat} {S0 : Option Addr} {K N Q : Nat → Int} (h : Script w B S0 len K N Q) (hk : k < len) : ∃ b off, S0 = some ⟨b, off, none⟩ ∧ b < B ∧
    w.cell? ⟨b, off + k * 3, none⟩ = some (.int .i64 (K k)) ∧ w.cell? ⟨b, off + k * 3 + 1, none⟩ = some (.int .i64 (N k)) ∧ w.cell? ⟨b, off + k * 3 + 2, none⟩ = some (.int .i64 (Q k)) := by
  obtain ⟨-, b, off, h1, h2, h3⟩ := h k hk
  exact ⟨b, off, h1, h2, h3⟩
theorem begun {w w1 : World} {x g gm r b n : Nat} (hbase : w.heap.size ≤ x ∧ w.heap.size ≤ g ∧ w.heap.size ≤ gm ∧ w.heap.size ≤ r) (h1 : 2048 ≤ n) (h2 : n ≤ 1000000)
    (hb : Blk w1 x 52 #[.pointer (some ⟨g, 0, none⟩), .pointer (some ⟨r, 0, none⟩), .slice none 0 0, .bool false]) (ha : Ax w1 g gm (.pointer (some ⟨b, 0, none⟩)) (freshM n) []) (hr : Rf w1 r (freshM n)) :
    Wd w.heap.size x g gm r (.pointer (some ⟨b, 0, none⟩)) n (freshM n) [] false (.slice none 0 0) w1 :=
  ⟨⟨hb, World.ownsRow_nil _ _ _ _, ha, hr, hbase.1, hbase.2.1, hbase.2.2.1, hbase.2.2.2⟩, (fun h e => by cases e), rfl, h1, h2, fun _ => (by show 1 < n + 1 - n / 96 * 84; omega)⟩
end Go.Proofs.Ytplhonlgbidemaa
