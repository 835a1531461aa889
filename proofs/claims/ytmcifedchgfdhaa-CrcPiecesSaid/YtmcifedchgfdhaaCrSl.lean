/- doSlow, Do. -/
import Derived.Test.YtmcifedchgfdhaaCrWd
namespace Go.Proofs.Ytmcifedchgfdhaa
open Go.RowKit

theorem load0 (a : Addr) (w : World) (h : w.cell? a = some (.int .u32 0)) :
    Calls Try.prog 19 #[.pointer (some a)] w fun e w' => e = .returned (.bool false) ∧ w' = w := by
  have hl := run_call_load (P := Try.prog) Try.func21 (by kernel_rfl) (by kernel_rfl) (by kernel_rfl) .u32 (by kernel_rfl) h
  go_enter Try.func19, Try.ntmps19
  go_wp2_with fail
  go_ret
  exact ⟨rfl, rfl⟩
theorem load1 (a : Addr) (w : World) (h : w.cell? a = some (.int .u32 1)) :
    Calls Try.prog 19 #[.pointer (some a)] w fun e w' => e = .returned (.bool true) ∧ w' = w := by
  have hl := run_call_load (P := Try.prog) Try.func21 (by kernel_rfl) (by kernel_rfl) (by kernel_rfl) .u32 (by kernel_rfl) h
  go_enter Try.func19, Try.ntmps19
  go_wp2_with fail
  go_ret
  exact ⟨rfl, rfl⟩

section
variable {w : World} {g : Nat} {T : Nat → Nat} {x : Nat} {c : Int}
set_option maxRecDepth 100000 in
set_option maxHeartbeats 1600000 in
theorem slow_any (h : Sm w g 0 0 T x c) :
    Calls Try.prog 20 #[.pointer (some ⟨g, 0, none⟩), .func (.func 18) #[.pointer (some ⟨g, 0, none⟩)] #[]] w fun e w' =>
      e = .returned (.tuple #[]) ∧ Sm w' g 1 0 tab x c ∧ w.grownBy w' (some g) := by
  have h1 := h.putLock 1
  have hl := load0 ⟨g, 0, none⟩ _ h1.done
  have hnot : ∀ (x : Bool) (w : World), (Op.unary .not (.bool x)).run Try.prog w = .ok (.bool (!x)) w := fun _ _ => rfl
  have L := lock_free ⟨g, 1, none⟩ w h.lock (h.free 1)
  have hG := grown_put (grown_refl w (some g)) 1 (.int .i32 1)
  have F := fill_any h1
  generalize w.setCell ⟨g, 1, none⟩ (.int .i32 1) = w1 at *
  clear h
  go_enter_defers Try.func20, Try.ntmps20
  go_wp2_with fail
  refine L.mono ?_; rintro e w' ⟨rfl, rfl⟩
  go_wp2_with fail
  refine hl.mono ?_; rintro e w' ⟨rfl, rfl⟩
  go_wp2_with fail
  refine F.mono ?_; rintro e w2 ⟨rfl, h2, hG2⟩
  have hG := grown_trans hG hG2
  clear F L h1 hG2 hl
  go_wp2_with fail
  refine leaves_cons (f := 24) (args := #[.pointer (some ⟨g, 0, none⟩), .bool true]) (by simp) (by simp [go_sem]) ?_
  refine (store_deferred ⟨g, 0, none⟩ _ .returning _ h2.done (h2.free 0)).mono ?_
  rintro e u' w'' ⟨rfl, rfl, rfl⟩
  have h3 := h2.drew.putDone 1
  have hG := grown_put (grown_drew hG) 0 (.int .u32 1)
  refine leaves_cons (f := 23) (args := #[.pointer (some ⟨g, 1, none⟩)]) (by simp [settle]) (by simp [go_sem]) ?_
  refine (unlock_deferred ⟨g, 1, none⟩ _ _ h3.lock (h3.free 1)).mono ?_
  rintro e u' w'' ⟨rfl, rfl, rfl⟩
  simp [Leaves, settle, results, Try.results20]
  exact ⟨h3.putLock 0, grown_put hG _ _⟩

/-- The sum between its calls. -/
def Crc (w : World) (g : Nat) (x : Nat) (c : Int) : Prop := ∃ d T, Sm w g d 0 T x c ∧ (d = 0 ∨ d = 1 ∧ T = tab)

set_option maxRecDepth 100000 in
set_option maxHeartbeats 1600000 in
theorem do_any (h : Crc w g x c) :
    Calls Try.prog 17 #[.pointer (some ⟨g, 0, none⟩), .func (.func 18) #[.pointer (some ⟨g, 0, none⟩)] #[]] w fun e w' =>
      e = .returned (.tuple #[]) ∧ Sm w' g 1 0 tab x c ∧ w.grownBy w' (some g) := by
  obtain ⟨d, T, h, hd⟩ := h
  have hnot : ∀ (x : Bool) (w : World), (Op.unary .not (.bool x)).run Try.prog w = .ok (.bool (!x)) w := fun _ _ => rfl
  rcases hd with rfl | ⟨rfl, rfl⟩
  · have S := slow_any h
    go_enter Try.func17, Try.ntmps17
    go_wp2_with fail
    refine (load0 ⟨g, 0, none⟩ _ h.done).mono ?_; rintro e w' ⟨rfl, rfl⟩
    go_wp2_with fail
    refine S.mono ?_; rintro e w' ⟨rfl, h1, h2⟩
    go_wp2_with fail
    go_end0
    exact ⟨rfl, h1, h2⟩
  · go_enter Try.func17, Try.ntmps17
    go_wp2_with fail
    refine (load1 ⟨g, 0, none⟩ _ h.done).mono ?_; rintro e w' ⟨rfl, rfl⟩
    go_wp2_with fail
    go_end0
    exact ⟨rfl, h, grown_refl _ _⟩
end
end Go.Proofs.Ytmcifedchgfdhaa
