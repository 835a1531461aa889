/- The window and the reference's side by side: both hold one and the same list, open or closed. -/
import Derived.Test.YtpofgfomccmijaaRwW
import Derived.Test.YtpofgfomccmijaaLast
namespace Go.Proofs.Ytpofgfomccmijaa
open Go.RowKit

theorem Rwn.fr {w w' : World} {g B n : Nat} {M : List Int} {shut : Bool} {gs : List Nat} (h : Rwn w g B n M shut) (hf : Fr gs w w') (hg : g ∉ gs) (hB : ∀ x ∈ gs, x < B) : Rwn w' g B n M shut := by
  obtain ⟨hM, hgB, hBw, v, hb, hown⟩ := h
  refine ⟨hM, hgB, Nat.le_trans hBw hf.size, v, hf.blk hb hg, hown.1, ?_⟩
  rcases hown.2 with h2 | ⟨gl, cap, cur, hv, hgl, hc, r⟩
  · exact .inl h2
  · refine .inr ⟨gl, cap, cur, hv, hgl, ?_, r⟩
    rw [hf.block gl (lt_of_block hc) (fun hm => by have := hB gl hm; omega)]
    exact hc
theorem Rwn.keep {w w' : World} {g B n : Nat} {M : List Int} {shut : Bool} (h : Rwn w g B n M shut) (hg : w.grownBy w' none) : Rwn w' g B n M shut :=
  h.fr (gs := []) (Fr.of_grown hg (by intro k hk; cases hk)) (by simp) (by simp)

def hasB (s : Bool) (n : Nat) (M : List Int) (d : Int) : Bool := !s && hasOf n M d
def atB (s : Bool) (n : Nat) (M : List Int) (d : Int) : Int := if s then 0 else atOf n M d
def cntB (s : Bool) (n : Nat) (M : List Int) : Int := if s then 0 else (cntOf n M : Nat)

/-- Window gw (ring gr, meter gm) and reference g hold M; s: both are closed. -/
structure Bth (w : World) (gw gr gm g B n : Nat) (M : List Int) (s : Bool) : Prop where
  win : s = false → Wnd w gw gr gm n M
  sh : s = true → Wsh w gw gm
  ref : Rwn w g B n M s
  met : ∃ m, Mtr w gm m ∧ m.Good
  lg : gm < gr ∧ gr < gw ∧ gw < g ∧ g < B
  nn : n ≤ 1073741824

section
variable {w : World} {gw gr gm g B n : Nat} {M : List Int} {s : Bool}
theorem Bth.drewN (h : Bth w gw gr gm g B n M s) (q : Nat) : Bth (w.drewN q) gw gr gm g B n M s :=
  ⟨fun e => (h.win e).fr (gs := []) ((Fr.refl _ _).drewN q) (by simp) (by simp), fun e => h.sh e, h.ref.fr (gs := []) ((Fr.refl _ _).drewN q) (by simp) (by simp), h.met, h.lg, h.nn⟩
theorem Bth.keep {w' : World} (h : Bth w gw gr gm g B n M s) (hg : w.grownBy w' none) : Bth w' gw gr gm g B n M s :=
  ⟨fun e => (h.win e).keep hg (by simp) (by simp), fun e => Blk.grown (h.sh e) hg (by simp), h.ref.keep hg, (let ⟨m, hm, hg'⟩ := h.met; ⟨m, Blk.grown hm hg (by simp), hg'⟩), h.lg, h.nn⟩

theorem q_has (d : Int) (q : Nat) (h : Bth w gw gr gm g B n M s) :
    Calls Try.prog 11 #[.pointer (some ⟨gw, 0, none⟩), .int .i64 d] (w.drewN q) fun e w'' => e = .returned (.bool (hasB s n M d)) ∧ ∃ m, w'' = w.drewN m := by
  cases s with
  | false => exact has_quiet d q _ (by simp [hasB]) (h.win rfl)
  | true => exact (closed_has d ((h.drewN q).sh rfl)).mono fun _ _ hh => ⟨hh.1, q, hh.2.symm⟩
theorem q_at (d : Int) (q : Nat) (h : Bth w gw gr gm g B n M s) :
    Calls Try.prog 12 #[.pointer (some ⟨gw, 0, none⟩), .int .i64 d] (w.drewN q) fun e w'' => e = .returned (.int .u8 (atB s n M d)) ∧ ∃ m, w'' = w.drewN m := by
  cases s with
  | false => exact at_quiet d q _ (by simp [atB]) (h.win rfl)
  | true => exact (closed_at d ((h.drewN q).sh rfl)).mono fun _ _ hh => ⟨hh.1, q, hh.2.symm⟩
theorem q_count (q : Nat) (h : Bth w gw gr gm g B n M s) :
    Calls Try.prog 13 #[.pointer (some ⟨gw, 0, none⟩)] (w.drewN q) fun e w'' => e = .returned (.int .i64 (cntB s n M)) ∧ ∃ m, w'' = w.drewN m := by
  cases s with
  | false => exact (count_any ((h.drewN q).win rfl)).mono fun _ _ hh => ⟨hh.1, q, hh.2.symm⟩
  | true => exact (closed_count ((h.drewN q).sh rfl)).mono fun _ _ hh => ⟨hh.1, q, hh.2.symm⟩
theorem q_rhas (d : Int) (q : Nat) (hl : M.length ≤ 4000) (h : Bth w gw gr gm g B n M s) :
    Calls Try.prog 18 #[.pointer (some ⟨g, 0, none⟩), .int .i64 d] (w.drewN q) fun e w'' => e = .returned (.bool (hasB s n M d)) ∧ ∃ m, w'' = w.drewN m := by
  have hr := (h.drewN q).ref
  cases s with
  | false => exact (rhas_open d hl hr h.nn).mono fun _ _ hh => ⟨hh.1, q, hh.2.symm⟩
  | true => exact (rhas_shut d hr).mono fun _ _ hh => ⟨hh.1, q, hh.2.symm⟩
theorem q_rat (d : Int) (q : Nat) (hl : M.length ≤ 4000) (h : Bth w gw gr gm g B n M s) :
    Calls Try.prog 17 #[.pointer (some ⟨g, 0, none⟩), .int .i64 d] (w.drewN q) fun e w'' => e = .returned (.int .u8 (atB s n M d)) ∧ ∃ m, w'' = w.drewN m := by
  have hr := (h.drewN q).ref
  refine Calls.quiet_of ?_
  cases s with
  | false => refine (rat_open d hl hr h.nn).mono ?_; rintro e w' ⟨k, rfl, rfl⟩; exact ⟨rfl, k, rfl⟩
  | true => refine (rat_shut d hr).mono ?_; rintro e w' ⟨k, rfl, rfl⟩; exact ⟨rfl, k, rfl⟩
theorem q_rcount (q : Nat) (h : Bth w gw gr gm g B n M s) :
    Calls Try.prog 21 #[.pointer (some ⟨g, 0, none⟩)] (w.drewN q) fun e w'' => e = .returned (.int .i64 (cntB s n M)) ∧ ∃ m, w'' = w.drewN m := by
  have hr := (h.drewN q).ref
  refine Calls.quiet_of ?_
  cases s with
  | false => refine (rcount_open hr).mono ?_; rintro e w' ⟨k, rfl, rfl⟩; exact ⟨rfl, k, rfl⟩
  | true => refine (rcount_shut hr).mono ?_; rintro e w' ⟨k, rfl, rfl⟩; exact ⟨rfl, k, rfl⟩

/-- Half a step: the window has gone on to M', the reference is still at M. -/
structure Half (w : World) (gw gr gm g B n : Nat) (M M' : List Int) (s s' : Bool) : Prop where
  win : s' = false → Wnd w gw gr gm n M'
  sh : s' = true → Wsh w gw gm
  ref : Rwn w g B n M s
  met : ∃ m, Mtr w gm m ∧ m.Good
  lg : gm < gr ∧ gr < gw ∧ gw < g ∧ g < B
  nn : n ≤ 1073741824

/-- The list behind a byte more. -/
def putB (s : Bool) (M : List Int) (b : Int) : List Int := if s then M else b :: M

theorem w_put (b : Int) (hb : 0 ≤ b ∧ b ≤ 255) (h : Bth w gw gr gm g B n M s) :
    Calls Try.prog 10 #[.pointer (some ⟨gw, 0, none⟩), .int .u8 b] w fun e w' => e = .returned (.tuple #[]) ∧ Half w' gw gr gm g B n M (putB s M b) s s ∧ Fr [gw, gr] w w' := by
  obtain ⟨l1, l2, l3, l4⟩ := h.lg
  obtain ⟨m, hm, hmg⟩ := h.met
  cases s with
  | false =>
    refine (put_any b hb (h.win rfl)).mono ?_
    rintro e w' ⟨rfl, hw, hf⟩
    exact ⟨rfl, ⟨fun _ => hw, fun e => (by cases e), h.ref.fr hf (by simp; omega) (by intro x hx; simp at hx; omega), ⟨m, hf.blk hm (by simp; omega), hmg⟩, h.lg, h.nn⟩, hf⟩
  | true =>
    refine (closed_put b (h.sh rfl)).mono ?_
    rintro e w' ⟨rfl, rfl⟩
    exact ⟨rfl, ⟨fun e => (by cases e), h.sh, h.ref, h.met, h.lg, h.nn⟩, Fr.refl _ _⟩
theorem r_put (b : Int) (hb : 0 ≤ b ∧ b ≤ 255) (hl : M.length ≤ 4000) (h : Half w gw gr gm g B n M (putB s M b) s s) :
    Calls Try.prog 16 #[.pointer (some ⟨g, 0, none⟩), .int .u8 b] w fun e w' => e = .returned (.tuple #[]) ∧ Bth w' gw gr gm g B n (putB s M b) s ∧ w.grownBy w' (some g) := by
  obtain ⟨l1, l2, l3, l4⟩ := h.lg
  obtain ⟨m, hm, hmg⟩ := h.met
  cases s with
  | false =>
    refine (rput_open b hb hl h.ref).mono ?_
    rintro e w' ⟨rfl, hw, hf⟩
    exact ⟨rfl, ⟨fun _ => (h.win rfl).keep hf (by simp; omega) (by simp; omega), fun e => (by cases e), hw, ⟨m, Blk.grown hm hf (by simp; omega), hmg⟩, h.lg, h.nn⟩, hf⟩
  | true =>
    refine (rput_shut b h.ref).mono ?_
    rintro e w' ⟨rfl, rfl⟩
    exact ⟨rfl, ⟨fun e => (by cases e), h.sh, h.ref, h.met, h.lg, h.nn⟩, grown_refl _ _⟩
/-- The list behind a Copy. -/
def copyB (s : Bool) (n : Nat) (M : List Int) (d : Int) : List Int := if hasB s n M d then atB s n M d :: M else M
theorem w_copy (d : Int) (h : Bth w gw gr gm g B n M s) :
    Calls Try.prog 14 #[.pointer (some ⟨gw, 0, none⟩), .int .i64 d] w fun e w' => e = .returned (.int .u8 (atB s n M d)) ∧ Half w' gw gr gm g B n M (copyB s n M d) s s ∧ Fr [gw, gr] w w' := by
  obtain ⟨l1, l2, l3, l4⟩ := h.lg
  obtain ⟨m, hm, hmg⟩ := h.met
  cases s with
  | false =>
    refine (copy_any d (h.win rfl)).mono ?_
    rintro e w' ⟨rfl, hw, hf⟩
    refine ⟨rfl, ⟨fun _ => ?_, fun e => (by cases e), h.ref.fr hf (by simp; omega) (by intro x hx; simp at hx; omega), ⟨m, hf.blk hm (by simp; omega), hmg⟩, h.lg, h.nn⟩, hf⟩
    have : copyB false n M d = copyOf n M d := by simp [copyB, copyOf, hasB, atB]
    rw [this]; exact hw
  | true =>
    refine (closed_copy d (h.sh rfl)).mono ?_
    rintro e w' ⟨rfl, rfl⟩
    have : copyB true n M d = M := by simp [copyB, hasB]
    rw [this]
    exact ⟨rfl, ⟨fun e => (by cases e), h.sh, h.ref, h.met, h.lg, h.nn⟩, Fr.refl _ _⟩
theorem h_rhas (d : Int) {M' : List Int} (hl : M.length ≤ 4000) (h : Half w gw gr gm g B n M M' s s) :
    Calls Try.prog 18 #[.pointer (some ⟨g, 0, none⟩), .int .i64 d] w fun e w'' => e = .returned (.bool (hasB s n M d)) ∧ w = w'' := by
  have hr := h.ref
  cases s with
  | false => exact rhas_open d hl hr h.nn
  | true => exact rhas_shut d hr
theorem shut_empty {w : World} (h : Wsh w gw gm) :
    Calls Try.prog 19 #[.pointer (some ⟨gw, 0, none⟩)] w fun e w' => e = .returned (.tuple #[]) ∧ Wsh w' gw gm ∧ Fr [gw] w w' := by
  have c2 : w.cell? ⟨gw, 2, none⟩ = some (.int .i64 0) := Blk.cell h 2
  have f2 := Blk.free h 2
  go_enter Try.func19, Try.ntmps19
  go_wp2_with fail
  first | go_end0 | refine bodyPost_ret (results_none rfl _ _ _) rfl ?_
  exact ⟨rfl, Blk.put h 2 _, (Fr.refl _ _).put (by simp) _ _⟩
theorem w_empty (h : Bth w gw gr gm g B n M s) :
    Calls Try.prog 19 #[.pointer (some ⟨gw, 0, none⟩)] w fun e w' => e = .returned (.tuple #[]) ∧ Half w' gw gr gm g B n M [] s s ∧ Fr [gw, gr, gm] w w' := by
  obtain ⟨l1, l2, l3, l4⟩ := h.lg
  obtain ⟨m, hm, hmg⟩ := h.met
  cases s with
  | false =>
    refine (empty_any (h.win rfl)).mono ?_
    rintro e w' ⟨rfl, hw, hf⟩
    exact ⟨rfl, ⟨fun _ => hw, fun e => (by cases e), h.ref.fr hf (by simp; omega) (by intro x hx; simp at hx; omega), ⟨m, hf.blk hm (by simp; omega), hmg⟩, h.lg, h.nn⟩, ⟨hf.os, hf.tape, hf.output, hf.size, fun k hk hn => hf.block k hk (by simp at hn ⊢; omega)⟩⟩
  | true =>
    refine (shut_empty (h.sh rfl)).mono ?_
    rintro e w' ⟨rfl, hw, hf⟩
    exact ⟨rfl, ⟨fun e => (by cases e), fun _ => hw, h.ref.fr hf (by simp; omega) (by intro x hx; simp at hx; omega), ⟨m, hf.blk hm (by simp; omega), hmg⟩, h.lg, h.nn⟩, ⟨hf.os, hf.tape, hf.output, hf.size, fun k hk hn => hf.block k hk (by simp at hn ⊢; omega)⟩⟩
theorem w_close (h : Bth w gw gr gm g B n M s) :
    Calls Try.prog 20 #[.pointer (some ⟨gw, 0, none⟩)] w fun e w' => e = .returned (.tuple #[]) ∧ Half w' gw gr gm g B n M M s true ∧ Fr [gw, gm] w w' := by
  obtain ⟨l1, l2, l3, l4⟩ := h.lg
  obtain ⟨m, hm, hmg⟩ := h.met
  cases s with
  | false =>
    refine (close_any (h.win rfl) hm hmg (by omega)).mono ?_
    rintro e w' ⟨rfl, hw, hm', hf⟩
    exact ⟨rfl, ⟨fun e => (by cases e), fun _ => hw, h.ref.fr hf (by simp; omega) (by intro x hx; simp at hx; omega), ⟨_, hm', free_good hmg _⟩, h.lg, h.nn⟩, hf⟩
  | true =>
    refine (closed_close (h.sh rfl) hm hmg (by omega)).mono ?_
    rintro e w' ⟨rfl, hw, hm', hf⟩
    exact ⟨rfl, ⟨fun e => (by cases e), fun _ => hw, h.ref.fr hf (by simp; omega) (by intro x hx; simp at hx; omega), ⟨m, hm', hmg⟩, h.lg, h.nn⟩, hf⟩
/-- r.L = nil, and r.Shut = true: the reference follows. -/
theorem r_empty (h : Half w gw gr gm g B n M [] s s) : Bth (w.setCell ⟨g, 1, none⟩ (.slice none 0 0)) gw gr gm g B n [] s := by
  obtain ⟨l1, l2, l3, l4⟩ := h.lg
  obtain ⟨m, hm, hmg⟩ := h.met
  obtain ⟨hM, hgB, hB, v, hb, hown⟩ := h.ref
  have hf : Fr [g] w (w.setCell ⟨g, 1, none⟩ (.slice none 0 0)) := (Fr.refl _ _).put (by simp) _ _
  exact ⟨fun e => (h.win e).fr hf (by simp; omega) (by simp; omega), fun e => hf.blk (h.sh e) (by simp; omega), ⟨fun x hx => (by cases hx), hgB, by simpa using hB, _, Blk.put hb 1 _, World.ownsRow_nil _ _ _ _⟩, ⟨m, hf.blk hm (by simp; omega), hmg⟩, h.lg, h.nn⟩
theorem r_shut (h : Half w gw gr gm g B n M M s true) : Bth (w.setCell ⟨g, 2, none⟩ (.bool true)) gw gr gm g B n M true := by
  obtain ⟨l1, l2, l3, l4⟩ := h.lg
  obtain ⟨m, hm, hmg⟩ := h.met
  obtain ⟨hM, hgB, hB, v, hb, hown⟩ := h.ref
  have hf : Fr [g] w (w.setCell ⟨g, 2, none⟩ (.bool true)) := (Fr.refl _ _).put (by simp) _ _
  refine ⟨fun e => (by cases e), fun e => hf.blk (h.sh e) (by simp; omega), ⟨hM, hgB, by simpa using hB, v, Blk.put hb 2 _, ?_⟩, ⟨m, hf.blk hm (by simp; omega), hmg⟩, h.lg, h.nn⟩
  refine ownsRow_setCell_other hown (fun e => ?_) _
  have := hown.lt _ e
  simp at this; omega
theorem r_cells {M' : List Int} {s' : Bool} (h : Half w gw gr gm g B n M M' s s') : (∃ v, w.cell? ⟨g, 1, none⟩ = some v) ∧ w.cell? ⟨g, 2, none⟩ = some (.bool s) ∧ w.frozen? ⟨g, 1, none⟩ = false ∧ w.frozen? ⟨g, 2, none⟩ = false := by
  obtain ⟨hM, hgB, hB, v, hb, hown⟩ := h.ref
  exact ⟨⟨v, Blk.cell hb 1⟩, Blk.cell hb 2, Blk.free hb 1, Blk.free hb 2⟩
end
end Go.Proofs.Ytpofgfomccmijaa
