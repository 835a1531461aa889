/- CrcPieces, walked. -/
import Derived.Test.YtmcifedchgfdhaaCrApp
import Derived.Test.YtmcifedchgfdhaaCrRs
import Derived.BigQuiet
namespace Go.Proofs.Ytmcifedchgfdhaa
open Go.RowKit

/-- The lesser, behind a name. -/
def mn (a b : Int) : Int := min a b
theorem run_mn (P : Program) (ts : Array TypeId) (t : TypeId) (k k' : IntKind) (x y : Int) (w : World) : (Builtin.min_ ts t #[.int k x, .int k' y]).run P w = .ok (.int k (mn x y)) w := by
  have e : mn x y = if y < x then y else x := by unfold mn; split <;> omega
  simp [Builtin.min_, Builtin.min2, e]
theorem crc_drewN {w : World} {g x : Nat} {c : Int} (h : Crc w g x c) (q : Nat) : Crc (w.drewN q) g x c := by obtain ⟨d, T, h, hd⟩ := h; exact ⟨d, T, h, hd⟩
theorem crc_grown {w w' : World} {g x : Nat} {c : Int} {row : Option Nat} (h : Crc w g x c) (hb : w.grownBy w' row) (hg : some g ≠ row) : Crc w' g x c := by obtain ⟨d, T, h, hd⟩ := h; exact ⟨d, T, h.grown hb hg, hd⟩
theorem crc_lt {w : World} {g x : Nat} {c : Int} (h : Crc w g x c) : g < w.heap.size := by obtain ⟨d, T, h, -⟩ := h; exact h.lt
theorem reg_add (X : Nat → Nat) (m q x : Nat) : reg (fun i => X (m + i)) q (reg X m x) = reg X (m + q) x := by
  induction q with
  | zero => rfl
  | succ q ih => show upd (reg (fun i => X (m + i)) q (reg X m x)) (X (m + q)) = upd (reg X (m + q) x) (X (m + q)); rw [ih]

section
variable {w : World} {g x : Nat} {c : Int}
theorem value_quiet (q : Nat) (hx : x < 4294967296) (h : Crc w g x c) :
    Calls Try.prog 14 #[.pointer (some ⟨g, 0, none⟩)] (w.drewN q) fun e w'' => e = .returned (.int .u32 ((4294967295 - x : Nat) : Int)) ∧ ∃ m, w'' = w.drewN m :=
  (value_any hx (crc_drewN h q)).mono fun _ _ hh => ⟨hh.1, q, hh.2⟩
theorem count_quiet (q : Nat) (h : Crc w g x c) :
    Calls Try.prog 15 #[.pointer (some ⟨g, 0, none⟩)] (w.drewN q) fun e w'' => e = .returned (.int .i64 c) ∧ ∃ m, w'' = w.drewN m :=
  (count_any (crc_drewN h q)).mono fun _ _ hh => ⟨hh.1, q, hh.2⟩
theorem ref_quiet {A : Option Addr} {n : Nat} {X : Nat → Nat} (q cap : Nat) {g : Nat} (hR : Rd w g A n X) (hn : n ≤ 9223372036854775807) :
    Calls Try.prog 10 #[.slice A n cap] (w.drewN q) fun e w'' => e = .returned (.int .u32 ((crcOf X n : Nat) : Int)) ∧ ∃ m, w'' = w.drewN m :=
  (ref_same cap (w.drewN q) (g := g) (fun i hi => hR i hi) hn).mono fun _ _ hh => ⟨hh.1, q, hh.2⟩
end

theorem own_cells {w : World} {base n c : Nat} {A : Option Addr} {X : Nat → Nat} (h : w.ownsRow base 5 1 (.slice A n c) n (vals X n)) (hn : 0 < n) :
    ∃ gg cs, A = some ⟨gg, 0, none⟩ ∧ base ≤ gg ∧ Blk w gg 5 cs ∧ n ≤ cs.size := by
  obtain ⟨hlen, ⟨-, h2⟩ | ⟨gl, cap, cur, e, hgl, hcur, hnc, hcap, hsz, htake⟩⟩ := h
  · rw [h2] at hlen; simp at hlen; omega
  · cases e
    refine ⟨gl, cur, rfl, hgl, hcur, ?_⟩
    omega

/-- What the outer loop keeps: at, i. -/
def PcL (W : World) (g nb nc : Nat) (X : Nat → Nat) (a i : Value) (wr : World) : Prop :=
  ∃ m k : Nat, m ≤ nb ∧ k ≤ nc ∧ a = .int .i64 m ∧ i = .int .i64 k ∧ Crc wr g (reg X m 4294967295) m ∧ W.grownBy wr none
/-- What the inner loop keeps. -/
def PcI (W : World) (g q y : Nat) (A : Option Addr) (c : Int) (j : Value) (wr : World) : Prop :=
  ∃ k : Nat, k ≤ q ∧ j = .int .i64 k ∧ (0 < q → ∃ gg cs, A = some ⟨gg, 0, none⟩ ∧ gg ≠ g ∧ W.heap.size ≤ gg ∧ Blk wr gg 5 cs ∧ q ≤ cs.size) ∧ Crc wr g y c ∧ W.grownBy wr none

section
attribute [local go_sem ↓] run_mn
set_option maxRecDepth 100000 in
set_option maxHeartbeats 8000000 in
theorem pieces_walk (A : Option Addr) (n c : Nat) (A1 : Option Addr) (n1 c1 : Nat) (X Y : Nat → Nat) (hn : n ≤ 9223372036854775807) (hn1 : n1 ≤ 9223372036854775807) (hc : n ≤ c) (_ : n1 ≤ c1) (w : World)
    (hB : Bytes w w.heap.size A n (fun i => (X i : Int))) (hB1 : Bytes w w.heap.size A1 n1 (fun i => (Y i : Int))) :
    Calls Try.prog 7 #[.slice A n c, .slice A1 n1 c1] w fun e w' => e = .returned (.bool true) ∧ w.grownBy w' none := by
  by_cases hbig : 4096 < n
  · go_enter Try.func7, Try.ntmps7
    go_wp2_with fail
    refine (awake_any _).mono ?_; rintro e w1 ⟨rfl, hw1⟩
    have z : (4096 : Int) < n := by omega
    go_wp2_with fail
    go_ret
    exact ⟨rfl, hw1⟩
  by_cases hbig1 : 300 < n1
  · go_enter Try.func7, Try.ntmps7
    go_wp2_with fail
    refine (awake_any _).mono ?_; rintro e w1 ⟨rfl, hw1⟩
    have z : (300 : Int) < n1 := by omega
    have z2 : ¬ (4096 : Int) < n := by omega
    go_wp2_with fail
    go_ret
    exact ⟨rfl, hw1⟩
  have hX := bytes_lt hB
  go_enter Try.func7, Try.ntmps7
  go_wp2_with fail
  refine (awake_any _).mono ?_; rintro e w1 ⟨rfl, hw1⟩
  have z : ¬ (300 : Int) < n1 := by omega
  have z2 : ¬ (4096 : Int) < n := by omega
  have N := new_any w1
  go_wp2_with fail
  refine N.mono ?_; rintro e w2 ⟨g, rfl, hg, hS, hw2⟩
  have hG := grown_trans hw1 hw2
  have hg : w.heap.size ≤ g := by have := hw1.size; omega
  clear hw1 hw2 N z z2
  go_wp2_with fail
  go_loopw [6, 7] (fun a i wr => PcL w g n n1 X a i wr) (fun _ i _ => n1 - (intOf i).toNat)
  case atStart => exact ⟨0, 0, by omega, by omega, rfl, rfl, hS, hG⟩
  case round =>
    obtain ⟨m, k, hm, hk, rfl, rfl, hS, hG⟩ := hrel
    have hl := reg_lt (X := X) (x := 4294967295) (by omega) m (fun i hi => hX i (by omega))
    by_cases hlt : k < n1 ∧ m < n
    · obtain ⟨hk1, hm1⟩ := hlt
      obtain ⟨hYk, b1, o1, rfl, hb1, hcY⟩ := rd_of (hB1.keep hG (Nat.le_refl _)) hg k hk1
      obtain ⟨hXm, b0, o0, rfl, hb0, hcX⟩ := rd_of (hB.keep hG (Nat.le_refl _)) hg m hm1
      obtain ⟨q, hq⟩ : ∃ q, q = min (Y k) (n - m) := ⟨_, rfl⟩
      have eq : mn (Y k) ((n : Int) - m) = (q : Int) := by unfold mn; omega
      have hq1 : m + q ≤ n := by omega
      -- the rest of the round, whatever has been added
      have V : ∀ w' nq, Crc w' g (reg X (m + q) 4294967295) ((m : Int) + q) → Calls Try.prog 14 #[.pointer (some ⟨g, 0, none⟩)] (w'.drewN nq) fun e w'' => e = .returned (.int .u32 ((crcOf X (m + q) : Nat) : Int)) ∧ ∃ m, w'' = w'.drewN m := by
        intro w' nq h
        exact value_quiet nq (reg_lt (X := X) (x := 4294967295) (by omega) (m + q) (fun i hi => hX i (by omega))) h
      have R : ∀ cc w' nq, w.grownBy w' none → Calls Try.prog 10 #[.slice (some ⟨b0, o0, none⟩) ((m : Int) + q).toNat cc] (w'.drewN nq) fun e w'' => e = .returned (.int .u32 ((crcOf X (m + q) : Nat) : Int)) ∧ ∃ m, w'' = w'.drewN m := by
        intro cc w' nq h
        rw [show ((m : Int) + q).toNat = m + q by omega]
        exact ref_quiet nq cc (g := g) (fun i hi => rd_of (hB.keep h (Nat.le_refl _)) hg i (by omega)) (by omega)
      clear hq
      by_cases hone : q = 1
      · subst hone
        go_wp2_with fail
        refine (byte_any (X m) hXm hl ⟨by omega, by omega⟩ hS).mono ?_; rintro e w3 ⟨rfl, hS3, hg3⟩
        have hG3 := grown_own hG hg hg3
        have hS3 : Crc w3 g (reg X (m + 1) 4294967295) ((m : Int) + 1) := hS3
        have hG4 := fun nq => grown_drewN hG3 nq
        have R := fun cc nq => R cc w3 nq hG3
        have V := fun nq => V w3 nq hS3
        have C := fun nq => count_quiet nq hS3
        clear hB hB1 hcY hcX hG hS hg3
        generalize crcOf X (m + 1) = cr at *
        go_wp2_with fail
        go_quiet ((first | (go_at_call 14; exact V _) | (go_at_call 10; exact R _ _) | (go_at_call 15; exact C _)))
        go_wp2_with fail
        go_roundw
        case rel => exact ⟨m + 1, k + 1, by omega, by omega, by go_num, by go_num, crc_drewN hS3 _, hG4 _⟩
        case measure => simp [intOf]; omega
      · have hone' : ¬ (q : Int) = 1 := by omega
        have hgl := crc_lt hS
        have hF : (wr.alloc (.cells #[] 5)).ownsRow (g + 1) 5 1 (.slice (some ⟨wr.heap.size, 0, none⟩) 0 0) 0 [] := World.ownsRow_made wr #[] 0 (by omega) (by unfold maxLen; omega) (by simp)
        have hGa : w.grownBy (wr.alloc (.cells #[] 5)) none := grown_alloc hG _
        have hSa : Crc (wr.alloc (.cells #[] 5)) g (reg X m 4294967295) m := crc_grown hS (grown_alloc (grown_refl wr none) _) (by simp)
        have hRq : Rd (wr.alloc (.cells #[] 5)) g (some ⟨b0, o0 + m, none⟩) (m + q - m) (fun i => X (m + i)) := by
          intro i hi
          obtain ⟨hb, b, off, e, hne, hcl⟩ := rd_of (hB.keep hGa (Nat.le_refl _)) hg (m + i) (by omega)
          cases e
          exact ⟨hb, b0, o0 + m, rfl, hne, by rw [← hcl, Nat.add_assoc]⟩
        go_wp2_with (at_builtin; refine append_rd rfl (.tmp 52) (.tmp 58) rfl (g + 1) _ 0 [] rfl hF hRq (by simp) rfl (by omega) (by simp; omega) ?_)
        intro v1 w3 ho1 hg1
        have hS3 := crc_grown hSa hg1 (by simp [Value.ownBlock]; omega)
        have hG3 := grown_new hGa hg1 (by intro k hk; simp [Value.ownBlock] at hk; have := hGa.size; have := hG.size; omega)
        have eq3 : 0 + (m + q - m) = q := by omega
        have ho2 : w3.ownsRow (g + 1) 5 1 v1 q (vals (fun i => X (m + i)) q) := by
          simpa [show m + q - m = q by omega] using ho1
        obtain ⟨A2, c2, rfl, hc2, hB2, hA2⟩ := bytes_owns ho2 (fun i hi => hX (m + i) (by omega))
        have hI : 0 < q → ∃ gg cs, A2 = some ⟨gg, 0, none⟩ ∧ gg ≠ g ∧ w.heap.size ≤ gg ∧ Blk w3 gg 5 cs ∧ q ≤ cs.size := by
          intro h0
          obtain ⟨gg, cs, rfl, h1, h2, h3⟩ := own_cells ho2 h0
          exact ⟨gg, cs, rfl, by omega, by omega, h2, h3⟩
        have hR2 : Rd w3 g A2 q (fun i => X (m + i)) := by
          intro i hi
          obtain ⟨hb, b, off, e, hlt, hcl⟩ := hB2 i hi
          have := (hA2 b off e).2
          exact ⟨hX (m + i) (by omega), b, off, e, by omega, hcl⟩
        have P := (add_any c2 hR2 hl (by omega) (by omega) hS3)
        rw [reg_add] at P
        clear ho1 ho2 hB2 hA2 hR2 hS3 hF hRq hSa hG hGa hcX hcY hS
        go_wp2_with fail
        refine P.mono ?_; rintro e w4 ⟨rfl, hS4, hg4⟩
        have hG4 := grown_own hG3 hg hg4
        have hI4 : 0 < q → ∃ gg cs, A2 = some ⟨gg, 0, none⟩ ∧ gg ≠ g ∧ w.heap.size ≤ gg ∧ Blk w4 gg 5 cs ∧ q ≤ cs.size := by
          intro h0
          obtain ⟨gg, cs, h1, h2, h3, h4, h5⟩ := hI h0
          exact ⟨gg, cs, h1, h2, h3, h4.grown hg4 (by simpa using h2), h5⟩
        clear P hI hg4 hG3 hg1
        generalize hrg : reg X (m + q) 4294967295 = rg at *
        go_wp2_with fail
        go_loopw [10] (fun j wr => PcI w g q rg A2 ((m : Int) + q) j wr) (fun j _ => q - (intOf j).toNat)
        case atStart => exact ⟨0, by omega, rfl, hI4, hS4, hG4⟩
        case round =>
          obtain ⟨j, hj, rfl, hI, hS, hG⟩ := hrel
          by_cases hjq : j < q
          · obtain ⟨gg, cs, rfl, hne, hgg, hbk, hsz⟩ := hI (by omega)
            have hcl : wr.cell? ⟨gg, j, none⟩ = some (cs[j]'(by omega)) := by rw [hbk.cell]; simp
            have hfr := hbk.free j
            go_wp2_with fail
            go_roundw
            case rel =>
              refine ⟨j + 1, by omega, by go_num, fun _ => ⟨gg, _, rfl, hne, hgg, hbk.put j (.int .u8 85), by simpa using hsz⟩, crc_grown hS (grown_put (grown_refl wr (some gg)) j _) (by simp; omega), grown_own hG hgg (grown_put (grown_refl wr (some gg)) j _)⟩
            case measure => simp [intOf]; omega
          · have hG4 := fun nq => grown_drewN hG nq
            have R := fun cc nq => R cc wr nq hG
            have V := fun nq => V wr nq hS
            have C := fun nq => count_quiet nq hS
            clear hB hB1 hG hI
            generalize crcOf X (m + q) = cr at *
            go_wp2_with fail
            go_quiet ((first | (go_at_call 14; exact V _) | (go_at_call 10; exact R _ _) | (go_at_call 15; exact C _)))
            go_wp2_with fail
            go_roundw
            case rel => exact ⟨m + q, k + 1, by omega, by omega, by go_num, by go_num, by rw [hrg]; exact crc_drewN hS _, hG4 _⟩
            case measure => simp [intOf]; omega
    · have hc' : (m : Int) ≤ n := by omega
      have hc2 : (n : Int) ≤ c := by omega
      have hend : (¬ (k : Int) < n1) ∨ ((k : Int) < n1 ∧ ¬ (m : Int) < n) := by omega
      have P : ∀ (A' : Option Addr) (cc : Nat), A' = A.map (fun x => x.add m) ∨ c = m →
          Calls Try.prog 13 #[.pointer (some ⟨g, 0, none⟩), .slice A' (n - m) cc] wr fun e w' => e = .returned (.tuple #[]) ∧ Crc w' g (reg X n 4294967295) n ∧ w.grownBy w' none := by
        intro A' cc hA'
        have hRt : Rd wr g A' (n - m) (fun i => X (m + i)) := by
          intro i hi
          obtain ⟨hb, b, off, e, hne, hcl⟩ := rd_of (hB.keep hG (Nat.le_refl _)) hg (m + i) (by omega)
          rcases hA' with rfl | h
          · refine ⟨hb, b, off + m, by rw [e]; simp [WideShapes.add_plain], hne, ?_⟩
            rw [← hcl, Nat.add_assoc]
          · omega
        refine (add_any cc hRt hl (by omega) (by omega) hS).mono ?_
        rintro e w' ⟨rfl, h1, h2⟩
        rw [reg_add, show m + (n - m) = n by omega, show (m : Int) + ((n - m : Nat) : Int) = (n : Int) by omega] at h1
        exact ⟨rfl, h1, grown_own hG hg h2⟩
      have R : ∀ cc w', w.grownBy w' none → Calls Try.prog 10 #[.slice A n cc] w' fun e w'' => e = .returned (.int .u32 ((crcOf X n : Nat) : Int)) ∧ w'' = w' := by
        intro cc w' h
        exact ref_same cc w' (g := g) (fun i hi => rd_of (hB.keep h (Nat.le_refl _)) hg i hi) (by omega)
      have V : ∀ w', Crc w' g (reg X n 4294967295) n → Calls Try.prog 14 #[.pointer (some ⟨g, 0, none⟩)] w' fun e w'' => e = .returned (.int .u32 ((crcOf X n : Nat) : Int)) ∧ w'' = w' := by
        intro w' h
        exact value_any (reg_lt (X := X) (x := 4294967295) (by omega) n (fun i hi => hX i (by omega))) h
      generalize crcOf X n = cr at *
      generalize reg X n 4294967295 = rg at *
      clear hB hB1
      rcases hend with h1 | ⟨h1, h2⟩
      · go_wp2_with fail
        all_goals
          refine (P _ _ (by first | exact .inl rfl | exact .inr (by omega))).mono ?_; rintro e w3 ⟨rfl, hS3, hG3⟩
          go_wp2_with fail
          refine (V _ hS3).mono ?_; rintro e w4 ⟨rfl, rfl⟩
          go_wp2_with fail
          refine (R _ _ hG3).mono ?_; rintro e w5 ⟨rfl, rfl⟩
          go_wp2_with fail
          refine (count_any hS3).mono ?_; rintro e w6 ⟨rfl, rfl⟩
          go_wp2_with fail
          go_ret
          exact ⟨rfl, hG3⟩
      · go_wp2_with fail
        all_goals
          refine (P _ _ (by first | exact .inl rfl | exact .inr (by omega))).mono ?_; rintro e w3 ⟨rfl, hS3, hG3⟩
          go_wp2_with fail
          refine (V _ hS3).mono ?_; rintro e w4 ⟨rfl, rfl⟩
          go_wp2_with fail
          refine (R _ _ hG3).mono ?_; rintro e w5 ⟨rfl, rfl⟩
          go_wp2_with fail
          refine (count_any hS3).mono ?_; rintro e w6 ⟨rfl, rfl⟩
          go_wp2_with fail
          go_ret
          exact ⟨rfl, hG3⟩
end
end Go.Proofs.Ytmcifedchgfdhaa
