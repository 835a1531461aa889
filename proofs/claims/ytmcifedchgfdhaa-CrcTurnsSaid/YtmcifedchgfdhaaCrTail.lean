/- CrcTail, walked. -/
import Derived.Test.YtmcifedchgfdhaaCrApp
import Derived.Test.YtmcifedchgfdhaaCrLi
namespace Go.Proofs.Ytmcifedchgfdhaa
open Go.RowKit

theorem sts_add (m k x : Nat) : sts m (sts k x) = sts (k + m) x := by
  induction m with
  | zero => rfl
  | succ m ih => show st (sts m (sts k x)) = st (sts (k + m) x); rw [ih]
theorem upd_in (k y b : Nat) : upd (sts k y) b = sts 8 (sts k y ^^^ b) := upd_steps _ _
/-- Four bytes more: their number goes in at once. -/
theorem upd_four (r a b c d : Nat) : upd (upd (upd (upd r a) b) c) d = sts 32 (r ^^^ a ^^^ 256 * b ^^^ 256 * (256 * c) ^^^ 256 * (256 * (256 * d))) := by
  have e : ∀ y b, sts 8 y ^^^ b = sts 8 (y ^^^ 256 * b) := fun y b => by rw [sts_xor, sts_high]
  have e2 : ∀ y b, sts 16 y ^^^ b = sts 16 (y ^^^ 256 * (256 * b)) := fun y b => by
    rw [sts_xor, show (16 : Nat) = 8 + 8 from rfl, ← sts_add 8 8 (256 * (256 * b)), sts_high, sts_high]
  have e3 : ∀ y b, sts 24 y ^^^ b = sts 24 (y ^^^ 256 * (256 * (256 * b))) := fun y b => by
    rw [sts_xor, show (24 : Nat) = 8 + 16 from rfl, ← sts_add 16 8 (256 * (256 * (256 * b))), sts_high, show (16 : Nat) = 8 + 8 from rfl, ← sts_add 8 8 (256 * (256 * b)), sts_high, sts_high]
  have h2 : upd (upd r a) b = sts 16 (r ^^^ a ^^^ 256 * b) := by rw [upd_steps r a, upd_steps, e, sts_add]
  have h3 : upd (upd (upd r a) b) c = sts 24 (r ^^^ a ^^^ 256 * b ^^^ 256 * (256 * c)) := by rw [h2, upd_steps, e2, sts_add]
  rw [h3, upd_steps, e3, sts_add]
theorem split_high (h : Nat) (s : Nat) : s = s % 256 ^^^ 256 * (s / 256) := (low_high s).symm
theorem mul_xor (a b : Nat) : 256 * (a ^^^ b) = 256 * a ^^^ 256 * b := by
  apply Nat.eq_of_testBit_eq
  intro i
  have e : ∀ x, (256 * x).testBit i = (decide (8 ≤ i) && x.testBit (i - 8)) := fun x => by
    have := Nat.testBit_two_pow_mul (i := 8) (a := x) (j := i)
    simpa using this
  rw [e, Nat.testBit_xor, Nat.testBit_xor, e, e]
  cases decide (8 ≤ i) <;> simp
theorem four_bytes {s : Nat} (hs : s < 4294967296) : s = s % 256 ^^^ 256 * (s / 256 % 256) ^^^ 256 * (256 * (s / 65536 % 256)) ^^^ 256 * (256 * (256 * (s / 16777216 % 256))) := by
  have h1 := low_high s
  have h2 := low_high (s / 256)
  have h3 := low_high (s / 256 / 256)
  have e1 : s / 256 / 256 = s / 65536 := by omega
  have e2 : s / 65536 / 256 = s / 16777216 := by omega
  have e3 : s / 16777216 % 256 = s / 16777216 := by omega
  rw [e1] at h2 h3
  rw [e2] at h3
  rw [e3, Nat.xor_assoc, ← mul_xor, Nat.xor_assoc, ← mul_xor, ← mul_xor, h3, h2, h1]

/-- The sum's bytes. -/
def sumByte (s : Nat) (i : Nat) : Nat := if i = 0 then s % 256 else if i = 1 then s / 256 % 256 else if i = 2 then s / 65536 % 256 else s / 16777216 % 256
theorem reg_cong {X Y : Nat → Nat} (n x : Nat) (h : ∀ i, i < n → X i = Y i) : reg X n x = reg Y n x := by
  induction n with
  | zero => rfl
  | succ n ih => simp only [reg]; rw [ih fun i hi => h i (by omega), h n (by omega)]
theorem tail_num : 4294967295 - sts 32 4294967295 = 558161692 := by kernel_rfl
theorem tail_const (X : Nat → Nat) (n : Nat) (hX : ∀ i, i < n → X i < 256) :
    crcOf (fun i => if i < n then X i else sumByte (crcOf X n) (i - n)) (n + 4) = 558161692 := by
  have hr := reg_lt (X := X) (x := 4294967295) (by omega) n hX
  have hs : crcOf X n = 4294967295 ^^^ reg X n 4294967295 := (not32 _ hr).symm
  have hlt : crcOf X n < 4294967296 := by unfold crcOf; omega
  generalize hS : crcOf X n = s at *
  have h4 : reg (fun i => if i < n then X i else sumByte s (i - n)) (n + 4) 4294967295 = upd (upd (upd (upd (reg X n 4294967295) (s % 256)) (s / 256 % 256)) (s / 65536 % 256)) (s / 16777216 % 256) := by
    have e0 : reg (fun i => if i < n then X i else sumByte s (i - n)) n 4294967295 = reg X n 4294967295 := reg_cong n _ fun i hi => if_pos hi
    simp only [reg]
    rw [e0]
    simp [sumByte, show ¬ n + 1 < n by omega, show ¬ n + 2 < n by omega, show ¬ n + 3 < n by omega]
  unfold crcOf
  rw [h4, upd_four]
  generalize reg X n 4294967295 = r at *
  have e : r ^^^ s % 256 ^^^ 256 * (s / 256 % 256) ^^^ 256 * (256 * (s / 65536 % 256)) ^^^ 256 * (256 * (256 * (s / 16777216 % 256))) = 4294967295 := by
    have h := four_bytes hlt
    have : r ^^^ s % 256 ^^^ 256 * (s / 256 % 256) ^^^ 256 * (256 * (s / 65536 % 256)) ^^^ 256 * (256 * (256 * (s / 16777216 % 256))) = r ^^^ s := by
      conv => rhs; rw [h]
      simp only [Nat.xor_assoc]
    rw [this, hs, ← Nat.xor_assoc, Nat.xor_comm r, Nat.xor_assoc, Nat.xor_self, Nat.xor_zero]
  rw [e]
  exact tail_num

section
set_option maxRecDepth 100000 in
set_option maxHeartbeats 2000000 in
theorem tail_walk (A : Option Addr) (n c : Nat) (X : Nat → Nat) (hn : n ≤ 9223372036854775807) (hA : A = none → n = 0 ∧ c = 0) (w : World) (hB : Bytes w w.heap.size A n (fun i => (X i : Int))) :
    Calls Try.prog 6 #[.slice A n c] w fun e w' => e = .returned (.bool true) ∧ w.grownBy w' none := by
  by_cases hbig : 32768 < n
  · go_enter Try.func6, Try.ntmps6
    go_wp2_with fail
    refine (awake_any _).mono ?_; rintro e w1 ⟨rfl, hw1⟩
    go_wp2_with fail
    go_ret
    exact ⟨rfl, hw1⟩
  have hX := bytes_lt hB
  have T := tail_const X n hX
  have hlt : crcOf X n < 4294967296 := by unfold crcOf; omega
  have O := fun w' h => of_grown (w := w') c hB hn h
  generalize crcOf X n = s at *
  go_enter Try.func6, Try.ntmps6
  go_wp2_with fail
  refine (awake_any _).mono ?_; rintro e w1 ⟨rfl, hw1⟩
  have O := O w1 hw1
  go_wp2_with fail
  refine O.mono ?_; rintro e w2 ⟨rfl, hG⟩
  clear O hw1
  have l2 := hG.size
  have hF : (w2.alloc (.cells #[] 5)).ownsRow w.heap.size 5 1 (.slice (some ⟨w2.heap.size, 0, none⟩) 0 0) 0 [] := World.ownsRow_made w2 #[] 0 (by omega) (by unfold maxLen; omega) (by simp)
  have hG1 : w.grownBy (w2.alloc (.cells #[] 5)) none := grown_alloc hG _
  have hR := rd_of (hB.keep hG1 (Nat.le_refl _)) (Nat.le_refl _)
  clear hB
  go_wp2_with (at_builtin; refine append_rd rfl (.tmp 11) (.tmp 12) rfl w.heap.size _ 0 [] rfl hF hR hA rfl (by omega) (by simp; omega) ?_)
  intro v1 w3 ho1 hg1
  have hG3 := grown_new hG1 hg1 (by intro k hk; simp [Value.ownBlock] at hk; omega)
  have l3 := hG3.size
  have q0 : IntKind.u8.wrap (s : Int) = ((sumByte s 0 : Nat) : Int) := by rw [IntKind.wrap_u8']; simp [sumByte]
  have q1 : IntKind.u8.wrap ((s : Int) / 256) = ((sumByte s 1 : Nat) : Int) := by rw [IntKind.wrap_u8']; simp [sumByte]
  have q2 : IntKind.u8.wrap ((s : Int) / 65536) = ((sumByte s 2 : Nat) : Int) := by rw [IntKind.wrap_u8']; simp [sumByte]
  have q3 : IntKind.u8.wrap ((s : Int) / 16777216) = ((sumByte s 3 : Nat) : Int) := by rw [IntKind.wrap_u8']; simp [sumByte]
  have hb4 := Blk.new w3 5 #[.int .u8 (sumByte s 0 : Nat), .int .u8 (sumByte s 1 : Nat), .int .u8 (sumByte s 2 : Nat), .int .u8 (sumByte s 3 : Nat)]
  have hG4 := grown_alloc hG3 (.cells #[.int .u8 (sumByte s 0 : Nat), .int .u8 (sumByte s 1 : Nat), .int .u8 (sumByte s 2 : Nat), .int .u8 (sumByte s 3 : Nat)] 5)
  have ho4 := ho1.alloc (.cells #[.int .u8 (sumByte s 0 : Nat), .int .u8 (sumByte s 1 : Nat), .int .u8 (sumByte s 2 : Nat), .int .u8 (sumByte s 3 : Nat)] 5)
  have lS : ∀ i, sumByte s i < 256 := by intro i; unfold sumByte; split <;> (try split) <;> (try split) <;> omega
  have hR4 : Rd (w3.alloc (.cells #[.int .u8 (sumByte s 0 : Nat), .int .u8 (sumByte s 1 : Nat), .int .u8 (sumByte s 2 : Nat), .int .u8 (sumByte s 3 : Nat)] 5)) (w3.heap.size + 1) (some ⟨w3.heap.size, 0, none⟩) 4 (sumByte s) := by
    intro i hi
    refine ⟨lS i, w3.heap.size, 0, rfl, by omega, ?_⟩
    rw [Nat.zero_add, hb4.cell]
    rcases (by omega : i = 0 ∨ i = 1 ∨ i = 2 ∨ i = 3) with rfl | rfl | rfl | rfl <;> rfl
  generalize sumByte s 0 = s0 at *
  generalize sumByte s 1 = s1 at *
  generalize sumByte s 2 = s2 at *
  generalize sumByte s 3 = s3 at *
  clear hF hR hg1 hb4 ho1 hG1 hG3
  go_wp2_with (at_builtin; refine append_rd rfl (.tmp 13) (.tmp 25) rfl w.heap.size _ n (vals X n) rfl ho4 hR4 (fun h => by cases h) rfl (by omega) (by simp; omega) ?_)
  intro v2 w5 ho5 hg5
  rw [vals_app] at ho5
  have hG5 := grown_new hG4 hg5 (by
    intro k hk
    exact (ho4.lt k hk).1)
  obtain ⟨A2, c2, rfl, hnc, hB5, -⟩ := bytes_owns ho5 (fun i hi => by split; exact hX i (by omega); exact lS _)
  have O5 := of_any c2 hB5 (by omega)
  rw [T] at O5
  clear hG4 hR4 ho4 ho5 hg5 hB5 q0 q1 q2 q3 T
  go_wp2_with fail
  refine O5.mono ?_; rintro e w6 ⟨rfl, hG6⟩
  go_wp2_with fail
  go_ret
  exact ⟨rfl, grown_trans hG5 hG6⟩
end
end Go.Proofs.Ytmcifedchgfdhaa
