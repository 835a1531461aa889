/- join. -/
import Derived.Test.YtplhonlgbidemaaArJ
import Derived.Maps.OwnSet
import Derived.Maps.OwnOps
namespace Go.Proofs.Ytplhonlgbidemaa
open Go.RowKit Go.Maps

theorem key3 : Keyed Try.prog 3 := int_keyed Try.underlying3
theorem zero3 (w : World) : (zeroValue 3).run Try.prog w = .ok (.int .i64 0) w := by kernel_rfl
theorem wf64 {n : Nat} (h : n ≤ 9223372036854775807) : (Lit.int .i64 (n : Int)).wf = true := by
  have h1 : IntKind.i64.min = -9223372036854775808 := rfl
  have h2 : IntKind.i64.max = 9223372036854775807 := rfl
  simp only [Lit.wf, Bool.and_eq_true, decide_eq_true_eq]
  omega

/-- Map b: the places of the first len blocks, each with its number. -/
def Mp (w : World) (b len : Nat) (P : Nat → Nat) : Prop :=
  ∃ D : DataW Unit, w.ownsMap Try.prog 3 (plainElem Try.prog 3) b len D ∧ ∀ q : Nat, q ≤ 9223372036854775807 →
    Maps.has D (.int .i64 (q : Int)) = (look P len q).isSome ∧ ∀ k, look P len q = some k → ∀ z, D.atKey (.int .i64 (q : Int)) z = .lit (.int .i64 (k : Int))
theorem Mp.lt {w : World} {b len : Nat} {P : Nat → Nat} (h : Mp w b len P) : b < w.heap.size := by obtain ⟨D, h, -⟩ := h; exact h.lt
theorem Mp.on {s : Nat → Prop} {w w' : World} {b len : Nat} {P : Nat → Nat} (h : Mp w b len P) (ho : On s w w') (hb : ¬ s b) : Mp w' b len P := by
  obtain ⟨D, h, h2⟩ := h
  refine ⟨D, ?_, h2⟩
  obtain ⟨es, clock, h0, F, hs, hD⟩ := h
  have hlt : b < w.heap.size := (Array.getElem?_eq_some_iff.1 h0).1
  exact ⟨es, clock, (ho.block b hlt hb).trans h0, F, hs, hD⟩
theorem Mp.new (w : World) (P : Nat → Nat) : Mp (w.alloc (.map #[] 0)) w.heap.size 0 P :=
  ⟨.map [], World.ownsMap_made _ _ _ _, fun q _ => ⟨rfl, fun k h => by cases h⟩⟩
theorem Mp.put {w' : World} {b len : Nat} {P : Nat → Nat} (_ : P len ≤ 9223372036854775807) {D : DataW Unit} (hD : Maps.IsMap D)
    (h2 : ∀ q : Nat, q ≤ 9223372036854775807 → Maps.has D (.int .i64 (q : Int)) = (look P len q).isSome ∧ ∀ k, look P len q = some k → ∀ z, D.atKey (.int .i64 (q : Int)) z = .lit (.int .i64 (k : Int)))
    (h : w'.ownsMap Try.prog 3 (plainElem Try.prog 3) b (len + 1) (D.put (.int .i64 (P len : Nat)) (.lit (.int .i64 (len : Int))))) : Mp w' b (len + 1) P := by
  refine ⟨_, h, fun q hq => ?_⟩
  have hk : WideAt.IsKeyLit (.int .i64 (P len : Nat)) := by trivial
  unfold look
  by_cases e : P len = q
  · rw [if_pos e, ← e]
    refine ⟨Maps.has_put_same hD hk _, fun k h z => ?_⟩
    injection h with h
    subst h
    exact Maps.atKey_put_same hD hk _ _
  · rw [if_neg e]
    have hne : (Lit.int .i64 (q : Int)) ≠ (.int .i64 (P len : Nat)) := by
      intro h
      injection h with h1 h2
      omega
    refine ⟨by rw [Maps.has_put_other hne]; exact (h2 q hq).1, fun k h z => ?_⟩
    rw [Maps.atKey_put_other hne]
    exact (h2 q hq).2 k h z
theorem Mp.none {w : World} {b len : Nat} {P : Nat → Nat} (h : Mp w b len P) {q : Nat} (hq : q ≤ 9223372036854775807) (hl : look P len q = none) (n : Nat) :
    (Instr.lookup 103 (.map (some b)) (.int .i64 (q : Int)) true).run Try.prog (w.drewN n) = .ok (.tuple #[.int .i64 0, .bool false]) (w.drewN n) := by
  obtain ⟨D, h, h2⟩ := h
  have h' : (w.drewN n).ownsMap Try.prog 3 (plainElem Try.prog 3) b len D := h
  have w0 : (Lit.int .i64 (0 : Int)).wf = true := by decide
  obtain ⟨v, ps, hrun, hv⟩ := h'.look_ok key3 Try.underlying103 (zero3 _) (plainElem_int Try.underlying3 w0) (keyOf_int_mk Try.underlying3 (wf64 hq))
  have hh := (h2 q hq).1
  rw [hl] at hh
  rw [hh] at hrun
  rw [Maps.atKey_of_not_has hh] at hv
  obtain ⟨c, rfl, hc, -⟩ := plainElem_int_inv Try.underlying3 hv
  simp at hc
  obtain ⟨rfl, -⟩ := hc
  exact hrun
theorem Mp.some {w : World} {b len : Nat} {P : Nat → Nat} (h : Mp w b len P) {q k : Nat} (hq : q ≤ 9223372036854775807) (hl : look P len q = some k) (n : Nat) :
    (Instr.lookup 103 (.map (some b)) (.int .i64 (q : Int)) true).run Try.prog (w.drewN n) = .ok (.tuple #[.int .i64 (k : Int), .bool true]) (w.drewN n) := by
  obtain ⟨D, h, h2⟩ := h
  have h' : (w.drewN n).ownsMap Try.prog 3 (plainElem Try.prog 3) b len D := h
  have w0 : (Lit.int .i64 (0 : Int)).wf = true := by decide
  obtain ⟨v, ps, hrun, hv⟩ := h'.look_ok key3 Try.underlying103 (zero3 _) (plainElem_int Try.underlying3 w0) (keyOf_int_mk Try.underlying3 (wf64 hq))
  rw [(h2 q hq).1, hl] at hrun
  rw [(h2 q hq).2 k hl] at hv
  obtain ⟨c, rfl, hc, -⟩ := plainElem_int_inv Try.underlying3 hv
  simp at hc
  obtain ⟨rfl, -⟩ := hc
  exact hrun

/-- A list of blocks in the memory. -/
def Bs (w : World) (gl len : Nat) (P N : Nat → Nat) (G : Nat → Bool) : Prop :=
  ∃ cs, Blk w gl 102 cs ∧ ∀ i, i < len → cs[i * 3]? = some (.int .i64 (P i : Nat)) ∧ cs[i * 3 + 1]? = some (.int .i64 (N i : Nat)) ∧ cs[i * 3 + 2]? = some (.bool (G i))
section
variable {w w' : World} {gl len : Nat} {P N : Nat → Nat} {G : Nat → Bool}
theorem Bs.lt (h : Bs w gl len P N G) : gl < w.heap.size := by obtain ⟨cs, hb, -⟩ := h; exact hb.lt
theorem Bs.free (h : Bs w gl len P N G) (i : Nat) : w.frozen? ⟨gl, i, none⟩ = false := by obtain ⟨cs, hb, -⟩ := h; exact hb.free i
theorem Bs.p (h : Bs w gl len P N G) {i : Nat} (hi : i < len) : w.cell? ⟨gl, i * 3, none⟩ = some (.int .i64 (P i : Nat)) := by obtain ⟨cs, hb, h⟩ := h; rw [hb.cell]; exact (h i hi).1
theorem Bs.n (h : Bs w gl len P N G) {i : Nat} (hi : i < len) : w.cell? ⟨gl, i * 3 + 1, none⟩ = some (.int .i64 (N i : Nat)) := by obtain ⟨cs, hb, h⟩ := h; rw [hb.cell]; exact (h i hi).2.1
theorem Bs.g (h : Bs w gl len P N G) {i : Nat} (hi : i < len) : w.cell? ⟨gl, i * 3 + 2, none⟩ = some (.bool (G i)) := by obtain ⟨cs, hb, h⟩ := h; rw [hb.cell]; exact (h i hi).2.2
theorem Bs.on {s : Nat → Prop} (h : Bs w gl len P N G) (ho : On s w w') (hs : ¬ s gl) : Bs w' gl len P N G := by obtain ⟨cs, hb, h⟩ := h; exact ⟨cs, hb.on ho hs, h⟩
theorem Bs.drewN (h : Bs w gl len P N G) (n : Nat) : Bs (w.drewN n) gl len P N G := h
theorem Bs.drew (h : Bs w gl len P N G) : Bs w.drew gl len P N G := h
theorem Bs.putN (h : Bs w gl len P N G) (k v : Nat) : Bs (w.setCell ⟨gl, k * 3 + 1, none⟩ (.int .i64 (v : Nat))) gl len P (upf N k v) G := by
  obtain ⟨cs, hb, h⟩ := h
  refine ⟨_, hb.put (k * 3 + 1) _, fun i hi => ⟨?_, ?_, ?_⟩⟩
  · rw [get_set cs _ (h i hi).1, if_neg (by omega)]
  · rw [get_set cs _ (h i hi).2.1]
    unfold upf
    by_cases e : i = k
    · rw [if_pos (by omega), if_pos e]
    · rw [if_neg (by omega), if_neg e]
  · rw [get_set cs _ (h i hi).2.2, if_neg (by omega)]
theorem Bs.putG (h : Bs w gl len P N G) (k : Nat) (v : Bool) : Bs (w.setCell ⟨gl, k * 3 + 2, none⟩ (.bool v)) gl len P N (upf G k v) := by
  obtain ⟨cs, hb, h⟩ := h
  refine ⟨_, hb.put (k * 3 + 2) _, fun i hi => ⟨?_, ?_, ?_⟩⟩
  · rw [get_set cs _ (h i hi).1, if_neg (by omega)]
  · rw [get_set cs _ (h i hi).2.1, if_neg (by omega)]
  · rw [get_set cs _ (h i hi).2.2]
    unfold upf
    by_cases e : i = k
    · rw [if_pos (by omega), if_pos e]
    · rw [if_neg (by omega), if_neg e]
end

/-- How many blocks count still. -/
def alive (w : World) (gl len : Nat) : Nat := cnt (fun i => match w.cell? ⟨gl, i * 3 + 2, none⟩ with | some (.bool false) => false | _ => true) len
theorem cnt_cong {G G' : Nat → Bool} {n : Nat} (h : ∀ i, i < n → G i = G' i) : cnt G n = cnt G' n := by
  induction n with
  | zero => rfl
  | succ n ih => unfold cnt; rw [ih fun i hi => h i (by omega), h n (by omega)]
theorem alive_of {w : World} {gl len : Nat} {P N : Nat → Nat} {G : Nat → Bool} (h : Bs w gl len P N G) : alive w gl len = cnt G len := by
  refine cnt_cong fun i hi => ?_
  rw [h.g hi]
  cases G i <;> rfl

/-- The loop that fills the map. -/
def JnM (w : World) (gl len : Nat) (P N : Nat → Nat) (G : Nat → Bool) (i : Value) (wr : World) : Prop :=
  ∃ k : Nat, k ≤ len ∧ i = .int .i64 k ∧ Bs wr gl len P N G ∧ Mp wr w.heap.size k P ∧ On (fun k => k = gl) w wr
/-- The loop over the blocks, the last first. -/
def JnO (w : World) (gl len : Nat) (P : Nat → Nat) (s0 : (Nat → Nat) × (Nat → Bool)) (A : AM) (H : List Bk) (i : Value) (wr : World) : Prop :=
  ∃ (k : Nat) (N : Nat → Nat) (G : Nat → Bool), k ≤ len ∧ i = .int .i64 ((k : Int) - 1) ∧ Bs wr gl len P N G ∧ Inv A (mkB P N G len ++ H) ∧ joinM P len k (N, G) = s0 ∧ Mp wr w.heap.size len P ∧ On (fun k => k = gl) w wr
/-- The loop in which block i takes in others. -/
def JnI (w : World) (gl len : Nat) (P N : Nat → Nat) (G : Nat → Bool) (A : AM) (H : List Bk) (i : Nat) (wr : World) : Prop :=
  ∃ (N' : Nat → Nat) (G' : Nat → Bool), Bs wr gl len P N' G' ∧ Inv A (mkB P N' G' len ++ H) ∧ G' i = G i ∧ (G i = true → N' = N ∧ G' = G) ∧ (G i = false → growM P len N' G' i = growM P len N G i) ∧ Mp wr w.heap.size len P ∧ On (fun k => k = gl) w wr

set_option maxRecDepth 100000 in
set_option maxHeartbeats 2000000 in
theorem join_any {w : World} {gl len cap : Nat} {P N : Nat → Nat} {G : Nat → Bool} {A : AM} {H : List Bk} (h : Bs w gl len P N G) (hi : Inv A (mkB P N G len ++ H)) (hd : Ds P len) (hP : ∀ i, i < len → P i ≤ 4294967296) (hlen : len ≤ 4294967296) (hcap : len ≤ cap) :
    Calls Try.prog 60 #[.slice (some ⟨gl, 0, none⟩) len cap] w fun e w' =>
      e = .returned (.tuple #[]) ∧ Bs w' gl len P (joinM P len len (N, G)).1 (joinM P len len (N, G)).2 ∧ Inv A (mkB P (joinM P len len (N, G)).1 (joinM P len len (N, G)).2 len ++ H) ∧ On (fun k => k = gl) w w' := by
  have hlt := h.lt
  have hmm := @run_makeMap Try.prog
  go_enter Try.func60, Try.ntmps60
  go_wp2_with fail
  go_loopw [12] (fun i wr => JnM w gl len P N G i wr) (fun i _ => len - (intOf i).toNat)
  case atStart => exact ⟨0, by omega, rfl, h.on (s := fun _ => False) ((on_refl _ w).alloc _) id, Mp.new _ _, (on_refl _ _).alloc _⟩
  case round =>
    obtain ⟨k, hk, rfl, hB, hM, hO⟩ := hrel
    by_cases hkl : k < len
    · have c0 := hB.p hkl
      have c1 := hB.n hkl
      have c2 := hB.g hkl
      have hlb : w.heap.size < wr.heap.size := hM.lt
      obtain ⟨D, hown, hD2⟩ := hM
      have hisD := hown.isMap
      have hPk := hP k hkl
      go_wp2_with (at_mapUpdate; refine wpList_mapUpdate_own _ rfl _ _ _ 103 rfl 3 3 key3 Try.underlying103 _ w.heap.size k _ rfl (hown.alloc _) (by unfold maxLen; omega) _ _ _ rfl rfl (keyOf_int_mk Try.underlying3 (wf64 (n := P k) (by omega))) _ [] (plainElem_int Try.underlying3 (wf64 (n := k) (by omega))) ?_)
      intro w1 hown1 hg1
      have hM1 := Mp.put (by omega) hisD hD2 hown1
      have hB1 : Bs w1 gl len P N G := (hB.on (s := fun b => b = w.heap.size) ((on_refl _ wr).alloc _) (by omega)).on (s := fun b => b = w.heap.size) (On.of_grown hg1 (by intro b hb; cases hb; rfl)) (by omega)
      have hO1 : On (fun k => k = gl) w w1 := (hO.alloc _).gr hg1 (by intro b hb; cases hb; omega)
      clear hown1 hg1 hown hB hO hD2 hisD c0 c1 c2
      go_wp2_with fail
      go_roundw
      case rel => exact ⟨k + 1, by omega, by go_num, hB1, hM1, hO1⟩
      case measure => simp [intOf]; omega
    · obtain rfl : k = len := by omega
      go_wp2_with fail
      go_loopw [5] (fun i wr => JnO w gl k P (joinM P k k (N, G)) A H i wr) (fun i _ => (intOf i + 1).toNat)
      case atStart => exact ⟨k, N, G, by omega, rfl, hB, hi, rfl, hM, hO⟩
      case round =>
        clear hB hM hO
        obtain ⟨j, N1, G1, hj, rfl, hB, hi1, hjo, hM, hO⟩ := hrel
        by_cases hj0 : j = 0
        · subst hj0
          go_wp2_with fail
          go_end0
          exact ⟨rfl, by rw [← hjo]; exact hB, by rw [← hjo]; exact hi1, hO⟩
        · obtain ⟨i, rfl⟩ : ∃ i, j = i + 1 := ⟨j - 1, by omega⟩
          have ei : ((i + 1 : Nat) : Int) - 1 = (i : Int) := by omega
          rw [ei]
          have hik : (i : Int) < k := by omega
          go_wp2_with fail
          go_loopw [7] (fun _ wr => JnI w gl k P N1 G1 A H i wr) (fun _ wr => alive wr gl k)
          case atStart => exact ⟨N1, G1, hB, hi1, rfl, fun _ => ⟨rfl, rfl⟩, fun _ => rfl, hM, hO⟩
          case round =>
            clear hB hM hO hi1
            obtain ⟨N2, G2, hB, hi2, hgi, hg1, hg0, hM, hO⟩ := hrel
            have hik' : i < k := by omega
            have cg := hB.g hik'
            by_cases hG : G1 i = true
            · obtain ⟨rfl, rfl⟩ := hg1 hG
              rw [hG] at cg
              go_wp2_with fail
              go_roundw
              case rel =>
                refine ⟨i, N2, G2, by omega, rfl, hB, hi2, ?_, hM, hO⟩
                rw [← hjo]
                show joinM P k i (N2, G2) = joinM P k i (if G2 i = true then (N2, G2) else growM P k N2 G2 i)
                rw [if_pos hG]
              case measure => simp [intOf]
            · have hG2 : G2 i = false := by rw [hgi]; simpa using hG
              have hG1 : G1 i = false := by simpa using hG
              rw [hG2] at cg
              have cp := hB.p hik'
              have cn := hB.n hik'
              have hin : 1 ≤ N2 i ∧ P i + 12 * N2 i ≤ A.size + 1 := by
                rcases hi2.inn ⟨P i, N2 i, G2 i⟩ (List.mem_append.2 (.inr (List.mem_append.2 (.inl (mem_mk.2 ⟨i, hik', rfl⟩))))) with e | e
                · rw [hG2] at e; cases e
                · exact ⟨e.1, e.2.2.1⟩
              have hAs := hi2.size
              have eq1 : ((P i + 12 * N2 i : Nat) : Int) = (P i : Int) + (N2 i : Nat) * 12 := by omega
              cases hlk : look P k (P i + 12 * N2 i) with
              | none =>
                have L := fun n => hM.none (q := P i + 12 * N2 i) (by omega) hlk n
                rw [eq1] at L
                go_wp2_with fail
                go_quiet (fail)
                go_wp2_with fail
                go_quiet (fail)
                go_wp2_with fail
                go_roundw
                case rel =>
                  refine ⟨i, N2, G2, by omega, rfl, hB.drewN _, hi2, ?_, hM.on ((on_refl (fun _ => False) _).drewN _) id, hO.drewN _⟩
                  rw [← hjo]
                  show joinM P k i (N2, G2) = joinM P k i (if G1 i = true then (N1, G1) else growM P k N1 G1 i)
                  rw [if_neg hG, ← hg0 hG1, growM_stop (by unfold nxt; rw [hlk])]
                case measure => simp [intOf]
              | some k2 =>
                have L := fun n => hM.some (q := P i + 12 * N2 i) (by omega) hlk n
                rw [eq1] at L
                obtain ⟨hk2, hpk2⟩ := look_some hlk
                have hk2' : (k2 : Int) < k := by omega
                have dg := hB.g hk2
                have dn := hB.n hk2
                by_cases hgk : G2 k2 = true
                · rw [hgk] at dg
                  go_wp2_with fail
                  go_quiet (fail)
                  go_wp2_with fail
                  go_quiet (fail)
                  go_wp2_with fail
                  go_roundw
                  case rel =>
                    refine ⟨i, N2, G2, by omega, rfl, hB.drewN _, hi2, ?_, hM.on ((on_refl (fun _ => False) _).drewN _) id, hO.drewN _⟩
                    rw [← hjo]
                    show joinM P k i (N2, G2) = joinM P k i (if G1 i = true then (N1, G1) else growM P k N1 G1 i)
                    rw [if_neg hG, ← hg0 hG1, growM_stop (by unfold nxt; rw [hlk]; simp [hgk])]
                  case measure => simp [intOf]
                · have hgk : G2 k2 = false := by simpa using hgk
                  rw [hgk] at dg
                  have hink : 1 ≤ N2 k2 ∧ P k2 + 12 * N2 k2 ≤ A.size + 1 := by
                    rcases hi2.inn ⟨P k2, N2 k2, G2 k2⟩ (List.mem_append.2 (.inr (List.mem_append.2 (.inl (mem_mk.2 ⟨k2, hk2, rfl⟩))))) with e | e
                    · rw [hgk] at e; cases e
                    · exact ⟨e.1, e.2.2.1⟩
                  by_cases hbig : 65536 ≤ N2 i + N2 k2
                  · have hbig' : (65536 : Int) ≤ (N2 i : Int) + (N2 k2 : Nat) := by omega
                    go_wp2_with fail
                    go_quiet (fail)
                    go_wp2_with fail
                    go_quiet (fail)
                    go_wp2_with fail
                    go_roundw
                    case rel =>
                      refine ⟨i, N2, G2, by omega, rfl, hB.drewN _, hi2, ?_, hM.on ((on_refl (fun _ => False) _).drewN _) id, hO.drewN _⟩
                      rw [← hjo]
                      show joinM P k i (N2, G2) = joinM P k i (if G1 i = true then (N1, G1) else growM P k N1 G1 i)
                      rw [if_neg hG, ← hg0 hG1, growM_stop (by unfold nxt; rw [hlk]; simp [hgk]; omega)]
                    case measure => simp [intOf]
                  · have hbig' : decide ((65536 : Int) ≤ (N2 i : Int) + (N2 k2 : Nat)) = false := by rw [decide_eq_false_iff_not]; omega
                    have hnx : nxt P k N2 G2 i = some k2 := nxt_of hd hk2 hpk2 hgk (by omega)
                    obtain ⟨hne, hi3⟩ := hi2.merge hik' hG2 hnx
                    have hbn : (N2 i : Int) + (N2 k2 : Nat) ≤ 65535 := by omega
                    clear hbig
                    have hB3 := fun n1 n2 => ((hB.drewN n1).drewN n2).putG k2 true
                    have hO3 := fun n1 n2 => ((hO.drewN n1).drewN n2).put (g := gl) (i := k2 * 3 + 2) rfl (.bool true)
                    have hM3 := fun n1 n2 => ((hM.on ((on_refl (fun _ => False) _).drewN n1) id).on ((on_refl (fun _ => False) _).drewN n2) id).on ((on_refl (fun b => b = gl) _).put (g := gl) (i := k2 * 3 + 2) rfl (.bool true)) (by have := hM.lt; omega)
                    have f1 := hB.free (k2 * 3 + 2)
                    have hgr : growM P k (upf N2 i (N2 i + N2 k2)) (upf G2 k2 true) i = growM P k N1 G1 i := by rw [← growM_step hnx]; exact hg0 hG1
                    have hcn := cnt_one hk2 hgk
                    have hal : alive wr gl k = cnt G2 k := alive_of hB
                    have hgi2 : upf G2 k2 true i = false := by unfold upf; rw [if_neg (fun e => hne e.symm)]; exact hG2
                    have HR := Lib.hid hgr
                    have HC := Lib.hid hcn
                    have HA := Lib.hid hal
                    have HG := Lib.hid hgi2
                    have HI := Lib.hid hi3
                    have HJ := Lib.hid hjo
                    clear hgr hcn hal hgi2 hi3 hjo hnx
                    go_wp2_with fail
                    go_quiet (fail)
                    rename Nat => n1
                    go_wp2_with fail
                    go_quiet (fail)
                    rename Nat => n2
                    have dg2 : ((wr.drewN n1).drewN n2).cell? ⟨gl, k2 * 3 + 2, none⟩ = some (.bool false) := dg
                    have f2 : ((wr.drewN n1).drewN n2).frozen? ⟨gl, k2 * 3 + 2, none⟩ = false := f1
                    have hB3 := hB3 n1 n2
                    have hM3 := hM3 n1 n2
                    have hO3 := hO3 n1 n2
                    clear hO hM hB L cg cp cn dn hpk2 hlk hgi hg0 hg1 hi2 hd hP dg f1
                    generalize (wr.drewN n1).drewN n2 = w2 at *
                    go_wp2_with fail
                    clear dg2 f2
                    generalize World.setCell _ _ _ = w3 at *
                    refine wp_region_still_tail 12 (by kernel_rfl) (by kernel_rfl) ?_
                    change wpStill _ _ w3.drew (fun a' => wpList _ _ _ _ a' w3.drew) _ _
                    have en := hB3.drew.n hik'
                    have dn := hB3.drew.n hk2
                    simp only [List.take_succ_cons, List.take_zero, List.drop_succ_cons, List.drop_zero]
                    repeat still_step
                    refine wpStill_nil ?_
                    have fn := hB3.drew.free (i * 3 + 1)
                    have hB4 := hB3.drew.putN i (N2 i + N2 k2)
                    have hO4 := hO3.drew.put (g := gl) (i := i * 3 + 1) rfl (.int .i64 ((N2 i + N2 k2 : Nat) : Int))
                    have hM4 := (hM3.on ((on_refl (fun _ => False) _).drew) id).on ((on_refl (fun b => b = gl) _).put (g := gl) (i := i * 3 + 1) rfl (.int .i64 ((N2 i + N2 k2 : Nat) : Int))) (by omega)
                    rw [Int.natCast_add] at hB4 hO4 hM4
                    go_wp2_with fail
                    go_roundw
                    case rel =>
                      exact ⟨_, _, hB4, HI.out, by rw [HG.out, hG1], fun e => absurd e hG, fun _ => HR.out, hM4, hO4⟩
                    case measure =>
                      have e1 := alive_of hB4
                      have e2 := HA.out
                      have e3 := HC.out
                      change alive (w3.drew.setCell ⟨gl, i * 3 + 1, none⟩ _) gl k < _
                      rw [e1, e2]
                      omega
end Go.Proofs.Ytplhonlgbidemaa
