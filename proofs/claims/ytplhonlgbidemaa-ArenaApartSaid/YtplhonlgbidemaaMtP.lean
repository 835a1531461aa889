/- A meter in plain words: what it holds, and what each call makes of it. No program is spoken of. -/
import Derived.Test.YtplhonlgbidemaaMem
namespace Go.Proofs.Ytplhonlgbidemaa

/-- Quotas and what is used: q.. the quota, u.. what is used of memory, bytes out, files, depth, steps; pk the peak of memory; cd the code. -/
structure Mt where
  qm : Int
  um : Int
  qo : Int
  uo : Int
  qf : Int
  uf : Int
  qd : Int
  ud : Int
  qs : Int
  us : Int
  pk : Int
  cd : Int

/-- A number that is not negative and fits an int. -/
def Fits (q u : Int) : Prop := 0 ≤ u ∧ u ≤ q ∧ q ≤ 9223372036854775807

structure Mt.Good (m : Mt) : Prop where
  m1 : Fits m.qm m.um
  o1 : Fits m.qo m.uo
  f1 : Fits m.qf m.uf
  d1 : Fits m.qd m.ud
  s1 : Fits m.qs m.us
  p1 : Fits m.qm m.pk
  p2 : m.um ≤ m.pk
  c1 : m.cd = 0 ∨ (101 ≤ m.cd ∧ m.cd ≤ 105)

/-- A new meter. -/
def Mt.new (a b c d e : Int) : Mt := { qm := max a 0, um := 0, qo := max b 0, uo := 0, qf := max c 0, uf := 0, qd := max d 0, ud := 0, qs := max e 0, us := 0, pk := 0, cd := 0 }

/-- Whether n more may be used. -/
def may (cd q u n : Int) : Bool := cd == 0 && decide (max n 0 ≤ q - u)
/-- The code behind an asking. -/
def code (cd q u n c : Int) : Int := if cd = 0 then (if max n 0 ≤ q - u then 0 else c) else cd
/-- What is used behind an asking. -/
def used (cd q u n : Int) : Int := if may cd q u n then u + max n 0 else u

def Mt.mem (m : Mt) (n : Int) : Mt := { m with um := used m.cd m.qm m.um n, pk := max m.pk (used m.cd m.qm m.um n), cd := code m.cd m.qm m.um n 101 }
def Mt.out (m : Mt) (n : Int) : Mt := { m with uo := used m.cd m.qo m.uo n, cd := code m.cd m.qo m.uo n 102 }
def Mt.file (m : Mt) : Mt := { m with uf := used m.cd m.qf m.uf 1, cd := code m.cd m.qf m.uf 1 103 }
def Mt.down (m : Mt) : Mt := { m with ud := used m.cd m.qd m.ud 1, cd := code m.cd m.qd m.ud 1 104 }
def Mt.step (m : Mt) (n : Int) : Mt := { m with us := used m.cd m.qs m.us n, cd := code m.cd m.qs m.us n 105 }
def Mt.free (m : Mt) (n : Int) : Mt := { m with um := m.um - min (max n 0) m.um }
def Mt.up (m : Mt) : Mt := { m with ud := m.ud - min 1 m.ud }

/-- An answer and the meter behind it, of the seven things that a script asks. -/
def Mt.does (m : Mt) (k n : Int) : Mt :=
  if k = 0 then m.mem n else if k = 1 then m.out n else if k = 2 then m.file else if k = 3 then m.down else if k = 4 then m.step n else if k = 5 then m.free n else m.up
def Mt.says (m : Mt) (k n : Int) : Bool :=
  if k = 0 then may m.cd m.qm m.um n else if k = 1 then may m.cd m.qo m.uo n else if k = 2 then may m.cd m.qf m.uf 1 else if k = 3 then may m.cd m.qd m.ud 1 else if k = 4 then may m.cd m.qs m.us n else true

theorem new_good (a b c d e : Int) (ha : a ≤ 9223372036854775807) (hb : b ≤ 9223372036854775807) (hc : c ≤ 9223372036854775807) (hd : d ≤ 9223372036854775807) (he : e ≤ 9223372036854775807) : (Mt.new a b c d e).Good := by
  constructor <;> first | exact .inl rfl | (simp only [Mt.new, Fits]; omega)

theorem used_fits {cd q u n : Int} (h : Fits q u) : Fits q (used cd q u n) := by
  obtain ⟨h1, h2, h3⟩ := h
  unfold used
  split
  · rename_i hm
    simp [may] at hm
    exact ⟨by omega, by omega, by omega⟩
  · exact ⟨h1, h2, h3⟩
theorem code_in {cd q u n c : Int} (h : cd = 0 ∨ (101 ≤ cd ∧ cd ≤ 105)) (hc : 101 ≤ c ∧ c ≤ 105) : code cd q u n c = 0 ∨ (101 ≤ code cd q u n c ∧ code cd q u n c ≤ 105) := by
  unfold code; split
  · split
    · exact .inl rfl
    · exact .inr hc
  · exact h
theorem used_ge {cd q u n : Int} : u ≤ used cd q u n := by unfold used; split <;> omega

theorem mem_good {m : Mt} (h : m.Good) (n : Int) : (m.mem n).Good := by
  have h1 := used_fits (cd := m.cd) (n := n) h.m1
  obtain ⟨p, _, _⟩ := h.p1
  obtain ⟨a, b, c⟩ := h1
  refine ⟨⟨a, b, c⟩, h.o1, h.f1, h.d1, h.s1, ?_, ?_, code_in h.c1 (by omega)⟩ <;> simp only [Mt.mem] <;> first | exact ⟨by omega, by omega, by omega⟩ | omega
theorem out_good {m : Mt} (h : m.Good) (n : Int) : (m.out n).Good := ⟨h.m1, used_fits h.o1, h.f1, h.d1, h.s1, h.p1, h.p2, code_in h.c1 (by omega)⟩
theorem file_good {m : Mt} (h : m.Good) : (m.file).Good := ⟨h.m1, h.o1, used_fits h.f1, h.d1, h.s1, h.p1, h.p2, code_in h.c1 (by omega)⟩
theorem down_good {m : Mt} (h : m.Good) : (m.down).Good := ⟨h.m1, h.o1, h.f1, used_fits h.d1, h.s1, h.p1, h.p2, code_in h.c1 (by omega)⟩
theorem step_good {m : Mt} (h : m.Good) (n : Int) : (m.step n).Good := ⟨h.m1, h.o1, h.f1, h.d1, used_fits h.s1, h.p1, h.p2, code_in h.c1 (by omega)⟩
theorem free_good {m : Mt} (h : m.Good) (n : Int) : (m.free n).Good := by
  obtain ⟨a, b, c⟩ := h.m1
  have := h.p2
  refine ⟨?_, h.o1, h.f1, h.d1, h.s1, h.p1, ?_, h.c1⟩ <;> simp only [Mt.free] <;> first | exact ⟨by omega, by omega, by omega⟩ | omega
theorem up_good {m : Mt} (h : m.Good) : (m.up).Good := by
  obtain ⟨a, b, c⟩ := h.d1
  refine ⟨h.m1, h.o1, h.f1, ?_, h.s1, h.p1, h.p2, h.c1⟩
  simp only [Mt.up]
  exact ⟨by omega, by omega, by omega⟩
theorem does_good {m : Mt} (h : m.Good) (k n : Int) : (m.does k n).Good := by
  unfold Mt.does
  repeat' split
  all_goals first | exact mem_good h n | exact out_good h n | exact file_good h | exact down_good h | exact step_good h n | exact free_good h n | exact up_good h

end Go.Proofs.Ytplhonlgbidemaa
