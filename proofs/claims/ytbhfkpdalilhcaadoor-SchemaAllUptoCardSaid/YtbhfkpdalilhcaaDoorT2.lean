/- A type that may be. Own work of this session. -/
import Derived.Test.YtbhfkpdalilhcaaDoorT1
set_option linter.unusedVariables false
namespace Go.Hw
open Go

theorem tmod_range (k : Int) {n : Int} (hn : 0 < n) : -n < Int.tmod k n ∧ Int.tmod k n < n := by
  by_cases h : 0 ≤ k
  · have h1 := Int.tmod_nonneg n h
    have h2 := Int.tmod_lt_of_pos k hn
    omega
  · have e : Int.tmod k n = - Int.tmod (-k) n := by rw [Int.neg_tmod]; omega
    have h1 := Int.tmod_nonneg n (show 0 ≤ -k by omega)
    have h2 := Int.tmod_lt_of_pos (-k) hn
    omega
/-- Attributes that may be. -/
structure GoodA (A : List (ByteArray × Int)) : Prop where
  len : A.length ≤ 16
  ok : ∀ a ∈ A, nm a.1 = true ∧ a.1 ≠ S_time ∧ 1 ≤ a.2 ∧ a.2 ≤ 3
  ne : A.Pairwise fun a b => a.1 ≠ b.1
/-- A name of its own for the i-th place. -/
def Nmd (i : Nat) (s : ByteArray) : Prop := s = an i ∨ ∃ b t, bytes s = b :: t ∧ 98 ≤ b
theorem Nmd.ne {i j : Nat} {s : ByteArray} (h : Nmd j s) (hi : i < 16) (hj : j < 16) (hij : j ≠ i) : s ≠ an i := by
  rcases h with rfl | ⟨b, t, h, hb⟩
  · exact an_ne hj hi hij
  · intro e
    rw [e, an_bytes (by omega)] at h
    injection h with h _
    omega
structure NameOk (i : Nat) (s : ByteArray) : Prop where
  ok : nm s = true
  t : s ≠ S_time
  d : Nmd i s
theorem NameOk.an {i : Nat} (h : i < 16) : NameOk i (an i) := ⟨an_nm h, an_time h, .inl rfl⟩

theorem GoodA.snoc {A : List (ByteArray × Int)} {a : ByteArray × Int} (h : GoodA A) (hl : A.length < 16) (h1 : nm a.1 = true) (h2 : a.1 ≠ S_time) (h3 : 1 ≤ a.2 ∧ a.2 ≤ 3) (h4 : ∀ b ∈ A, b.1 ≠ a.1) : GoodA (A ++ [a]) := by
  refine ⟨by simp; omega, fun b hb => ?_, ?_⟩
  · rcases List.mem_append.1 hb with hb | hb
    · exact h.ok b hb
    · rw [List.mem_singleton] at hb
      rw [hb]; exact ⟨h1, h2, h3⟩
  · rw [List.pairwise_append]
    refine ⟨h.ne, by simp, fun b hb c hc => ?_⟩
    rw [List.mem_singleton] at hc
    rw [hc]; exact h4 b hb


section
variable {H : Hp} {p1 p2 : Sl} {NS : List ByteArray} {K : List Int} {p0 : ByteArray}

end
end Go.Hw
