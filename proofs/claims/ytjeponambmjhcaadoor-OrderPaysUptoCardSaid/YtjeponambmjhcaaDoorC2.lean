/- Contracts: the program's heap. Own work of this session. -/
import Derived.Test.YtjeponambmjhcaaDoorC1
import Derived.Test.YtjeponambmjhcaaDoorHP
set_option linter.unusedVariables false
namespace Go.Hw
open Go

def hlt (p q : HC) : Prop := p.e.tm < q.e.tm ∨ p.e.tm = q.e.tm ∧ p.num < q.num
instance (p q : HC) : Decidable (hlt p q) := inferInstanceAs (Decidable (_ ∨ _))
theorem hOrd : Ord hlt := ⟨fun x y h k => by unfold hlt at *; omega, fun x y z h k => by unfold hlt at *; omega, fun x y z h k => by unfold hlt at *; omega⟩

abbrev lessv : Value := .func (.func 19) #[] #[]

theorem c47 {H : Hp} {hb : Nat} {sl : Sl} {L : List HC} {i j : Nat} {x y : HC} {Q : Hp → Prop} (r : Row H hb 61 [Sl.v sl, lessv]) (h : Lst hF H sl L) (hx : L[i]? = some x) (hy : L[j]? = some y)
    (hQ : ∀ H', Lst hF H' sl ((L.set i y).set j x) → Kp sl.at H H' → Q H') : F30 (some ⟨hb, 0, none⟩) i j H Q := by
  obtain ⟨a, ha, hi, ca⟩ := h.rd.get hx
  obtain ⟨a', ha', hj, ca'⟩ := h.rd.get hy
  have hn := h.n
  have r0 := r.cell_of (i := 0) rfl
  obtain ⟨b, hb1, hb2, hb3, hw, hset⟩ := h.set (i := i) (by omega) y
  refine ⟨_, rfl, _, r0, _, rfl, _, r0, _, rfl, _, r0, a', ha', by omega, by omega, _, _, _, _, ca', _, rfl, _, r0, a, ha, by omega, by omega, _, _, _, _, ca, b, hb1, by omega, by omega, hw, fun H1 e1 => ?_⟩
  obtain ⟨h1, k1⟩ := hset _ e1
  obtain ⟨c, hc1, hc2, hc3, hw', hset'⟩ := h1.set (i := j) (by rw [List.length_set]; omega) x
  refine ⟨c, hc1, by omega, by omega, hw', fun H2 e2 => ?_⟩
  obtain ⟨h2, k2⟩ := hset' _ e2
  exact hQ _ h2 (k1.trans k2 fun b hb => .inl hb)

/-- Sifting up. -/
theorem c41_loop {H : Hp} {hb : Nat} {sl : Sl} {L : List HC} {i : Nat} {Q : Hp → Prop} (r : Row H hb 61 [Sl.v sl, lessv]) (h : Lst hF H sl L) (hl : L.length ≤ 9223372036854775807) (hi : i < L.length) (hup : HeapUp hlt L i)
    (hQ : ∀ H' L', L'.Perm L → Heap hlt L' → Lst hF H' sl L' → Kp sl.at H H' → Q H') : F22_L1 Q (some ⟨hb, 0, none⟩) i H := by
  intro X hX
  suffices G : ∀ (n : Nat) (H1 : Hp) (L1 : List HC) (i : Nat), i ≤ n → i < L1.length → Row H1 hb 61 [Sl.v sl, lessv] → Lst hF H1 sl L1 → L1.Perm L → HeapUp hlt L1 i → Kp sl.at H H1 → X i H1 from
    G i H L i (Nat.le_refl _) hi r h (List.Perm.refl _) hup (Kp.refl _ _)
  intro n
  induction n with
  | zero =>
    intro H1 L1 i hi0 hi r h hp hup k
    obtain rfl : i = 0 := by omega
    exact hX _ _ ⟨fun hb => absurd (of_decide_eq_true hb) (by omega), fun _ => hQ _ _ hp hup.done0 h k⟩
  | succ n ih =>
    intro H1 L1 i hin hi r h hp hup k
    have hlen := hp.length_eq
    refine hX _ _ ⟨fun hb0 => ?_, fun hb0 => ?_⟩
    · have h0 : 0 < i := by have := of_decide_eq_true hb0; omega
      have hw : IntKind.i64.wrap (Int.tdiv (IntKind.i64.wrap ((i : Int) - 1)) 2) = (((i - 1) / 2 : Nat) : Int) := by
        rw [wr (x := (i : Int) - 1) (by omega) (by omega), show (i : Int) - 1 = ((i - 1 : Nat) : Int) from by omega]
        rw [show Int.tdiv ((i - 1 : Nat) : Int) 2 = (((i - 1) / 2 : Nat) : Int) from rfl]
        exact wr (by omega) (by omega)
      rw [hw]
      have hx : L1[i]? = some L1[i] := List.getElem?_eq_getElem hi
      have hy : L1[(i - 1) / 2]? = some L1[(i - 1) / 2] := List.getElem?_eq_getElem (by omega)
      obtain ⟨a, ha, hi1, ca⟩ := h.rd.get hx
      obtain ⟨a', ha', hj1, ca'⟩ := h.rd.get hy
      have r0 := r.cell_of (i := 0) rfl
      refine ⟨_, rfl, r.cell_of (i := 1) rfl, _, rfl, _, r0, a, ha, by omega, by omega, _, _, _, _, ca, _, rfl, _, r0, a', ha', by omega, by omega, _, _, _, _, ca', c31 fun H2 k2 => ?_⟩
      have r2 := k2.row r id
      have h2 := h.kp k2 (fun _ _ => id)
      have k := k.trans k2 (fun _ => False.elim)
      refine ⟨r2.cell_of (i := 0) rfl, r2.cell_of (i := 0) rfl, fun hq => ?_, fun hq => ?_⟩
      · have hq : hlt L1[i] L1[(i - 1) / 2] := of_decide_eq_true hq
        refine c47 r2 h2 hx hy fun H3 h3 k3 => ?_
        exact ih H3 _ _ (by omega) (by simp; omega) (k3.row r2 (h2.ne r2 (by decide))) h3 ((perm_swap hx hy).trans hp) (hup.step hOrd h0 hx hy hq) (k.trans k3 fun _ => .inl)
      · have hq : ¬ hlt L1[i] L1[(i - 1) / 2] := of_decide_eq_false hq
        exact hQ _ _ hp (hup.done hx hy hq) h2 k
    · obtain rfl : i = 0 := by have := of_decide_eq_false hb0; omega
      exact hQ _ _ hp hup.done0 h k

theorem c41 {H : Hp} {hb : Nat} {sl : Sl} {L : List HC} {x : HC} {Q : Hp → Prop} (r : Row H hb 61 [Sl.v sl, lessv]) (h : Lst hF H sl L) (hl : L.length ≤ 1048576) (hh : Heap hlt L)
    (hQ : ∀ H' sl' L', L'.Perm (L ++ [x]) → Heap hlt L' → Row H' hb 61 [Sl.v sl', lessv] → Lst hF H' sl' L' → Kp (fun b => b = hb ∨ sl.at b) H H' → (∀ b, sl'.at b → sl.at b ∨ H.size ≤ b) → Q H') :
    F22 (some ⟨hb, 0, none⟩) x.num x.e.ty x.e.tm x.e.sl H Q := by
  intro H1 e1
  have k1 := (Kp.refl No H).push' e1
  have s1 := size_push' e1
  have r1 := Row.new' e1
  refine ⟨_, rfl, _, (r.push' e1).cell_of (i := 0) rfl, _, _, _, _, r1.all, fun H12 e12 => ?_⟩
  have k12 := k1.push' e12
  have s12 := size_push' e12
  have rr := (r.push' e1).push' e12
  have hh12 := h.kp k12 (fun _ _ => id)
  have b12 : Row H12 H1.size 56 (hF.f x) := Row.new' e12
  refine ⟨rr.cell_of (i := 0) rfl, hh12.append1 b12 rfl (by omega) (by omega) fun sl' H15 h15 k15 hn => ?_⟩
  have rr := k15.row rr (hh12.ne rr (by decide))
  refine ⟨_, rfl, rr.some (i := 0) (by simp), rr.frz 0, fun H20 e20 => ?_⟩
  have h20 := h15.kp ((Kp.refl (fun b => b = hb) H15).set' e20 (.inl rfl)) (fun b hb' e => by subst e; exact h15.ne rr (by decide) hb')
  have rr := rr.set' e20
  have k20 : Kp (fun b => b = hb ∨ sl.at b) H H20 := ((k12.mono (T := fun b => b = hb ∨ sl.at b) fun _ _ => False.elim).trans k15 fun b hb => .inl (.inr hb)).set' e20 (.inl (.inl rfl))
  have hnew : ∀ b, sl'.at b → sl.at b ∨ H.size ≤ b := fun b hb => (hn b hb).imp id (by intro h; omega)
  refine ⟨_, rfl, _, rr.cell_of (i := 0) rfl, ?_⟩
  have hn15 := h20.n
  simp only [List.length_append, List.length_cons, List.length_nil] at hn15
  rw [wr (by omega) (by omega), show ((sl'.n : Nat) : Int) - 1 = ((L.length : Nat) : Int) from by omega]
  refine c41_loop rr h20 (by simp; omega) (by simp) (HeapUp.push hh x) fun H' L' hp hh' h' k' => ?_
  refine hQ H' sl' L' hp hh' (k'.row rr (h20.ne rr (by decide))) h' (k20.trans k' fun b hb => ?_) hnew
  rcases hnew b hb with h | h
  · exact .inl (.inr h)
  · exact .inr h

end Go.Hw
