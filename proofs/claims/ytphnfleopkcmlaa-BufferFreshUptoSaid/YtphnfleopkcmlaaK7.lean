/- BufferFresh: the whole law. Own work of this session. -/
import Derived.Test.YtphnfleopkcmlaaK6
set_option linter.unusedVariables false
namespace Go.Hw
open Go

/-- Two buffers that are told the same, and the book. -/
structure W7 (H0 H : Hp) (g g' n : Nat) (st : Int) (f : Fn) (F F' V G : Nat → Prop) (bk : Nat) (MS IS : List Sl) : Prop where
  b : BI F H g st n f
  c : BI F' H g' st n f
  d : Ap F F'
  k : Bk V G H bk MS IS
  dg : ∀ x, G x → ¬ F x ∧ ¬ F' x
  lo : ∀ x, F x ∨ F' x ∨ G x → H0.size ≤ x
  kp : Kp No H0 H

section
variable {H0 H H' : Hp} {g g' n n' bk : Nat} {st : Int} {f f' : Fn} {F F' F2 V G : Nat → Prop} {MS IS : List Sl}
theorem W7.no (w : W7 H0 H g g' n st f F F' V G bk MS IS) (k : Kp No H H') : W7 H0 H' g g' n st f F F' V G bk MS IS :=
  ⟨w.b.kp k fun _ _ => id, w.c.kp k fun _ _ => id, w.d, w.k.kp k fun _ _ => id, w.dg, w.lo, w.kp.trans k fun _ h => h.elim⟩
theorem W7.more (w : W7 H0 H g g' n st f F F' V G bk MS IS) (hn : n ≤ n') : W7 H0 H g g' n' st f F F' V G bk MS IS :=
  ⟨w.b.more hn, w.c.more hn, w.d, w.k, w.dg, w.lo, w.kp⟩
/-- Both have turned. -/
theorem W7.both {H1 H2 : Hp} {Fa Fb : Nat → Prop} (w : W7 H0 H g g' n st f F F' V G bk MS IS) (b1 : BI Fa H1 g st n' f') (h1 : ∀ x, Fa x → Ext F H.size H1.size x) (k1 : Kp F H H1) (c2 : BI Fb H2 g' st n' f') (h2 : ∀ x, Fb x → Ext F' H1.size H2.size x) (k2 : Kp F' H1 H2) : W7 H0 H2 g g' n' st f' Fa Fb V G bk MS IS := by
  have s1 := k1.size
  have s2 := k2.size
  have s0 := w.kp.size
  have lF := w.b.lt
  have lF' := w.c.lt
  have lG := w.k.lt
  refine ⟨b1.kp k2 fun x hx hh => ?_, c2, fun x hx hy => ?_, (w.k.kp k1 fun x hx => (w.dg x hx).1).kp k2 fun x hx => (w.dg x hx).2, fun x hx => ⟨fun hh => ?_, fun hh => ?_⟩, fun x hx => ?_, (w.kp.trans k1 fun x hx => .inr (w.lo x (.inl hx))).trans k2 fun x hx => .inr (w.lo x (.inr (.inl hx)))⟩
  · rcases h1 x hx with h | h
    · exact w.d x h hh
    · have := lF' x hh; omega
  · rcases h1 x hx with h | h <;> rcases h2 x hy with h' | h'
    · exact w.d x h h'
    · have := lF x h; omega
    · have := lF' x h'; omega
    · omega
  · rcases h1 x hh with h | h
    · exact (w.dg x hx).1 h
    · have := lG x hx; omega
  · rcases h2 x hh with h | h
    · exact (w.dg x hx).2 h
    · have := lG x hx; omega
  · rcases hx with hx | hx | hx
    · rcases h1 x hx with h | h
      · exact w.lo x (.inl h)
      · omega
    · rcases h2 x hx with h | h
      · exact w.lo x (.inr (.inl h))
      · omega
    · exact w.lo x (.inr (.inr hx))
/-- A list was kept. -/
theorem W7.kept {l : Sl} {V' : Nat → Prop} {MS' IS' : List Sl} {h0 : Nat} (w : W7 H0 H g g' n st f F F' V G bk MS IS) (hl : ∀ x, l.at x → h0 ≤ x ∧ x < H.size) (hF : ∀ x, F x ∨ F' x → x < h0) (hlo : H0.size ≤ h0) (k' : Bk V' (fun b => G b ∨ l.at b ∨ (H.size ≤ b ∧ b < H'.size)) H' bk MS' IS') (k : Kp (fun b => G b ∨ l.at b) H H') : W7 H0 H' g g' n st f F F' V' (fun b => G b ∨ l.at b ∨ (H.size ≤ b ∧ b < H'.size)) bk MS' IS' := by
  have s0 := w.kp.size
  have lF := w.b.lt
  have lF' := w.c.lt
  refine ⟨w.b.kp k fun x hx hh => ?_, w.c.kp k fun x hx hh => ?_, w.d, k', fun x hx => ⟨fun hh => ?_, fun hh => ?_⟩, fun x hx => ?_, w.kp.trans k fun x hx => .inr ?_⟩
  · rcases hh with hh | hh
    · exact (w.dg x hh).1 hx
    · have := (hl x hh).1
      have := hF x (.inl hx)
      omega
  · rcases hh with hh | hh
    · exact (w.dg x hh).2 hx
    · have := (hl x hh).1
      have := hF x (.inr hx)
      omega
  · rcases hx with hx | hx | hx
    · exact (w.dg x hx).1 hh
    · have := (hl x hx).1
      have := hF x (.inl hh)
      omega
    · have := lF x hh; omega
  · rcases hx with hx | hx | hx
    · exact (w.dg x hx).2 hh
    · have := (hl x hx).1
      have := hF x (.inr hh)
      omega
    · have := lF' x hh; omega
  · rcases hx with hx | hx | hx | hx | hx
    · exact w.lo x (.inl hx)
    · exact w.lo x (.inr (.inl hx))
    · exact w.lo x (.inr (.inr hx))
    · have := (hl x hx).1; omega
    · omega
  · rcases hx with hx | hx
    · exact w.lo x (.inr (.inr hx))
    · have := (hl x hx).1; omega

theorem c7_6 {Q : Bool → Hp → Prop} {X : Int → Hp → Prop} {ssl : Sl} {i : Nat} (w : W7 H0 H g g' n st f F F' V G bk MS IS) (hm : MS.length ≤ 9000000) (hi : IS.length ≤ 9000000) (hil : i ≤ 1000000) (hX : X ((i + 1 : Nat) : Int) H) : F7_6 Q X ssl (some ⟨g, 0, none⟩) (some ⟨g', 0, none⟩) ⟨bk, 0, none⟩ (i : Int) H := by
  have hw : IntKind.i64.wrap ((i : Int) + 1) = ((i + 1 : Nat) : Int) := by rw [wr (by omega) (by omega)]; omega
  have ten : F7_10 Q X ssl (some ⟨g, 0, none⟩) (some ⟨g', 0, none⟩) ⟨bk, 0, none⟩ (i : Int) false H := ⟨fun hh => (by cases hh), fun _ => by rw [hw]; exact hX⟩
  have nodes : F19 (some ⟨g, 0, none⟩) H (fun (r246 : Int) (H244 : Hp) => F19 (some ⟨g', 0, none⟩) H244 (fun (r249 : Int) (H247 : Hp) => F7_10 Q X ssl (some ⟨g, 0, none⟩) (some ⟨g', 0, none⟩) ⟨bk, 0, none⟩ (i : Int) (decide (r246 ≠ r249)) H247)) := by
    refine c19 w.b fun D hD hDm => c19 w.c fun D' hD' hDm' => ?_
    rw [nodup_len hD hD' fun m => (hDm m).trans (hDm' m).symm]
    rw [decide_eq_false (fun h => h rfl)]
    exact ten
  exact ⟨fun _ => c28 w.k hm hi ⟨fun hh => (by cases hh), fun _ => nodes⟩, fun _ => ⟨fun _ => c28 w.k hm hi ⟨fun hh => (by cases hh), fun _ => nodes⟩, fun _ => nodes⟩⟩

theorem c22e {i : Int} {g g' : Nat} {Q : Sl → Int → Sl → Int → Hp → Prop} (b : BI F H g st n f) (c : BI F' H g' st n f) (hn : n ≤ 1000000) (hQ : ∀ H' r r' e L, Lst mF H' r L → Lst mF H' r' L → L.length ≤ n + 1 → (∀ x, r.at x ∨ r'.at x → H.size ≤ x) → Kp No H H' → Q r e r' e H') : F22 (some ⟨g, 0, none⟩) i H fun r e H1 => F22 (some ⟨g', 0, none⟩) i H1 fun r' e' H2 => Q r e r' e' H2 := by
  refine c22 b hn (fun h0 => c22 c hn (fun _ => ?_) fun l h => (by rw [h0] at h; cases h)) fun l h0 hl H1 r lr hr k1 => c22 (c.kp k1 fun _ _ => id) hn (fun h => by rw [h0] at h; cases h) fun l' h hl' H2 r' lr' hr' k2 => ?_
  · exact hQ H _ _ _ [] (Lst.nil _ _) (Lst.nil _ _) (Nat.zero_le _) (fun x hx => by rcases hx with h | h <;> cases h) (Kp.refl _ _)
  · rw [h0] at h
    injection h with h
    subst h
    have := k1.size
    refine hQ H2 r r' 0 _ (lr.kp k2 fun _ _ => id) lr' (by simpa using hl) (fun x hx => ?_) (k1.trans k2 fun _ h => h.elim)
    rcases hx with hx | hx
    · exact hr x hx
    · have := hr' x hx; omega

theorem c7_4 {Q : Bool → Hp → Prop} {X : Int → Hp → Prop} {ssl : Sl} {i : Nat} (w : W7 H0 H g g' n st f F F' V G bk MS IS) (hn : n ≤ 1000000) (hm : MS.length ≤ 9000000) (hi : IS.length ≤ 9000000) (hil : i ≤ 1000000) (hX : ∀ H', W7 H0 H' g g' n st f F F' V G bk MS IS → X ((i + 1 : Nat) : Int) H') : F7_4 Q X ssl (some ⟨g, 0, none⟩) (some ⟨g', 0, none⟩) ⟨bk, 0, none⟩ (i : Int) H := by
  refine c21 w.c hn fun H1 r lr hra k1 => ?_
  have w1 := w.no k1
  have hrn := lr.n
  have hrlen := runsOf_len f n
  intro Y hY
  suffices G2 : ∀ (d j : Nat) (H' : Hp), j + d = (ints (runsOf f n)).length → Kp No H1 H' → Y (j : Int) H' from G2 _ 0 H1 (Nat.zero_add _) (Kp.refl _ _)
  have hil2 : (ints (runsOf f n)).length ≤ 1000000 := by simp [ints]; omega
  intro d
  induction d with
  | zero =>
    intro j H' hj k
    exact hY _ _ ⟨fun hh => absurd (of_decide_eq_true hh) (by omega), fun _ => c7_6 (w1.no k) hm hi hil (hX H' (w1.no k))⟩
  | succ d ih =>
    intro j H' hj k
    have w' := w1.no k
    have six : F7_6 Q X ssl (some ⟨g, 0, none⟩) (some ⟨g', 0, none⟩) ⟨bk, 0, none⟩ (i : Int) H' := c7_6 w' hm hi hil (hX H' w')
    have gj : (ints (runsOf f n))[j]? = some (ints (runsOf f n))[j] := List.getElem?_eq_getElem (by omega)
    generalize (ints (runsOf f n))[j] = v at gj
    obtain ⟨a, ha, _, ca⟩ := (lr.kp k fun _ _ => id).rd.get gj
    have hw : IntKind.i64.wrap ((j : Int) + 1) = ((j + 1 : Nat) : Int) := by rw [wr (by omega) (by omega)]; omega
    have both : ∀ (P : Sl → Int → Sl → Int → Hp → Prop), (∀ s s' e L H2, Lst mF H2 s L → Lst mF H2 s' L → L.length ≤ n + 1 → Kp No H' H2 → P s e s' e H2) → F22 (some ⟨g, 0, none⟩) v H' fun s e H2 => ∃ a : Addr, r.b = some a ∧ (0 : Int) ≤ (j : Int) ∧ (j : Int) < (r.n : Int) ∧ (∃ x : Int, cell H2 (a.add ((j : Int).toNat * 1)) = some (.int .i64 x) ∧ (F22 (some ⟨g', 0, none⟩) x H2 fun s' e' H3 => P s e s' e' H3)) := by
      intro P hP
      refine c22 w'.b hn (fun h0 => ⟨a, ha, by omega, by omega, v, ca.1, c22 w'.c hn (fun _ => hP _ _ _ [] _ (Lst.nil _ _) (Lst.nil _ _) (Nat.zero_le _) (Kp.refl _ _)) fun l h => (by rw [h0] at h; cases h)⟩) fun l h0 hl H2 s ls hs k2 => ?_
      obtain ⟨a2, ha2, _, ca2⟩ := ((lr.kp k fun _ _ => id).kp k2 fun _ _ => id).rd.get gj
      refine ⟨a2, ha2, by omega, by omega, v, ca2.1, c22 (w'.c.kp k2 fun _ _ => id) hn (fun h => by rw [h0] at h; cases h) fun l' h hl' H3 s' ls' hs' k3 => ?_⟩
      rw [h0] at h
      injection h with h
      subst h
      exact hP _ _ _ _ _ (ls.kp k3 fun _ _ => id) ls' (by simpa using hl) (k2.trans k3 fun _ h => h.elim)
    refine hY _ _ ⟨fun _ => ⟨fun _ => ⟨a, ha, by omega, by omega, v, ca.1, both _ fun s s' e L H2 ls ls' hl k2 => ⟨fun hh => absurd rfl (of_decide_eq_true hh), fun _ => c23 ls.rd ls'.rd (by omega) (by omega) ?_⟩⟩, fun _ => ⟨fun _ => ⟨a, ha, by omega, by omega, v, ca.1, both _ fun s s' e L H2 ls ls' hl k2 => ⟨fun hh => absurd rfl (of_decide_eq_true hh), fun _ => c23 ls.rd ls'.rd (by omega) (by omega) ?_⟩⟩, fun _ => six⟩⟩, fun hh => absurd (of_decide_eq_false hh) (by omega)⟩
    · rw [decide_eq_true rfl]
      refine ⟨fun hh => (by cases hh), fun _ => ?_⟩
      rw [hw]
      exact ih (j + 1) H2 (by omega) (k.trans k2 fun _ h => h.elim)
    · rw [decide_eq_true rfl]
      refine ⟨fun hh => (by cases hh), fun _ => ?_⟩
      rw [hw]
      exact ih (j + 1) H2 (by omega) (k.trans k2 fun _ h => h.elim)
end
end Go.Hw
