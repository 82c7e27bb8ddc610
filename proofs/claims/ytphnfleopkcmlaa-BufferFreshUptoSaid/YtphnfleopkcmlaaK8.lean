/- BufferFresh: the loop of the steps. Own work of this session. -/
import Derived.Test.YtphnfleopkcmlaaK7
set_option linter.unusedVariables false
namespace Go.Hw
open Go

section
variable {H0 H : Hp} {g g' bk : Nat} {st : Int}

/-- The state between two steps. -/
def S7 (H0 H : Hp) (g g' : Nat) (st : Int) (bk n : Nat) : Prop := ∃ f F F' V G MS IS, W7 H0 H g g' n st f F F' V G bk MS IS ∧ MS.length ≤ 4 * n ∧ IS.length ≤ 4 * n

theorem c7_L {Q : Bool → Hp → Prop} {ssl : Sl} {L : List OP5} (w : S7 H0 H g g' st bk 0) (hsl : RdL oF H0 ssl L) (hl : L.length ≤ 300000) (hQ : ∀ H', Kp No H0 H' → Q true H') : F7_L3 Q ssl (some ⟨g, 0, none⟩) (some ⟨g', 0, none⟩) ⟨bk, 0, none⟩ 0 H := by
  have hn := hsl.n
  intro X hX
  suffices G : ∀ (d i : Nat) (H : Hp), i + d = L.length → S7 H0 H g g' st bk i → X (i : Int) H from G L.length 0 H (by omega) w
  intro d
  induction d with
  | zero =>
    intro i H hi ⟨f, F, F', V, G, MS, IS, w, hm, his⟩
    exact hX _ _ ⟨fun hh => absurd (of_decide_eq_true hh) (by omega), fun _ => c28 w.k (by omega) (by omega) (hQ H w.kp)⟩
  | succ d ih =>
    intro i H hi ⟨f, F, F', V, G, MS, IS, w, hm, his⟩
    have hil : i < L.length := by omega
    have gi : L[i]? = some L[i] := List.getElem?_eq_getElem hil
    generalize L[i] = o at gi
    obtain ⟨p, hp, _, cp⟩ := (hsl.kp0 w.kp).get gi
    obtain ⟨msl, isl, tot, brow, _⟩ := w.k.ex
    refine hX _ _ ⟨fun _ => ⟨tot, brow.cell_of (i := 2) rfl, fun _ => ⟨p, hp, by omega, by omega, o.kind, o.on, o.run, o.m.1, o.m.2, cp, fun H26 e26 => ?_⟩, fun _ => c28 w.k (by omega) (by omega) (hQ H w.kp)⟩, fun hh => absurd (of_decide_eq_false hh) (by omega)⟩
    have k26 : Kp No H H26 := (Kp.refl No _).push' e26
    have s26 := size_push' e26
    have z26 : Row H26 H.size 34 [.int .i64 0, .int .i64 0, .int .i64 0, .int .i64 0, .int .i64 0] := Row.new' e26
    refine ⟨z26.mayall, fun H28 e28 => ?_⟩
    have s28 := size_sets' e28
    have hx : Row H28 H.size 34 (oF.f o) := z26.fill' e28 rfl
    have k28 : Kp No H H28 := k26.trans ((Kp.refl (fun b => b = H.size) _).sets' e28 (.inl rfl)) fun _ hb => .inr (by omega)
    have w28 := w.no k28
    have lF := w.b.lt
    have lF' := w.c.lt
    have hxF : ¬ F H.size := fun h => by have := lF _ h; omega
    have nxt : ∀ {H' : Hp} {n' : Nat} {f' : Fn} {F1 F2 V1 G1 : Nat → Prop} {MS1 IS1 : List Sl}, n' ≤ i + 1 → MS1.length ≤ 4 * (i + 1) → IS1.length ≤ 4 * (i + 1) → W7 H0 H' g g' n' st f' F1 F2 V1 G1 bk MS1 IS1 → F7_4 Q X ssl (some ⟨g, 0, none⟩) (some ⟨g', 0, none⟩) ⟨bk, 0, none⟩ (i : Int) H' := by
      intro H' n' f' F1 F2 V1 G1 MS1 IS1 hn' h1 h2 w'
      exact c7_4 w' (by omega) (by omega) (by omega) (by omega) fun H2 w2 => ih (i + 1) H2 (by omega) ⟨_, _, _, _, _, _, _, w2.more hn', h1, h2⟩
    have same : ∀ {H' : Hp}, Kp No H28 H' → F7_4 Q X ssl (some ⟨g, 0, none⟩) (some ⟨g', 0, none⟩) ⟨bk, 0, none⟩ (i : Int) H' := fun {H'} k => nxt (Nat.le_succ i) (by omega) (by omega) (w28.no k)
    have hC : ∀ {H' : Hp}, Kp F H28 H' → BI F' H' g' st i f := fun {H'} k => w28.c.kp k fun x hx hh => w.d x hh hx
    have hR : ∀ {H' : Hp}, Kp F H28 H' → Row H' H.size 34 (oF.f o) := fun {H'} k => k.row hx hxF
    refine ⟨o.kind, hx.cell_of (i := 0) rfl, fun _ => ?_, fun _ => ⟨fun _ => ?_, fun _ => ⟨fun _ => ?_, fun _ => ⟨fun _ => ?_, fun _ => ?_⟩⟩⟩⟩
    · refine ⟨o.m.1, o.m.2, hx.cells (o := 3) (i := 0) rfl, c13 (m := o.m) w28.b (by omega) (fun hm0 H9 k9 => ?_) fun hm0 H9 j hj b9 k9 => ?_⟩
      · exact ⟨o.m.1, o.m.2, (k9.row hx id).cells (o := 3) (i := 0) rfl, c13 (m := o.m) (w28.c.kp k9 fun _ _ => id) (by omega) (fun _ H16 k16 => same (k9.trans k16 fun _ h => h.elim)) fun h => absurd h hm0⟩
      · refine ⟨o.m.1, o.m.2, (hR k9).cells (o := 3) (i := 0) rfl, c13 (m := o.m) (hC k9) (by omega) (fun h => absurd hm0 h) fun _ H16 j' hj' b16 k16 => ?_⟩
        obtain rfl := hj.un hj'
        exact nxt (Nat.le_refl _) (by omega) (by omega) (w28.both b9 (fun _ h => h) k9 b16 (fun _ h => h) k16)
    · refine ⟨o.run, hx.cell_of (i := 2) rfl, o.m.1, o.m.2, hx.cells (o := 3) (i := 0) rfl, c14 (m := o.m) w28.b (by omega) (fun h0 H9 k9 => ?_) (fun l ls h0 hbad H9 k9 => ?_) fun l ls h0 hbad H9 j hj b9 k9 => ?_⟩
      · have y := k9.row hx id
        exact ⟨o.run, y.cell_of (i := 2) rfl, o.m.1, o.m.2, y.cells (o := 3) (i := 0) rfl, c14 (m := o.m) (w28.c.kp k9 fun _ _ => id) (by omega) (fun _ H16 k16 => same (k9.trans k16 fun _ h => h.elim)) (fun l ls h => (by rw [h0] at h; cases h)) fun l ls h => (by rw [h0] at h; cases h)⟩
      · have y := k9.row hx id
        refine ⟨o.run, y.cell_of (i := 2) rfl, o.m.1, o.m.2, y.cells (o := 3) (i := 0) rfl, c14 (m := o.m) (w28.c.kp k9 fun _ _ => id) (by omega) (fun h => (by rw [h0] at h; cases h)) (fun l' ls' _ _ H16 k16 => same (k9.trans k16 fun _ h => h.elim)) fun l' ls' h hb' => ?_⟩
        rw [h0] at h
        injection h with h
        injection h with h1 h2
        subst h1
        exact absurd hbad hb'
      · have y := hR k9
        refine ⟨o.run, y.cell_of (i := 2) rfl, o.m.1, o.m.2, y.cells (o := 3) (i := 0) rfl, c14 (m := o.m) (hC k9) (by omega) (fun h => (by rw [h0] at h; cases h)) (fun l' ls' h hb' => ?_) fun l' ls' h _ H16 j' hj' b16 k16 => ?_⟩
        · rw [h0] at h
          injection h with h
          injection h with h1 h2
          subst h1
          exact absurd hb' hbad
        · rw [h0] at h
          injection h with h
          injection h with h1 h2
          subst h1 h2
          obtain rfl := hj.un hj'
          exact nxt (Nat.le_refl _) (by omega) (by omega) (w28.both b9 (fun _ h => h) k9 b16 (fun _ h => h) k16)
    · refine ⟨o.run, hx.cell_of (i := 2) rfl, c16 w28.b (by omega) (fun h0 => ?_) fun l h0 H9 b9 k9 => ?_⟩
      · exact ⟨o.run, hx.cell_of (i := 2) rfl, c16 w28.c (by omega) (fun _ => same (Kp.refl _ _)) fun l h => (by rw [h0] at h; cases h)⟩
      · refine ⟨o.run, (hR k9).cell_of (i := 2) rfl, c16 (hC k9) (by omega) (fun h => (by rw [h0] at h; cases h)) fun l' _ H16 b16 k16 => ?_⟩
        exact nxt (Nat.le_succ _) (by omega) (by omega) (w28.both b9 (fun _ h => .inl h) k9 b16 (fun _ h => .inl h) k16)
    · -- a path is kept
      have step : ∀ (H9 H16 : Hp) (s s' : Sl) (e : Int) (Lm : List Mk), Lst mF H16 s Lm → Lst mF H16 s' Lm → Lm.length ≤ i + 1 → (∀ x, s.at x → H28.size ≤ x) → Kp No H28 H16 → ((decide (e ≠ e)) = true → (F7_5 Q X ssl (some ⟨g, 0, none⟩) (some ⟨g', 0, none⟩) ⟨bk, 0, none⟩ (i : Int) s true H16)) ∧
 ((decide (e ≠ e)) = false → (F23 s s' H16 (fun (r127 : Bool) (H125 : Hp) => F7_5 Q X ssl (some ⟨g, 0, none⟩) (some ⟨g', 0, none⟩) ⟨bk, 0, none⟩ (i : Int) s (!r127) H125))) := by
        intro H9 H16 s s' e Lm ls ls' hll hs k
        refine ⟨fun hh => absurd rfl (of_decide_eq_true hh), fun _ => c23 ls.rd ls'.rd (by omega) (by omega) ?_⟩
        rw [decide_eq_true rfl]
        have w16 := w28.no k
        have sk := w28.kp.size
        refine ⟨fun hh => (by cases hh), fun _ => c25 w16.k ls (fun x hx hg => by have := hs x hx; have := w28.k.lt x hg; omega) (by omega) (by omega) fun H' V' l1 l2 l3 l4 k' kp' => ?_⟩
        exact nxt (Nat.le_succ i) (by simp; omega) (by omega) (w16.kept (h0 := H28.size) (fun x hx => ⟨hs x hx, ls.lt hx⟩) (fun x hx => by
          rcases hx with hx | hx
          · exact w28.b.lt x hx
          · exact w28.c.lt x hx) sk k' kp')
      refine ⟨o.run, hx.cell_of (i := 2) rfl, c22 w28.b (by omega) (fun h0 => ⟨o.run, hx.cell_of (i := 2) rfl, c22 w28.c (by omega) (fun _ => ?_) fun l h => (by rw [h0] at h; cases h)⟩) fun l h0 hll H9 s ls hs k9 => ⟨o.run, (k9.row hx id).cell_of (i := 2) rfl, c22 (w28.c.kp k9 fun _ _ => id) (by omega) (fun h => by rw [h0] at h; cases h) fun l' h hll' H16 s' ls' hs' k16 => ?_⟩⟩
      · exact step H28 H28 _ _ _ [] (Lst.nil _ _) (Lst.nil _ _) (Nat.zero_le _) (fun x hx => by cases hx) (Kp.refl _ _)
      · rw [h0] at h
        injection h with h
        subst h
        exact step H9 H16 s s' _ _ (ls.kp k16 fun _ _ => id) ls' (by simpa using hll) hs (k9.trans k16 fun _ h => h.elim)
    · -- the runs are kept
      refine c21 w28.b (by omega) fun H9 s ls hs k9 => c21 (w28.c.kp k9 fun _ _ => id) (by omega) fun H16 s' ls' hs' k16 => ?_
      have hrl := runsOf_len f i
      have hil2 : (ints (runsOf f i)).length ≤ 300000 := by simp [ints]; omega
      have ls2 := ls.kp k16 fun _ _ => id
      refine c26 ls2.rd ls'.rd (by omega) (by omega) ?_
      rw [decide_eq_true rfl]
      have k : Kp No H28 H16 := k9.trans k16 fun _ h => h.elim
      have w16 := w28.no k
      have sk := w28.kp.size
      refine ⟨fun hh => (by cases hh), fun _ => c27 w16.k ls2 (fun x hx hg => by have := hs x hx; have := w28.k.lt x hg; omega) (by omega) (by omega) fun H' V' l1 l2 l3 l4 k' kp' => ?_⟩
      exact nxt (Nat.le_succ i) (by omega) (by simp; omega) (w16.kept (h0 := H28.size) (fun x hx => ⟨hs x hx, ls2.lt hx⟩) (fun x hx => by
        rcases hx with hx | hx
        · exact w28.b.lt x hx
        · exact w28.c.lt x hx) sk k' kp')

theorem c7 {p0 : Int} {ssl : Sl} {L : List OP5} {Q : Bool → Hp → Prop} (hsl : RdL oF H ssl L) (hl : L.length ≤ 300000) (hQ : ∀ H', Kp No H H' → Q true H') : F7 p0 ssl H Q := by
  refine c8 fun H1 k1 => ⟨fun hh => (by cases hh), fun _ => c12 fun H5 g st hst b5 k5 => c12 fun H8 g' st' hst' b8 k8 => ⟨fun hh => (by cases hh), fun _ => ⟨fun hh => (by cases hh), fun _ => ?_⟩⟩⟩
  have hss : st' = st := by
    by_cases h : 1 ≤ p0 ∧ p0 ≤ 8
    · rw [hst.1 h, hst'.1 h]
    · rw [hst.2 h, hst'.2 h]
  subst hss
  have s1 := k1.size
  have s5 := k5.size
  have s8 := k8.size
  have kk : Kp No H H8 := (k1.trans k5 fun _ h => h.elim).trans k8 fun _ h => h.elim
  refine c24 (hsl.kp0 kk) hl fun H19 k19 => ⟨fun hh => (by cases hh), fun _ H23 e23 => ?_⟩
  have s19 := k19.size
  have k23 : Kp No H19 H23 := (Kp.refl No _).push' e23
  have s23 := size_push' e23
  have r23 : Row H23 H19.size 64 [Sl.v Sl.nil, Sl.v Sl.nil, .int .i64 0] := Row.new' e23
  have kc : Kp No H8 H23 := k19.trans k23 fun _ h => h.elim
  refine c7_L (H0 := H) ⟨_, _, _, fun b => b = H19.size, fun b => b = H19.size, [], [], ⟨(b5.kp k8 fun _ _ => id).kp kc fun _ _ => id, b8.kp kc fun _ _ => id, fun x hx hy => by omega, ⟨⟨Sl.nil, Sl.nil, 0, r23, Lst.nil _ _, Lst.nil _ _, fun b hb => (by cases hb), fun b hb => (by cases hb)⟩, rfl, fun _ h => h, fun i s hi => (by simp at hi), fun i s hi => (by simp at hi), rfl, rfl, fun b hb => by omega, fun s hs => by simp at hs⟩,
    fun x hx => ⟨fun hh => by omega, fun hh => by omega⟩, fun x hx => ?_, kk.trans kc fun _ h => h.elim⟩, Nat.le_refl _, Nat.le_refl _⟩ hsl hl hQ
  rcases hx with hx | hx | hx <;> omega
end
end Go.Hw
