/- BufferNodes: the whole law. Own work of this session. -/
import Derived.Test.YtphnfleopkcmlaaL6
set_option linter.unusedVariables false
namespace Go.Hw
open Go

/-- A buffer of this law's own. -/
def Mine (H0 H : Hp) (g n : Nat) (f : Fn) : Prop := ∃ F st, BI F H g st n f ∧ (∀ b, F b → H0.size ≤ b) ∧ Kp No H0 H
section
variable {H0 H H' : Hp} {g n n' : Nat} {f f' : Fn} {F F' : Nat → Prop} {st : Int}
theorem Mine.no (h : Mine H0 H g n f) (k : Kp No H H') : Mine H0 H' g n f := by
  obtain ⟨F, st, h1, h2, h3⟩ := h
  exact ⟨F, st, h1.kp k fun _ _ => id, h2, h3.trans k fun _ h => h.elim⟩
theorem Mine.more (h : Mine H0 H g n f) (hn : n ≤ n') : Mine H0 H g n' f := by
  obtain ⟨F, st, h1, h2, h3⟩ := h
  exact ⟨F, st, h1.more hn, h2, h3⟩
theorem Mine.kp (h : Mine H0 H g n f) : Kp No H0 H := by
  obtain ⟨F, st, h1, h2, h3⟩ := h
  exact h3
theorem Mine.op (h2 : ∀ b, F b → H0.size ≤ b) (h3 : Kp No H0 H) (b' : BI F' H' g st n' f') (hF : ∀ x, F' x → Ext F H.size H'.size x) (k : Kp F H H') : Mine H0 H' g n' f' := by
  have := h3.size
  refine ⟨F', st, b', fun b hb => ?_, h3.trans k fun b hb => .inr (h2 b hb)⟩
  rcases hF b hb with hb | hb
  · exact h2 b hb
  · omega

theorem runsOf_del {f : Fn} {n v : Nat} (hv : v ∈ runsOf f n) : (runsOf (upd f v none) n).length + 1 = (runsOf f n).length := by
  have : (v :: runsOf (upd f v none) n).length = (runsOf f n).length := by
    refine nodup_len ?_ (runsOf_nodup f n) fun m => ?_
    · rw [List.nodup_cons]
      refine ⟨fun h => ?_, runsOf_nodup _ _⟩
      have := (runsOf_mem.1 h).2
      simp [upd] at this
    · rw [List.mem_cons, runsOf_mem, runsOf_mem]
      unfold upd
      constructor
      · rintro (rfl | ⟨h1, h2⟩)
        · exact runsOf_mem.1 hv
        · split at h2
          · cases h2
          · exact ⟨h1, h2⟩
      · rintro ⟨h1, h2⟩
        by_cases h : m = v
        · exact .inl h
        · exact .inr ⟨h1, by rw [if_neg h]; exact h2⟩
  simpa using this

theorem c5_L5 {Q : Bool → Hp → Prop} {osl : Sl} {ord : List Int} (h : Mine H0 H g n f) (hsl : RdL iF H0 osl ord) (hol : ord.length ≤ 2000000) (hn : n ≤ 200) (hwf : ∀ x ∈ ord, -9223372036854775808 ≤ x ∧ x ≤ 9223372036854775807) (hQ : ∀ H', Kp No H0 H' → Q true H') : F5_L5 Q osl (some ⟨g, 0, none⟩) 0 H := by
  have hon := hsl.n
  intro X hX
  suffices G : ∀ (d k : Nat) (f : Fn) (H : Hp), (runsOf f n).length = d → k + d ≤ 200 → Mine H0 H g n f → X (k : Int) H from G _ 0 f H rfl (by have := runsOf_len f n; omega) h
  intro d
  induction d with
  | zero =>
    intro k f H hd hk ⟨F, st, hb, hF, hkp⟩
    refine hX _ _ (c21 hb (by omega) fun H74 r lr hra k74 => ⟨fun _ => ?_, fun hh => absurd (by have := lr.n; simp [ints] at this; omega) (of_decide_eq_false hh)⟩)
    have hnone : ∀ i, f i = none := fun i => by
      by_cases hi : i < n
      · cases hf : f i with
        | none => rfl
        | some l =>
          have : i ∈ runsOf f n := runsOf_mem.2 ⟨hi, by rw [hf]; rfl⟩
          rw [List.eq_nil_of_length_eq_zero hd] at this
          cases this
      · exact hb.big (by omega)
    refine c13 (m := (0, 1)) (hb.kp k74 fun _ _ => id) (by omega) (fun h => absurd rfl h) fun _ H2 i hi b2 k2 => ?_
    obtain rfl : i = 0 := hi.un ⟨hnone 0, fun j hj => by omega⟩
    refine ⟨fun _ => ⟨fun _ => c19 b2 fun D hD hDm => ?_, fun hh => (by cases hh)⟩, fun hh => (by cases hh)⟩
    have : D.length = 1 := by
      refine nodup_len hD (E := [((0 : Int), (1 : Int))]) (by decide) fun m => (hDm m).trans ⟨fun ⟨i, l, hi, hm⟩ => ?_, fun hm => ⟨0, _, rfl, hm⟩⟩
      unfold upd at hi
      split at hi
      · injection hi with hi; rw [hi]; exact hm
      · rw [hnone] at hi; cases hi
    rw [this]
    exact hQ H2 ((hkp.trans k74 fun _ h => h.elim).trans k2 fun b hb => .inr (hF b hb))
  | succ d ih =>
    intro k f H hd hk ⟨F, st, hb, hF, hkp⟩
    refine hX _ _ (c21 hb (by omega) fun H74 r lr hra k74 => ⟨fun hh => absurd (of_decide_eq_true hh) (by have := lr.n; simp [ints] at this; omega), fun _ => ?_⟩)
    have hrn : r.n = d + 1 := by have := lr.n; simp [ints] at this; omega
    have hb74 := hb.kp k74 fun _ _ => id
    have hkp74 := hkp.trans k74 fun _ h => h.elim
    have hz74 := hkp74.size
    have hw : IntKind.i64.wrap ((k : Int) + 1) = ((k + 1 : Nat) : Int) := by rw [wr (by omega) (by omega)]; omega
    -- one is dropped
    have six : ∀ x : Int, 0 ≤ x ∧ x < (d : Int) + 1 → F5_6 Q X osl (some ⟨g, 0, none⟩) (k : Int) r x H74 := by
      intro x hx
      have hil : x.toNat < (runsOf f n).length := by omega
      have gi : (runsOf f n)[x.toNat]? = some (runsOf f n)[x.toNat] := List.getElem?_eq_getElem hil
      have hmem := List.getElem_mem hil
      generalize (runsOf f n)[x.toNat] = v at gi hmem
      have gi' : (ints (runsOf f n))[x.toNat]? = some (v : Int) := by rw [List.getElem?_map, gi]; rfl
      obtain ⟨p, hp, _, cp⟩ := lr.rd.get gi'
      have hvs := (runsOf_mem.1 hmem).2
      have hdel := runsOf_del hmem
      refine ⟨p, hp, hx.1, by omega, _, cp.1, c16 hb74 (by omega) (fun hh => ?_) fun l hl H98 b98 k98 => ?_⟩
      · rw [atI_nat] at hh
        rw [hh] at hvs; cases hvs
      · have hv : ((v : Int)).toNat = v := rfl
        rw [hv] at b98
        refine c19 b98 fun D hD hDm => ⟨fun hh => absurd rfl (of_decide_eq_true hh), fun _ => c20 b98 (by omega) fun H110 D' hD' hDm' k110 => ?_⟩
        rw [nodup_len hD hD' fun m => (hDm m).trans (hDm' m).symm]
        refine ⟨fun hh => absurd rfl (of_decide_eq_true hh), fun _ => c21 (b98.kp k110 fun _ _ => id) (by omega) fun H115 r2 lr2 hra2 k115 => ?_⟩
        have hr2 : r2.n = d := by have := lr2.n; simp [ints] at this; omega
        have hw2 : IntKind.i64.wrap ((r.n : Int) - 1) = (r2.n : Int) := by rw [wr (by omega) (by omega)]; omega
        rw [hw2]
        refine ⟨fun hh => absurd rfl (of_decide_eq_true hh), fun _ => ?_⟩
        rw [hw]
        refine ih (k + 1) _ H115 (by omega) (by omega) (((Mine.op hF hkp74 b98 (fun _ h => .inl h) k98).no k110).no k115)
    refine ⟨fun hh => ?_, fun _ => six 0 ⟨by omega, by omega⟩⟩
    have hkl := of_decide_eq_true hh
    have hkl : k < ord.length := by omega
    have gk : ord[k]? = some ord[k] := List.getElem?_eq_getElem hkl
    have hmem := List.getElem_mem hkl
    generalize ord[k] = y at gk hmem
    obtain ⟨q, hq, _, cq⟩ := (hsl.kp0 hkp74).get gk
    have hy := hwf y hmem
    have hm1 : Int.tmod y (r.n : Int) < (d : Int) + 1 := by
      have := Int.tmod_lt_of_pos y (b := (r.n : Int)) (by omega)
      omega
    have hm2 : -((d : Int) + 1) < Int.tmod y (r.n : Int) := by
      have := Int.lt_tmod_of_pos y (b := (r.n : Int)) (by omega)
      omega
    refine ⟨q, hq, by omega, by omega, y, cq.1, by omega, fun h2 => ?_, fun h2 => ?_⟩
    · have h2 := of_decide_eq_true h2
      rw [wr (by omega) (by omega)]
      exact six _ ⟨by omega, by omega⟩
    · have h2 := of_decide_eq_false h2
      exact six _ ⟨by omega, by omega⟩

theorem c5_L {Q : Bool → Hp → Prop} {ssl osl : Sl} {L : List OP5} {ord : List Int} (h : Mine H0 H g 0 fun _ => none) (hsl : RdL oF H0 ssl L) (hl : L.length ≤ 1000000) (hosl : RdL iF H0 osl ord) (hol : ord.length ≤ 2000000) (hwf : ∀ x ∈ ord, -9223372036854775808 ≤ x ∧ x ≤ 9223372036854775807) (hQ : ∀ H', Kp No H0 H' → Q true H') : F5_L2 Q ssl osl (some ⟨g, 0, none⟩) 0 H := by
  have hn := hsl.n
  intro X hX
  suffices G : ∀ (d i : Nat) (f : Fn) (H : Hp), i + d = 150 → Mine H0 H g i f → X (i : Int) H from G 150 0 _ H (by omega) h
  intro d
  induction d with
  | zero =>
    intro i f H hi h
    exact hX _ _ ⟨fun _ => ⟨fun hh => absurd (of_decide_eq_true hh) (by omega), fun _ => c5_L5 h hosl hol (by omega) hwf hQ⟩, fun _ => c5_L5 h hosl hol (by omega) hwf hQ⟩
  | succ d ih =>
    intro i f H hi h
    refine hX _ _ ⟨fun hh => ⟨fun _ => ?_, fun _ => c5_L5 h hosl hol (by omega) hwf hQ⟩, fun _ => c5_L5 h hosl hol (by omega) hwf hQ⟩
    have hil := of_decide_eq_true hh
    have hil : i < L.length := by omega
    have gi : L[i]? = some L[i] := List.getElem?_eq_getElem hil
    generalize L[i] = o at gi
    obtain ⟨F, st, hb, hF, hkp⟩ := h
    obtain ⟨p, hp, _, cp⟩ := (hsl.kp0 hkp).get gi
    refine ⟨p, hp, by omega, by omega, o.kind, o.on, o.run, o.m.1, o.m.2, cp, fun H26 e26 => ?_⟩
    have k26 : Kp No H H26 := (Kp.refl No _).push' e26
    have s26 := size_push' e26
    have z26 : Row H26 H.size 34 [.int .i64 0, .int .i64 0, .int .i64 0, .int .i64 0, .int .i64 0] := Row.new' e26
    refine ⟨z26.mayall, fun H28 e28 => ?_⟩
    have s28 := size_sets' e28
    have hx : Row H28 H.size 34 (oF.f o) := z26.fill' e28 rfl
    have k28 : Kp No H H28 := k26.trans ((Kp.refl (fun b => b = H.size) _).sets' e28 (.inl rfl)) fun _ hb => .inr (by omega)
    have hb28 := hb.kp k28 fun _ _ => id
    have hkp28 := hkp.trans k28 fun _ h => h.elim
    have hw : IntKind.i64.wrap ((i : Int) + 1) = ((i + 1 : Nat) : Int) := by rw [wr (by omega) (by omega)]; omega
    have nxt : ∀ {H' : Hp} {n' : Nat} {f' : Fn}, n' ≤ i + 1 → Mine H0 H' g n' f' → F5_3 Q X ssl osl (some ⟨g, 0, none⟩) (i : Int) H' := fun {H' n' f'} hn' hm => by
      obtain ⟨F', st', hb', hF', hkp'⟩ := hm.more hn'
      refine c19 hb' fun D hD hDm => c20 hb' (by omega) fun H2 D' hD' hDm' k2 => ?_
      rw [nodup_len hD hD' fun m => (hDm m).trans (hDm' m).symm]
      refine ⟨fun hh => absurd rfl (of_decide_eq_true hh), fun _ => ?_⟩
      rw [hw]
      exact ih (i + 1) f' H2 (by omega) (Mine.no ⟨F', st', hb', hF', hkp'⟩ k2)
    have same : ∀ {H' : Hp}, Kp No H28 H' → F5_3 Q X ssl osl (some ⟨g, 0, none⟩) (i : Int) H' := fun {H'} k => nxt (Nat.le_succ i) (Mine.no ⟨F, st, hb28, hF, hkp28⟩ k)
    refine ⟨o.kind, hx.cell_of (i := 0) rfl, fun _ => ?_, fun _ => ⟨fun _ => ?_, fun _ => ⟨fun _ => ?_, fun _ => same (Kp.refl _ _)⟩⟩⟩
    · exact ⟨o.m.1, o.m.2, hx.cells (o := 3) (i := 0) rfl, c13 (m := o.m) hb28 (by omega) (fun _ H' k => same k) fun _ H' j hj b' k => nxt (Nat.le_refl _) (Mine.op hF hkp28 b' (fun _ h => h) k)⟩
    · exact ⟨o.run, hx.cell_of (i := 2) rfl, o.m.1, o.m.2, hx.cells (o := 3) (i := 0) rfl, c14 (m := o.m) hb28 (by omega) (fun _ H' k => same k) (fun _ _ _ _ H' k => same k) fun _ _ _ _ H' j hj b' k => nxt (Nat.le_refl _) (Mine.op hF hkp28 b' (fun _ h => h) k)⟩
    · exact ⟨o.run, hx.cell_of (i := 2) rfl, c16 hb28 (by omega) (fun _ => same (Kp.refl _ _)) fun _ _ H' b' k => nxt (Nat.le_succ _) (Mine.op hF hkp28 b' (fun _ h => .inl h) k)⟩

theorem c5 {p0 : Int} {ssl osl : Sl} {L : List OP5} {ord : List Int} {Q : Bool → Hp → Prop} (hsl : RdL oF H ssl L) (hl : L.length ≤ 1000000) (hosl : RdL iF H osl ord) (hol : ord.length ≤ 2000000) (hwf : ∀ x ∈ ord, (Lit.int .i64 x).wf = true) (hQ : ∀ H', Kp No H H' → Q true H') : F5 p0 ssl osl H Q := by
  refine c8 fun H1 k1 => ⟨fun hh => (by cases hh), fun _ => c12 fun H5 g st _ b5 k5 => ⟨fun hh => (by cases hh), fun _ => c5_L ⟨_, st, b5, fun b hb => by have := k1.size; omega, k1.trans k5 fun _ h => h.elim⟩ hsl hl hosl hol (fun x hx => ?_) hQ⟩⟩
  have := hwf x hx
  simp [Lit.wf] at this
  exact this
end
end Go.Hw
