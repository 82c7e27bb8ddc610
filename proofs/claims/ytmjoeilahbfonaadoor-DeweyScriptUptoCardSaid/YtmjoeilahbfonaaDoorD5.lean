/- DeweyFamilies, DeweyOrder: the rows. Own work of this session. -/
import Derived.Test.YtmjoeilahbfonaaDoorD4
set_option linter.unusedVariables false
namespace Go.Hw
open Go

def pF : Fmt (Sl × List Int) 22 1 := ⟨fun x => [Sl.v x.1], fun _ => rfl, by intro x v hv; simp at hv; rcases hv with rfl; rfl, by decide⟩
/-- Rows of numbers that are read. -/
structure Rws (H : Hp) (s : Sl) (R : List (Sl × List Int)) : Prop where
  rd : RdL pF H s R
  iv : ∀ x ∈ R, Iv H x.1 x.2
theorem Rws.get {H : Hp} {s : Sl} {R : List (Sl × List Int)} (h : Rws H s R) {i : Nat} (hi : i < R.length) : ∃ a, s.b = some a ∧ (0 : Int) ≤ (i : Int) ∧ (i : Int) < (s.n : Int) ∧ cell H (a.add ((i : Int).toNat * 1)) = some (Sl.v (R[i]'hi).1) ∧ Iv H (R[i]'hi).1 (R[i]'hi).2 := by
  have gi : R[i]? = some (R[i]'hi) := List.getElem?_eq_getElem hi
  obtain ⟨a, hab, hn, ca⟩ := h.rd.get gi
  exact ⟨a, hab, by omega, by omega, ca.1, h.iv _ (List.getElem_mem _)⟩
theorem Rws.no {H H' : Hp} {s : Sl} {R : List (Sl × List Int)} (h : Rws H s R) (k : Kp No H H') : Rws H' s R := ⟨h.rd.kp0 k, fun x hx => (h.iv x hx).no k⟩
/-- A literal list of rows. -/
theorem rws_lit {H H1 : Hp} {R : List (Sl × List Int)} {n : Nat} (hR : ∀ x ∈ R, Iv H1 x.1 x.2) (hn : n = R.length) (e : H1 = Array.push H (.cells (R.map fun x => Sl.v x.1).toArray 22)) : Rws H1 ⟨some ⟨H.size, 0, none⟩, n, n⟩ R := by
  have hf : R.flatMap pF.f = R.map fun x => Sl.v x.1 := by
    clear e hn hR
    induction R with
    | nil => rfl
    | cons x l ih => rw [List.flatMap_cons, ih]; rfl
  have r : Row H1 H.size 22 (R.flatMap pF.f) := by
    rw [hf]
    subst e
    exact Row.newl _ _ _
  exact ⟨r.rdl hn n, hR⟩

section
variable {H : Hp} {s : Sl} {R : List (Sl × List Int)}

theorem c3_2 {Q : Bool → Hp → Prop} (h : Rws H s R) (hl : R.length ≤ 1000) (hQ : Q true H) : F3_2 Q s H := by
  have hn := h.rd.n
  intro X3 hX3
  suffices G : ∀ (d i : Nat), i + d = R.length → X3 (i : Int) H from G R.length 0 (by omega)
  intro d
  induction d with
  | zero =>
    intro i hi
    exact hX3 _ _ ⟨fun hh => absurd (of_decide_eq_true hh) (by omega), fun _ => hQ⟩
  | succ d ih =>
    intro i hi
    obtain ⟨a, ha, hi0, hi1, ci, vi⟩ := h.get (i := i) (by omega)
    refine hX3 _ _ ⟨fun _ => ?_, fun hh => absurd (of_decide_eq_false hh) (by omega)⟩
    intro X5 hX5
    suffices G : ∀ (d j : Nat), j + d = R.length → X5 (j : Int) H from G R.length 0 (by omega)
    intro d
    induction d with
    | zero =>
      intro j hj
      refine hX5 _ _ ⟨fun hh => absurd (of_decide_eq_true hh) (by omega), fun _ => ?_⟩
      show X3 (IntKind.i64.wrap ((i : Int) + 1)) H
      rw [wr (by omega) (by omega)]
      exact ih (i + 1) (by omega)
    | succ d ih5 =>
      intro j hj
      obtain ⟨b, hb, hj0, hj1, cj, vj⟩ := h.get (i := j) (by omega)
      refine hX5 _ _ ⟨fun _ => ?_, fun hh => absurd (of_decide_eq_false hh) (by omega)⟩
      intro X7 hX7
      suffices G : ∀ (d k : Nat), k + d = R.length → X7 (k : Int) H from G R.length 0 (by omega)
      intro d
      induction d with
      | zero =>
        intro k hk
        refine hX7 _ _ ⟨fun hh => absurd (of_decide_eq_true hh) (by omega), fun _ => ?_⟩
        show X5 (IntKind.i64.wrap ((j : Int) + 1)) H
        rw [wr (by omega) (by omega)]
        exact ih5 (j + 1) (by omega)
      | succ d ih7 =>
        intro k hk
        obtain ⟨c, hc, hk0, hk1, ck, vk⟩ := h.get (i := k) (by omega)
        refine hX7 _ _ ⟨fun _ => ⟨a, ha, hi0, hi1, _, ci, b, hb, hj0, hj1, _, cj, c, hc, hk0, hk1, _, ck, c13 vi vj vk ⟨fun hh => (by cases hh), fun _ => ?_⟩⟩, fun hh => absurd (of_decide_eq_false hh) (by omega)⟩
        rw [wr (by omega) (by omega)]
        exact ih7 (k + 1) (by omega)

theorem c4_1 {Q : Bool → Hp → Prop} (h : Rws H s R) {n : Nat} (hl : n ≤ R.length) (hl2 : n ≤ 12) (hQ : Q true H) : F4_1 Q s (n : Int) H := by
  have hn := h.rd.n
  intro X2 hX2
  suffices G : ∀ (d i : Nat), i + d = n → X2 (i : Int) H from G n 0 (by omega)
  intro d
  induction d with
  | zero =>
    intro i hi
    exact hX2 _ _ ⟨fun hh => absurd (of_decide_eq_true hh) (by omega), fun _ => hQ⟩
  | succ d ih =>
    intro i hi
    obtain ⟨a, ha, hi0, hi1, ci, vi⟩ := h.get (i := i) (by omega)
    refine hX2 _ _ ⟨fun _ => ?_, fun hh => absurd (of_decide_eq_false hh) (by omega)⟩
    intro X4 hX4
    suffices G : ∀ (d j : Nat), j + d = n → X4 (j : Int) H from G n 0 (by omega)
    intro d
    induction d with
    | zero =>
      intro j hj
      refine hX4 _ _ ⟨fun hh => absurd (of_decide_eq_true hh) (by omega), fun _ => ?_⟩
      show X2 (IntKind.i64.wrap ((i : Int) + 1)) H
      rw [wr (by omega) (by omega)]
      exact ih (i + 1) (by omega)
    | succ d ih4 =>
      intro j hj
      obtain ⟨b, hb, hj0, hj1, cj, vj⟩ := h.get (i := j) (by omega)
      generalize (R[i]'(by omega)) = x at ci vi
      generalize (R[j]'(by omega)) = y at cj vj
      -- the rest
      have rest : F4_6 Q X2 X4 s (n : Int) (i : Int) (j : Int) (compare x.2 y.2) false H := by
        refine ⟨fun hh => (by cases hh), fun _ => ?_⟩
        intro X7 hX7
        suffices G : ∀ (d k : Nat), k + d = n → X7 (k : Int) H from G n 0 (by omega)
        intro d
        induction d with
        | zero =>
          intro k hk
          refine hX7 _ _ ⟨fun hh => absurd (of_decide_eq_true hh) (by omega), fun _ => ?_⟩
          show X4 (IntKind.i64.wrap ((j : Int) + 1)) H
          rw [wr (by omega) (by omega)]
          exact ih4 (j + 1) (by omega)
        | succ d ih7 =>
          intro k hk
          obtain ⟨c, hc, hk0, hk1, ck, vk⟩ := h.get (i := k) (by omega)
          generalize (R[k]'(by omega)) = z at ck vk
          have next : F4_8 Q X2 X4 X7 s (n : Int) (i : Int) (j : Int) (compare x.2 y.2) (k : Int) false H := by
            refine ⟨fun hh => (by cases hh), fun _ => ?_⟩
            rw [wr (by omega) (by omega)]
            exact ih7 (k + 1) (by omega)
          refine hX7 _ _ ⟨fun _ => ⟨fun h1 => ⟨b, hb, hj0, hj1, _, cj, c, hc, hk0, hk1, _, ck, c14 vj vk ⟨fun h2 => ⟨a, ha, hi0, hi1, _, ci, c, hc, hk0, hk1, _, ck, c14 vi vk ?_⟩, fun _ => next⟩⟩, fun _ => next⟩, fun hh => absurd (of_decide_eq_false hh) (by omega)⟩
          have := cmp_trans _ _ _ (of_decide_eq_true h1) (of_decide_eq_true h2)
          rw [decide_eq_false (by omega)]
          exact next
      have hr := cmp_range x.2 y.2
      have hneg := cmp_neg x.2 y.2
      have hr2 := cmp_range y.2 x.2
      refine hX4 _ _ ⟨fun _ => ⟨a, ha, hi0, hi1, _, ci, b, hb, hj0, hj1, _, cj, c14 vi vj ⟨fun hh => absurd (of_decide_eq_true hh) (by omega), fun _ => ⟨fun hh => absurd (of_decide_eq_true hh) (by omega), fun _ => ?_⟩⟩⟩, fun hh => absurd (of_decide_eq_false hh) (by omega)⟩
      refine ⟨b, hb, hj0, hj1, _, cj, a, ha, hi0, hi1, _, ci, c14 vj vi ?_⟩
      rw [wr (x := 0 - compare y.2 x.2) (by omega) (by omega)]
      refine ⟨fun hh => absurd (show compare x.2 y.2 = 0 - compare y.2 x.2 by omega) (of_decide_eq_true hh), fun _ => ⟨a, ha, hi0, hi1, _, ci, b, hb, hj0, hj1, _, cj, c15 vi vj ?_⟩⟩
      rw [show decide (compare x.2 y.2 = 0) = decide (x.2 = y.2) from decide_eq_decide.2 (cmp_zero _ _), beq_self_eq_true]
      refine ⟨fun hh => (by cases hh), fun _ => ⟨a, ha, hi0, hi1, _, ci, b, hb, hj0, hj1, _, cj, c16 vi vj ⟨fun hh => ?_, fun _ => rest⟩⟩⟩
      have := cmp_leads (leads_iff.1 hh)
      rw [decide_eq_false (by omega)]
      exact rest

theorem c4 {Q : Bool → Hp → Prop} (ht : TabH H) (hH : 0 < H.size) (h : Rws H s R) (hl : R.length ≤ 2000000) (hQ : ∀ H', Kp No H H' → Q true H') : F4 s H Q := by
  have hn := h.rd.n
  refine c9 ht hH fun H1 k1 => ⟨fun hh => (by cases hh), fun _ => ⟨fun hh => ?_, fun hh => ?_⟩⟩
  · have := of_decide_eq_true hh
    exact c4_1 (n := 12) (h.no k1) (by omega) (by omega) (hQ H1 k1)
  · have := of_decide_eq_false hh
    exact c4_1 (n := s.n) (h.no k1) (by omega) (by omega) (hQ H1 k1)

theorem c3 {p q r m : Sl} {a b c more : List Int} {Q : Bool → Hp → Prop} (ht : TabH H) (hH : 0 < H.size) (ha : Iv H p a) (hb : Iv H q b) (hc : Iv H r c) (hm : Iv H m more) (h1 : a.length + more.length ≤ 2000000) (h2 : b.length + more.length ≤ 2000000) (hQ : ∀ H', Kp No H H' → Q true H') : F3 p q r m H Q := by
  refine c9 ht hH fun H1 k1 => ⟨fun hh => (by cases hh), fun _ => c10 (ha.no k1) (hm.no k1) h1 fun H2 k2 => ⟨fun hh => (by cases hh), fun _ => c10 ((hb.no k1).no k2) ((hm.no k1).no k2) h2 fun H3 k3 => ⟨fun hh => (by cases hh), fun _ H19 e19 => ?_⟩⟩⟩
  have kk3 := (k1.trans k2 fun _ h => h.elim).trans k3 fun _ h => h.elim
  have k19 : Kp No H3 H19 := (Kp.refl No _).push' e19
  have kk19 := kk3.trans k19 fun _ h => h.elim
  have a19 := ha.no kk19
  have b19 := hb.no kk19
  have c19 := hc.no kk19
  have w19 : Rws H19 _ [(p, a), (q, b), (r, c)] := rws_lit (n := 3) (by
    intro x hx
    simp only [List.mem_cons, List.not_mem_nil, or_false] at hx
    rcases hx with rfl | rfl | rfl
    · exact a19
    · exact b19
    · exact c19) rfl e19
  have l19 : Lst pF H19 (Sl.mk (some ⟨H3.size, 0, none⟩) 3 3) [(p, a), (q, b), (r, c)] := ⟨.inr ⟨H3.size, [], rfl, Row.new' e19, rfl, rfl, Nat.le_refl _, show (3 : Nat) ≤ 9223372036854775807 by decide⟩⟩
  have fin : ∀ {H' : Hp} {S : Nat → Prop}, Kp No H19 H' → F3_2 Q (Sl.mk (some ⟨H3.size, 0, none⟩) 3 3) H' := fun k => c3_2 (w19.no k) (by simp) (hQ _ (kk19.trans k fun _ h => h.elim))
  refine c11 a19 (fun _ => ⟨fun hh => absurd (of_decide_eq_true hh) (by decide), fun _ => fin (S := No) (Kp.refl _ _)⟩) (fun _ _ => ⟨fun hh => absurd (of_decide_eq_true hh) (by decide), fun _ => fin (S := No) (Kp.refl _ _)⟩) fun _ _ w H21 lw k21 hw2 => ⟨fun _ => ?_, fun hh => absurd rfl (of_decide_eq_false hh)⟩
  have hw : (a.dropLast ++ [lastOf a + 1]).length ≤ a.length + 1 := by simp
  have w21 := lw.iv (by omega)
  have kk21 := kk19.trans k21 fun _ h => h.elim
  refine c12 w21 fun x H26 lx k26 hx2 => ?_
  have kk26 := kk21.trans k26 fun _ h => h.elim
  have x26 := lx.iv (by rw [List.length_append, List.length_singleton]; omega)
  refine c12 (ha.no kk26) fun y H29 ly k29 hy2 => ?_
  have kk29 := kk26.trans k29 fun _ h => h.elim
  have y29 := ly.iv (by rw [List.length_append, List.length_singleton]; omega)
  intro H32 e32
  have k32 : Kp No H29 H32 := (Kp.refl No _).push' e32
  have kk32 := kk29.trans k32 fun _ h => h.elim
  have w32 : Rws H32 _ [(w, a.dropLast ++ [lastOf a + 1]), (x, a.dropLast ++ [lastOf a + 1] ++ [0]), (y, a ++ [0])] := rws_lit (n := 3) (by
    intro z hz
    simp only [List.mem_cons, List.not_mem_nil, or_false] at hz
    rcases hz with rfl | rfl | rfl
    · exact ((w21.no k26).no k29).no k32
    · exact (x26.no k29).no k32
    · exact y29.no k32) rfl e32
  have kl : Kp No H19 H32 := ((k21.trans k26 fun _ h => h.elim).trans k29 fun _ h => h.elim).trans k32 fun _ h => h.elim
  have hs3 : ∀ z, (Sl.mk (some ⟨H3.size, 0, none⟩) 3 3).at z → z = H3.size := fun z hz => by
    have : (some ⟨H3.size, 0, none⟩ : Option Addr) = some ⟨z, 0, none⟩ := hz
    injection this with this
    injection this with this
    exact this.symm
  have s3 := kk3.size
  refine (l19.kp kl fun _ _ => id).append (xs := Sl.mk (some ⟨H29.size, 0, none⟩) 3 3) w32.rd rfl (by simp) (by simp) fun g H34 lg k34 hg => ?_
  have kk34 : Kp No H H34 := kk32.trans k34 fun z hz => .inr (by have := hs3 z hz; omega)
  refine c3_2 ⟨lg.rd, fun z hz => ?_⟩ (by simp) (hQ _ kk34)
  have s19 := size_push' e19
  have s21 := k21.size
  have s26 := k26.size
  have no : ∀ z, H19.size ≤ z → ¬ (Sl.mk (some ⟨H3.size, 0, none⟩) 3 3).at z := fun z hz hh => by have := hs3 z hh; omega
  have w34 := (((lw.kp k26 fun _ _ => id).kp k29 fun _ _ => id).kp k32 fun _ _ => id).kp k34 fun z hz => no z (hw2 z hz)
  have x34 := ((lx.kp k29 fun _ _ => id).kp k32 fun _ _ => id).kp k34 fun z hz => no z (by have := hx2 z hz; omega)
  have y34 := (ly.kp k32 fun _ _ => id).kp k34 fun z hz => no z (by have := hy2 z hz; omega)
  simp only [List.cons_append, List.nil_append, List.mem_cons, List.not_mem_nil, or_false] at hz
  rcases hz with rfl | rfl | rfl | rfl | rfl | rfl
  · exact ha.no kk34
  · exact hb.no kk34
  · exact hc.no kk34
  · exact w34.iv (by omega)
  · exact x34.iv (by rw [List.length_append, List.length_singleton]; omega)
  · exact y34.iv (by rw [List.length_append, List.length_singleton]; omega)
end
end Go.Hw
