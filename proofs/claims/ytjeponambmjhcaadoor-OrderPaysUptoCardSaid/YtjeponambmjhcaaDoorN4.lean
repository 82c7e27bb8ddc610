/- OrderSorted. Own work of this session. -/
import Derived.Test.YtjeponambmjhcaaDoorN3
set_option linter.unusedVariables false
namespace Go.Hw
open Go

/-- The gate and its log at the head of a step. -/
structure SI (H0 H : Hp) (g hb : Nat) (gs : Sl) (s : St) (L : List HC) (lg : Nat) (sl : Sl) (W : List WY) (st tm : Int) (any : Bool) (i : Nat) (Z : List (NE × WY)) : Prop where
  k : Kp No H0 H
  p : PL H g hb gs s L
  ok : s.Ok
  ct : s.count ≤ i
  l : LG H lg sl W st tm any i
  lk : LK s.C W Z
  hi : any = true → tm ≤ s.mark ∧ st < i
  lo : ∀ x ∈ s.C, s.mark < x.e.tm
  n1 : ∀ b, fp g hb gs b → H0.size ≤ b
  n2 : H0.size ≤ lg
  n3 : ∀ b, sl.at b → H0.size ≤ b

def SIE (H0 H : Hp) (g lg : Nat) (s : St) (i : Nat) : Prop := ∃ hb gs L sl W st tm any Z, SI H0 H g hb gs s L lg sl W st tm any i Z

theorem LG.up {H : Hp} {lg : Nat} {sl : Sl} {W : List WY} {st tm : Int} {any : Bool} {i : Nat} (h : LG H lg sl W st tm any i) : LG H lg sl W st tm any (i + 1) :=
  ⟨h.row, h.lst, h.inc, fun w hw => by have := h.stp w hw; omega, by have := h.len; omega⟩
theorem SI.no {H0 H H' : Hp} {g hb lg i : Nat} {gs sl : Sl} {s : St} {L : List HC} {W : List WY} {st tm : Int} {any : Bool} {Z : List (NE × WY)} (v : SI H0 H g hb gs s L lg sl W st tm any i Z) (k : Kp No H H') : SI H0 H' g hb gs s L lg sl W st tm any i Z :=
  ⟨v.k.trans k fun _ => False.elim, v.p.no k, v.ok, v.ct, v.l.no k, v.lk, v.hi, v.lo, v.n1, v.n2, v.n3⟩
theorem SI.up {H0 H : Hp} {g hb lg i : Nat} {gs sl : Sl} {s : St} {L : List HC} {W : List WY} {st tm : Int} {any : Bool} {Z : List (NE × WY)} (v : SI H0 H g hb gs s L lg sl W st tm any i Z) : SI H0 H g hb gs s L lg sl W st tm any (i + 1) Z :=
  ⟨v.k, v.p, v.ok, by have := v.ct; omega, v.l.up, v.lk, fun h => by have := v.hi h; omega, v.lo, v.n1, v.n2, v.n3⟩

theorem mark_le (s : St) (now : Int) : s.mark ≤ mark' s now := by unfold mark'; split <;> omega

theorem SI.last {H0 H : Hp} {g hb lg i : Nat} {gs sl : Sl} {s : St} {L : List HC} {W : List WY} {st tm : Int} {any : Bool} {Z : List (NE × WY)} (v : SI H0 H g hb gs s L lg sl W st tm any i Z) : any = true → ∀ z ∈ Z, ¬ (z.2.tm < tm ∨ z.2.tm = tm ∧ (z.2.step : Int) < st) := fun ha z hz => by
  have h1 := v.hi ha
  have h2 := v.lo z.1 (by rw [← v.lk.c]; exact List.mem_map_of_mem hz)
  have h3 : z.1.e.tm = z.2.tm := congrArg EV.tm (v.lk.e z hz)
  omega

/-- What a gate that has moved lets go, told to the log. -/
theorem SI.emits {H0 H H1 : Hp} {g hb lg i : Nat} {gs gs1 sl es : Sl} {s s1 : St} {L L1 : List HC} {W : List WY} {st tm m : Int} {any : Bool} {Z : List (NE × WY)} {Q : Bool → Hp → Prop} (v : SI H0 H g hb gs s L lg sl W st tm any i Z) (hi : i ≤ 1048576) (hT : ∀ H', Kp No H0 H' → TabH H')
    (p1 : PL H1 g hb gs1 s1 L1) (k1 : Kp (fp g hb gs) H H1) (hs1 : ∀ b, gs1.at b → gs.at b ∨ H.size ≤ b) (ok1 : s1.Ok) (ct1 : s1.count ≤ s.count + 1) (hm : s.mark ≤ m) (e1 : s1.C = rest m s.C) (e2 : s1.mark = m) (ha : Ans H1 es ((out m s.C).map NE.e))
    (hQ : ∀ H' W' Z' st' tm' any', SI H0 H' g hb gs1 s1 L1 lg sl W' st' tm' any' (i + 1) Z' → Q true H') : F15 (some ⟨lg, 0, none⟩) es m H1 Q := by
  have l1 := v.l.kpP v.p k1
  have k01 : Kp No H0 H1 := v.k.trans k1 fun b hb => .inr (v.n1 b hb)
  have hk : ∀ {H'}, Kp (fun b => b = lg ∨ sl.at b) H1 H' → Kp No H0 H' := fun k' => k01.trans k' fun b hb => .inr (by
    rcases hb with h | h
    · exact h ▸ v.n2
    · exact v.n3 b h)
  have hCl : s.C.length ≤ 8192 := by have := v.ok.len; have := v.ok.room; omega
  refine Go.Hw.emit l1 hi v.lk ha hCl v.last (fun H' k' => hT H' (hk k')) fun H' W' Z' st' tm' any' l' lk' k' hlast => ?_
  have sz := v.k.size
  refine hQ H' W' Z' st' tm' any' ⟨hk k', p1.kpL l1 k', ok1, by have := v.ct; omega, l'.up, by rw [e1]; exact lk', fun h => ?_, fun x hx => ?_, fun b hb => ?_, v.n2, v.n3⟩
  · rw [e2]
    rcases hlast with ⟨h1, h2, h3⟩ | ⟨_, h2, h3⟩
    · have := v.hi (h3 ▸ h)
      omega
    · omega
  · rw [e1] at hx
    rw [e2]
    have := (List.mem_filter.1 hx).2
    simpa using this
  · rcases hb with h | h | h
    · exact v.n1 b (.inl h)
    · exact v.n1 b (.inr (.inl h))
    · rcases hs1 b h with h | h
      · exact v.n1 b (.inr (.inr h))
      · omega

theorem c13p {H0 H : Hp} {g lg i : Nat} {s : St} {time : Int} {Q : Bool → Hp → Prop} (hv : SIE H0 H g lg s i) (hi : i < 1048576) (hT : ∀ H', Kp No H0 H' → TabH H')
    (hQ : ∀ H' s', SIE H0 H' g lg s' (i + 1) → s'.room = s.room → Q true H') : F13 (some ⟨lg, 0, none⟩) (some ⟨g, 0, none⟩) i time s.room H Q := by
  obtain ⟨hb, gs, L, sl, W, st, tm, any, Z, v⟩ := hv
  have hCn : ((isort s.C).map NE.e).length = s.C.length := by rw [List.length_map, (isort_perm _).length_eq]
  refine c18 v.p (c19 v.p v.ok fun r6 H6 a6 k6 hr6 => ?_)
  have v6 := v.no k6
  have n6 : (r6.n : Int) = s.C.length := by rw [a6.n, hCn]
  refine ⟨hT H6 v6.k, by omega, by omega, fun H7 k7 => ?_⟩
  rw [T_itoa]
  have v7 := v6.no k7
  refine c24 fun H10 k10 => ?_
  have v10 := v7.no k10
  have hvnil : RdL vF H10 Sl.nil [] := RdL.nil vF H10
  have ct := v.ct
  -- a refusal leaves all as it was
  have refused : ∀ (H' : Hp) (r17 : Sl), SI H0 H' g hb gs s L lg sl W st tm any i Z → F16 (some ⟨g, 0, none⟩) H' (fun (r38 : Int) (H36 : Hp) =>
      ((decide (r38 = s.mark)) = true → (F11 (some ⟨g, 0, none⟩) H36 (fun (r43 : Sl) (H41 : Hp) => Q (decide (((r43).n : Int) = ((r6).n : Int))) H41))) ∧ ((decide (r38 = s.mark)) = false → (Q false H36))) := by
    intro H' r17 v'
    refine c18 v'.p ⟨fun _ => c19 v'.p v'.ok fun r43 H41 a41 k41 _ => ?_, fun hf => absurd rfl (of_decide_eq_false hf)⟩
    have n43 : (r43.n : Int) = s.C.length := by rw [a41.n, hCn]
    rw [decide_eq_true (by omega)]
    exact hQ H41 s ⟨hb, gs, L, sl, W, st, tm, any, Z, (v'.no k41).up⟩ rfl
  refine c23 v10.p v10.ok (by omega) hvnil (fun a ha => by cases ha) (by simp) fun r17 H15 gs1 hp1 a1 k1 hs1 hr1 => ?_
  obtain ⟨L1, hp1⟩ := hp1
  -- the ways of the push
  by_cases h1 : time < 0 ∨ 4611686018427387904 < time
  · have e : push s ⟨T i, time, []⟩ = ([], 23, s) := if_pos h1
    rw [e] at hp1 a1 ⊢
    have hv15 : SI H0 H15 g hb gs1 s L1 lg sl W st tm any i Z := by
      have l1 := v10.l.kpP v10.p k1
      have sz := v10.k.size
      refine ⟨v10.k.trans k1 fun b hb => .inr (v.n1 b hb), hp1, v.ok, v.ct, l1, v.lk, v.hi, v.lo, fun b hb => ?_, v.n2, v.n3⟩
      rcases hb with h | h | h
      · exact v.n1 b (.inl h)
      · exact v.n1 b (.inr (.inl h))
      · rcases hs1 b h with h | h
        · exact v.n1 b (.inr (.inr h))
        · omega
    have n17 : r17.n = 0 := a1.n
    have done : F13_1 Q (some ⟨lg, 0, none⟩) (some ⟨g, 0, none⟩) i time s.room s.mark ((r6).n : Int) r17 23 true H15 := by
      refine ⟨fun _ => ⟨fun _ => ⟨fun _ => ?_, fun hf => absurd (of_decide_eq_false hf) (by omega)⟩, fun hf => absurd rfl (of_decide_eq_false hf)⟩, fun hf => by cases hf⟩
      refine c18 hv15.p ⟨fun _ => c19 hv15.p hv15.ok fun r43 H41 a41 k41 _ => ?_, fun hf => absurd rfl (of_decide_eq_false hf)⟩
      have n43 : (r43.n : Int) = s.C.length := by rw [a41.n, hCn]
      rw [decide_eq_true (by omega)]
      exact hQ H41 s ⟨hb, gs1, L1, sl, W, st, tm, any, Z, (hv15.no k41).up⟩ rfl
    by_cases h0 : time < 0
    · exact ⟨fun _ => done, fun hf => absurd h0 (of_decide_eq_false hf)⟩
    · refine ⟨fun hf => absurd (of_decide_eq_true hf) h0, fun _ => ?_⟩
      rw [decide_eq_true (by omega)]
      exact done
  · refine ⟨fun hf => absurd (.inl (of_decide_eq_true hf)) h1, fun _ => ?_⟩
    rw [decide_eq_false (by omega)]
    refine ⟨fun hf => (by cases hf), fun _ => ?_⟩
    have keep : ∀ {L1'}, PL H15 g hb gs1 s L1' → SI H0 H15 g hb gs1 s L1' lg sl W st tm any i Z := fun hp1' => by
      have l1 := v10.l.kpP v10.p k1
      have sz := v10.k.size
      refine ⟨v10.k.trans k1 fun b hb => .inr (v.n1 b hb), hp1', v.ok, v.ct, l1, v.lk, v.hi, v.lo, fun b hb => ?_, v.n2, v.n3⟩
      rcases hb with h | h | h
      · exact v.n1 b (.inl h)
      · exact v.n1 b (.inr (.inl h))
      · rcases hs1 b h with h | h
        · exact v.n1 b (.inr (.inr h))
        · omega
    have finish : ∀ {L1' r43 H41}, SI H0 H15 g hb gs1 s L1' lg sl W st tm any i Z → Kp No H15 H41 → Ans H41 r43 ((isort s.C).map NE.e) → Q (decide (((r43 : Sl).n : Int) = ((r6).n : Int))) H41 := fun hv15 k41 a41 => by
      rw [decide_eq_true (by have := a41.n; omega)]
      exact hQ _ s ⟨hb, gs1, _, sl, W, st, tm, any, Z, (hv15.no k41).up⟩ rfl
    by_cases h2 : time < s.mark
    · have e : push s ⟨T i, time, []⟩ = ([], 180, s) := (if_neg h1).trans (if_pos h2)
      rw [e] at hp1 a1 ⊢
      have hv15 := keep hp1
      have n17 : r17.n = 0 := a1.n
      refine ⟨fun _ => ⟨fun _ => ⟨fun _ => ?_, fun hf => absurd (of_decide_eq_false hf) (by omega)⟩, fun hf => absurd rfl (of_decide_eq_false hf)⟩, fun hf => absurd h2 (of_decide_eq_false hf)⟩
      exact c18 hv15.p ⟨fun _ => c19 hv15.p hv15.ok fun r43 H41 a41 k41 _ => finish hv15 k41 a41, fun hf => absurd rfl (of_decide_eq_false hf)⟩
    · refine ⟨fun hf => absurd (of_decide_eq_true hf) h2, fun _ => ?_⟩
      by_cases h3 : mark' s time < time ∧ s.room ≤ ((rest (mark' s time) s.C).length : Int)
      · have e : push s ⟨T i, time, []⟩ = ([], 4, s) := (if_neg h1).trans ((if_neg h2).trans (if_pos h3))
        rw [e] at hp1 a1 ⊢
        have hv15 := keep hp1
        have n17 : r17.n = 0 := a1.n
        have hroom : (r6.n : Int) = s.room := by
          have := rest_len (mark' s time) s.C
          have := v.ok.len
          omega
        refine ⟨fun _ => ⟨fun _ => ⟨fun _ => ⟨fun _ => ?_, fun hf => absurd (of_decide_eq_false hf) (by omega)⟩, fun hf => absurd hroom (of_decide_eq_false hf)⟩, fun hf => absurd rfl (of_decide_eq_false hf)⟩, fun hf => absurd (of_decide_eq_false hf) (by show ¬ ¬ ((4 : Int) ≠ 0); decide)⟩
        exact c18 hv15.p ⟨fun _ => c19 hv15.p hv15.ok fun r43 H41 a41 k41 _ => finish hv15 k41 a41, fun hf => absurd rfl (of_decide_eq_false hf)⟩
      · have e : push s ⟨T i, time, []⟩ = (out (mark' s time) (s.C ++ [⟨s.count + 1, ⟨T i, time, []⟩⟩]), 0, { s with count := s.count + 1, top := top' s time, mark := mark' s time, C := rest (mark' s time) (s.C ++ [⟨s.count + 1, ⟨T i, time, []⟩⟩]) }) :=
          (if_neg h1).trans ((if_neg h2).trans (if_neg h3))
        have okp := push_ok v.ok (e := ⟨T i, time, []⟩) (by simp)
        rw [e] at hp1 a1 okp ⊢
        refine ⟨fun hf => absurd rfl (of_decide_eq_true hf), fun _ => ?_⟩
        have l15 := v10.l.kpP v10.p k1
        obtain ⟨gn, r15⟩ := l15.row
        have k015 : Kp No H0 H15 := v10.k.trans k1 fun b hb => .inr (v.n1 b hb)
        refine ⟨_, rfl, _, r15.cell_of (i := 0) rfl, fun H76 e76 => ?_⟩
        have k76 := (Kp.refl No H15).push' e76
        have s76 := size_push' e76
        have b76 : Row H76 H15.size 44 (wF.f ⟨i, time, false⟩) := Row.new' e76
        have hWl := v.l.len
        refine (l15.lst.kp k76 fun _ _ => id).append1 b76 rfl (by omega) (by omega) fun sl2 H78 l78 k78 hn78 => ?_
        have r78 := k78.row (k76.row r15 id) (fun hb => l15.lst.ne r15 (by decide) hb)
        refine ⟨_, rfl, r78.some (i := 0) (by simp), r78.frz 0, fun H83 e83 => ?_⟩
        have r83 := r78.set' e83
        have k83 := (Kp.refl (fun b => b = lg) H78).set' e83 (.inl rfl)
        have l83 : Lst wF H83 sl2 (W ++ [⟨i, time, false⟩]) := l78.kp k83 fun b hb e => l78.ne r78 (by decide) (e ▸ hb)
        have kL : Kp (fun b => b = lg ∨ sl.at b) H15 H83 := ((k76.mono fun _ _ => False.elim).trans k78 fun b hb => .inl (.inr hb)).trans k83 fun b hb => .inl (.inl hb)
        have hp83 := hp1.kpL l15 kL
        have sz0 := v10.k.size
        have sz1 := k1.size
        have a83 : Ans H83 r17 ((out (mark' s time) (s.C ++ [⟨s.count + 1, ⟨T i, time, []⟩⟩])).map NE.e) := by
          refine a1.kp kL (fun b l hb rr => ?_) (fun b l hb rr => ?_)
          · rcases hb with hb | hb
            · exact rr.ne_type r15 (by decide) hb
            · exact l15.lst.ne rr (by decide) hb
          · rcases hb with hb | hb
            · exact rr.ne_type r15 (by decide) hb
            · exact l15.lst.ne rr (by decide) hb
        have k083 : Kp No H0 H83 := k015.trans kL fun b hb => .inr (by
          rcases hb with h | h
          · exact h ▸ v.n2
          · exact v.n3 b h)
        have lg83 : LG H83 lg sl2 (W ++ [⟨i, time, false⟩]) st tm any (i + 1) := by
          refine ⟨⟨gn, r83⟩, l83, ?_, fun w hw => ?_, by simp; omega⟩
          · rw [List.pairwise_append]
            refine ⟨v.l.inc, List.pairwise_singleton _ _, fun x hx y hy => ?_⟩
            rw [List.mem_singleton] at hy
            subst hy
            exact v.l.stp x hx
          · rcases List.mem_append.1 hw with hw | hw
            · have := v.l.stp w hw; omega
            · rw [List.mem_singleton] at hw
              subst hw
              exact Nat.lt_succ_self i
        have lk83 := v.lk.snoc (n := s.count + 1) (i := i) (tm := time) (fun x hx => by have := v.ok.num x hx; omega) v.l.stp
        have hml := mark_le s time
        have hn3 : ∀ b, sl2.at b → H0.size ≤ b := fun b hb => by
          rcases hn78 b hb with h | h
          · exact v.n3 b h
          · omega
        have hCl : (s.C ++ [(⟨s.count + 1, ⟨T i, time, []⟩⟩ : NE)]).length ≤ 8192 := by
          have := v.ok.len
          have := v.ok.room
          simp; omega
        have hk : ∀ {H'}, Kp (fun b => b = lg ∨ sl2.at b) H83 H' → Kp No H0 H' := fun k' => k083.trans k' fun b hb => .inr (by
          rcases hb with h | h
          · exact h ▸ v.n2
          · exact hn3 b h)
        refine c18 hp83 ⟨fun _ => c18 hp83 ?_, fun hf => absurd hml (of_decide_eq_false hf)⟩
        refine emit lg83 (by omega) lk83 a83 hCl (fun hany z hz => ?_) (fun H' k' => hT H' (hk k')) fun H' W' Z' st' tm' any' l' lk' k' hlast => ?_
        · rcases List.mem_append.1 hz with hz | hz
          · exact v.last hany z hz
          · rw [List.mem_singleton] at hz
            subst hz
            have := v.hi hany
            show ¬ (time < tm ∨ time = tm ∧ (i : Int) < st)
            omega
        · refine hQ H' _ ⟨hb, gs1, L1, sl2, W', st', tm', any', Z', ⟨hk k', hp83.kpL lg83 k', okp, by show s.count + 1 ≤ _; omega, l', lk', fun h => ?_, fun x hx => ?_, fun b hb => ?_, v.n2, hn3⟩⟩ rfl
          · rcases hlast with ⟨h1, h2, h3⟩ | ⟨_, h2, h3⟩
            · have := v.hi (h3 ▸ h)
              show tm' ≤ mark' s time ∧ st' < ((i + 1 : Nat) : Int)
              omega
            · exact ⟨h2, h3⟩
          · have := (List.mem_filter.1 hx).2
            simpa using this
          · rcases hb with h | h | h
            · exact v.n1 b (.inl h)
            · exact v.n1 b (.inr (.inl h))
            · rcases hs1 b h with h | h
              · exact v.n1 b (.inr (.inr h))
              · omega

end Go.Hw
