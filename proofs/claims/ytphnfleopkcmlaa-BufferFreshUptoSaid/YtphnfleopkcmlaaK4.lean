/- Lists that were handed out, and their copies. Own work of this session. -/
import Derived.Test.YtphnfleopkcmlaaK3
set_option linter.unusedVariables false
namespace Go.Hw
open Go

/-- A list that was handed out, a copy of it, what both show. -/
structure PP (α : Type) where
  a : Sl
  b : Sl
  L : List α
structure Rst {α : Type} {t k : Nat} (F : Fmt α t k) (H : Hp) (lo : Nat) (G : Nat → Prop) (ps : List (PP α)) : Prop where
  e : ∀ p ∈ ps, Lst F H p.a p.L ∧ Lst F H p.b p.L ∧ p.L.length ≤ 2000000
  g : ∀ p ∈ ps, ∀ x, p.a.at x ∨ p.b.at x → lo ≤ x ∧ ¬ G x
  d : ps.Pairwise fun p q => ∀ x, p.a.at x → ¬ q.a.at x
  b : ∀ p ∈ ps, ∀ q ∈ ps, ∀ x, p.a.at x → ¬ q.b.at x

section
variable {α : Type} {t k : Nat} {F : Fmt α t k} {H H' : Hp} {lo : Nat} {G G' S : Nat → Prop} {ps : List (PP α)} {p : PP α}
theorem Rst.nil : Rst F H lo G [] := ⟨fun p hp => (by cases hp), fun p hp => (by cases hp), List.Pairwise.nil, fun p hp => (by cases hp)⟩
theorem Rst.lt (h : Rst F H lo G ps) : ∀ p ∈ ps, ∀ x, p.a.at x ∨ p.b.at x → x < H.size := fun p hp x hx => by
  rcases hx with hx | hx
  · exact (h.e p hp).1.lt hx
  · exact (h.e p hp).2.1.lt hx
theorem Rst.kp (h : Rst F H lo G ps) (kp : Kp S H H') (hs : ∀ x, S x → ∀ p ∈ ps, ¬ (p.a.at x ∨ p.b.at x)) (hG : ∀ x, G' x → x < H.size → G x) : Rst F H' lo G' ps :=
  ⟨fun p hp => ⟨(h.e p hp).1.kp kp fun x hx hh => hs x hh p hp (.inl hx), (h.e p hp).2.1.kp kp fun x hx hh => hs x hh p hp (.inr hx), (h.e p hp).2.2⟩, fun p hp x hx => ⟨(h.g p hp x hx).1, fun hh => (h.g p hp x hx).2 (hG x hh (h.lt p hp x hx))⟩, h.d, h.b⟩
theorem Rst.no (h : Rst F H lo G ps) (kp : Kp No H H') : Rst F H' lo G ps := h.kp kp (fun _ h => h.elim) fun _ h _ => h
/-- Rows of another type turn. -/
theorem Rst.ty (h : Rst F H lo G ps) (kp : Kp S H H') (hs : ∀ x, S x → x < H.size → ∃ u l, Row H x u l ∧ u ≠ t) : Rst F H' lo G ps := by
  refine h.kp kp (fun x hx p hp hh => ?_) fun _ h _ => h
  obtain ⟨u, l, hr, hu⟩ := hs x hx (h.lt p hp x hh)
  rcases hh with hh | hh
  · exact ((h.e p hp).1.row hh).elim fun _ hr' => hr.ne_type hr' hu rfl
  · exact ((h.e p hp).2.1.row hh).elim fun _ hr' => hr.ne_type hr' hu rfl
/-- One more pair. -/
theorem Rst.add (h : Rst F H lo G ps) (he : Lst F H p.a p.L ∧ Lst F H p.b p.L ∧ p.L.length ≤ 2000000) (hg : ∀ x, p.a.at x ∨ p.b.at x → lo ≤ x ∧ ¬ G x) (hn : ∀ q ∈ ps, ∀ x, q.a.at x ∨ q.b.at x → ¬ p.a.at x ∧ (q.a.at x → ¬ p.b.at x)) (hs : ∀ x, p.a.at x → ¬ p.b.at x) : Rst F H lo G (ps ++ [p]) := by
  refine ⟨fun q hq => ?_, fun q hq => ?_, ?_, fun q hq r hr x hx hy => ?_⟩
  · rcases List.mem_append.1 hq with hq | hq
    · exact h.e q hq
    · rw [List.mem_singleton] at hq; rw [hq]; exact he
  · rcases List.mem_append.1 hq with hq | hq
    · exact h.g q hq
    · rw [List.mem_singleton] at hq; rw [hq]; exact hg
  · rw [List.pairwise_append]
    refine ⟨h.d, by simp, fun q hq r hr x hx => ?_⟩
    rw [List.mem_singleton] at hr
    rw [hr]; exact (hn q hq x (.inl hx)).1
  · rcases List.mem_append.1 hq with h1 | h1 <;> rcases List.mem_append.1 hr with h2 | h2
    · exact h.b q h1 r h2 x hx hy
    · rw [List.mem_singleton] at h2
      rw [h2] at hy
      exact (hn q h1 x (.inl hx)).2 hx hy
    · rw [List.mem_singleton] at h1
      rw [h1] at hx
      exact (hn r h2 x (.inr hy)).1 hx
    · rw [List.mem_singleton] at h1 h2
      rw [h1] at hx
      rw [h2] at hy
      exact hs x hx hy
/-- The first one is written over. -/
theorem Rst.tail (h : Rst F H lo G (p :: ps)) (kp : Kp (fun b => G b ∨ p.a.at b) H H') (hG : ∀ x, G' x → x < H.size → G x ∨ p.a.at x) : Rst F H' lo G' ps := by
  have hp := h.d
  rw [List.pairwise_cons] at hp
  have key : ∀ q ∈ ps, ∀ x, q.a.at x ∨ q.b.at x → ¬ (G x ∨ p.a.at x) := fun q hq x hx hh => by
    rcases hh with hh | hh
    · exact (h.g q (List.mem_cons_of_mem _ hq) x hx).2 hh
    · rcases hx with hx | hx
      · exact hp.1 q hq x hh hx
      · exact h.b p List.mem_cons_self q (List.mem_cons_of_mem _ hq) x hh hx
  have hl := h.lt
  refine ⟨fun q hq => ?_, fun q hq x hx => ⟨(h.g q (List.mem_cons_of_mem _ hq) x hx).1, fun hh => key q hq x hx (hG x hh (hl q (List.mem_cons_of_mem _ hq) x hx))⟩, hp.2, fun q hq r hr => h.b q (List.mem_cons_of_mem _ hq) r (List.mem_cons_of_mem _ hr)⟩
  obtain ⟨h1, h2, h3⟩ := h.e q (List.mem_cons_of_mem _ hq)
  exact ⟨h1.kp kp fun x hx => key q hq x (.inl hx), h2.kp kp fun x hx => key q hq x (.inr hx), h3⟩
end

/-- Behind the script: every list is what it was; then each is written full. -/
theorem c24_1 {H0 H : Hp} {msl wsl isl jsl : Sl} {PS : List (PP Mk)} {QS : List (PP Int)} {Q : Bool → Hp → Prop} (hP : Rst mF H H0.size No PS) (hQS : Rst iF H H0.size No QS) (h5 : Lst s41 H msl (PS.map (·.a))) (h6 : Lst s41 H wsl (PS.map (·.b))) (h7 : Lst s50 H isl (QS.map (·.a))) (h8 : Lst s50 H jsl (QS.map (·.b)))
    (hlo : H0.size ≤ H.size) (hk : Kp No H0 H) (hpl : PS.length ≤ 2000000) (hql : QS.length ≤ 2000000) (hQ : ∀ H', Kp No H0 H' → Q true H') : F24_1 Q msl wsl isl jsl H := by
  intro H1 e1
  have k1 : Kp No H H1 := (Kp.refl No _).push' e1
  have s1 := size_push' e1
  have r1 : Row H1 H.size 64 [Sl.v Sl.nil, Sl.v Sl.nil, .int .i64 0] := Row.new' e1
  have n5 := h5.n
  have n6 := h6.n
  have n7 := h7.n
  have n8 := h8.n
  rw [List.length_map] at n5 n6 n7 n8
  have b1 : Bk (fun b => b = H.size) (fun b => b = H.size) H1 H.size [] [] := ⟨⟨Sl.nil, Sl.nil, 0, r1, Lst.nil _ _, Lst.nil _ _, fun b hb => (by cases hb), fun b hb => (by cases hb)⟩, rfl, fun _ h => h, fun i s hi => (by simp at hi), fun i s hi => (by simp at hi), rfl, rfl, fun b hb => by omega, fun s hs => by simp at hs⟩
  -- the second loop
  have marks : ∀ (V G : Nat → Prop) (HH : Hp) (IS : List Sl), Bk V G HH H.size [] IS → Rst mF HH H0.size G PS → Lst s41 HH msl (PS.map (·.a)) → Lst s41 HH wsl (PS.map (·.b)) → (∀ x, G x → ¬ msl.at x ∧ ¬ wsl.at x ∧ H0.size ≤ x) → Kp No H0 HH → IS.length ≤ 8000000 → F24_7 Q msl wsl ⟨H.size, 0, none⟩ HH := by
    intro V G HH IS hb hr l5 l6 hG hk' hil X hX
    suffices G2 : ∀ (d i : Nat) (rest : List (PP Mk)) (V G : Nat → Prop) (HH : Hp) (MS : List Sl), i + d = PS.length → rest = PS.drop i → MS.length = 4 * i → Bk V G HH H.size MS IS → Rst mF HH H0.size G rest → Lst s41 HH msl (PS.map (·.a)) → Lst s41 HH wsl (PS.map (·.b)) → (∀ x, G x → ¬ msl.at x ∧ ¬ wsl.at x ∧ H0.size ≤ x) → Kp No H0 HH → X (i : Int) HH from
      G2 PS.length 0 PS V G HH [] (by omega) rfl rfl hb hr l5 l6 hG hk'
    intro d
    induction d with
    | zero =>
      intro i rest V G HH MS hi hrest hms hb hr l5 l6 hG hk'
      exact hX _ _ ⟨fun hh => absurd (of_decide_eq_true hh) (by omega), fun _ => c28 hb (by omega) (by omega) (hQ HH hk')⟩
    | succ d ih =>
      intro i rest V G HH MS hi hrest hms hb hr l5 l6 hG hk'
      have hil : i < PS.length := by omega
      obtain ⟨p, gp⟩ : ∃ p, PS[i]? = some p := ⟨_, List.getElem?_eq_getElem hil⟩
      have hrest' : rest = p :: PS.drop (i + 1) := by
        rw [hrest, List.drop_eq_getElem_cons hil]
        rw [List.getElem?_eq_getElem hil] at gp
        injection gp with gp
        rw [gp]
      subst hrest'
      obtain ⟨la, lb, ll⟩ := hr.e p List.mem_cons_self
      have gp5 : (PS.map (·.a))[i]? = some p.a := by rw [List.getElem?_map, gp]; rfl
      have gp6 : (PS.map (·.b))[i]? = some p.b := by rw [List.getElem?_map, gp]; rfl
      obtain ⟨a, ha, _, ca⟩ := l5.rd.get gp5
      obtain ⟨c, hc, _, cc⟩ := l6.rd.get gp6
      have hsz := hk'.size
      refine hX _ _ ⟨fun _ => ⟨a, ha, by omega, by omega, p.a, ca.1, c, hc, by omega, by omega, p.b, cc.1, c23 la.rd lb.rd (by omega) (by omega) ?_⟩, fun hh => absurd (of_decide_eq_false hh) (by omega)⟩
      rw [decide_eq_true rfl]
      refine ⟨fun hh => (by cases hh), fun _ => ⟨a, ha, by omega, by omega, p.a, ca.1, c25 hb la (fun x hx => (hr.g p List.mem_cons_self x (.inl hx)).2) (by omega) (by omega) fun H' V' g1 g2 g3 g4 hb' k' => ?_⟩⟩
      have ks := k'.size
      rw [wr (by omega) (by omega)]
      have t5 : ∀ x, (G x ∨ p.a.at x) → ¬ msl.at x := fun x hx hm => by
        rcases hx with hx | hx
        · exact (hG x hx).1 hm
        · exact (la.row hx).elim fun _ h1 => (l5.row hm).elim fun _ h2 => h1.ne_type h2 (by decide) rfl
      have t6 : ∀ x, (G x ∨ p.a.at x) → ¬ wsl.at x := fun x hx hm => by
        rcases hx with hx | hx
        · exact (hG x hx).2.1 hm
        · exact (la.row hx).elim fun _ h1 => (l6.row hm).elim fun _ h2 => h1.ne_type h2 (by decide) rfl
      have lo' : ∀ x, (G x ∨ p.a.at x) → H0.size ≤ x := fun x hx => by
        rcases hx with hx | hx
        · exact (hG x hx).2.2
        · exact (hr.g p List.mem_cons_self x (.inl hx)).1
      refine ih (i + 1) _ V' _ H' _ (by omega) rfl (by simp; omega) hb' (hr.tail k' fun x hx hl => ?_) (l5.kp k' fun x hx hh => t5 x hh hx) (l6.kp k' fun x hx hh => t6 x hh hx) (fun x hx => ?_) (hk'.trans k' fun x hx => .inr (lo' x hx))
      · rcases hx with hx | hx | hx
        · exact .inl hx
        · exact .inr hx
        · omega
      · rcases hx with hx | hx | hx
        · exact hG x hx
        · exact ⟨t5 x (.inr hx), t6 x (.inr hx), lo' x (.inr hx)⟩
        · exact ⟨fun hm => by have := l5.lt hm; omega, fun hm => by have := l6.lt hm; omega, by omega⟩
  -- the first loop
  intro X hX
  suffices G2 : ∀ (d i : Nat) (rest : List (PP Int)) (V G : Nat → Prop) (HH : Hp) (IS : List Sl), i + d = QS.length → rest = QS.drop i → IS.length = 4 * i → Bk V G HH H.size [] IS → Rst iF HH H0.size G rest → Rst mF HH H0.size G PS → Lst s50 HH isl (QS.map (·.a)) → Lst s50 HH jsl (QS.map (·.b)) → Lst s41 HH msl (PS.map (·.a)) → Lst s41 HH wsl (PS.map (·.b)) →
      (∀ x, G x → ¬ isl.at x ∧ ¬ jsl.at x ∧ ¬ msl.at x ∧ ¬ wsl.at x ∧ H0.size ≤ x) → Kp No H0 HH → X (i : Int) HH from
    G2 QS.length 0 QS _ _ H1 [] (by omega) rfl rfl b1 (hQS.kp k1 (fun _ h => h.elim) fun x hx hl => by omega) (hP.kp k1 (fun _ h => h.elim) fun x hx hl => by omega) (h7.kp k1 fun _ _ => id) (h8.kp k1 fun _ _ => id) (h5.kp k1 fun _ _ => id) (h6.kp k1 fun _ _ => id)
      (fun x hx => ⟨fun hm => by have := h7.lt hm; omega, fun hm => by have := h8.lt hm; omega, fun hm => by have := h5.lt hm; omega, fun hm => by have := h6.lt hm; omega, by omega⟩) (hk.trans k1 fun _ h => h.elim)
  intro d
  induction d with
  | zero =>
    intro i rest V G HH IS hi hrest his hb hr hp l7 l8 l5 l6 hG hk'
    exact hX _ _ ⟨fun hh => absurd (of_decide_eq_true hh) (by omega), fun _ => marks V G HH IS hb hp l5 l6 (fun x hx => ⟨(hG x hx).2.2.1, (hG x hx).2.2.2.1, (hG x hx).2.2.2.2⟩) hk' (by omega)⟩
  | succ d ih =>
    intro i rest V G HH IS hi hrest his hb hr hp l7 l8 l5 l6 hG hk'
    have hil : i < QS.length := by omega
    obtain ⟨p, gp⟩ : ∃ p, QS[i]? = some p := ⟨_, List.getElem?_eq_getElem hil⟩
    have hrest' : rest = p :: QS.drop (i + 1) := by
      rw [hrest, List.drop_eq_getElem_cons hil]
      rw [List.getElem?_eq_getElem hil] at gp
      injection gp with gp
      rw [gp]
    subst hrest'
    obtain ⟨la, lb, ll⟩ := hr.e p List.mem_cons_self
    have gp7 : (QS.map (·.a))[i]? = some p.a := by rw [List.getElem?_map, gp]; rfl
    have gp8 : (QS.map (·.b))[i]? = some p.b := by rw [List.getElem?_map, gp]; rfl
    obtain ⟨a, ha, _, ca⟩ := l7.rd.get gp7
    obtain ⟨c, hc, _, cc⟩ := l8.rd.get gp8
    have hsz := hk'.size
    refine hX _ _ ⟨fun _ => ⟨a, ha, by omega, by omega, p.a, ca.1, c, hc, by omega, by omega, p.b, cc.1, c26 la.rd lb.rd (by omega) (by omega) ?_⟩, fun hh => absurd (of_decide_eq_false hh) (by omega)⟩
    rw [decide_eq_true rfl]
    refine ⟨fun hh => (by cases hh), fun _ => ⟨a, ha, by omega, by omega, p.a, ca.1, c27 hb la (fun x hx => (hr.g p List.mem_cons_self x (.inl hx)).2) (by omega) (by omega) fun H' V' g1 g2 g3 g4 hb' k' => ?_⟩⟩
    have ks := k'.size
    rw [wr (by omega) (by omega)]
    have nt : ∀ {s : Sl} {u : Nat} {L : List Sl} {F : Fmt Sl u 1}, Lst F HH s L → u ≠ 3 → (∀ x, G x → ¬ s.at x) → ∀ x, (G x ∨ p.a.at x) → ¬ s.at x := fun {s u L F} hs hu hg x hx hm => by
      rcases hx with hx | hx
      · exact hg x hx hm
      · exact (la.row hx).elim fun _ h1 => (hs.row hm).elim fun _ h2 => h1.ne_type h2 (Ne.symm hu) rfl
    have t7 := nt l7 (by decide) fun x hx => (hG x hx).1
    have t8 := nt l8 (by decide) fun x hx => (hG x hx).2.1
    have t5 := nt l5 (by decide) fun x hx => (hG x hx).2.2.1
    have t6 := nt l6 (by decide) fun x hx => (hG x hx).2.2.2.1
    have lo' : ∀ x, (G x ∨ p.a.at x) → H0.size ≤ x := fun x hx => by
      rcases hx with hx | hx
      · exact (hG x hx).2.2.2.2
      · exact (hr.g p List.mem_cons_self x (.inl hx)).1
    have hp' : Rst mF H' H0.size (fun b => G b ∨ p.a.at b ∨ (HH.size ≤ b ∧ b < H'.size)) PS := by
      have key : ∀ x, p.a.at x → ∀ q ∈ PS, ¬ (q.a.at x ∨ q.b.at x) := fun x hx q hq hh => by
        refine (la.row hx).elim fun _ h1 => ?_
        rcases hh with hh | hh
        · exact ((hp.e q hq).1.row hh).elim fun _ h2 => h1.ne_type h2 (by decide) rfl
        · exact ((hp.e q hq).2.1.row hh).elim fun _ h2 => h1.ne_type h2 (by decide) rfl
      refine ⟨fun q hq => ?_, fun q hq x hx => ⟨(hp.g q hq x hx).1, fun hh => ?_⟩, hp.d, hp.b⟩
      · obtain ⟨e1, e2, e3⟩ := hp.e q hq
        refine ⟨e1.kp k' fun x hx hh => ?_, e2.kp k' fun x hx hh => ?_, e3⟩
        · rcases hh with hh | hh
          · exact (hp.g q hq x (.inl hx)).2 hh
          · exact key x hh q hq (.inl hx)
        · rcases hh with hh | hh
          · exact (hp.g q hq x (.inr hx)).2 hh
          · exact key x hh q hq (.inr hx)
      · have := hp.lt q hq x hx
        rcases hh with hh | hh | hh
        · exact (hp.g q hq x hx).2 hh
        · exact key x hh q hq hx
        · omega
    refine ih (i + 1) _ V' _ H' _ (by omega) rfl (by simp; omega) hb' (hr.tail k' fun x hx hl => ?_) hp' (l7.kp k' fun x hx hh => t7 x hh hx) (l8.kp k' fun x hx hh => t8 x hh hx) (l5.kp k' fun x hx hh => t5 x hh hx) (l6.kp k' fun x hx hh => t6 x hh hx) (fun x hx => ?_) (hk'.trans k' fun x hx => .inr (lo' x hx))
    · rcases hx with hx | hx | hx
      · exact .inl hx
      · exact .inr hx
      · omega
    · rcases hx with hx | hx | hx
      · exact hG x hx
      · exact ⟨t7 x (.inr hx), t8 x (.inr hx), t5 x (.inr hx), t6 x (.inr hx), lo' x (.inr hx)⟩
      · exact ⟨fun hm => by have := l7.lt hm; omega, fun hm => by have := l8.lt hm; omega, fun hm => by have := l5.lt hm; omega, fun hm => by have := l6.lt hm; omega, by omega⟩
end Go.Hw
