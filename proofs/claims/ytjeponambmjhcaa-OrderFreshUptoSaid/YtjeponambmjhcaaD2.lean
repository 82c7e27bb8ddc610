/- Contracts: begun; OrderAll. Own work of this session. -/
import Derived.Test.YtjeponambmjhcaaD1
set_option linter.unusedVariables false
namespace Go.Hw
open Go


instance (a b : Int) : Decidable (badNew a b) := inferInstanceAs (Decidable (_ ∨ _))
def gs1 : St := ⟨10, 3, 1, 5, 0, [⟨1, ⟨S_a, 5, []⟩⟩]⟩
def gs2 : St := ⟨10, 3, 2, 12, 2, [⟨1, ⟨S_a, 5, []⟩⟩, ⟨2, ⟨S_b, 12, []⟩⟩]⟩
def gs3 : St := ⟨10, 3, 3, 12, 2, [⟨1, ⟨S_a, 5, []⟩⟩, ⟨2, ⟨S_b, 12, []⟩⟩, ⟨3, ⟨S_c, 3, []⟩⟩]⟩
def gs5 : St := ⟨10, 3, 4, 13, 3, [⟨1, ⟨S_a, 5, []⟩⟩, ⟨2, ⟨S_b, 12, []⟩⟩, ⟨4, ⟨S_e, 13, []⟩⟩]⟩
theorem gp1 : push (st0 10 3) ⟨S_a, 5, []⟩ = ([], 0, gs1) := rfl
theorem gp2 : push gs1 ⟨S_b, 12, []⟩ = ([], 0, gs2) := rfl
theorem gp3 : push gs2 ⟨S_c, 3, []⟩ = ([], 0, gs3) := rfl
theorem gp4 : push gs3 ⟨S_d, 1, []⟩ = ([], 180, gs3) := rfl
theorem gp5 : push gs3 ⟨S_e, 13, []⟩ = ([⟨3, ⟨S_c, 3, []⟩⟩], 0, gs5) := rfl
theorem gi5 : isort gs5.C = gs5.C := rfl

/-- A step of 'begun': an event of a name and a time is pushed. -/
theorem step6 {H H0 : Hp} {g hb : Nat} {sl : Sl} {s s' : St} {ty : ByteArray} {tm e : Int} {R : List NE} {Q : Sl → Int → Hp → Prop} (hp : PA H g hb sl s) (ok : s.Ok) (hc : s.count ≤ 4) (k : Kp No H0 H) (hg : ∀ b, fp g hb sl b → H0.size ≤ b) (he : push s ⟨ty, tm, []⟩ = (R, e, s'))
    (hQ : ∀ r H' sl', PA H' g hb sl' s' → s'.Ok → Ans H' r (R.map NE.e) → Kp No H0 H' → (∀ b, fp g hb sl' b → H0.size ≤ b) → Kp (fp g hb sl) H H' → (∀ b, r.at b → ¬ fp g hb sl' b) → Q r e H') :
    F24 ty tm H fun t0 t1 t2 H' => F23 (some ⟨g, 0, none⟩) t0 t1 t2 H' Q := by
  refine c24 fun H1 k1 => ?_
  obtain ⟨L, hp⟩ := hp
  have hp1 := hp.no k1
  have ok' := push_ok ok (e := ⟨ty, tm, []⟩) (by simp)
  rw [he] at ok'
  refine c23 hp1 ok (by omega) (RdL.nil vF H1) (fun a ha => by cases ha) (by simp) fun r H2 sl2 hp2 a2 k2 hs2 hr2 => ?_
  rw [he] at hp2 a2 ⊢
  have := k.size
  have := k1.size
  refine hQ r H2 sl2 hp2 ok' a2 ((k.trans k1 fun _ => False.elim).trans k2 fun b hb => .inr (hg b hb)) (fun b hb => ?_) ((k1.mono fun _ _ => False.elim).trans k2 fun _ => .inl) fun b hb hf => ?_
  · rcases hb with h | h | h
    · exact hg b (.inl h)
    · exact hg b (.inr (.inl h))
    · rcases hs2 b h with h | h
      · exact hg b (.inr (.inr h))
      · omega
  · obtain ⟨L2, hp2⟩ := hp2
    obtain ⟨E, h1, _⟩ := a2
    rcases hf with h | h | h
    · exact h1.ne hp2.row (by decide) (h ▸ hb)
    · exact h1.ne hp2.hrow (by decide) (h ▸ hb)
    · exact h1.disj hp2.lst (by decide) hb h

theorem Ans.n {H : Hp} {r : Sl} {R : List EV} (h : Ans H r R) : r.n = R.length := by
  obtain ⟨E, h1, _, h3⟩ := h
  rw [h1.n, ← h3, List.length_map]

theorem c6 {H : Hp} {Q : Bool → Hp → Prop} (hQ : ∀ H', Kp No H H' → Q true H') : F6 H Q := by
  refine c8 (fun hb => absurd hb (by decide)) fun _ H1 g hb hp1 k1 hg hh => ?_
  have hf1 : ∀ b, fp g hb Sl.nil b → H.size ≤ b := fun b hb => by
    rcases hb with h | h | h
    · omega
    · omega
    · cases h
  refine ⟨fun hf => (by cases hf), fun _ => ⟨fun hf => absurd hf (by decide), fun _ => ?_⟩⟩
  refine step6 hp1 (st0_ok (by decide)) (by decide) k1 hf1 gp1 fun r2 H2 sl2 hp2 ok2 a2 k2 hf2 kk2 _ => ?_
  refine step6 hp2 ok2 (by decide) k2 hf2 gp2 fun r3 H3 sl3 hp3 ok3 a3 k3 hf3 kk3 _ => ?_
  refine step6 hp3 ok3 (by decide) k3 hf3 gp3 fun r4 H4 sl4 hp4 ok4 a4 k4 hf4 kk4 _ => ?_
  refine step6 hp4 ok4 (by decide) k4 hf4 gp4 fun r5 H5 sl5 hp5 ok5 a5 k5 hf5 kk5 _ => ?_
  refine step6 hp5 ok5 (by decide) k5 hf5 gp5 fun r6 H6 sl6 hp6 ok6 a6 k6 hf6 kk6 hd6 => ?_
  have n2 : r2.n = 0 := a2.n
  have n3 : r3.n = 0 := a3.n
  have n4 : r4.n = 0 := a4.n
  have yes : ∀ {p : Bool} {A B : Prop}, p = true → A → ((p = true → A) ∧ (p = false → B)) := fun hp ha => ⟨fun _ => ha, fun hf => by rw [hp] at hf; cases hf⟩
  refine yes rfl (yes rfl (yes rfl (yes rfl (yes rfl (yes ?_ ?_)))))
  · rw [n2, n3, n4]; decide
  obtain ⟨L6, hp6⟩ := hp6
  refine c24 fun H7 k7 H8 e8 => ?_
  have k78 := k7.push' e8
  have b8 : Row H8 H7.size 32 (eF.f ⟨S_c, 3, Sl.nil, []⟩) := Row.new' e8
  have a8 := a6.no k78
  obtain ⟨E, hE, vE, eE⟩ := a8
  have lE := congrArg List.length eE
  rw [List.length_map] at lE
  refine c12 hE.rd (Row.rdl1 b8) vE (fun x hx => ?_) (by rw [lE]; decide) (eE.trans rfl) fun H9 k9 => ?_
  · rw [List.mem_singleton] at hx
    subst hx
    exact ⟨Lst.nil _ _, by simp⟩
  have hp9 := (hp6.no k78).no k9
  refine yes rfl (c18 hp9 (yes rfl (c19 hp9 ok6 fun r10 H10 a10 k10 hr10 => ?_)))
  refine c24 fun H11 k11 => c24 fun H12 k12 => c24 fun H13 k13 H14 e14 => ?_
  have k1014 : Kp No H10 H14 := ((k11.trans k12 fun _ => False.elim).trans k13 fun _ => False.elim).push' e14
  have b14 : Row H14 H13.size 32 ([(⟨S_a, 5, Sl.nil, []⟩ : EC), ⟨S_b, 12, Sl.nil, []⟩, ⟨S_e, 13, Sl.nil, []⟩].flatMap eF.f) := Row.new' e14
  have a14 := a10.no k1014
  obtain ⟨E', hE', vE', eE'⟩ := a14
  have lE' := congrArg List.length eE'
  rw [List.length_map] at lE'
  refine c12 hE'.rd (Row.rdl b14 rfl _) vE' (fun x hx => ?_) (by rw [lE']; decide) (eE'.trans rfl) fun H15 k15 => ?_
  · have : x.sl = Sl.nil ∧ x.vs = [] := by
      simp only [List.mem_cons, List.not_mem_nil, or_false] at hx
      rcases hx with rfl | rfl | rfl <;> exact ⟨rfl, rfl⟩
    rw [this.1, this.2]
    exact ⟨Lst.nil _ _, by simp⟩
  · exact hQ H15 ((((k6.trans k78 fun _ => False.elim).trans k9 fun _ => False.elim).trans k10 fun _ => False.elim).trans (k1014.trans k15 fun _ => False.elim) fun _ => False.elim)

end Go.Hw
