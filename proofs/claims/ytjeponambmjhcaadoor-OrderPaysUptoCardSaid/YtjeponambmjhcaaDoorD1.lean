/- Contracts: comparing, lengths; begun. Own work of this session. -/
import Derived.Test.YtjeponambmjhcaaDoorC6
set_option linter.unusedVariables false
namespace Go.Hw
open Go

theorem seq_refl (x : ByteArray) : seq x x = true := by simp [seq]

theorem c14 {ta tb : ByteArray} {ma mb : Int} {sa sb : Sl} {va vb : List VT} {H : Hp} {Q : Bool → Hp → Prop} (ha : RdL vF H sa va) (hb : RdL vF H sb vb) (hl : va.length ≤ 1048576) (e : (⟨ta, ma, va⟩ : EV) = ⟨tb, mb, vb⟩)
    (hQ : ∀ H', Kp No H H' → Q true H') : F29 ta ma sa tb mb sb H Q := by
  injection e with e1 e2 e3
  subst e1 e2 e3
  intro H1 e1 H3 e3
  have k3 := ((Kp.refl No H).push' e1).push' e3
  have r1 := (Row.new' e1).push' e3
  have r3 := Row.new' e3
  have ha3 := ha.kp0 k3
  have hb3 := hb.kp0 k3
  have hna := ha3.n
  have hnb := hb3.n
  have key : F29_1 Q ⟨H.size, 0, none⟩ ⟨H1.size, 0, none⟩ false H3 := by
    refine ⟨fun h => (by cases h), fun _ => ?_⟩
    intro X hX
    suffices G : ∀ (d i : Nat), i + d = va.length → X i H3 from G va.length 0 (by omega)
    intro d
    induction d with
    | zero => exact fun i hi => hX _ _ ⟨_, r1.cell_of (i := 2) rfl, fun hb => absurd (of_decide_eq_true hb) (by omega), fun _ => hQ H3 k3⟩
    | succ d ih =>
      intro i hi
      have hx : va[i]? = some (va[i]'(by omega)) := List.getElem?_eq_getElem (by omega)
      generalize va[i]'(by omega) = x at hx
      obtain ⟨a, haa, hi0, ca⟩ := ha3.get hx
      obtain ⟨a', haa', hi0', ca'⟩ := hb3.get hx
      refine hX _ _ ⟨_, r1.cell_of (i := 2) rfl, fun _ => ⟨_, r1.cell_of (i := 2) rfl, a, haa, by omega, by omega, _, _, _, _, ca, _, r3.cell_of (i := 2) rfl, a', haa', by omega, by omega, _, _, _, _, ca', fun hq => ?_, fun _ => ?_⟩, fun hb => absurd (of_decide_eq_false hb) (by omega)⟩
      · simp [seq_refl] at hq
      · rw [wr (by omega) (by omega)]
        exact ih (i + 1) (by omega)
  refine ⟨_, r1.cell_of (i := 0) rfl, _, r3.cell_of (i := 0) rfl, fun h => by simp [seq_refl] at h, fun _ => ⟨_, r1.cell_of (i := 1) rfl, _, r3.cell_of (i := 1) rfl, fun h => by simp at h, fun _ => ⟨_, r1.cell_of (i := 2) rfl, _, r3.cell_of (i := 2) rfl, ?_⟩⟩⟩
  rw [decide_eq_false (by omega)]
  exact key

theorem c12 {p q : Sl} {E G : List EC} {H : Hp} {Q : Bool → Hp → Prop} (hp : RdL eF H p E) (hq : RdL eF H q G) (vp : Vals H E) (vq : Vals H G) (hl : E.length ≤ 1048576) (e : E.map EC.ev = G.map EC.ev) (hQ : ∀ H', Kp No H H' → Q true H') : F18 p q H Q := by
  have hnp := hp.n
  have hnq := hq.n
  have hll := congrArg List.length e
  rw [List.length_map, List.length_map] at hll
  refine ⟨fun h => absurd (of_decide_eq_true h) (by omega), fun _ => ?_⟩
  intro X hX
  suffices GG : ∀ (d i : Nat) (H1 : Hp), i + d = E.length → Kp No H H1 → X i H1 from GG E.length 0 H (by omega) (Kp.refl _ _)
  intro d
  induction d with
  | zero => exact fun i H1 hi k => hX _ _ ⟨fun hb => absurd (of_decide_eq_true hb) (by omega), fun _ => hQ H1 k⟩
  | succ d ih =>
    intro i H1 hi k
    have hx : E[i]? = some (E[i]'(by omega)) := List.getElem?_eq_getElem (by omega)
    generalize E[i]'(by omega) = x at hx
    have hy : G[i]? = some (G[i]'(by omega)) := List.getElem?_eq_getElem (by omega)
    generalize G[i]'(by omega) = y at hy
    obtain ⟨a, haa, hi0, ca⟩ := (hp.kp0 k).get hx
    obtain ⟨a', haa', hi0', ca'⟩ := (hq.kp0 k).get hy
    have hxy : x.ev = y.ev := by
      have := congrArg (fun l : List EV => l[i]?) e
      simpa only [List.getElem?_map, hx, hy, Option.map_some, Option.some.injEq] using this
    have vx := vp x (List.mem_of_getElem? hx)
    have vy := vq y (List.mem_of_getElem? hy)
    refine hX _ _ ⟨fun _ => ⟨a, haa, by omega, by omega, _, _, _, ca, a', haa', by omega, by omega, _, _, _, ca', c14 (vx.1.rd.kp0 k) (vy.1.rd.kp0 k) vx.2 hxy fun H2 k2 => ⟨fun h => (by cases h), fun _ => ?_⟩⟩, fun hb => absurd (of_decide_eq_false hb) (by omega)⟩
    rw [wr (by omega) (by omega)]
    exact ih (i + 1) H2 (by omega) (k.trans k2 fun _ => False.elim)

theorem lists_ok {p q : Sl} {R : List EV} {H : Hp} {Q : Bool → Hp → Prop} (hp : Ans H p R) (hq : Ans H q R) (hl : R.length ≤ 1048576) (hQ : ∀ H', Kp No H H' → Q true H') : F18 p q H Q := by
  obtain ⟨E, h1, h2, h3⟩ := hp
  obtain ⟨G, g1, g2, g3⟩ := hq
  exact c12 h1.rd g1.rd h2 g2 (by rw [← List.length_map (f := EC.ev), h3]; exact hl) (h3.trans g3.symm) hQ

/-! ## a pair of gates -/

theorem Ans.no {H H' : Hp} {t : Sl} {R : List EV} (h : Ans H t R) (k : Kp No H H') : Ans H' t R := h.kp k (fun _ _ => False.elim) (fun _ _ => False.elim)

theorem out_len (m : Int) (C : List NE) : (out m C).length ≤ C.length := by
  unfold out
  rw [(isort_perm _).length_eq]
  exact List.length_filter_le ..

theorem push_len {s : St} (ok : s.Ok) (e : EV) : ((push s e).1.map NE.e).length ≤ 1048576 := by
  have := ok.len
  have := ok.room
  rw [List.length_map]
  unfold push
  split
  · simp
  · split
    · simp
    · split
      · simp
      · have := out_len (mark' s e.tm) (s.C ++ [(⟨s.count + 1, e⟩ : NE)])
        simp at this ⊢
        omega

theorem advance_len {s : St} (ok : s.Ok) (now : Int) : ((advance s now).1.map NE.e).length ≤ 1048576 := by
  have := ok.len
  have := ok.room
  rw [List.length_map]
  unfold advance
  split
  · simp
  · have := out_len (mark' s now) s.C
    simp at this ⊢
    omega

theorem isort_len {s : St} (ok : s.Ok) : ((isort s.C).map NE.e).length ≤ 1048576 := by
  have := ok.len
  have := ok.room
  rw [List.length_map, (isort_perm _).length_eq]
  omega

theorem push_count {s : St} (e : EV) : (push s e).2.2.count ≤ s.count + 1 := by
  unfold push
  split
  · show s.count ≤ _; omega
  · split
    · show s.count ≤ _; omega
    · split
      · show s.count ≤ _; omega
      · exact Int.le_refl _

theorem advance_count {s : St} (now : Int) : (advance s now).2.2.count ≤ s.count + 1 := by
  unfold advance
  split
  · show s.count ≤ _; omega
  · show s.count ≤ _; omega

instance (a b : Int) : Decidable (badNew a b) := inferInstanceAs (Decidable (_ ∨ _))
def gs1 : St := ⟨10, 3, 1, 5, 0, [⟨1, ⟨S_a, 5, []⟩⟩]⟩

def gs2 : St := ⟨10, 3, 2, 12, 2, [⟨1, ⟨S_a, 5, []⟩⟩, ⟨2, ⟨S_b, 12, []⟩⟩]⟩

def gs3 : St := ⟨10, 3, 3, 12, 2, [⟨1, ⟨S_a, 5, []⟩⟩, ⟨2, ⟨S_b, 12, []⟩⟩, ⟨3, ⟨S_c, 3, []⟩⟩]⟩

def gs5 : St := ⟨10, 3, 4, 13, 3, [⟨1, ⟨S_a, 5, []⟩⟩, ⟨2, ⟨S_b, 12, []⟩⟩, ⟨4, ⟨S_e, 13, []⟩⟩]⟩

theorem gp1 : push (st0 10 3) ⟨S_a, 5, []⟩ = ([], 0, gs1) := rfl

theorem gp2 : push gs1 ⟨S_b, 12, []⟩ = ([], 0, gs2) := rfl

theorem gp3 : push gs2 ⟨S_c, 3, []⟩ = ([], 0, gs3) := rfl

theorem gp4 : push gs3 ⟨S_d, 1, []⟩ = ([], 180, gs3) := rfl

theorem gp5 : push gs3 ⟨S_e, 13, []⟩ = ([⟨3, ⟨S_c, 3, []⟩⟩], 0, gs5) := rfl

theorem gi5 : isort gs5.C = gs5.C := rfl

theorem step6 {H H0 : Hp} {g hb : Nat} {sl : Sl} {s s' : St} {ty : ByteArray} {tm e : Int} {R : List NE} {Q : Sl → Int → Hp → Prop} (hp : PA H g hb sl s) (ok : s.Ok) (hc : s.count ≤ 4) (k : Kp No H0 H) (hg : ∀ b, fp g hb sl b → H0.size ≤ b) (he : push s ⟨ty, tm, []⟩ = (R, e, s'))
    (hQ : ∀ r H' sl', PA H' g hb sl' s' → s'.Ok → Ans H' r (R.map NE.e) → Kp No H0 H' → (∀ b, fp g hb sl' b → H0.size ≤ b) → Kp (fp g hb sl) H H' → (∀ b, r.at b → ¬ fp g hb sl' b) → Q r e H') :
    F8 ty tm H fun t0 t1 t2 H' => F7 (some ⟨g, 0, none⟩) t0 t1 t2 H' Q := by
  refine c24 fun H1 k1 => ?_
  obtain ⟨L, hp⟩ := hp
  have hp1 := hp.no k1
  have ok' := push_ok ok (e := ⟨ty, tm, []⟩) (by simp)
  rw [he] at ok'
  refine c23 hp1 ok (by omega) (RdL.nil vF H1) (fun a ha => by cases ha) (by simp) fun r H2 sl2 hp2 a2 k2 hs2 hr2 => ?_
  rw [he] at hp2 a2 ⊢
  have := k.size
  have := k1.size
  refine hQ r H2 sl2 hp2 ok' a2 ((k.trans k1 fun _ => False.elim).trans k2 fun b hb => .inr (hg b hb)) (fun b hb => ?_) ((k1.mono fun _ _ => False.elim).trans k2 fun _ => .inl) fun b hb hf => ?_
  · rcases hb with h | h | h
    · exact hg b (.inl h)
    · exact hg b (.inr (.inl h))
    · rcases hs2 b h with h | h
      · exact hg b (.inr (.inr h))
      · omega
  · obtain ⟨L2, hp2⟩ := hp2
    obtain ⟨E, h1, _⟩ := a2
    rcases hf with h | h | h
    · exact h1.ne hp2.row (by decide) (h ▸ hb)
    · exact h1.ne hp2.hrow (by decide) (h ▸ hb)
    · exact h1.disj hp2.lst (by decide) hb h

theorem Ans.n {H : Hp} {r : Sl} {R : List EV} (h : Ans H r R) : r.n = R.length := by
  obtain ⟨E, h1, _, h3⟩ := h
  rw [h1.n, ← h3, List.length_map]

theorem c6 {H : Hp} {Q : Bool → Hp → Prop} (hQ : ∀ H', Kp No H H' → Q true H') : F5 H Q := by
  refine c8 (fun hb => absurd hb (by decide)) fun _ H1 g hb hp1 k1 hg hh => ?_
  have hf1 : ∀ b, fp g hb Sl.nil b → H.size ≤ b := fun b hb => by
    rcases hb with h | h | h
    · omega
    · omega
    · cases h
  refine ⟨fun hf => (by cases hf), fun _ => ⟨fun hf => absurd hf (by decide), fun _ => ?_⟩⟩
  refine step6 hp1 (st0_ok (by decide)) (by decide) k1 hf1 gp1 fun r2 H2 sl2 hp2 ok2 a2 k2 hf2 kk2 _ => ?_
  refine step6 hp2 ok2 (by decide) k2 hf2 gp2 fun r3 H3 sl3 hp3 ok3 a3 k3 hf3 kk3 _ => ?_
  refine step6 hp3 ok3 (by decide) k3 hf3 gp3 fun r4 H4 sl4 hp4 ok4 a4 k4 hf4 kk4 _ => ?_
  refine step6 hp4 ok4 (by decide) k4 hf4 gp4 fun r5 H5 sl5 hp5 ok5 a5 k5 hf5 kk5 _ => ?_
  refine step6 hp5 ok5 (by decide) k5 hf5 gp5 fun r6 H6 sl6 hp6 ok6 a6 k6 hf6 kk6 hd6 => ?_
  have n2 : r2.n = 0 := a2.n
  have n3 : r3.n = 0 := a3.n
  have n4 : r4.n = 0 := a4.n
  have yes : ∀ {p : Bool} {A B : Prop}, p = true → A → ((p = true → A) ∧ (p = false → B)) := fun hp ha => ⟨fun _ => ha, fun hf => by rw [hp] at hf; cases hf⟩
  refine yes rfl (yes rfl (yes rfl (yes rfl (yes rfl (yes ?_ ?_)))))
  · rw [n2, n3, n4]; decide
  obtain ⟨L6, hp6⟩ := hp6
  refine c24 fun H7 k7 H8 e8 => ?_
  have k78 := k7.push' e8
  have b8 : Row H8 H7.size 33 (eF.f ⟨S_c, 3, Sl.nil, []⟩) := Row.new' e8
  have a8 := a6.no k78
  obtain ⟨E, hE, vE, eE⟩ := a8
  have lE := congrArg List.length eE
  rw [List.length_map] at lE
  refine c12 hE.rd (Row.rdl1 b8) vE (fun x hx => ?_) (by rw [lE]; decide) (eE.trans rfl) fun H9 k9 => ?_
  · rw [List.mem_singleton] at hx
    subst hx
    exact ⟨Lst.nil _ _, by simp⟩
  have hp9 := (hp6.no k78).no k9
  refine yes rfl (c18 hp9 (yes rfl (c19 hp9 ok6 fun r10 H10 a10 k10 hr10 => ?_)))
  refine c24 fun H11 k11 => c24 fun H12 k12 => c24 fun H13 k13 H14 e14 => ?_
  have k1014 : Kp No H10 H14 := ((k11.trans k12 fun _ => False.elim).trans k13 fun _ => False.elim).push' e14
  have b14 : Row H14 H13.size 33 ([(⟨S_a, 5, Sl.nil, []⟩ : EC), ⟨S_b, 12, Sl.nil, []⟩, ⟨S_e, 13, Sl.nil, []⟩].flatMap eF.f) := Row.new' e14
  have a14 := a10.no k1014
  obtain ⟨E', hE', vE', eE'⟩ := a14
  have lE' := congrArg List.length eE'
  rw [List.length_map] at lE'
  refine c12 hE'.rd (Row.rdl b14 rfl _) vE' (fun x hx => ?_) (by rw [lE']; decide) (eE'.trans rfl) fun H15 k15 => ?_
  · have : x.sl = Sl.nil ∧ x.vs = [] := by
      simp only [List.mem_cons, List.not_mem_nil, or_false] at hx
      rcases hx with rfl | rfl | rfl <;> exact ⟨rfl, rfl⟩
    rw [this.1, this.2]
    exact ⟨Lst.nil _ _, by simp⟩
  · exact hQ H15 ((((k6.trans k78 fun _ => False.elim).trans k9 fun _ => False.elim).trans k10 fun _ => False.elim).trans (k1014.trans k15 fun _ => False.elim) fun _ => False.elim)

end Go.Hw
