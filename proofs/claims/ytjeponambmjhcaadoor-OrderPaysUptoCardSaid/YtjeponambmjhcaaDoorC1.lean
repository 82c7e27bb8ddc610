/- Contracts: values and events. Own work of this session. -/
import Derived.Test.YtjeponambmjhcaaDoorHwI
import Derived.Test.YtjeponambmjhcaaDoorWalkC
set_option linter.unusedVariables false
namespace Go.Hw
open Go

abbrev No : Nat → Prop := fun _ => False

structure VT where
  a : Int
  b : Int
  s : ByteArray
  f : Bool
def vF : Fmt VT 76 4 := ⟨fun v => [.int .i64 v.a, .int .i64 v.b, .string v.s, .bool v.f], fun _ => rfl, by intro x v hv; simp at hv; rcases hv with rfl | rfl | rfl | rfl <;> rfl, by decide⟩

structure EC where
  ty : ByteArray
  tm : Int
  sl : Sl
  vs : List VT
def eF : Fmt EC 33 3 := ⟨fun e => [.string e.ty, .int .i64 e.tm, Sl.v e.sl], fun _ => rfl, by intro x v hv; simp at hv; rcases hv with rfl | rfl | rfl <;> rfl, by decide⟩
structure HC where
  num : Int
  e : EC
def hF : Fmt HC 56 4 := ⟨fun h => [.int .i64 h.num, .string h.e.ty, .int .i64 h.e.tm, Sl.v h.e.sl], fun _ => rfl, by intro x v hv; simp at hv; rcases hv with rfl | rfl | rfl | rfl <;> rfl, by decide⟩

/-- An event without the place of its values. -/
structure EV where
  ty : ByteArray
  tm : Int
  vs : List VT
def EC.ev (e : EC) : EV := ⟨e.ty, e.tm, e.vs⟩

theorem no_nil {S : Nat → Prop} {H H' : Hp} (k : Kp Sl.nil.at H H') : Kp S H H' := k.mono fun b _ hb => by cases hb

/-- 'append([]Value(nil), l...)' -/
theorem clone_nil {H : Hp} {vs : Sl} {vals : List VT} {K : Sl → Hp → Prop} (h : RdL vF H vs vals) (hl : vals.length ≤ 1048576)
    (hK : ∀ r H', Lst vF H' r vals → Kp No H H' → (∀ b, r.at b → b = H.size) → K r H') :
    AppendF H 76 4 40 #[(.int .i64 0), (.int .i64 0), (.string (ByteArray.mk #[])), (.bool false)] Sl.nil vs.b vs.n K :=
  (Lst.nil vF H).append h rfl (by simp; omega) (by simp; omega) fun r H' h1 h2 h3 => hK r H' h1 (no_nil h2) fun b hb => (h3 b hb).resolve_left (fun h => by cases h)

theorem c46 {vs : Sl} {vals : List VT} {H : Hp} {Q : Sl → Hp → Prop} (h : RdL vF H vs vals) (hl : vals.length ≤ 1048576)
    (hQ : ∀ r H', Lst vF H' r vals → Kp No H H' → (∀ b, r.at b → H.size ≤ b) → Q r H') : F31 vs H Q := by
  refine ⟨fun hn => ?_, fun hs H2 e2 => ?_⟩
  · have : vals = [] := by
      have hr := h.r
      cases hb : vs.b with
      | some a => rw [hb] at hn; cases hn
      | none =>
        rw [hb] at hr
        have := fl_len vF.len vals
        rw [show vals.flatMap vF.f = [] from hr] at this
        exact List.eq_nil_of_length_eq_zero (by simp at this; omega)
    subst this
    exact hQ _ _ (Lst.nil _ _) (Kp.refl _ _) (fun b hb => by cases hb)
  · have k2 := (Kp.refl No H).push' e2
    have s2 := size_push' e2
    refine (Lst.empty (F := vF) (Row.new' e2) rfl (by decide)).append (h.kp0 k2) rfl (by simp; omega) (by simp; omega) fun r H' h1 h2 h3 => ?_
    refine hQ r H' h1 (k2.trans h2 fun b hb => .inr ?_) fun b hb => ?_
    · have : H.size = b := by simpa [Sl.at] using hb
      omega
    · rcases h3 b hb with h | h
      · have : H.size = b := by simpa [Sl.at] using h
        omega
      · omega

theorem c35 {ty : ByteArray} {tm : Int} {vs : Sl} {vals : List VT} {H : Hp} {Q : ByteArray → Int → Sl → Hp → Prop} (h : RdL vF H vs vals) (hl : vals.length ≤ 1048576)
    (hQ : ∀ r H', Lst vF H' r vals → Kp No H H' → (∀ b, r.at b → H.size ≤ b) → Q ty tm r H') : F23 ty tm vs H Q := by
  intro H1 e1 H3 e3
  have k1 := (Kp.refl No H).push' e1
  have k3 := k1.push' e3
  have s1 := size_push' e1
  have s3 := size_push' e3
  have r1 := (Row.new' e1).push' e3
  have r3 := Row.new' e3
  refine ⟨_, r1.cell_of (i := 2) rfl, c46 (h.kp0 k3) hl fun r H7 hr k7 hn => ?_⟩
  have r1 := k7.row r1 id
  have r3 := k7.row r3 id
  have k7 := k3.trans k7 (fun _ => False.elim)
  refine ⟨r1.some (i := 2) (by simp), r1.frz 2, fun H10 e10 => ?_⟩
  have hr := hr.kp ((Kp.refl (fun b => b = H.size) H7).set' e10 (.inl rfl)) (fun b hb hb' => by have := hn b hb; omega)
  have r1' := r1.set' e10
  have r3 := r3.set_ne' e10 (by show H1.size ≠ H.size; omega)
  have k10 := k7.set' e10 (.inr (Nat.le_refl _))
  refine ⟨_, _, _, r1'.all, r3.mayall, fun H18 e18 => ?_⟩
  have hr := hr.kp ((Kp.refl (fun b => b = H1.size) H10).sets' e18 (.inl rfl)) (fun b hb hb' => by have := hn b hb; omega)
  have r3 := r3.fill' e18 rfl
  exact ⟨_, _, _, r3.all, hQ _ _ hr (k10.sets' e18 (.inr k1.size)) fun b hb => by have := hn b hb; have := k3.size; omega⟩

theorem c24 {ty : ByteArray} {tm : Int} {H : Hp} {Q : ByteArray → Int → Sl → Hp → Prop} (hQ : ∀ H', Kp No H H' → Q ty tm Sl.nil H') : F8 ty tm H Q := by
  intro H1 e1
  have r1 := Row.new' e1
  refine ⟨r1.mayall, fun H3 e3 => ⟨_, _, _, (r1.fill' e3 rfl).all, hQ _ (((Kp.refl No H).push' e1).sets' e3 (.inr (Nat.le_refl _)))⟩⟩

theorem c31 {p q : HC} {H : Hp} {Q : Bool → Hp → Prop} (hQ : ∀ H', Kp No H H' → Q (decide (p.e.tm < q.e.tm ∨ p.e.tm = q.e.tm ∧ p.num < q.num)) H') : F19 p.num p.e.ty p.e.tm p.e.sl q.num q.e.ty q.e.tm q.e.sl H Q := by
  intro H1 e1 H3 e3
  have k3 := ((Kp.refl No H).push' e1).push' e3
  have r1 := (Row.new' e1).push' e3
  have r3 := Row.new' e3
  have h := hQ H3 k3
  refine ⟨_, r1.cell_of (i := 2) rfl, _, r3.cell_of (i := 2) rfl, fun hb => ?_, fun hb => ⟨_, r1.cell_of (i := 2) rfl, _, r3.cell_of (i := 2) rfl, fun hc => ⟨_, r1.cell_of (i := 0) rfl, _, r3.cell_of (i := 0) rfl, ?_⟩, fun hc => ?_⟩⟩
  · have hb := of_decide_eq_true hb
    rwa [decide_eq_true (by omega)] at h
  · have hb := of_decide_eq_false hb
    have hc := of_decide_eq_true hc
    have e : (p.e.tm < q.e.tm ∨ p.e.tm = q.e.tm ∧ p.num < q.num) = (p.num < q.num) := propext ⟨fun h => by omega, fun h => .inr ⟨hc, h⟩⟩
    simpa only [e] using h
  · have hb := of_decide_eq_false hb
    have hc := of_decide_eq_false hc
    rwa [decide_eq_false (fun h => h.elim hb fun h => hc h.1)] at h

end Go.Hw
