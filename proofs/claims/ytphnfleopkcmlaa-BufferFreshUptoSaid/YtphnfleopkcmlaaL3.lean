/- BufferPlays: the whole law. Own work of this session. -/
import Derived.Test.YtphnfleopkcmlaaL2
set_option linter.unusedVariables false
namespace Go.Hw
open Go

/-- Three pairs, apart; a box apart from them. -/
structure Three (H0 H : Hp) (b r c s x y : Option Addr) (n m bx : Nat) : Prop where
  ex : ∃ P1 P2 P3, Two P1 H b r n ∧ Two P2 H c s n ∧ Two P3 H x y m ∧ Ap P1 P2 ∧ Ap P1 P3 ∧ Ap P2 P3 ∧ ∀ z, P1 z ∨ P2 z ∨ P3 z → H0.size ≤ z ∧ z ≠ bx
  kp : Kp No H0 H

section
variable {H0 H : Hp} {b r c s x y : Option Addr} {n m bx : Nat} {o : OP5} {Q : Bool → Hp → Prop}
theorem Three.no {H' : Hp} (h : Three H0 H b r c s x y n m bx) (k : Kp No H H') : Three H0 H' b r c s x y n m bx := by
  obtain ⟨P1, P2, P3, h1, h2, h3, h4⟩ := h.ex
  exact ⟨⟨P1, P2, P3, h1.kp k fun _ _ => id, h2.kp k fun _ _ => id, h3.kp k fun _ _ => id, h4⟩, h.kp.trans k fun _ h => h.elim⟩
theorem Three.box {H' : Hp} (h : Three H0 H b r c s x y n m bx) : Three H0 H b r c s x y n m H.size := by
  obtain ⟨P1, P2, P3, h1, h2, h3, h4, h5, h6, h7⟩ := h.ex
  refine ⟨⟨P1, P2, P3, h1, h2, h3, h4, h5, h6, fun z hz => ⟨(h7 z hz).1, Nat.ne_of_lt ?_⟩⟩, h.kp⟩
  rcases hz with hz | hz | hz
  · exact h1.1 z hz
  · exact h2.1 z hz
  · exact h3.1 z hz
theorem Three.s1 (h : Three H0 H b r c s x y n m bx) (hx : Row H bx 34 (oF.f o)) (hr : (!r.isNone) = true) (hn : n ≤ 1000000) (hQ : ∀ H', Three H0 H' b r c s x y (n + 1) m bx → Row H' bx 34 (oF.f o) → Q true H') : F11 b r o.kind o.on o.run o.m.1 o.m.2 H Q := by
  obtain ⟨P1, P2, P3, h1, h2, h3, h4, h5, h6, h7⟩ := h.ex
  have hl := hx.lt
  refine step2 h1 hr hn fun H' h1' k => hQ H' ⟨⟨_, P2, P3, h1', (h2.kp k h4.symm).more (Nat.le_succ _), h3.kp k h5.symm, h4.ext h2.1, h5.ext h3.1, h6, fun z hz => ?_⟩, h.kp.trans k fun z hz => .inr (h7 z (.inl hz)).1⟩ (k.row hx fun hh => (h7 _ (.inl hh)).2 rfl)
  have s := h.kp.size
  rcases hz with (hz | hz) | hz | hz
  · exact h7 z (.inl hz)
  · exact ⟨by omega, by omega⟩
  · exact h7 z (.inr (.inl hz))
  · exact h7 z (.inr (.inr hz))
theorem Three.swap (h : Three H0 H b r c s x y n m bx) : Three H0 H c s b r x y n m bx := by
  obtain ⟨P1, P2, P3, h1, h2, h3, h4, h5, h6, h7⟩ := h.ex
  exact ⟨⟨P2, P1, P3, h2, h1, h3, h4.symm, h6, h5, fun z hz => h7 z (by rcases hz with h | h | h; exact .inr (.inl h); exact .inl h; exact .inr (.inr h))⟩, h.kp⟩
theorem Three.s3 (h : Three H0 H b r c s x y n m bx) (hx : Row H bx 34 (oF.f o)) (hr : (!y.isNone) = true) (hn : m ≤ 1000000) (hQ : ∀ H', Three H0 H' b r c s x y n (m + 1) bx → Row H' bx 34 (oF.f o) → Q true H') : F11 x y o.kind o.on o.run o.m.1 o.m.2 H Q := by
  obtain ⟨P1, P2, P3, h1, h2, h3, h4, h5, h6, h7⟩ := h.ex
  have hl := hx.lt
  refine step2 h3 hr hn fun H' h3' k => hQ H' ⟨⟨P1, P2, _, h1.kp k h5, h2.kp k h6, h3', h4, (h5.symm.ext h1.1).symm, (h6.symm.ext h2.1).symm, fun z hz => ?_⟩, h.kp.trans k fun z hz => .inr (h7 z (.inr (.inr hz))).1⟩ (k.row hx fun hh => (h7 _ (.inr (.inr hh))).2 rfl)
  have s := h.kp.size
  rcases hz with hz | hz | hz | hz
  · exact h7 z (.inl hz)
  · exact h7 z (.inr (.inl hz))
  · exact h7 z (.inr (.inr hz))
  · exact ⟨by omega, by omega⟩
theorem Three.more {n' m' : Nat} (h : Three H0 H b r c s x y n m bx) (hn : n ≤ n') (hm : m ≤ m') : Three H0 H b r c s x y n' m' bx := by
  obtain ⟨P1, P2, P3, h1, h2, h3, h4⟩ := h.ex
  exact ⟨⟨P1, P2, P3, h1.more hn, h2.more hn, h3.more hm, h4⟩, h.kp⟩
/-- Another third pair, newly begun. -/
theorem Three.renew {x' y' : Option Addr} {H' : Hp} (h : Three H0 H b r c s x y n m bx) (hb : bx < H.size) (h3 : Two (fun z => H.size ≤ z ∧ z < H'.size) H' x' y' 0) (k : Kp No H H') : Three H0 H' b r c s x' y' n m bx := by
  obtain ⟨P1, P2, P3, h1, h2, _, h4, h5, h6, h7⟩ := h.ex
  have hs := h.kp.size
  refine ⟨⟨P1, P2, _, h1.kp k fun _ _ => id, h2.kp k fun _ _ => id, h3.more (Nat.zero_le _), h4, fun z hz hz' => ?_, fun z hz hz' => ?_, fun z hz => ?_⟩, h.kp.trans k fun _ h => h.elim⟩
  · have := h1.1 z hz; omega
  · have := h2.1 z hz; omega
  · rcases hz with hz | hz | hz
    · exact h7 z (.inl hz)
    · exact h7 z (.inr (.inl hz))
    · exact ⟨by omega, by omega⟩
theorem Three.none3 (h : Three H0 H b r c s x y n m bx) : x.isNone = y.isNone := by
  obtain ⟨P1, P2, P3, h1, h2, h3, _⟩ := h.ex
  exact h3.isNone

theorem c3_3 {st : Int} {sl : Sl} {X : Bool → Option Addr → Option Addr → Int → Hp → Prop} {i : Nat} (h : Three H0 H b r c s x y (i + 1) i bx) (hx : Row H bx 34 (oF.f o)) (hi : i ≤ 999999)
    (hX : ∀ x y H', Three H0 H' b r c s x y (i + 1) (i + 1) bx → X true x y ((i + 1 : Nat) : Int) H') : F3_3 Q X st sl b r c s x y (i : Int) ⟨bx, 0, none⟩ true H := by
  have hw : IntKind.i64.wrap ((i : Int) + 1) = ((i + 1 : Nat) : Int) := by rw [wr (by omega) (by omega)]; omega
  have six : ∀ x y H', Three H0 H' b r c s x y (i + 1) i bx → Row H' bx 34 (oF.f o) → F3_6 Q X st sl b r c s (i : Int) ⟨bx, 0, none⟩ true x y H' := by
    intro x y H' h' hx'
    refine ⟨fun hh => (by cases hh), fun _ => ⟨fun hy => ⟨_, _, _, _, _, hx'.all, h'.s3 hx' hy (by omega) fun H2 h2 _ => ?_⟩, fun hy => ?_⟩⟩
    · refine ⟨fun hh => (by cases hh), fun _ => ?_⟩
      rw [hw]
      exact hX x y H2 h2
    · refine ⟨fun hh => (by cases hh), fun _ => ?_⟩
      rw [hw]
      exact hX x y H' (h'.more (Nat.le_refl _) (Nat.le_succ _))
  have one : ∀ (b' : Option Addr) (e : Int) (H2 : Hp), Kp No H H2 → ((decide ((i : Int) = (IntKind.i64.wrap (Int.tdiv ((sl).n : Int) (2 : Int))))) = true → (F9 st H2 (fun (r140 : (Option Addr)) (r141 : Int) (H138 : Hp) => 
 F10 st H138 (fun (r144 : (Option Addr)) (r145 : Int) (H142 : Hp) => 
 (true = true → (((decide (r141 = r145)) = true → (F3_6 Q X st sl b r c s (i : Int) ⟨bx, 0, none⟩ ((r140.isNone) == (r144.isNone)) r140 r144 H142)) ∧
 ((decide (r141 = r145)) = false → (F3_6 Q X st sl b r c s (i : Int) ⟨bx, 0, none⟩ false r140 r144 H142)))) ∧
 (true = false → (F3_6 Q X st sl b r c s (i : Int) ⟨bx, 0, none⟩ false r140 r144 H142)))))) ∧
 ((decide ((i : Int) = (IntKind.i64.wrap (Int.tdiv ((sl).n : Int) (2 : Int))))) = false → (F3_6 Q X st sl b r c s (i : Int) ⟨bx, 0, none⟩ true x y H2)) := by
    intro b' e H2 k
    have h2 := h.no k
    have hx2 := k.row hx id
    refine ⟨fun _ => new2 fun H3 b3 e3 r3 t3 k3 => ⟨fun _ => ⟨fun _ => ?_, fun hh => (by rw [eqd] at hh; cases hh)⟩, fun hh => (by cases hh)⟩, fun _ => six x y H2 h2 hx2⟩
    rw [t3.isNone, beq_self_eq_true]
    exact six b3 r3 H3 (h2.renew hx2.lt t3 k3) (k3.row hx2 id)
  refine c9 (fun _ => one none 1 H (Kp.refl _ _)) fun _ H2 g _ k => one (some ⟨g, 0, none⟩) 0 H2 k

/-- The script. -/
theorem c3_L {st : Int} {sl : Sl} {L : List OP5} (h : Three H0 H b r c s none none 0 0 bx) (hsl : RdL oF H0 sl L) (hl : L.length ≤ 999999) (hQ : ∀ H', Kp No H0 H' → Q true H') : F3_L2 Q st sl b r c s true none none 0 H := by
  have hn := hsl.n
  intro X hX
  suffices G : ∀ (d i : Nat) (x y : Option Addr) (bx : Nat) (H : Hp), i + d = L.length → Three H0 H b r c s x y i i bx → X true x y (i : Int) H from G L.length 0 none none bx H (by omega) h
  intro d
  induction d with
  | zero =>
    intro i x y bx H hi h
    exact hX _ _ _ _ _ ⟨fun hh => absurd (of_decide_eq_true hh) (by omega), fun _ => hQ H h.kp⟩
  | succ d ih =>
    intro i x y bx H hi h
    have gi : L[i]? = some (L[i]'(by omega)) := List.getElem?_eq_getElem (by omega)
    generalize L[i]'(by omega) = o at gi
    obtain ⟨p, hp, _, cp⟩ := (hsl.kp0 h.kp).get gi
    refine hX _ _ _ _ _ ⟨fun _ => ⟨p, hp, by omega, by omega, o.kind, o.on, o.run, o.m.1, o.m.2, cp, fun H57 e57 => ?_⟩, fun hh => absurd (of_decide_eq_false hh) (by omega)⟩
    have k57 : Kp No H H57 := (Kp.refl No _).push' e57
    have s57 := size_push' e57
    have z57 : Row H57 H.size 34 [.int .i64 0, .int .i64 0, .int .i64 0, .int .i64 0, .int .i64 0] := Row.new' e57
    refine ⟨z57.mayall, fun H59 e59 => ?_⟩
    have s59 := size_sets' e59
    have hx : Row H59 H.size 34 (oF.f o) := z57.fill' e59 rfl
    have k59 : Kp No H H59 := k57.trans ((Kp.refl (fun b => b = H.size) _).sets' e59 (.inl rfl)) fun _ hb => .inr (by omega)
    have h59 := (h.box (H' := H)).no k59
    have nxt : ∀ H', Three H0 H' b r c s x y (i + 1) i H.size → Row H' H.size 34 (oF.f o) → F3_3 Q X st sl b r c s x y (i : Int) ⟨H.size, 0, none⟩ true H' := fun H' h' hx' =>
      c3_3 h' hx' (by omega) fun x y H2 h2 => ih (i + 1) x y H.size H2 (by omega) h2
    have four : ∀ z : Bool, (z = true → (!r.isNone) = true) → F3_4 Q X st sl true b r c s x y (i : Int) ⟨H.size, 0, none⟩ z H59 := by
      intro z hz
      have five : ∀ z : Bool, (z = true → (!s.isNone) = true) → F3_5 Q X st sl true b r c s x y (i : Int) ⟨H.size, 0, none⟩ z H59 := by
        intro z hz
        refine ⟨fun hh => ⟨_, _, _, _, _, hx.all, h59.swap.s1 hx (hz hh) (by omega) fun H' h' hx' => nxt H' h'.swap hx'⟩, fun _ => nxt H59 (h59.more (Nat.le_succ _) (Nat.le_refl _)) hx⟩
      refine ⟨fun hh => ⟨_, _, _, _, _, hx.all, h59.s1 hx (hz hh) (by omega) nxt⟩, fun _ => ⟨o.on, hx.cell_of (i := 1) rfl, fun _ => five _ fun h => h, fun _ => five false fun h => (by cases h)⟩⟩
    exact ⟨o.on, hx.cell_of (i := 1) rfl, fun _ => four _ fun h => h, fun _ => four false fun h => (by cases h)⟩

theorem c3 {st ot : Int} {sl : Sl} {L : List OP5} (hsl : RdL oF H sl L) (hl : L.length ≤ 999999) (hQ : ∀ H', Kp No H H' → Q true H') : F3 st ot sl H Q := by
  refine c8 fun H1 k1 => ⟨fun hh => (by cases hh), fun _ => ?_⟩
  refine new2 fun H9 b e r t9 k9 => new2 fun H17 c e' s t17 k17 => ?_
  have s1 := k1.size
  have s9 := k9.size
  have s17 := k17.size
  have h : Three H H17 b r c s none none 0 0 H17.size := by
    refine ⟨⟨_, _, fun _ => False, t9.kp k17 fun _ _ => id, t17, ⟨fun x hx => hx.elim, .inl ⟨rfl, rfl⟩⟩, fun x hx hx' => by omega, fun x hx hx' => hx', fun x hx hx' => hx', fun z hz => ?_⟩, (k1.trans k9 fun _ h => h.elim).trans k17 fun _ h => h.elim⟩
    rcases hz with hz | hz | hz
    · omega
    · omega
    · exact hz.elim
  refine ⟨fun hh => absurd rfl (of_decide_eq_true hh), fun _ => ⟨fun hh => absurd rfl (of_decide_eq_true hh), fun _ => ⟨fun hh => ?_, fun _ => ⟨fun hh => ?_, fun _ => c3_L h hsl hl hQ⟩⟩⟩⟩
  · rw [t9.isNone, beq_self_eq_true] at hh; cases hh
  · rw [t17.isNone, beq_self_eq_true] at hh; cases hh
end
end Go.Hw
