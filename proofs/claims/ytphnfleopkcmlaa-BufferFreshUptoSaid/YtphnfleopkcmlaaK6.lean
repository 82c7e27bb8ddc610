/- unwritten: the whole. Own work of this session. -/
import Derived.Test.YtphnfleopkcmlaaK5
set_option linter.unusedVariables false
namespace Go.Hw
open Go

theorem c24_L {H0 H : Hp} {g : Nat} {F : Nat → Prop} {Q : Bool → Hp → Prop} {ssl : Sl} {L : List OP5} (w : UW H0 H g 0 F [] [] Sl.nil Sl.nil Sl.nil Sl.nil [] [] [] []) (hsl : RdL oF H0 ssl L) (hl : L.length ≤ 300000) (hQ : ∀ H', Kp No H0 H' → Q true H') : F24_L2 Q ssl (some ⟨g, 0, none⟩) Sl.nil Sl.nil Sl.nil Sl.nil 0 0 H := by
  have hn := hsl.n
  intro X hX
  suffices G : ∀ (d i : Nat) (tot : Int) (F : Nat → Prop) (PS : List (PP Mk)) (QS : List (PP Int)) (y5 y6 y7 y8 : Sl) (H : Hp), i + d = L.length → PS.length = 4 * i → QS.length = 2 * i → UW H0 H g i F PS QS y5 y6 y7 y8 (PS.map (·.a)) (PS.map (·.b)) (QS.map (·.a)) (QS.map (·.b)) → X y5 y6 y7 y8 tot (i : Int) H from
    G L.length 0 0 F [] [] Sl.nil Sl.nil Sl.nil Sl.nil H (by omega) rfl rfl w
  intro d
  induction d with
  | zero =>
    intro i tot F PS QS y5 y6 y7 y8 H hi hp hq w
    have fin : F24_1 Q y5 y6 y7 y8 H := c24_1 (w.hP.kp (Kp.refl No _) (fun _ h => h.elim) fun _ h => h.elim) (w.hQ.kp (Kp.refl No _) (fun _ h => h.elim) fun _ h => h.elim) w.l5 w.l6 w.l7 w.l8 w.kp.size w.kp (by omega) (by omega) hQ
    exact hX _ _ _ _ _ _ _ ⟨fun hh => absurd (of_decide_eq_true hh) (by omega), fun _ => fin⟩
  | succ d ih =>
    intro i tot F PS QS y5 y6 y7 y8 H hi hp hq w
    have fin : F24_1 Q y5 y6 y7 y8 H := c24_1 (w.hP.kp (Kp.refl No _) (fun _ h => h.elim) fun _ h => h.elim) (w.hQ.kp (Kp.refl No _) (fun _ h => h.elim) fun _ h => h.elim) w.l5 w.l6 w.l7 w.l8 w.kp.size w.kp (by omega) (by omega) hQ
    refine hX _ _ _ _ _ _ _ ⟨fun _ => ⟨fun _ => ?_, fun _ => fin⟩, fun hh => absurd (of_decide_eq_false hh) (by omega)⟩
    have hil : i < L.length := by omega
    have gi : L[i]? = some L[i] := List.getElem?_eq_getElem hil
    generalize L[i] = o at gi
    obtain ⟨p, hp', _, cp⟩ := (hsl.kp0 w.kp).get gi
    refine ⟨p, hp', by omega, by omega, o.kind, o.on, o.run, o.m.1, o.m.2, cp, fun H26 e26 => ?_⟩
    have k26 : Kp No H H26 := (Kp.refl No _).push' e26
    have s26 := size_push' e26
    have z26 : Row H26 H.size 34 [.int .i64 0, .int .i64 0, .int .i64 0, .int .i64 0, .int .i64 0] := Row.new' e26
    refine ⟨z26.mayall, fun H28 e28 => ?_⟩
    have s28 := size_sets' e28
    have hx : Row H28 H.size 34 (oF.f o) := z26.fill' e28 rfl
    have k28 : Kp No H H28 := k26.trans ((Kp.refl (fun b => b = H.size) _).sets' e28 (.inl rfl)) fun _ hb => .inr (by omega)
    have w28 := w.no k28
    have hxF : ¬ F H.size := fun h => by
      have := w.old.2.2 _ h
      omega
    have hw : IntKind.i64.wrap ((i : Int) + 1) = ((i + 1 : Nat) : Int) := by rw [wr (by omega) (by omega)]; omega
    have nxt : ∀ {H' : Hp} {n' : Nat} {F' : Nat → Prop}, n' ≤ i + 1 → UW H0 H' g n' F' PS QS y5 y6 y7 y8 (PS.map (·.a)) (PS.map (·.b)) (QS.map (·.a)) (QS.map (·.b)) → Row H' H.size 34 (oF.f o) → F24_4 Q X ssl (some ⟨g, 0, none⟩) y5 y6 y7 y8 tot (i : Int) ⟨H.size, 0, none⟩ H' := by
      intro H' n' F' hn' w' hx'
      have w' := w'.more hn'
      intro Y hY
      refine hY _ _ _ _ _ _ _ (c24_half (kk := 0) w' hx' (by omega) (by omega) (by omega) (.inl rfl) fun H2 PS2 QS2 z5 z6 z7 z8 t2 w2 hx2 hp2 hq2 => ?_)
      refine hY _ _ _ _ _ _ _ (c24_half (kk := 0 + 1) w2 hx2 (by omega) (by omega) (by omega) (.inr rfl) fun H3 PS3 QS3 x5 x6 x7 x8 t3 w3 hx3 hp3 hq3 => ?_)
      refine hY _ _ _ _ _ _ _ ⟨fun hh => (by cases hh), fun _ => ?_⟩
      unfold F24_3
      rw [hw]
      exact ih (i + 1) t3 F' PS3 QS3 x5 x6 x7 x8 H3 (by omega) (by omega) (by omega) w3
    have same : ∀ {H' : Hp}, Kp No H28 H' → F24_4 Q X ssl (some ⟨g, 0, none⟩) y5 y6 y7 y8 tot (i : Int) ⟨H.size, 0, none⟩ H' := fun {H'} k => nxt (Nat.le_succ i) (w28.no k) (k.row hx id)
    obtain ⟨st, f, b⟩ := w28.bi
    refine ⟨o.kind, hx.cell_of (i := 0) rfl, fun _ => ?_, fun _ => ⟨fun _ => ?_, fun _ => ⟨fun _ => ?_, fun _ => same (Kp.refl _ _)⟩⟩⟩
    · exact ⟨o.m.1, o.m.2, hx.cells (o := 3) (i := 0) rfl, c13 (m := o.m) b (by omega) (fun _ H' k => same k) fun _ H' j hj b' k => nxt (Nat.le_refl _) (w28.op ⟨_, _, b'⟩ (fun _ h => h) k) (k.row hx hxF)⟩
    · exact ⟨o.run, hx.cell_of (i := 2) rfl, o.m.1, o.m.2, hx.cells (o := 3) (i := 0) rfl, c14 (m := o.m) b (by omega) (fun _ H' k => same k) (fun _ _ _ _ H' k => same k) fun _ _ _ _ H' j hj b' k => nxt (Nat.le_refl _) (w28.op ⟨_, _, b'⟩ (fun _ h => h) k) (k.row hx hxF)⟩
    · exact ⟨o.run, hx.cell_of (i := 2) rfl, c16 b (by omega) (fun _ => same (Kp.refl _ _)) fun _ _ H' b' k => nxt (Nat.le_succ _) (w28.op ⟨_, _, b'⟩ (fun _ h => .inl h) k) (k.row hx hxF)⟩

theorem c24 {H : Hp} {p0 : Int} {Q : Bool → Hp → Prop} {ssl : Sl} {L : List OP5} (hsl : RdL oF H ssl L) (hl : L.length ≤ 300000) (hQ : ∀ H', Kp No H H' → Q true H') : F24 p0 ssl H Q := by
  refine c12 fun H5 g st _ b5 k5 => ⟨fun hh => (by cases hh), fun _ => c24_L (H0 := H) ⟨⟨st, _, b5⟩, fun x hx => hx.1, Rst.nil, Rst.nil, Lst.nil _ _, Lst.nil _ _, Lst.nil _ _, Lst.nil _ _, fun x hx => ?_, fun x hx => (by cases hx), fun x hx => (by cases hx), k5⟩ hsl hl hQ⟩
  rcases hx with h | h | h | h <;> cases h
end Go.Hw
