/- The document's reading of a declaration: one token. Own work of this session. -/
import Derived.Test.YtbhfkpdalilhcaaDoorT18
set_option linter.unusedVariables false
namespace Go.Hw
open Go

theorem seq_cm (a b : ByteArray) : seq a b = seq b a := by
  rw [Bool.eq_iff_iff, seq_iff, seq_iff]; exact ⟨Eq.symm, Eq.symm⟩
section
variable {H : Hp}
theorem c92 {n t : ByteArray} {sl : Sl} {A : Atts} {Q : Int → Hp → Prop} (h : RdL aF H sl A) (hA : A.length ≤ 4194304) (hQ : ∀ H', Kp No H H' → Q (atE A t) H') : F92 n sl t H Q := by
  have hn := h.n
  intro H1 e1
  have k1 : Kp No H H1 := (Kp.refl _ _).push' e1
  have r1 : Row H1 H.size 27 [.string n, Sl.v sl] := Row.new' e1
  have c1 : ∀ {Hx}, Kp No H1 Hx → cell Hx (Addr.add ⟨H.size, 0, none⟩ 1) = some (Sl.v sl) := fun k => by rw [add_mk]; exact (k.row r1 id).cell_of rfl
  unfold atE at hQ
  refine ⟨sl, c1 (Kp.refl _ _), fun h16 => ?_, fun h16 => ?_⟩
  · have := hQ H1 k1
    rw [if_pos (by have := of_decide_eq_true h16; omega)] at this
    exact this
  rw [if_neg (by have := of_decide_eq_false h16; omega)] at hQ
  refine c49 fun H8 k8 => ?_
  have kk := k1.trans k8 fun _ h => h.elim
  have bad : (nm t && !(seq t S_time)) = false → F92_1 Q t ⟨H.size, 0, none⟩ true H8 := fun hb => by
    refine ⟨fun _ => ?_, fun h => (by cases h)⟩
    have := hQ H8 kk
    rw [if_pos hb] at this; exact this
  have good : ¬ (nm t && !(seq t S_time)) = false → F92_1 Q t ⟨H.size, 0, none⟩ false H8 := fun hb => by
    rw [if_neg hb] at hQ
    refine ⟨fun h => (by cases h), fun _ => ?_⟩
    intro X2 hX2
    suffices G : ∀ (d i : Nat), i + d = A.length → ((A.take i).any fun a => seq a.1 t) = false → X2 (i : Int) H8 from G A.length 0 (by omega) rfl
    intro d
    induction d with
    | zero =>
      intro i hi hp
      refine hX2 _ _ ⟨sl, c1 k8, fun h => absurd (of_decide_eq_true h) (by omega), fun _ => ?_⟩
      rw [List.take_of_length_le (by omega)] at hp
      have := hQ H8 kk
      rw [if_neg (by rw [hp]; decide)] at this
      exact this
    | succ d ih =>
      intro i hi hp
      obtain ⟨a, ga⟩ : ∃ a, A[i]? = some a := ⟨_, List.getElem?_eq_getElem (by omega)⟩
      obtain ⟨p, hp', hpn, cp⟩ := (h.kp0 kk).get ga
      have it : ((i : Nat) : Int).toNat = i := by omega
      have ht : A.take (i + 1) = A.take i ++ [a] := by rw [List.take_add_one, ga]; rfl
      refine hX2 _ _ ⟨sl, c1 k8, fun _ => ⟨sl, c1 k8, p, hp', by omega, by omega, a.1, by rw [it]; exact (by have := cp.1; rwa [add_add, Nat.add_zero] at this), fun hs => ?_, fun hs => ?_⟩, fun h => absurd (of_decide_eq_false h) (by omega)⟩
      · have := hQ H8 kk
        rw [if_pos (List.any_eq_true.2 ⟨a, List.mem_of_getElem? ga, hs⟩)] at this
        exact this
      · rw [wr (by omega) (by omega), show ((i : Int) + 1) = ((i + 1 : Nat) : Int) by omega]
        refine ih (i + 1) (by omega) ?_
        rw [ht, List.any_append, hp]
        simp [hs]
  refine ⟨fun hn => bad ?_, fun hn => ?_⟩
  · have hn : nm t = false := by simpa using hn
    rw [hn]; rfl
  · have hn : nm t = true := by simpa using hn
    cases hs : seq t S_time with
    | true => exact bad (by rw [hn, hs]; rfl)
    | false => exact good (by rw [hn, hs]; decide)
theorem c93 {t : ByteArray} {Q : Int → Hp → Prop} (hQ : ∀ H', Kp No H H' → Q (kindT t) H') : F93 t H Q := by
  intro H1 e1
  have k1 : Kp No H H1 := (Kp.refl _ _).push' e1
  have r1 := Row.new' e1
  refine ⟨r1.mayw (by simp), fun H3 e3 => ?_⟩
  have r3 : Row H3 H.size 49 [.string E, .string S_INT, .string S_STR, .string S_BOOL] := r1.fill' e3 rfl
  have k3 : Kp No H H3 := k1.sets' e3 (.inr (Nat.le_refl _))
  have q := hQ H3 k3
  unfold kindT at q
  have cc : ∀ {i : Nat} {w : ByteArray}, [Value.string E, .string S_INT, .string S_STR, .string S_BOOL][i]? = some (.string w) → cell H3 (Addr.add ⟨H.size, 0, none⟩ (i * 1)) = some (.string w) := fun h => by rw [add_mk, Nat.zero_add, Nat.mul_one]; exact r3.cell_of h
  intro X hX
  refine hX _ _ ⟨fun _ => ⟨by decide, by decide, S_INT, cc (i := 1) rfl, fun h => ?_, fun h => ?_⟩, fun h => absurd (of_decide_eq_false h) (by decide)⟩
  · rw [seq_cm] at h; rw [if_pos h] at q; exact q
  rw [seq_cm] at h; rw [if_neg (by rw [h]; decide)] at q
  refine hX _ _ ⟨fun _ => ⟨by decide, by decide, S_STR, cc (i := 2) rfl, fun h2 => ?_, fun h2 => ?_⟩, fun h => absurd (of_decide_eq_false h) (by decide)⟩
  · rw [seq_cm] at h2; rw [if_pos h2] at q; exact q
  rw [seq_cm] at h2; rw [if_neg (by rw [h2]; decide)] at q
  refine hX _ _ ⟨fun _ => ⟨by decide, by decide, S_BOOL, cc (i := 3) rfl, fun h3 => ?_, fun h3 => ?_⟩, fun h => absurd (of_decide_eq_false h) (by decide)⟩
  · rw [seq_cm] at h3; rw [if_pos h3] at q; exact q
  rw [seq_cm] at h3; rw [if_neg (by rw [h3]; decide)] at q
  exact hX _ _ ⟨fun h => absurd (of_decide_eq_true h) (by decide), fun _ => q⟩

theorem tok_seq {s t : ByteArray} {r l : List Nat} (hr : r <:+ bytes s) (hb : bytes t = l) : seq (tok r) t = true ↔ tl r = l := by
  rw [seq_iff, ← bytes_tok hr, ← hb]
  exact ⟨fun h => by rw [h], bytes_inj⟩
/-- The type that is being read. -/
structure PT (B : Nat) (H : Hp) (tb : Nat) (n : ByteArray) (sl : Sl) (A : Atts) : Prop where
  t : Row H tb 27 [.string n, Sl.v sl]
  l : Lst aF H sl A
  b1 : B ≤ tb
  b3 : ∀ b, sl.at b → B ≤ b
  b4 : B ≤ H.size
theorem PT.no {B : Nat} {H H' : Hp} {tb : Nat} {n : ByteArray} {sl : Sl} {A : Atts} (h : PT B H tb n sl A) (k : Kp No H H') : PT B H' tb n sl A :=
  ⟨k.row h.t id, h.l.kp k fun _ _ => id, h.b1, h.b3, Nat.le_trans h.b4 k.size⟩
set_option maxHeartbeats 1000000 in
theorem c76 {s : ByteArray} {B tb w : Nat} {n : ByteArray} {sl : Sl} {A : Atts} {r : List Nat} {at_ : Int} {Q : Int → Int → Hp → Prop} (h : PT B H tb n sl A) (hA : A.length ≤ 5000) (hr : r <:+ bytes s) (hw : w ≤ 7) (h5 : w = 5 → A ≠ [])
    (q1 : (stepP w n A r).2.1 ≠ 0 → ∀ (w' : Int) H', Kp (fun b => b = tb ∨ sl.at b) H H' → Q w' (stepP w n A r).2.1 H')
    (q0 : (stepP w n A r).2.1 = 0 → ∀ sl' H', PT B H' tb (stepP w n A r).2.2.1 sl' (stepP w n A r).2.2.2 → Kp (fun b => b = tb ∨ sl.at b) H H' → Q ((stepP w n A r).1 : Int) 0 H') :
    F76 (some ⟨tb, 0, none⟩) (w : Int) (tok r) at_ (wordN r) H Q := by
  intro H1 e1
  have k1 : Kp No H H1 := (Kp.refl _ _).push' e1
  have s1 := size_push' e1
  have r1 : Row H1 H.size 123 [.string (tok r), .int .i64 at_, .bool (wordN r)] := Row.new' e1
  have h1 := h.no k1
  have hb4 := h.b4
  have fr : ∀ {Hx Hy : Hp}, Kp No Hx Hy → Kp (fun b => b = tb ∨ sl.at b) Hx Hy := fun k => k.mono fun _ _ h => h.elim
  have bad : ∀ {Hx} (w' : Int), (stepP w n A r).2.1 = 24 → Kp (fun b => b = tb ∨ sl.at b) H Hx → Q w' 24 Hx := fun w' e k => by
    have := q1 (by rw [e]; decide) w' _ k
    rw [e] at this; exact this
  have ok : ∀ {w' : Nat} {Hx}, stepP w n A r = (w', 0, n, A) → Kp No H1 Hx → Q (w' : Int) 0 Hx := fun {w' Hx} e k => by
    have kk := k1.trans k fun _ h => h.elim
    have := q0 (by rw [e]) sl Hx (by rw [e]; exact h.no kk) (fr kk)
    rw [e] at this; exact this
  have ct : ∀ {Hx}, Kp No H1 Hx → cell Hx ⟨H.size, 0, none⟩ = some (.string (tok r)) := fun k => (k.row r1 id).cell_of (i := 0) rfl
  have cw : ∀ {Hx}, Kp No H1 Hx → cell Hx (Addr.add ⟨H.size, 0, none⟩ 2) = some (.bool (wordN r)) := fun k => by rw [add_mk]; exact (k.row r1 id).cell_of rfl
  have ev : ∀ k : Nat, decide ((w : Int) = (k : Int)) = true → w = k := fun k h => by have := of_decide_eq_true h; omega
  have en : ∀ k : Nat, decide ((w : Int) = (k : Int)) = false → w ≠ k := fun k h => by have := of_decide_eq_false h; omega
  have tT : seq (tok r) S_TYPE = true ↔ tl r = [84, 89, 80, 69] := tok_seq hr rfl
  have t40 : seq (tok r) S__ = true ↔ tl r = [40] := tok_seq hr rfl
  have t41 : seq (tok r) S___ = true ↔ tl r = [41] := tok_seq hr rfl
  have t44 : seq (tok r) S____ = true ↔ tl r = [44] := tok_seq hr rfl
  refine ⟨fun g0 => ⟨_, ct (Kp.refl _ _), fun g => ?_, fun g => ?_⟩, fun g0 => ⟨fun g1 => ⟨_, cw (Kp.refl _ _), fun gw => ⟨_, ct (Kp.refl _ _), c49 fun H16 k16 => ?_⟩, fun gw => ?_⟩, fun g1 => ⟨fun g2 => ⟨_, ct (Kp.refl _ _), fun g => ?_, fun g => ?_⟩, fun g2 => ?_⟩⟩⟩
  · have e0 := ev 0 g0; subst e0
    exact ok (w' := 1) (by unfold stepP; rw [if_pos rfl, if_pos (tT.1 g)]) (Kp.refl _ _)
  · have e0 := ev 0 g0; subst e0
    exact bad 0 (by unfold stepP; rw [if_pos rfl, if_neg (fun e => by rw [tT.2 e] at g; cases g)]) (fr k1)
  · -- the name
    have e0 := ev 1 g1; subst e0
    have st : stepP 1 n A r = if nm (tok r) = true then (2, 0, tok r, A) else (0, 20, n, A) := by unfold stepP; rw [if_neg (by decide), if_pos rfl, if_pos gw]
    have kk := k1.trans k16 fun _ h => h.elim
    refine ⟨fun g => ?_, fun g => ⟨_, cw k16, fun _ => ⟨_, ct k16, _, rfl, ?_⟩, fun g2 => absurd g2 (by rw [gw]; decide)⟩⟩
    · have g : nm (tok r) = false := by simpa using g
      rw [if_neg (by rw [g]; decide)] at st
      have := q1 (by rw [st]; exact (by decide : (20 : Int) ≠ 0)) 0 H16 (fr kk)
      rw [st] at this; exact this
    · have g : nm (tok r) = true := by simpa using g
      rw [if_pos g] at st
      have h16 := h.no kk
      refine ⟨h16.t.some (by simp), h16.t.frz _, fun H28 e28 => ?_⟩
      have t28 := h16.t.set' (i := 0) e28
      have k28 : Kp (fun x => x = tb) H16 H28 := (Kp.refl (fun x => x = tb) H16).set' e28 (.inl rfl)
      have b1 := h.b1
      have := q0 (by rw [st]) sl H28 (by rw [st]; exact ⟨t28, h16.l.kp k28 fun b hb e => (h16.l.ne h16.t (by decide)) (e ▸ hb), h.b1, h.b3, Nat.le_trans h16.b4 k28.size⟩) ((fr kk).trans k28 fun b e => .inl (.inl e))
      rw [st] at this; exact this
  · have e0 := ev 1 g1; subst e0
    have st : (stepP 1 n A r).2.1 = 24 := by unfold stepP; rw [if_neg (by decide), if_pos rfl, if_neg (by rw [gw]; decide)]
    exact ⟨fun g => (by cases g), fun _ => ⟨_, cw (Kp.refl _ _), fun g2 => absurd g2 (by rw [gw]; decide), fun _ => bad 0 st (fr k1)⟩⟩
  · have e0 := ev 2 g2; subst e0
    exact ok (w' := 3) (by unfold stepP; rw [if_neg (by decide), if_neg (by decide), if_pos rfl, if_pos (t40.1 g)]) (Kp.refl _ _)
  · have e0 := ev 2 g2; subst e0
    exact bad 0 (by unfold stepP; rw [if_neg (by decide), if_neg (by decide), if_pos rfl, if_neg (fun e => by rw [t40.2 e] at g; cases g)]) (fr k1)
  have n0 := en 0 g0
  have n1 := en 1 g1
  have n2 := en 2 g2
  -- an attribute's name, or the bracket
  have att : (w = 3 ∨ w = 4) → F76_3 Q (some ⟨tb, 0, none⟩) (w : Int) ⟨H.size, 0, none⟩ (w : Int) true H1 := fun h34 => by
    have st : stepP w n A r = if w = 3 ∧ tl r = [41] then (7, 0, n, A) else if wordN r = true then (5, atE A (tok r), n, A ++ [(tok r, 0)]) else (0, 24, n, A) := by
      unfold stepP; rw [if_neg n0, if_neg n1, if_neg n2, if_pos h34]
    have cont : ¬ (w = 3 ∧ tl r = [41]) → F76_4 Q (some ⟨tb, 0, none⟩) ⟨H.size, 0, none⟩ false H1 := fun hne => by
      rw [if_neg hne] at st
      refine ⟨fun g => (by cases g), fun _ => ⟨_, cw (Kp.refl _ _), fun gw => ?_, fun gw => bad 0 (by rw [st, if_neg (by rw [gw]; decide)]) (fr k1)⟩⟩
      rw [if_pos gw] at st
      refine ⟨_, rfl, n, sl, h1.t.all, _, ct (Kp.refl _ _), c92 h1.l.rd (by omega) fun H61 k61 => ?_⟩
      have h61 := h1.no k61
      refine ⟨_, rfl, sl, by rw [add_mk]; exact h61.t.cell_of rfl, _, ct k61, fun H70 e70 => ?_⟩
      have k70 : Kp No H61 H70 := (Kp.refl _ _).push' e70
      have s70 := size_push' e70
      have h70 := h61.no k70
      have k170 := k61.trans k70 fun _ h => h.elim
      have rb : Row H70 H61.size 38 (aF.f (tok r, 0)) := Row.new' e70
      refine ⟨ct k170, by rw [add_mk]; exact h70.t.cell_of rfl, ?_⟩
      refine Lst.append1 (F := aF) h70.l rb rfl (by omega) (by omega) fun r76 H74 hr74 hk74 ha => ?_
      have nt : ¬ sl.at tb := h70.l.ne h70.t (by decide)
      have nx : ¬ sl.at H.size := fun hb => by obtain ⟨sp, g⟩ := h.l.row hb; have := g.lt; omega
      have t74 := hk74.row h70.t nt
      have x74 := hk74.row (k170.row r1 id) nx
      refine ⟨x74.cell_of (i := 0) rfl, _, rfl, ?_⟩
      rw [add_mk]
      refine ⟨t74.some (by simp), t74.frz _, fun H80 e80 => ?_⟩
      have t80 := t74.set' (i := 1) e80
      have k80 : Kp (fun x => x = tb) H74 H80 := (Kp.refl (fun x => x = tb) H74).set' e80 (.inl rfl)
      have b1 := h.b1
      have kall : Kp (fun b => b = tb ∨ sl.at b) H H80 := (((k1.trans k170 fun _ h => h.elim).mono fun _ _ h => h.elim).trans hk74 fun b hb => .inl (.inr hb)).trans k80 fun b e => .inl (.inl e)
      by_cases ha0 : atE A (tok r) = 0
      · rw [ha0] at st
        have hl70 : H.size ≤ H70.size := by have := k170.size; omega
        have := q0 (by rw [st]) r76 H80 (by rw [st]; exact ⟨t80, hr74.kp k80 fun b hb e => (hr74.ne t74 (by decide)) (e ▸ hb), h.b1, fun b hb => (ha b hb).elim (h.b3 b) fun e => by omega, by have := kall.size; omega⟩) kall
        rw [st] at this
        rw [ha0]; exact this
      · have := q1 (by rw [st]; exact ha0) 5 H80 kall
        rw [st] at this; exact this
    refine ⟨fun _ => ⟨_, ct (Kp.refl _ _), fun g => ?_, fun g => cont fun e => by rw [t41.2 e.2] at g; cases g⟩, fun g => (by cases g)⟩
    have g41 := t41.1 g
    by_cases h3 : w = 3
    · rw [show decide ((w : Int) = 3) = true from decide_eq_true (by omega)]
      exact ⟨fun _ => ok (w' := 7) (by rw [st, if_pos ⟨h3, g41⟩]) (Kp.refl _ _), fun g => (by cases g)⟩
    · rw [show decide ((w : Int) = 3) = false from decide_eq_false (by omega)]
      exact cont fun e => h3 e.1
  have rest : w ≠ 3 → w ≠ 4 → F76_3 Q (some ⟨tb, 0, none⟩) (w : Int) ⟨H.size, 0, none⟩ (w : Int) false H1 := fun h3 h4 => by
    refine ⟨fun g => (by cases g), fun _ => ⟨fun g5 => ⟨_, ct (Kp.refl _ _), c93 fun H87 k87 => ?_⟩, fun g5 => ⟨fun g6 => ⟨_, ct (Kp.refl _ _), fun g => ?_, fun g => ⟨_, ct (Kp.refl _ _), fun g' => ?_, fun g' => ?_⟩⟩, fun g6 => bad 0 ?_ (fr k1)⟩⟩⟩
    · have e5 := ev 5 g5; subst e5
      have st : stepP 5 n A r = if kindT (tok r) = 0 then (0, 24, n, A) else (6, 0, n, setK A (kindT (tok r))) := by
        unfold stepP; rw [if_neg n0, if_neg n1, if_neg n2, if_neg (by decide), if_pos rfl]
      have kk := k1.trans k87 fun _ h => h.elim
      have kge : 0 ≤ kindT (tok r) := by unfold kindT; split <;> (try split) <;> (try split) <;> decide
      have h87 := h.no kk
      refine ⟨fun g => ?_, fun g => bad 0 (by rw [st, if_pos (by have := of_decide_eq_false g; omega)]) (fr kk)⟩
      have hk : kindT (tok r) ≠ 0 := by have := of_decide_eq_true g; omega
      rw [if_neg hk] at st
      have hne := h5 rfl
      have hpos : 0 < A.length := List.length_pos_iff.2 hne
      have hn := h.l.n
      obtain ⟨a, ga⟩ : ∃ a, A[A.length - 1]? = some a := ⟨_, List.getElem?_eq_getElem (by omega)⟩
      have ew : IntKind.i64.wrap ((sl.n : Int) - 1) = ((A.length - 1 : Nat) : Int) := by rw [wr (by omega) (by omega)]; omega
      obtain ⟨p, hp, hpat, hpn, hsome, hfrz, hst⟩ := h87.l.set1 (c := 1) (x' := (a.1, kindT (tok r))) (v := .int .i64 (kindT (tok r))) ga (by decide) rfl
      refine ⟨_, rfl, sl, by rw [add_mk]; exact h87.t.cell_of rfl, _, rfl, sl, by rw [add_mk]; exact h87.t.cell_of rfl, p, hp, by rw [ew]; omega, by rw [ew]; omega, ?_⟩
      rw [ew, show ((A.length - 1 : Nat) : Int).toNat = A.length - 1 from by omega]
      refine ⟨hsome, hfrz, fun H103 e103 => ?_⟩
      obtain ⟨l103, k103⟩ := hst H103 e103
      have eS : A.set (A.length - 1) (a.1, kindT (tok r)) = setK A (kindT (tok r)) := by
        obtain ⟨P, a', rfl⟩ : ∃ P a', A = P ++ [a'] := ⟨A.dropLast, A.getLast hne, (List.dropLast_concat_getLast hne).symm⟩
        rw [List.length_append, List.length_singleton, Nat.add_sub_cancel] at ga ⊢
        rw [List.getElem?_append_right (Nat.le_refl _), Nat.sub_self] at ga
        injection ga with ga; subst ga
        rw [List.set_append_right _ _ (Nat.le_refl _), Nat.sub_self]
        obtain ⟨x, y⟩ := a'
        exact (setK_app P x y (kindT (tok r))).symm
      have nt : ¬ sl.at tb := h87.l.ne h87.t (by decide)
      have b1 := h.b1
      have kall : Kp (fun b => b = tb ∨ sl.at b) H H103 := (kk.mono fun _ _ h => h.elim).trans k103 fun b hb => .inl (.inr hb)
      have := q0 (by rw [st]) sl H103 (by rw [st]; exact ⟨k103.row h87.t nt, by rw [← eS]; exact l103, h.b1, h.b3, Nat.le_trans h87.b4 k103.size⟩) kall
      rw [st] at this; exact this
    · have e6 := ev 6 g6; subst e6
      exact ok (w' := 4) (by unfold stepP; rw [if_neg n0, if_neg n1, if_neg n2, if_neg (by decide), if_neg (by decide), if_pos rfl, if_pos (t44.1 g)]) (Kp.refl _ _)
    · have e6 := ev 6 g6; subst e6
      exact ok (w' := 7) (by unfold stepP; rw [if_neg n0, if_neg n1, if_neg n2, if_neg (by decide), if_neg (by decide), if_pos rfl, if_neg (fun e => by rw [t44.2 e] at g; cases g), if_pos (t41.1 g')]) (Kp.refl _ _)
    · have e6 := ev 6 g6; subst e6
      exact bad 0 (by unfold stepP; rw [if_neg n0, if_neg n1, if_neg n2, if_neg (by decide), if_neg (by decide), if_pos rfl, if_neg (fun e => by rw [t44.2 e] at g; cases g), if_neg (fun e => by rw [t41.2 e] at g'; cases g')]) (fr k1)
    · have n5 := en 5 g5
      have n6 := en 6 g6
      unfold stepP; rw [if_neg n0, if_neg n1, if_neg n2, if_neg (by omega), if_neg n5, if_neg n6]
  refine ⟨fun g3 => ?_, fun g3 => ?_⟩
  · rw [g3]; exact att (.inl (ev 3 g3))
  · cases g4 : decide ((w : Int) = 4) with
    | true => exact att (.inr (ev 4 g4))
    | false => exact rest (en 3 g3) (en 4 g4)
end
end Go.Hw
