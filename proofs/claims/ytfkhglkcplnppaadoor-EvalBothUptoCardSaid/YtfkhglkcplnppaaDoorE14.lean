/- EvalSums: the law. Own work of this session. -/
import Derived.Test.YtfkhglkcplnppaaDoorE13
set_option linter.unusedVariables false
namespace Go.Hw
open Go

section
variable {H : Hp} {p0 p1 : Sl} {p2 p3 : ByteArray} {p4 : Int} {p5 p6 : Sl} {m : EnvM} {b : Nat}

theorem ask_is {o k n : Int} {v a : ByteArray} {K : Bool → Hp → Prop} (rb : Row H b 43 (envRow p0 p1 p2 p3 p4 p5 p6)) (h : EnvH H p0 p1 p2 p3 p4 p5 p6 m) (hw : WantsH H) (ht : topP m (fnE o v k a) .nil = (numV n, 0)) (hK : ∀ H', Kp No H H' → K true H') :
    ∃ (x127 : Sl) (x128 : Sl) (x129 : ByteArray) (x130 : ByteArray) (x131 : Int) (x132 : Sl) (x133 : Sl), cells H ⟨b, 0, none⟩ [(Sl.v x127), (Sl.v x128), (.string x129), (.string x130), (.int .i64 x131), (Sl.v x132), (Sl.v x133)] 0 ∧ (
 F14 o v k a H (fun (r136 : Int) (r137 : Int) (r138 : Int) (r139 : Int) (r140 : ByteArray) (r141 : Bool) (r142 : ByteArray) (r143 : Int) (r144 : ByteArray) (r145 : Sl) (H134 : Hp) => 
 cells H134 ⟨b, 0, none⟩ [(Sl.v x127), (Sl.v x128), (.string x129), (.string x130), (.int .i64 x131), (Sl.v x132), (Sl.v x133)] 0 ∧ (
 F13 r136 r137 r138 r139 r140 r141 r142 r143 r144 r145 x127 x128 x129 x130 x131 x132 x133 n H134 K))) :=
  ⟨_, _, _, _, _, _, _, rb.all, c14 fun H1 k1 => ⟨(k1.row rb id).all, c13 (A := fun _ => True) (r := fnE o v k a) (h.no k1) (hw.no k1) (Ex.nil _ _) (by decide) ht fun H2 k2 => hK H2 (k1.no2 k2)⟩⟩
theorem ask_not {o k n : Int} {v a : ByteArray} {K : Bool → Hp → Prop} (rb : Row H b 43 (envRow p0 p1 p2 p3 p4 p5 p6)) (h : EnvH H p0 p1 p2 p3 p4 p5 p6 m) (hw : WantsH H) (ht : topP m (fnE o v k a) .nil = (zeroV, n)) (hK : ∀ H', Kp No H H' → K true H') :
    ∃ (x127 : Sl) (x128 : Sl) (x129 : ByteArray) (x130 : ByteArray) (x131 : Int) (x132 : Sl) (x133 : Sl), cells H ⟨b, 0, none⟩ [(Sl.v x127), (Sl.v x128), (.string x129), (.string x130), (.int .i64 x131), (Sl.v x132), (Sl.v x133)] 0 ∧ (
 F14 o v k a H (fun (r136 : Int) (r137 : Int) (r138 : Int) (r139 : Int) (r140 : ByteArray) (r141 : Bool) (r142 : ByteArray) (r143 : Int) (r144 : ByteArray) (r145 : Sl) (H134 : Hp) => 
 cells H134 ⟨b, 0, none⟩ [(Sl.v x127), (Sl.v x128), (.string x129), (.string x130), (.int .i64 x131), (Sl.v x132), (Sl.v x133)] 0 ∧ (
 F15 r136 r137 r138 r139 r140 r141 r142 r143 r144 r145 x127 x128 x129 x130 x131 x132 x133 n H134 K))) :=
  ⟨_, _, _, _, _, _, _, rb.all, c14 fun H1 k1 => ⟨(k1.row rb id).all, c15 (A := fun _ => True) (r := fnE o v k a) (h.no k1) (hw.no k1) (Ex.nil _ _) (by decide) ht fun H2 k2 => hK H2 (k1.no2 k2)⟩⟩
end

section
variable {H : Hp} {p0 : Sl} {NS : List Int} {now : Int} {q0 q1 : Sl} {t2 t3 : ByteArray} {t4 : Int} {q5 q6 : Sl} {b : Nat}
theorem c4_8 {Q : Bool → Hp → Prop} (hn : p0.n = NS.length) (hx : ∀ x ∈ NS, in64 x) (hl : NS.length ≤ 1048576) (rb : Row H b 43 (envRow q0 q1 t2 t3 t4 q5 q6)) (h : EnvH H q0 q1 t2 t3 t4 q5 q6 (smM NS now)) (hw : WantsH H) (st : Int × Int × Int)
    (hst : goS 0 (0, 0, 0) NS = st) (hQ : ∀ H', Kp No H H' → Q true H') : F4_L8 Q p0 ⟨b, 0, none⟩ st.1 st.2.1 st.2.2 6 H := by
  intro X hX
  have fs : ∀ {o k : Int}, (o = 2 ∨ o = 3 ∨ o = 4) → (k = 6 ∨ k = 7) → (o = 2 ∨ NS ≠ []) → topP (smM NS now) (fnE o S_b k S_x) .nil = (numV (comp o st), 0) := fun ho hk hne => by
    rw [← hst]; exact s_fn ho hk hx hne
  have round : ∀ (k : Int) (H' : Hp), (k = 6 ∨ k = 7) → Kp No H H' → (∀ H'', Kp No H H'' → X (IntKind.i64.wrap (k + 1)) H'') → X k H' := by
    intro k H' hk kk hnx
    refine hX _ _ ⟨fun _ => ?_, fun g => absurd (of_decide_eq_false g) (by omega)⟩
    refine ask_is (kk.row rb id) (h.no kk) (hw.no kk) (by rw [hn]; exact s_count hk E) fun H1 k1 => ⟨fun g => (by cases g), fun _ => ?_⟩
    have kk := kk.no2 k1
    refine ask_is (kk.row rb id) (h.no kk) (hw.no kk) (fs (.inl rfl) hk (.inl rfl)) fun H2 k2 => ⟨fun g => (by cases g), fun _ => ?_⟩
    have kk := kk.no2 k2
    refine ⟨fun g => ?_, fun g => ?_⟩
    · have g := of_decide_eq_true g
      have hnil : NS = [] := List.eq_nil_of_length_eq_zero (by omega)
      refine ask_not (kk.row rb id) (h.no kk) (hw.no kk) (s_none (.inl rfl) hk hnil) fun H3 k3 => ⟨fun g => (by cases g), fun _ => ?_⟩
      have kk := kk.no2 k3
      refine ask_not (kk.row rb id) (h.no kk) (hw.no kk) (s_none (.inr rfl) hk hnil) fun H4 k4 => ⟨fun g => (by cases g), fun _ => hnx H4 (kk.no2 k4)⟩
    · have g := of_decide_eq_false g
      have hne : NS ≠ [] := fun e => by subst e; simp at hn; omega
      refine ask_is (kk.row rb id) (h.no kk) (hw.no kk) (fs (.inr (.inl rfl)) hk (.inr hne)) fun H3 k3 => ⟨fun g => (by cases g), fun _ => ?_⟩
      have kk := kk.no2 k3
      refine ask_is (kk.row rb id) (h.no kk) (hw.no kk) (fs (.inr (.inr rfl)) hk (.inr hne)) fun H4 k4 => ⟨fun g => (by cases g), fun _ => ?_⟩
      have kk := kk.no2 k4
      refine ask_not (kk.row rb id) (h.no kk) (hw.no kk) (s_kind hk hne) fun H5 k5 => ⟨fun g => (by cases g), fun _ => hnx H5 (kk.no2 k5)⟩
  refine round 6 H (.inl rfl) (Kp.refl _ _) fun H6 k6 => ?_
  rw [show IntKind.i64.wrap (6 + 1) = 7 from rfl]
  refine round 7 H6 (.inr rfl) k6 fun H7 k7 => ?_
  rw [show IntKind.i64.wrap (7 + 1) = 8 from rfl]
  refine hX _ _ ⟨fun g => absurd (of_decide_eq_true g) (by decide), fun _ => ?_⟩
  refine ask_not (k7.row rb id) (h.no k7) (hw.no k7) (s_a7 E) fun H8 k8 => ⟨fun _ => ?_, fun g => (by cases g)⟩
  have k8 := k7.no2 k8
  exact ask_not (k8.row rb id) (h.no k8) (hw.no k8) (s_z6 E) fun H9 k9 => hQ H9 (k8.no2 k9)

theorem c4_2 {Q : Bool → Hp → Prop} (hN : RdL iF H p0 NS) (hx : ∀ x ∈ NS, in64 x) (hl : NS.length ≤ 1048576) (hQ : F4_L8 Q p0 ⟨b, 0, none⟩ (goS 0 (0, 0, 0) NS).1 (goS 0 (0, 0, 0) NS).2.1 (goS 0 (0, 0, 0) NS).2.2 6 H) : F4_L2 Q p0 ⟨b, 0, none⟩ 0 0 0 0 H := by
  have hn := hN.n
  intro X hX
  suffices G : ∀ (d i : Nat) (st : Int × Int × Int), i + d = NS.length → goS 0 (0, 0, 0) NS = goS i st (NS.drop i) → X st.1 st.2.1 st.2.2 (i : Int) H from G NS.length 0 (0, 0, 0) (by omega) rfl
  intro d
  induction d with
  | zero =>
    intro i st hi hg
    rw [List.drop_of_length_le (by omega)] at hg
    rw [show goS i st [] = st from by cases st with | mk a b => cases b; rfl] at hg
    rw [hg] at hQ
    exact hX _ _ _ _ _ ⟨fun g => absurd (of_decide_eq_true g) (by omega), fun _ => hQ⟩
  | succ d ih =>
    intro i st hi hg
    obtain ⟨s, l, mo⟩ := st
    have gx : NS[i]? = some (NS[i]'(by omega)) := List.getElem?_eq_getElem (by omega)
    have dr : NS.drop i = NS[i]'(by omega) :: NS.drop (i + 1) := List.drop_eq_getElem_cons (by omega)
    generalize NS[i]'(by omega) = x at gx dr
    rw [dr] at hg
    obtain ⟨p, hp, hpn, cp⟩ := hN.get gx
    have cp0 : cell H (Addr.add p (((i : Int)).toNat * 1)) = some (.int .i64 x) := by
      have := cp.1
      rw [add_add, Nat.add_zero] at this
      rwa [show ((i : Int)).toNat = i from by omega]
    have nx := ih (i + 1) (IntKind.i64.wrap (s + x), (if i = 0 ∨ x < l then x else l), (if i = 0 ∨ mo < x then x else mo)) (by omega) hg
    have f3 : ∀ l' m', l' = (if i = 0 ∨ x < l then x else l) → m' = (if i = 0 ∨ mo < x then x else mo) → F4_3 Q X p0 ⟨b, 0, none⟩ (i : Int) (IntKind.i64.wrap (s + x)) l' m' H := by
      rintro _ _ rfl rfl
      unfold F4_3
      rw [wr (x := (i : Int) + 1) (by omega) (by omega), show ((i : Int) + 1) = ((i + 1 : Nat) : Int) from by omega]
      exact nx
    have f4 : ∀ l', l' = (if i = 0 ∨ x < l then x else l) → F4_4 Q X p0 ⟨b, 0, none⟩ (IntKind.i64.wrap (s + x)) mo (i : Int) l' H := by
      intro l' hl'
      refine ⟨fun g => ⟨fun _ => ⟨p, hp, by omega, by omega, x, cp0, f3 _ _ hl' ?_⟩, fun g => (by cases g)⟩, fun g => ⟨p, hp, by omega, by omega, x, cp0, fun g2 => ⟨p, hp, by omega, by omega, x, cp0, f3 _ _ hl' ?_⟩, fun g2 => f3 _ _ hl' ?_⟩⟩
      · rw [if_pos (.inl (by have := of_decide_eq_true g; omega))]
      · rw [if_pos (.inr (of_decide_eq_true g2))]
      · rw [if_neg (fun h => h.elim (fun h => absurd h (by have := of_decide_eq_false g; omega)) (of_decide_eq_false g2))]
    refine hX _ _ _ _ _ ⟨fun _ => ⟨p, hp, by omega, by omega, x, cp0, fun g => ?_, fun g => ⟨p, hp, by omega, by omega, x, cp0, ?_⟩⟩, fun g => absurd (of_decide_eq_false g) (by omega)⟩
    · exact ⟨fun _ => ⟨p, hp, by omega, by omega, x, cp0, f4 _ (by rw [if_pos (.inl (by have := of_decide_eq_true g; omega))])⟩, fun g => (by cases g)⟩
    · refine ⟨fun g2 => ⟨p, hp, by omega, by omega, x, cp0, f4 _ ?_⟩, fun g2 => f4 _ ?_⟩
      · rw [if_pos (.inr (of_decide_eq_true g2))]
      · rw [if_neg (fun h => h.elim (fun h => absurd h (by have := of_decide_eq_false g; omega)) (of_decide_eq_false g2))]
end

theorem c4 {H : Hp} {p0 : Sl} {NS : List Int} {now : Int} {Q : Bool → Hp → Prop} (hw : WantsH H) (hN : RdL iF H p0 NS) (hx : ∀ x ∈ NS, in64 x) (hl : NS.length ≤ 1048576) (hQ : ∀ H', Kp No H H' → Q true H') : F4 p0 now H Q := by
  refine c8 hw fun H1 k1 => ⟨fun h => (by cases h), fun _ H5 e5 => ?_⟩
  have k5 : Kp No H H5 := k1.push' e5
  have rv : Row H5 H1.size 9 ([S_a, S_b].flatMap sF.f) := Row.new' e5
  refine c10 fun s7 H7 k7 v7 H12 e12 => ?_
  have k12 : Kp No H7 H12 := (Kp.refl _ _).push' e12
  have rp : Row H12 H7.size 36 ([(S_T, (0 : Int), s7)].flatMap evF.f) := Row.new' e12
  have k5to12 := k7.no2 k12
  refine c11 ((hN.kp0 k5).kp0 k5to12) hl fun q14 H14 k14 ev14 _ H17 e17 => ?_
  have k17 : Kp No H14 H17 := (Kp.refl _ _).push' e17
  have rb : Row H17 H14.size 49 ([Sl.mk (some ⟨H7.size, 0, none⟩) 1 1, q14].flatMap slF.f) := Row.new' e17
  refine c10 fun s19 H19 k19 v19 => c12 fun q24 H24 k24 t24 H27 e27 => ?_
  have k27 : Kp No H24 H27 := (Kp.refl _ _).push' e27
  have r27 := Row.new' e27
  refine ⟨r27.mayw (by simp), fun H29 e29 => ?_⟩
  have rE : Row H29 H24.size 43 (envRow (Sl.mk (some ⟨H1.size, 0, none⟩) 2 2) (Sl.mk (some ⟨H14.size, 0, none⟩) 2 2) S_b S_T 99 s19 q24) := r27.fill' e29 rfl
  have k29 : Kp No H24 H29 := k27.sets' e29 (.inr (Nat.le_refl _))
  have a17 : Kp No H17 H29 := k19.no2 (k24.no2 k29)
  have a14 : Kp No H14 H29 := k17.no2 a17
  have a12 : Kp No H12 H29 := k14.no2 a14
  have a7 : Kp No H7 H29 := k12.no2 a12
  have a5 : Kp No H5 H29 := k7.no2 a7
  have aH := k5.no2 a5
  have w7 := v7 No H29 a7 fun _ _ => id
  have w19 := v19 No H29 (k24.no2 k29) fun _ _ => id
  have w24 := t24 No H29 k29 fun _ _ => id
  have rp' := a12.row rp id
  have h : EnvH H29 (Sl.mk (some ⟨H1.size, 0, none⟩) 2 2) (Sl.mk (some ⟨H14.size, 0, none⟩) 2 2) S_b S_T 99 s19 q24 (smM NS now) := by
    refine ⟨Row.rdl (F := sF) (L := [S_a, S_b]) (n := 2) (a5.row rv id) rfl 2, (show 2 ≤ lim by decide), ⟨[Sl.mk (some ⟨H7.size, 0, none⟩) 1 1, q14], Row.rdl (F := slF) (n := 2) (a17.row rb id) rfl 2, rfl, fun i sl evs hs he => ?_⟩, rfl, rfl, rfl, w19, w24⟩
    match i with
    | 0 =>
      obtain rfl : Sl.mk (some ⟨H7.size, 0, none⟩) 1 1 = sl := by simpa using hs
      obtain rfl : [evM 0 1 E] = evs := by simpa [smM] using he
      refine EvsH.of (R := [(S_T, (0 : Int), s7)]) (Row.rdl (F := evF) (n := 1) rp' rfl 1) (by decide) rfl fun i r e hr he => ?_
      match i with
      | 0 =>
        obtain rfl : (S_T, (0 : Int), s7) = r := by simpa using hr
        obtain rfl : evM 0 1 E = e := by simpa using he
        exact ⟨rfl, rfl, w7⟩
      | i + 1 => simp at hr
    | 1 =>
      obtain rfl : q14 = sl := by simpa using hs
      obtain rfl : evsF 0 NS = evs := by simpa [smM] using he
      exact ev14.no a14
    | i + 2 => simp at hs
  exact c4_2 (hN.kp0 aH) hx hl (c4_8 hN.n hx hl rE h (hw.no aH) _ rfl fun H' k => hQ H' (aH.no2 k))
end Go.Hw
