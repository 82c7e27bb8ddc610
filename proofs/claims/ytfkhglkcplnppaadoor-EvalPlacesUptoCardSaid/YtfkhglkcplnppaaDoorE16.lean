/- EvalPlaces: the law. Own work of this session. -/
import Derived.Test.YtfkhglkcplnppaaDoorE15
set_option linter.unusedVariables false
namespace Go.Hw
open Go

section
variable {H : Hp} {p0 p1 : Sl} {p2 p3 : ByteArray} {p4 : Int} {p5 p6 : Sl} {m : EnvM} {b : Nat}
theorem rask_is {k n : Int} {v a : ByteArray} {K : Bool → Hp → Prop} (rb : Row H b 43 (envRow p0 p1 p2 p3 p4 p5 p6)) (h : EnvH H p0 p1 p2 p3 p4 p5 p6 m) (hw : WantsH H) (ht : topP m (refE v k a) .nil = (numV n, 0)) (hK : ∀ H', Kp No H H' → K true H') :
    ∃ (x127 : Sl) (x128 : Sl) (x129 : ByteArray) (x130 : ByteArray) (x131 : Int) (x132 : Sl) (x133 : Sl), cells H ⟨b, 0, none⟩ [(Sl.v x127), (Sl.v x128), (.string x129), (.string x130), (.int .i64 x131), (Sl.v x132), (Sl.v x133)] 0 ∧ (
 F16 v k a H (fun (r136 : Int) (r137 : Int) (r138 : Int) (r139 : Int) (r140 : ByteArray) (r141 : Bool) (r142 : ByteArray) (r143 : Int) (r144 : ByteArray) (r145 : Sl) (H134 : Hp) => 
 cells H134 ⟨b, 0, none⟩ [(Sl.v x127), (Sl.v x128), (.string x129), (.string x130), (.int .i64 x131), (Sl.v x132), (Sl.v x133)] 0 ∧ (
 F13 r136 r137 r138 r139 r140 r141 r142 r143 r144 r145 x127 x128 x129 x130 x131 x132 x133 n H134 K))) :=
  ⟨_, _, _, _, _, _, _, rb.all, c16 fun H1 k1 => ⟨(k1.row rb id).all, c13 (A := fun _ => True) (r := refE v k a) (h.no k1) (hw.no k1) (Ex.nil _ _) (by decide) ht fun H2 k2 => hK H2 (k1.no2 k2)⟩⟩
theorem rask_not {k n : Int} {v a : ByteArray} {K : Bool → Hp → Prop} (rb : Row H b 43 (envRow p0 p1 p2 p3 p4 p5 p6)) (h : EnvH H p0 p1 p2 p3 p4 p5 p6 m) (hw : WantsH H) (ht : topP m (refE v k a) .nil = (zeroV, n)) (hK : ∀ H', Kp No H H' → K true H') :
    ∃ (x127 : Sl) (x128 : Sl) (x129 : ByteArray) (x130 : ByteArray) (x131 : Int) (x132 : Sl) (x133 : Sl), cells H ⟨b, 0, none⟩ [(Sl.v x127), (Sl.v x128), (.string x129), (.string x130), (.int .i64 x131), (Sl.v x132), (Sl.v x133)] 0 ∧ (
 F16 v k a H (fun (r136 : Int) (r137 : Int) (r138 : Int) (r139 : Int) (r140 : ByteArray) (r141 : Bool) (r142 : ByteArray) (r143 : Int) (r144 : ByteArray) (r145 : Sl) (H134 : Hp) => 
 cells H134 ⟨b, 0, none⟩ [(Sl.v x127), (Sl.v x128), (.string x129), (.string x130), (.int .i64 x131), (Sl.v x132), (Sl.v x133)] 0 ∧ (
 F15 r136 r137 r138 r139 r140 r141 r142 r143 r144 r145 x127 x128 x129 x130 x131 x132 x133 n H134 K))) :=
  ⟨_, _, _, _, _, _, _, rb.all, c16 fun H1 k1 => ⟨(k1.row rb id).all, c15 (A := fun _ => True) (r := refE v k a) (h.no k1) (hw.no k1) (Ex.nil _ _) (by decide) ht fun H2 k2 => hK H2 (k1.no2 k2)⟩⟩
/-- The number asked for is read from the list. -/
theorem rask_at {k j : Int} {v a : ByteArray} {sl : Sl} {NS : List Int} {x : Int} {i : Nat} {K : Bool → Hp → Prop} (hN : RdL iF H sl NS) (hj : j = (i : Int)) (hx : NS[i]? = some x) (rb : Row H b 43 (envRow p0 p1 p2 p3 p4 p5 p6)) (h : EnvH H p0 p1 p2 p3 p4 p5 p6 m) (hw : WantsH H)
    (ht : topP m (refE v k a) .nil = (numV x, 0)) (hK : ∀ H', Kp No H H' → K true H') :
    ∃ (x360 : Sl) (x361 : Sl) (x362 : ByteArray) (x363 : ByteArray) (x364 : Int) (x365 : Sl) (x366 : Sl), cells H ⟨b, 0, none⟩ [(Sl.v x360), (Sl.v x361), (.string x362), (.string x363), (.int .i64 x364), (Sl.v x365), (Sl.v x366)] 0 ∧ (
 ∃ a367 : Addr, sl.b = some a367 ∧ (0 : Int) ≤ j ∧ j < (sl.n : Int) ∧ (
 ∃ x372 : Int, cell H (Addr.add a367 (j.toNat * 1)) = some (.int .i64 x372) ∧ (
 F16 v k a H (fun (r375 : Int) (r376 : Int) (r377 : Int) (r378 : Int) (r379 : ByteArray) (r380 : Bool) (r381 : ByteArray) (r382 : Int) (r383 : ByteArray) (r384 : Sl) (H373 : Hp) => 
 cell H373 (Addr.add a367 (j.toNat * 1)) = some (.int .i64 x372) ∧ cells H373 ⟨b, 0, none⟩ [(Sl.v x360), (Sl.v x361), (.string x362), (.string x363), (.int .i64 x364), (Sl.v x365), (Sl.v x366)] 0 ∧ (
 F13 r375 r376 r377 r378 r379 r380 r381 r382 r383 r384 x360 x361 x362 x363 x364 x365 x366 x372 H373 K))))) := by
  subst hj
  obtain ⟨p, hp, hpn, cp⟩ := hN.get hx
  have cp0 : ∀ {H' : Hp}, cells H' (p.add (i * 1)) (iF.f x) 0 → cell H' (Addr.add p (((i : Int)).toNat * 1)) = some (.int .i64 x) := fun c => by
    have := c.1
    rw [add_add, Nat.add_zero] at this
    rwa [show ((i : Int)).toNat = i from by omega]
  refine ⟨_, _, _, _, _, _, _, rb.all, p, hp, by omega, by omega, x, cp0 cp, c16 fun H1 k1 => ⟨?_, (k1.row rb id).all, c13 (A := fun _ => True) (r := refE v k a) (h.no k1) (hw.no k1) (Ex.nil _ _) (by decide) ht fun H2 k2 => hK H2 (k1.no2 k2)⟩⟩
  obtain ⟨p', hp', _, cp'⟩ := (hN.kp0 k1).get hx
  rw [hp] at hp'
  injection hp' with hp'
  subst hp'
  exact cp0 cp'
end

section
variable {H0 H : Hp} {sl : Sl} {NS : List Int} {now time : Int} {q0 q1 : Sl} {q5 q6 : Sl} {b : Nat}

theorem c5_3 {Q : Bool → Hp → Prop} {k : Nat} {x : Int} (hl : NS.length ≤ 1048576) (hk : k + 1 = NS.length) (hx : NS[k]? = some x) (hN : RdL iF H0 sl NS) (hb : H0.size ≤ b) (k0 : Kp No H0 H) (h : EnvH H0 q0 q1 S_b S_T time q5 q6 (plM NS now time S_b)) (hw : WantsH H0)
    (rb : Row H b 43 (envRow q0 q1 S_b S_T time q5 q6)) (hQ : ∀ H', Kp No H0 H' → Q true H') : F5_3 Q sl (NS.length : Int) ⟨b, 0, none⟩ false H := by
  have hn := hN.n
  refine ⟨fun h => (by cases h), fun _ => ?_⟩
  rw [add_mk]
  refine ⟨rb.some (by simp), rb.frz _, fun H517 e517 => ?_⟩
  have r5 : Row H517 b 43 (envRow q0 q1 E S_T time q5 q6) := rb.set' e517
  have k5 : Kp No H0 H517 := k0.set' e517 (.inr hb)
  have h5 : EnvH H0 q0 q1 E S_T time q5 q6 (plM NS now time E) := ⟨h.vars, h.vs, h.bound, rfl, h.nty, h.ntime, h.nvals, h.types⟩
  refine rask_not r5 (h5.no k5) (hw.no k5) q_e2 fun H1 k1 => ⟨fun _ => ?_, fun g => (by cases g)⟩
  refine rask_not (k1.row r5 id) (h5.no (k5.no2 k1)) (hw.no (k5.no2 k1)) q_e3 fun H2 k2 => ⟨fun _ => ?_, fun g => (by cases g)⟩
  have kk := k1.no2 k2
  have ka := k5.no2 kk
  exact rask_at (hN.kp0 ka) (by rw [wr (by omega) (by omega)]; omega) hx (kk.row r5 id) (h5.no ka) (hw.no ka) (q_last5 hk hx) fun H3 k3 => hQ H3 (ka.no2 k3)

theorem c5_2 {Q : Bool → Hp → Prop} (hl : NS.length ≤ 1048576) (hN : RdL iF H0 sl NS) (hb : H0.size ≤ b) (k0 : Kp No H0 H) (h : EnvH H0 q0 q1 S_b S_T time q5 q6 (plM NS now time S_b)) (hw : WantsH H0)
    (rb : Row H b 43 (envRow q0 q1 S_b S_T time q5 q6)) (hQ : ∀ H', Kp No H0 H' → Q true H') : F5_2 Q sl (NS.length : Int) ⟨b, 0, none⟩ false H := by
  have hn := hN.n
  refine ⟨fun h => (by cases h), fun _ => ⟨fun g => ?_, fun g => ?_⟩⟩
  · have g := of_decide_eq_true g
    have hnil : NS = [] := List.eq_nil_of_length_eq_zero (by omega)
    refine rask_not rb (h.no k0) (hw.no k0) (q_nil (.inl rfl) hnil) fun H1 k1 => ⟨fun _ => ?_, fun g => (by cases g)⟩
    have a1 := k0.no2 k1
    refine rask_not (k1.row rb id) (h.no a1) (hw.no a1) (q_nil (.inr (.inl rfl)) hnil) fun H2 k2 => ⟨fun _ => ?_, fun g => (by cases g)⟩
    have k2 := k1.no2 k2
    have a2 := k0.no2 k2
    refine rask_not (k2.row rb id) (h.no a2) (hw.no a2) (q_nil (.inr (.inr (.inl rfl))) hnil) fun H3 k3 => ⟨fun _ => ?_, fun g => (by cases g)⟩
    have k3 := k2.no2 k3
    have a3 := k0.no2 k3
    exact rask_not (k3.row rb id) (h.no a3) (hw.no a3) (q_nil (.inr (.inr (.inr rfl))) hnil) fun H4 k4 => hQ H4 (a3.no2 k4)
  · have g := of_decide_eq_false g
    obtain ⟨k, hk⟩ : ∃ k, k + 1 = NS.length := ⟨NS.length - 1, by omega⟩
    have gx : NS[k]? = some (NS[k]'(by omega)) := List.getElem?_eq_getElem (by omega)
    generalize NS[k]'(by omega) = x at gx
    have g0 : NS[0]? = some (NS[0]'(by omega)) := List.getElem?_eq_getElem (by omega)
    generalize NS[0]'(by omega) = x0 at g0
    have wk : IntKind.i64.wrap ((NS.length : Int) - 1) = (k : Int) := by rw [wr (by omega) (by omega)]; omega
    refine rask_at (hN.kp0 k0) rfl g0 rb (h.no k0) (hw.no k0) (q_first (.inl rfl) g0) fun H1 k1 => ⟨fun g => (by cases g), fun _ => ?_⟩
    have a1 := k0.no2 k1
    refine rask_at (hN.kp0 a1) rfl g0 (k1.row rb id) (h.no a1) (hw.no a1) (q_first (.inr rfl) g0) fun H2 k2 => ⟨fun g => (by cases g), fun _ => ?_⟩
    have k2 := k1.no2 k2
    have a2 := k0.no2 k2
    refine rask_at (hN.kp0 a2) wk gx (k2.row rb id) (h.no a2) (hw.no a2) (q_last5 hk gx) fun H3 k3 => ⟨fun g => (by cases g), fun _ => ?_⟩
    have k3 := k2.no2 k3
    have a3 := k0.no2 k3
    refine rask_at (hN.kp0 a3) wk gx (k3.row rb id) (h.no a3) (hw.no a3) (q_last3 hk gx) fun H4 k4 => ⟨fun g => (by cases g), fun _ => ?_⟩
    have k4 := k3.no2 k4
    have a4 := k0.no2 k4
    refine rask_is (k4.row rb id) (h.no a4) (hw.no a4) (by rw [wk]; exact q_last5t hk gx) fun H5 k5 => ?_
    have k5 := k4.no2 k5
    exact c5_3 hl hk gx hN hb (k0.no2 k5) h hw (k5.row rb id) hQ

theorem c5_1 {Q : Bool → Hp → Prop} (hl : NS.length ≤ 1048576) (hN : RdL iF H0 sl NS) (hb : H0.size ≤ b) (k0 : Kp No H0 H) (h : EnvH H0 q0 q1 S_b S_T time q5 q6 (plM NS now time S_b)) (hw : WantsH H0)
    (rb : Row H b 43 (envRow q0 q1 S_b S_T time q5 q6)) (hQ : ∀ H', Kp No H0 H' → Q true H') : F5_1 Q sl (NS.length : Int) ⟨b, 0, none⟩ false H := by
  refine ⟨fun h => (by cases h), fun _ => rask_not rb (h.no k0) (hw.no k0) q_a2 fun H1 k1 => ⟨fun g => (by cases g), fun _ => ?_⟩⟩
  have a1 := k0.no2 k1
  refine rask_not (k1.row rb id) (h.no a1) (hw.no a1) q_a3 fun H2 k2 => ⟨fun g => (by cases g), fun _ => ?_⟩
  have k2 := k1.no2 k2
  have a2 := k0.no2 k2
  refine rask_not (k2.row rb id) (h.no a2) (hw.no a2) q_z1 fun H3 k3 => ⟨fun g => (by cases g), fun _ => ?_⟩
  have k3 := k2.no2 k3
  have a3 := k0.no2 k3
  refine rask_not (k3.row rb id) (h.no a3) (hw.no a3) q_a1y fun H4 k4 => ?_
  have k4 := k3.no2 k4
  exact c5_2 hl hN hb (k0.no2 k4) h hw (k4.row rb id) hQ
end

theorem c5 {H : Hp} {p0 : Sl} {NS : List Int} {now time : Int} {Q : Bool → Hp → Prop} (hw : WantsH H) (hN : RdL iF H p0 NS) (hl : NS.length ≤ 1048576) (hQ : ∀ H', Kp No H H' → Q true H') : F5 p0 now time H Q := by
  refine c8 hw fun H1 k1 => ⟨fun h => (by cases h), fun _ H5 e5 => ?_⟩
  have k5 : Kp No H H5 := k1.push' e5
  have rv : Row H5 H1.size 9 ([S_b, S_a, S_b].flatMap sF.f) := Row.new' e5
  refine c11 (hN.kp0 k5) hl fun q7 H7 k7 ev7 _ => ?_
  refine c10 fun s10 H10 k10 v10 H15 e15 => ?_
  have k15 : Kp No H10 H15 := (Kp.refl _ _).push' e15
  have rp : Row H15 H10.size 36 ([(S_T, (7 : Int), s10)].flatMap evF.f) := Row.new' e15
  refine c10 fun s17 H17 k17 v17 H22 e22 H24 e24 => ?_
  have k22 : Kp No H17 H22 := (Kp.refl _ _).push' e22
  have rq : Row H22 H17.size 36 ([(S_T, (8 : Int), s17)].flatMap evF.f) := Row.new' e22
  have k24 : Kp No H22 H24 := (Kp.refl _ _).push' e24
  have rb : Row H24 H22.size 49 ([q7, Sl.mk (some ⟨H10.size, 0, none⟩) 1 1, Sl.mk (some ⟨H17.size, 0, none⟩) 1 1].flatMap slF.f) := Row.new' e24
  refine c10 fun s26 H26 k26 v26 => c12 fun q31 H31 k31 t31 H34 e34 => ?_
  have a24 : Kp No H24 H31 := k26.no2 k31
  have a22 : Kp No H22 H31 := k24.no2 a24
  have a17 : Kp No H17 H31 := k22.no2 a22
  have a15 : Kp No H15 H31 := k17.no2 a17
  have a10 : Kp No H10 H31 := k15.no2 a15
  have a7 : Kp No H7 H31 := k10.no2 a10
  have a5 : Kp No H5 H31 := k7.no2 a7
  have aH := k5.no2 a5
  have w10 := v10 No H31 a10 fun _ _ => id
  have w17 := v17 No H31 a17 fun _ _ => id
  have w26 := v26 No H31 k31 fun _ _ => id
  have w31 := t31.now
  have rp' := a15.row rp id
  have rq' := a22.row rq id
  have h : EnvH H31 (Sl.mk (some ⟨H1.size, 0, none⟩) 3 3) (Sl.mk (some ⟨H22.size, 0, none⟩) 3 3) S_b S_T time s26 q31 (plM NS now time S_b) := by
    refine ⟨Row.rdl (F := sF) (L := [S_b, S_a, S_b]) (n := 3) (a5.row rv id) rfl 3, (show 3 ≤ lim by decide), ⟨[q7, Sl.mk (some ⟨H10.size, 0, none⟩) 1 1, Sl.mk (some ⟨H17.size, 0, none⟩) 1 1], Row.rdl (F := slF) (n := 3) (a24.row rb id) rfl 3, rfl, fun i sl evs hs he => ?_⟩, rfl, rfl, rfl, w26, w31⟩
    match i with
    | 0 =>
      obtain rfl : q7 = sl := by simpa using hs
      obtain rfl : evsF 0 NS = evs := by simpa [plM] using he
      exact ev7.no a7
    | 1 =>
      obtain rfl : Sl.mk (some ⟨H10.size, 0, none⟩) 1 1 = sl := by simpa using hs
      obtain rfl : [evM 7 70 S_a] = evs := by simpa [plM] using he
      refine EvsH.of (R := [(S_T, (7 : Int), s10)]) (Row.rdl (F := evF) (n := 1) rp' rfl 1) (by decide) rfl fun i r e hr he => ?_
      match i with
      | 0 =>
        obtain rfl : (S_T, (7 : Int), s10) = r := by simpa using hr
        obtain rfl : evM 7 70 S_a = e := by simpa using he
        exact ⟨rfl, rfl, w10⟩
      | i + 1 => simp at hr
    | 2 =>
      obtain rfl : Sl.mk (some ⟨H17.size, 0, none⟩) 1 1 = sl := by simpa using hs
      obtain rfl : [evM 8 80 S_c] = evs := by simpa [plM] using he
      refine EvsH.of (R := [(S_T, (8 : Int), s17)]) (Row.rdl (F := evF) (n := 1) rq' rfl 1) (by decide) rfl fun i r e hr he => ?_
      match i with
      | 0 =>
        obtain rfl : (S_T, (8 : Int), s17) = r := by simpa using hr
        obtain rfl : evM 8 80 S_c = e := by simpa using he
        exact ⟨rfl, rfl, w17⟩
      | i + 1 => simp at hr
    | i + 3 => simp at hs
  have k34 : Kp No H31 H34 := (Kp.refl _ _).push' e34
  have r34 := Row.new' e34
  refine ⟨r34.mayw (by simp), fun H36 e36 => ?_⟩
  have rE : Row H36 H31.size 43 (envRow (Sl.mk (some ⟨H1.size, 0, none⟩) 3 3) (Sl.mk (some ⟨H22.size, 0, none⟩) 3 3) S_b S_T time s26 q31) := r34.fill' e36 rfl
  have k36 : Kp No H31 H36 := k34.sets' e36 (.inr (Nat.le_refl _))
  have hw31 := hw.no aH
  have hN31 := hN.kp0 aH
  have hn := hN.n
  refine rask_is rE (h.no k36) (hw31.no k36) q_now fun H1' k1' => ⟨fun g => (by cases g), fun _ => ?_⟩
  have b1 := k36.no2 k1'
  refine rask_is (k1'.row rE id) (h.no b1) (hw31.no b1) q_time fun H2' k2' => ⟨fun g => (by cases g), fun _ => ?_⟩
  have k2' := k1'.no2 k2'
  have b2 := k36.no2 k2'
  refine rask_is (k2'.row rE id) (h.no b2) (hw31.no b2) q_a1 fun H3' k3' => ⟨fun g => (by cases g), fun _ => ?_⟩
  have k3' := k2'.no2 k3'
  have b3 := k36.no2 k3'
  refine rask_is (k3'.row rE id) (h.no b3) (hw31.no b3) q_a5 fun H4' k4' => ?_
  have k4' := k3'.no2 k4'
  rw [hn]
  exact c5_1 hl hN31 (Nat.le_refl _) (k36.no2 k4') h hw31 (k4'.row rE id) fun H' k' => hQ H' (aH.no2 k')
end Go.Hw
