/- EvalBoth: the law, from its beginning. Own work of this session. -/
import Derived.Test.YtfkhglkcplnppaaDoorE19
set_option linter.unusedVariables false
namespace Go.Hw
open Go

def btF : Fmt Bool 4 1 := ⟨fun x => [.bool x], fun _ => rfl, by intro x v hv; simp at hv; rcases hv with rfl; rfl, by decide⟩
def u8F : Fmt Int 5 1 := ⟨fun x => [.int .u8 x], fun _ => rfl, by intro x v hv; simp at hv; rcases hv with rfl; rfl, by decide⟩

section
variable {H H0 : Hp} {p0 p1 : Sl} {p2 p3 : ByteArray} {p4 : Int} {p5 p6 : Sl} {be bb bn : Nat} {qb : Sl} {q : Sl} {cs : List (ER × Fo)} {z : Nat}
variable {Q : Bool → Hp → Prop} {X2 : Sl → Bool → Int → Hp → Prop} {s0 s1 : Sl} {i : Nat} {PS : List Bool} {ES : List Int}

theorem c6_3 {b all : Bool} (hE : RdL u8F H0 s1 ES) (hes : ∀ x ∈ ES, 0 ≤ x ∧ x ≤ 255) (hr : Rdy H0 p0 p1 p2 p3 p4 p5 p6 be bb bn qb) (hc : Cnd H0 H q cs z) (hz : H0.size ≤ z) (hq : ¬ q.at z) (hl : cs.length ≤ 100) (hi : i ≤ 40) (rx : Row H z 41 ((truthE b).row Sl.nil)) (ha : all = (cs.all h1 && b))
    (hK : ∀ c q' H', Cnd H0 H' q' (cs ++ [c]) z → X2 q' ((cs ++ [c]).all h1) ((i + 1 : Nat) : Int) H') : F6_3 Q X2 s0 s1 ⟨be, 0, none⟩ ⟨bb, 0, none⟩ ⟨bn, 0, none⟩ q (i : Int) ⟨z, 0, none⟩ all H := by
  have hn := hE.n
  refine ⟨fun g => ?_, fun g => c6_4 (by omega) hr hc hz hq hl hi rx ha hK⟩
  have g := of_decide_eq_true g
  have gx : ES[i]? = some (ES[i]'(by omega)) := List.getElem?_eq_getElem (by omega)
  have hx := hes (ES[i]'(by omega)) (List.getElem_mem _)
  generalize ES[i]'(by omega) = x at gx hx
  obtain ⟨p, hp, hpn, cp⟩ := (hE.kp0 hc.k).get gx
  have cp0 : cell H (Addr.add p (((i : Int)).toNat * 1)) = some (.int .u8 x) := by
    have := cp.1
    rw [add_add, Nat.add_zero] at this
    rwa [show ((i : Int)).toNat = i from by omega]
  refine ⟨p, hp, by omega, by omega, x, cp0, c6_4 ?_ hr hc hz hq hl hi rx ha hK⟩
  rw [wr (by omega) (by omega)]
  exact Int.tmod_nonneg _ hx.1

theorem c6_2 (hP : RdL btF H0 s0 PS) (hE : RdL u8F H0 s1 ES) (hes : ∀ x ∈ ES, 0 ≤ x ∧ x ≤ 255) (hr : Rdy H0 p0 p1 p2 p3 p4 p5 p6 be bb bn qb) (hQ : ∀ H', Kp No H0 H' → Q true H') : F6_L2 Q s0 s1 ⟨be, 0, none⟩ ⟨bb, 0, none⟩ ⟨bn, 0, none⟩ Sl.nil true 0 H0 := by
  have hn := hP.n
  intro X hX
  suffices G : ∀ (d i : Nat) (q : Sl) (cs : List (ER × Fo)) (z : Nat) (H : Hp), i + d = 40 → cs.length = i → Cnd H0 H q cs z → X q (cs.all h1) (i : Int) H from
    G 40 0 Sl.nil [] 0 H0 rfl rfl ⟨Kp.refl _ _, (fun b hb => (by cases hb)), ⟨[], Lst.nil _ _, rfl, (fun j r c hr => (by simp at hr))⟩, (fun c hc => (by cases hc))⟩
  intro d
  induction d with
  | zero =>
    intro i q cs z H hi hcl hc
    refine hX _ _ _ _ ⟨fun _ => ⟨fun g => absurd (of_decide_eq_true g) (by omega), fun _ => c6_1 hr hc (by omega) rfl hQ⟩, fun _ => c6_1 hr hc (by omega) rfl hQ⟩
  | succ d ih =>
    intro i q cs z H hi hcl hc
    refine hX _ _ _ _ ⟨fun g => ⟨fun _ => ?_, fun g2 => absurd (of_decide_eq_false g2) (by omega)⟩, fun _ => c6_1 hr hc (by omega) rfl hQ⟩
    have g := of_decide_eq_true g
    have gx : PS[i]? = some (PS[i]'(by omega)) := List.getElem?_eq_getElem (by omega)
    generalize PS[i]'(by omega) = b at gx
    have rd : ∀ {Hx : Hp}, Kp No H0 Hx → ∃ a : Addr, s0.b = some a ∧ (0 : Int) ≤ (i : Int) ∧ (i : Int) < (s0.n : Int) ∧ cell Hx (Addr.add a (((i : Int)).toNat * 1)) = some (.bool b) := fun k => by
      obtain ⟨p, hp, hpn, cp⟩ := (hP.kp0 k).get gx
      refine ⟨p, hp, by omega, by omega, ?_⟩
      have := cp.1
      rw [add_add, Nat.add_zero] at this
      rwa [show ((i : Int)).toNat = i from by omega]
    obtain ⟨a, e1, e2, e3, e4⟩ := rd hc.k
    refine ⟨a, e1, e2, e3, b, e4, c20 fun H1 k1 H2 e12 => ?_⟩
    have c1 := hc.no k1
    have k2 : Kp No H1 H2 := (Kp.refl _ _).push' e12
    have r2 := Row.new' e12
    refine ⟨r2.mayw (by simp), fun H3 e13 => ?_⟩
    have r3 : Row H3 H1.size 41 ((truthE b).row Sl.nil) := r2.fill' e13 rfl
    have k3 : Kp No H1 H3 := k2.sets' e13 (.inr (Nat.le_refl _))
    have c3 := (c1.z (Nat.le_refl _)).no k3
    have hz : H0.size ≤ H1.size := c1.k.size
    have hq : ¬ q.at H1.size := fun hh => by
      obtain ⟨R, l1, _, _⟩ := c1.rows
      have := l1.lt hh; omega
    have next : ∀ c q' H', Cnd H0 H' q' (cs ++ [c]) H1.size → X q' ((cs ++ [c]).all h1) ((i + 1 : Nat) : Int) H' := fun c q' H' h' => ih (i + 1) q' (cs ++ [c]) H1.size H' (by omega) (by simp [hcl]) h'
    refine ⟨fun ga => ?_, fun ga => ?_⟩
    · obtain ⟨a', f1, f2, f3, f4⟩ := rd c3.k
      exact ⟨a', f1, f2, f3, b, f4, c6_3 hE hes hr c3 hz hq (by omega) (by omega) r3 (by rw [ga]; rfl) next⟩
    · exact c6_3 hE hes hr c3 hz hq (by omega) (by omega) r3 (by rw [ga]; rfl) next
end

theorem c6 {H : Hp} {s0 s1 : Sl} {PS : List Bool} {ES : List Int} {Q : Bool → Hp → Prop} (hw : WantsH H) (hP : RdL btF H s0 PS) (hE : RdL u8F H s1 ES) (hes : ∀ x ∈ ES, 0 ≤ x ∧ x ≤ 255) (hQ : ∀ H', Kp No H H' → Q true H') : F6 s0 s1 H Q := by
  refine c8 hw fun H1 k1 => ⟨fun h => (by cases h), fun _ => ?_⟩
  refine c17 fun p0 p1 p2 p3 p4 p5 p6 H5 k5 h5 H14 e14 => ?_
  have k14 : Kp No H5 H14 := (Kp.refl _ _).push' e14
  have r14 := Row.new' e14
  refine ⟨r14.mayw (by simp), fun H16 e16 => ?_⟩
  have rE : Row H16 H5.size 43 (envRow p0 p1 p2 p3 p4 p5 p6) := r14.fill' e16 rfl
  have k16 : Kp No H5 H16 := k14.sets' e16 (.inr (Nat.le_refl _))
  refine c16 fun H19 k19 => c16 fun H31 k31 => c19 fun H43 k43 => c16 fun H55 k55 => ?_
  have k55 := k19.no2 (k31.no2 (k43.no2 k55))
  refine c18 (A := fun _ => True) (ra := litE 1) (rb := refE S_a 1 S_s) (ka := .nil) (kb := .nil) (Ex.nil _ _) (Ex.nil _ _) (fun _ _ => trivial) fun qb H67 k67 x67 H79 e79 => ?_
  have k67 := k55.no2 k67
  have k79 : Kp No H67 H79 := (Kp.refl _ _).push' e79
  have r79 := Row.new' e79
  refine ⟨r79.mayw (by simp), fun H81 e81 => ?_⟩
  have rB : Row H81 H67.size 64 ((bR 0).row Sl.nil ++ (bR 1).row Sl.nil ++ (bR 2).row qb) := r79.fill' e81 rfl
  have k81 : Kp No H67 H81 := k79.sets' e81 (.inr (Nat.le_refl _))
  intro H84 e84
  have k84 : Kp No H81 H84 := (Kp.refl _ _).push' e84
  have r84 := Row.new' e84
  refine ⟨r84.mayw (by simp), fun H86 e86 => ?_⟩
  have rN : Row H86 H81.size 65 [.int .i64 110, .int .i64 82, .int .i64 10] := r84.fill' e86 rfl
  have k86 : Kp No H81 H86 := k84.sets' e86 (.inr (Nat.le_refl _))
  have a67 : Kp No H67 H86 := k81.no2 k86
  have a16 : Kp No H16 H86 := k67.no2 a67
  have a5 : Kp No H5 H86 := k16.no2 a16
  have aH : Kp No H H86 := k1.no2 (k5.no2 a5)
  have hr : Rdy H86 p0 p1 p2 p3 p4 p5 p6 H5.size H67.size H81.size qb :=
    ⟨hw.no aH, h5.now.no a5, a16.row rE id, k86.row rB id, rN, (x67.no a67).lt.mono fun b hb => hb.2⟩
  exact c6_2 (hP.kp0 aH) (hE.kp0 aH) hes hr fun H' k' => hQ H' (aH.no2 k')
end Go.Hw
