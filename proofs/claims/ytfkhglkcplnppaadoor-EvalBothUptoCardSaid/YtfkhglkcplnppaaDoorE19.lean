/- EvalBoth: the law, its rounds. Own work of this session. -/
import Derived.Test.YtfkhglkcplnppaaDoorE18
set_option linter.unusedVariables false
namespace Go.Hw
open Go

section
variable {H H0 : Hp} {p0 p1 : Sl} {p2 p3 : ByteArray} {p4 : Int} {p5 p6 : Sl} {be bb bn : Nat} {qb : Sl} {q : Sl} {cs : List (ER × Fo)} {z : Nat}
variable {Q : Bool → Hp → Prop} {X2 : Sl → Bool → Int → Hp → Prop} {s0 s1 : Sl} {i : Nat}

theorem c6_6 {l : Nat} {b : Bool} (hl3 : l < 3) (hr : Rdy H0 p0 p1 p2 p3 p4 p5 p6 be bb bn qb) (hc : Cnd H0 H q cs z) (hz : H0.size ≤ z) (hq : ¬ q.at z) (hl : cs.length ≤ 100) (hi : i ≤ 40) (rx : Row H z 41 ((truthE b).row Sl.nil))
    (hK : ∀ c q' H', Cnd H0 H' q' (cs ++ [c]) z → X2 q' ((cs ++ [c]).all h1) ((i + 1 : Nat) : Int) H') : F6_6 Q X2 s0 s1 ⟨be, 0, none⟩ ⟨bb, 0, none⟩ ⟨bn, 0, none⟩ q (i : Int) ⟨z, 0, none⟩ (l : Int) (l : Int) false H := by
  have k := hc.k
  have e : ((l : Int)).toNat = l := by omega
  have zl := rx.lt
  have ql : ∀ b, q.at b → b < H.size := fun b hb => by
    obtain ⟨R, h1, _, _⟩ := hc.rows
    exact h1.lt hb
  refine ⟨fun h => (by cases h), fun _ => ⟨_, _, _, _, _, _, _, _, _, _, rx.all, by omega, by omega, _, _, _, _, _, _, _, _, _, _, by rw [e]; exact hr.bad k hl3, ?_⟩⟩
  refine c18 (A := fun b => b < H0.size ∨ H.size ≤ b) (ra := truthE b) (rb := bR l) (ka := .nil) (kb := bK l) (Ex.nil _ _) ((hr.kids k hl3).mono fun _ h => .inl h) (fun b h => .inr h) fun qq H1 k1 x1 => ?_
  have r1 := k1.row rx id
  refine ⟨r1.mayw (by simp), fun H2 e2 => ?_⟩
  have r2 : Row H2 z 41 ((opE 5 13).row qq) := r1.fill' e2 rfl
  have k2 : Kp (fun x => x = z) H1 H2 := (Kp.refl _ _).sets' e2 (.inl rfl)
  refine ⟨fun g => absurd (of_decide_eq_true g) (by omega), fun _ => ?_⟩
  refine c6_7 (r := opE 5 13) (kd := orx b l) ((hc.no k1).wr k2 hz hq) hl hi r2 ?_ (by have := bK_nodes hl3; simp only [orx, Fo.nodes]; omega) ?_ (hK _)
  · refine (x1.kp k2 fun b hb hh => ?_).mono fun b hb => ⟨fun hh => ?_, fun hh => ?_⟩
    · have hh : b = z := hh
      omega
    · have a := hc.at' b hh
      have c := ql b hh
      omega
    · omega
  · rw [List.all_append, List.all_cons, h_orx hl3]; simp

theorem c6_4 {k : Int} {b all : Bool} (hk : 0 ≤ k) (hr : Rdy H0 p0 p1 p2 p3 p4 p5 p6 be bb bn qb) (hc : Cnd H0 H q cs z) (hz : H0.size ≤ z) (hq : ¬ q.at z) (hl : cs.length ≤ 100) (hi : i ≤ 40) (rx : Row H z 41 ((truthE b).row Sl.nil)) (ha : all = (cs.all h1 && b))
    (hK : ∀ c q' H', Cnd H0 H' q' (cs ++ [c]) z → X2 q' ((cs ++ [c]).all h1) ((i + 1 : Nat) : Int) H') : F6_4 Q X2 s0 s1 ⟨be, 0, none⟩ ⟨bb, 0, none⟩ ⟨bn, 0, none⟩ q all (i : Int) ⟨z, 0, none⟩ k H := by
  refine ⟨fun g => ?_, fun g => c6_5 hc hz hq hl hi rx ha hK⟩
  have g := of_decide_eq_true g
  obtain ⟨l, rfl⟩ : ∃ l : Nat, k = (l : Int) := ⟨k.toNat, by omega⟩
  have hl3 : l < 3 := by omega
  rw [tm3 hl3, tm3n hl3]
  have kk := hc.k
  have h0 := hc
  refine ask_b hl3 hr kk (t_or1 hl3) fun H1 k1 => ⟨fun g => (by cases g), fun _ => ?_⟩
  have a1 := kk.no2 k1
  refine ask_b hl3 hr a1 (t_and1 hl3) fun H2 k2 => ⟨fun g => (by cases g), fun _ => ?_⟩
  have a2 := a1.no2 k2
  have e : ((l : Int)).toNat = l := by omega
  have en : ((nx l : Int)).toNat = nx l := by omega
  have hn3 := nx_lt hl3
  refine ⟨by omega, by omega, _, _, _, _, _, _, _, _, _, _, by rw [e]; exact hr.bad a2 hl3, by omega, by omega, _, _, _, _, _, _, _, _, _, _, by rw [en]; exact hr.bad a2 hn3, _, _, _, _, _, _, _, (a2.row hr.re id).all, by omega, by omega, _, by rw [e]; exact hr.no a2 hl3, ?_⟩
  refine c18 (A := fun _ => True) (ra := bR l) (rb := bR (nx l)) (ka := bK l) (kb := bK (nx l)) ((hr.kids a2 hl3).mono fun _ _ => trivial) ((hr.kids a2 hn3).mono fun _ _ => trivial) (fun _ _ => trivial) fun qq H3 k3 x3 => ?_
  have a3 := a2.no2 k3
  refine ⟨by rw [e]; exact hr.no a3 hl3, (a3.row hr.re id).all, c15 (A := fun _ => True) (r := opE 5 13) (hr.e.no a3) (hr.w.no a3) x3 (by have := bK_nodes hl3; have := bK_nodes hn3; simp only [Fo.nodes]; omega) (t_or2 hl3) fun H4 k4 => ?_⟩
  have k04 := (k1.no2 k2).no2 (k3.no2 k4)
  exact c6_6 hl3 hr (hc.no k04) hz hq hl hi (k04.row rx id) hK
end
end Go.Hw
