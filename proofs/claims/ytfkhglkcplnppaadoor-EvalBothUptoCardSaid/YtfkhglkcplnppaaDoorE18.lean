/- EvalBoth: the law. Own work of this session. -/
import Derived.Test.YtfkhglkcplnppaaDoorE17
set_option linter.unusedVariables false
namespace Go.Hw
open Go

theorem tm3 : ∀ {l : Nat}, l < 3 → Int.tmod (l : Int) (3 : Int) = (l : Int)
  | 0, _ => rfl
  | 1, _ => rfl
  | 2, _ => rfl
theorem tm3n : ∀ {l : Nat}, l < 3 → Int.tmod (IntKind.i64.wrap ((l : Int) + 1)) (3 : Int) = (nx l : Int)
  | 0, _ => rfl
  | 1, _ => rfl
  | 2, _ => rfl
theorem nx_lt : ∀ {l : Nat}, l < 3 → nx l < 3
  | 0, _ => by decide
  | 1, _ => by decide
  | 2, _ => by decide
theorem bK_nodes : ∀ {l : Nat}, l < 3 → (bK l).nodes ≤ 2
  | 0, _ => by decide
  | 1, _ => by decide
  | 2, _ => by decide
theorem end_two : holdsP exM (.cons (truthE true) .nil (.cons (truthE false) .nil .nil)) = false := by kernel_rfl
theorem end_bad : holdsP exM (.cons (bR 0) .nil .nil) = false := by kernel_rfl

section
variable {H H0 : Hp} {p0 p1 : Sl} {p2 p3 : ByteArray} {p4 : Int} {p5 p6 : Sl} {be bb bn : Nat} {qb : Sl} {q : Sl} {cs : List (ER × Fo)} {z : Nat}

theorem c6_1 {Q : Bool → Hp → Prop} {all : Bool} (hr : Rdy H0 p0 p1 p2 p3 p4 p5 p6 be bb bn qb) (hc : Cnd H0 H q cs z) (hl : cs.length ≤ 100) (ha : all = cs.all h1) (hQ : ∀ H', Kp No H0 H' → Q true H') : F6_1 Q ⟨be, 0, none⟩ ⟨bb, 0, none⟩ q all H := by
  have k := hc.k
  refine ⟨_, _, _, _, _, _, _, (k.row hr.re id).all, c21 (A := fun _ => True) (f := foL cs) (hr.e.no k) (hr.w.no k) hc.ex (foL_small hc.sm) (by rw [foL_len]; omega) fun H1 k1 => ?_⟩
  rw [foL_holds, ← ha]
  have a1 := k.no2 k1
  refine ⟨fun _ => ⟨_, _, _, _, _, _, _, (a1.row hr.re id).all, c21 (A := fun _ => True) (f := .nil) (hr.e.no a1) (hr.w.no a1) (Ex.nil _ _) trivial (by decide) fun H2 k2 => ⟨fun _ => ?_, fun g => (by cases g)⟩⟩, fun g => by simp at g⟩
  have a2 := a1.no2 k2
  refine ⟨_, _, _, _, _, _, _, (a2.row hr.re id).all, c20 fun H3 k3 => ⟨((a2.no2 k3).row hr.re id).all, c20 fun H4 k4 => ⟨((a2.no2 (k3.no2 k4)).row hr.re id).all, fun H5 e5 => ?_⟩⟩⟩
  have a4 := a2.no2 (k3.no2 k4)
  have k5 : Kp No H4 H5 := (Kp.refl _ _).push' e5
  have a5 := a4.no2 k5
  have r5 : Row H5 H4.size 41 ((truthE true).row Sl.nil ++ (truthE false).row Sl.nil) := Row.new' e5
  have x5 : Ex (fun _ => True) H5 (Sl.mk (some ⟨H4.size, 0, none⟩) 2 2) (.cons (truthE true) .nil (.cons (truthE false) .nil .nil)) := by
    refine ⟨rfl, ⟨H4.size, 0, none⟩, Sl.nil, rfl, trivial, ?_, rfl, trivial, ⟨H4.size, 0, none⟩, Sl.nil, rfl, trivial, ?_, rfl, trivial, trivial⟩
    · rw [add_mk]; exact r5.cells rfl
    · rw [add_mk]; exact r5.cells rfl
  refine ⟨(a5.row hr.re id).all, c21 (A := fun _ => True) (hr.e.no a5) (hr.w.no a5) x5 ⟨by decide, by decide, trivial⟩ (by decide) fun H6 k6 => ?_⟩
  rw [end_two]
  have a6 := a5.no2 k6
  refine ⟨fun _ => ⟨by omega, by omega, _, _, _, _, _, _, _, _, _, _, hr.bad a6 (l := 0) (by decide), _, _, _, _, _, _, _, (a6.row hr.re id).all, fun H7 e7 => ?_⟩, fun g => (by cases g)⟩
  have k7 : Kp No H6 H7 := (Kp.refl _ _).push' e7
  have a7 := a6.no2 k7
  have r7 : Row H7 H6.size 41 ((bR 0).row Sl.nil) := Row.new' e7
  have x7 : Ex (fun _ => True) H7 (Sl.mk (some ⟨H6.size, 0, none⟩) 1 1) (.cons (bR 0) .nil .nil) := by
    refine ⟨rfl, ⟨H6.size, 0, none⟩, Sl.nil, rfl, trivial, ?_, rfl, trivial, trivial⟩
    rw [add_mk]; exact r7.cells rfl
  refine ⟨(a7.row hr.re id).all, c21 (A := fun _ => True) (hr.e.no a7) (hr.w.no a7) x7 ⟨by decide, trivial⟩ (by decide) fun H8 k8 => ?_⟩
  rw [end_bad]
  exact hQ H8 (a7.no2 k8)

variable {Q : Bool → Hp → Prop} {X2 : Sl → Bool → Int → Hp → Prop} {s0 s1 : Sl} {i : Nat}

theorem c6_7 {r : ER} {kq : Sl} {kd : Fo} {b : Bool} (hc : Cnd H0 H q cs z) (hl : cs.length ≤ 100) (hi : i ≤ 40) (rx : Row H z 41 (r.row kq)) (xk : Ex (fun b => ¬ q.at b ∧ b ≠ z) H kq kd) (hs : kd.nodes ≤ 4194304) (hb : b = (cs ++ [(r, kd)]).all h1)
    (hK : ∀ q' H', Cnd H0 H' q' (cs ++ [(r, kd)]) z → X2 q' ((cs ++ [(r, kd)]).all h1) ((i + 1 : Nat) : Int) H') : F6_7 Q X2 s0 s1 ⟨be, 0, none⟩ ⟨bb, 0, none⟩ ⟨bn, 0, none⟩ q (i : Int) ⟨z, 0, none⟩ b H := by
  subst hb
  refine ⟨_, _, _, _, _, _, _, _, _, _, rx.all, fun H1 e1 => ?_⟩
  refine hc.app hl e1 xk hs fun q' H' h' => ?_
  rw [wr (x := (i : Int) + 1) (by omega) (by omega), show ((i : Int) + 1) = ((i + 1 : Nat) : Int) from by omega]
  exact hK q' H' h'

theorem c6_5 {b all : Bool} {k : Int} (hc : Cnd H0 H q cs z) (hz : H0.size ≤ z) (hq : ¬ q.at z) (hl : cs.length ≤ 100) (hi : i ≤ 40) (rx : Row H z 41 ((truthE b).row Sl.nil)) (ha : all = (cs.all h1 && b))
    (hK : ∀ c q' H', Cnd H0 H' q' (cs ++ [c]) z → X2 q' ((cs ++ [c]).all h1) ((i + 1 : Nat) : Int) H') : F6_5 Q X2 s0 s1 ⟨be, 0, none⟩ ⟨bb, 0, none⟩ ⟨bn, 0, none⟩ q (i : Int) ⟨z, 0, none⟩ k all H := by
  refine ⟨fun _ => c19 fun H1 k1 => ?_, fun _ => ?_⟩
  · have r1 := k1.row rx id
    refine ⟨r1.mayw (by simp), fun H2 e2 => ?_⟩
    have r2 : Row H2 z 41 ((litE 1).row Sl.nil) := r1.fill' e2 rfl
    have k2 : Kp (fun x => x = z) H1 H2 := (Kp.refl _ _).sets' e2 (.inl rfl)
    refine c6_7 (r := litE 1) (kd := .nil) ((hc.no k1).wr k2 hz hq) hl hi r2 (Ex.nil _ _) (by decide) ?_ (hK _)
    rw [List.all_append, List.all_cons, h_lit]; simp
  · refine c6_7 (r := truthE b) (kd := .nil) hc hl hi rx (Ex.nil _ _) (by decide) ?_ (hK _)
    rw [ha, List.all_append, List.all_cons, h_truth]; simp

/-- An operation over a truth and what is bad: its error. -/
theorem ask_b {l : Nat} {o : Int} {t : Bool} {K : Bool → Hp → Prop} (hl : l < 3) (hr : Rdy H0 p0 p1 p2 p3 p4 p5 p6 be bb bn qb) (k : Kp No H0 H) (ht : topP exM (opE 5 o) (.cons (truthE t) .nil (.cons (bR l) (bK l) .nil)) = (zeroV, bN l)) (hK : ∀ H', Kp No H H' → K true H') :
    (0 : Int) ≤ (l : Int) ∧ (l : Int) < ((3 : Nat) : Int) ∧ (
 ∃ (x182 : Int) (x183 : Int) (x184 : Int) (x185 : Int) (x186 : ByteArray) (x187 : Bool) (x188 : ByteArray) (x189 : Int) (x190 : ByteArray) (x191 : Sl), cells H (Addr.add ⟨bb, 0, none⟩ (((l : Int)).toNat * 10)) [(.int .i64 x182), (.int .i64 x183), (.int .i64 x184), (.int .i64 x185), (.string x186), (.bool x187), (.string x188), (.int .i64 x189), (.string x190), (Sl.v x191)] 0 ∧ (
 ∃ (x193 : Sl) (x194 : Sl) (x195 : ByteArray) (x196 : ByteArray) (x197 : Int) (x198 : Sl) (x199 : Sl), cells H ⟨be, 0, none⟩ [(Sl.v x193), (Sl.v x194), (.string x195), (.string x196), (.int .i64 x197), (Sl.v x198), (Sl.v x199)] 0 ∧ (
 (0 : Int) ≤ (l : Int) ∧ (l : Int) < ((3 : Nat) : Int) ∧ (
 ∃ x203 : Int, cell H (Addr.add ⟨bn, 0, none⟩ (((l : Int)).toNat * 1)) = some (.int .i64 x203) ∧ (
 F20 t H (fun (r206 : Int) (r207 : Int) (r208 : Int) (r209 : Int) (r210 : ByteArray) (r211 : Bool) (r212 : ByteArray) (r213 : Int) (r214 : ByteArray) (r215 : Sl) (H204 : Hp) => 
 cell H204 (Addr.add ⟨bn, 0, none⟩ (((l : Int)).toNat * 1)) = some (.int .i64 x203) ∧ cells H204 ⟨be, 0, none⟩ [(Sl.v x193), (Sl.v x194), (.string x195), (.string x196), (.int .i64 x197), (Sl.v x198), (Sl.v x199)] 0 ∧ cells H204 (Addr.add ⟨bb, 0, none⟩ (((l : Int)).toNat * 10)) [(.int .i64 x182), (.int .i64 x183), (.int .i64 x184), (.int .i64 x185), (.string x186), (.bool x187), (.string x188), (.int .i64 x189), (.string x190), (Sl.v x191)] 0 ∧ (
 F18 o r206 r207 r208 r209 r210 r211 r212 r213 r214 r215 x182 x183 x184 x185 x186 x187 x188 x189 x190 x191 H204 (fun (r221 : Int) (r222 : Int) (r223 : Int) (r224 : Int) (r225 : ByteArray) (r226 : Bool) (r227 : ByteArray) (r228 : Int) (r229 : ByteArray) (r230 : Sl) (H219 : Hp) => 
 cell H219 (Addr.add ⟨bn, 0, none⟩ (((l : Int)).toNat * 1)) = some (.int .i64 x203) ∧ cells H219 ⟨be, 0, none⟩ [(Sl.v x193), (Sl.v x194), (.string x195), (.string x196), (.int .i64 x197), (Sl.v x198), (Sl.v x199)] 0 ∧ (
 F15 r221 r222 r223 r224 r225 r226 r227 r228 r229 r230 x193 x194 x195 x196 x197 x198 x199 x203 H219 K))))))))) := by
  have e : ((l : Int)).toNat = l := by omega
  rw [e]
  refine ⟨by omega, by omega, _, _, _, _, _, _, _, _, _, _, hr.bad k hl, _, _, _, _, _, _, _, (k.row hr.re id).all, by omega, by omega, _, hr.no k hl, c20 fun H1 k1 => ?_⟩
  have a1 := k.no2 k1
  refine ⟨hr.no a1 hl, (a1.row hr.re id).all, hr.bad a1 hl, c18 (A := fun _ => True) (ra := truthE t) (rb := bR l) (ka := .nil) (kb := bK l) (Ex.nil _ _) ((hr.kids a1 hl).mono fun _ _ => trivial) (fun _ _ => trivial) fun qq H2 k2 x2 => ?_⟩
  have a2 := a1.no2 k2
  exact ⟨hr.no a2 hl, (a2.row hr.re id).all, c15 (A := fun _ => True) (r := opE 5 o) (hr.e.no a2) (hr.w.no a2) x2 (by have := bK_nodes hl; simp only [Fo.nodes]; omega) ht fun H3 k3 => hK H3 (k1.no2 (k2.no2 k3))⟩
end
end Go.Hw
