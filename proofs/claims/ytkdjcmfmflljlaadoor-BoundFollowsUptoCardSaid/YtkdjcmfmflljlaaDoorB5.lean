/- A solved leaf; expressions without kids compared; a condition's leaves. Own work of this session. -/
import Derived.Test.YtkdjcmfmflljlaaDoorB3
set_option linter.unusedVariables false
namespace Go.Hw
open Go

section
variable {H H0 : Hp} {r : ER} {q : Sl} {kd : Fo}
theorem c36 {Q : QS} (k0 : Kp No H0 H) (hx : Xk H0 q kd) (hQ : ∀ H' o r1 q1 r2 q2 ok, Kp No H H' → SideR H0 (solvP r kd) o r1 q1 r2 q2 ok → QSo Q o r1 q1 r2 q2 ok H') : F36 r.k r.o r.vk r.vi r.vs r.vb r.v r.p r.a q H Q := by
  intro H1 e1 H3 e3
  have k3 : Kp No H H3 := ((Kp.refl No H).push' e1).push' e3
  have s1 := size_push' e1
  have s3 := size_push' e3
  have x3 : Row H3 H.size 41 (r.row q) := (Row.new' e1).push' e3
  have z3 : Row H3 H1.size 89 (sideRow 0 zeroE Sl.nil zeroE Sl.nil) := Row.new' e3
  refine ⟨_, _, _, _, _, _, _, _, _, _, x3.all, c53 (k0.no2 k3) hx fun H16 o r1 q1 r2 q2 ok k16 hs H40 e40 => ?_⟩
  have y40 : Row H40 H16.size 89 (sideRow 0 zeroE Sl.nil zeroE Sl.nil) := Row.new' e40
  have k40 : Kp No H16 H40 := (Kp.refl No H16).push' e40
  refine ⟨y40.mayw (by simp), fun H42 e42 => ?_⟩
  have y42 : Row H42 H16.size 89 (sideRow o r1 q1 r2 q2) := y40.fill' e42 rfl
  have k42 : Kp No H16 H42 := k40.box ((Kp.refl _ _).sets' e42 (.inl rfl)) (Nat.le_refl _)
  have kA : Kp No H3 H42 := k16.no2 k42
  have kk : Kp No H H42 := k3.no2 kA
  have z42 := kA.row z3 id
  have s16 := k16.size
  have s42 := k42.size
  have hb : H.size ≤ H1.size := by omega
  unfold solvP at hQ
  refine ⟨fun h => ?_, fun h => ?_⟩
  · have h : ok = false := by simpa using h
    refine ⟨_, _, _, _, _, _, _, _, _, _, _, _, _, _, _, _, _, _, _, _, _, y42.all, ?_⟩
    refine ret21 z42 rfl o r1 q1 r2 q2 fun H' k' => hQ H' o r1 q1 r2 q2 false (kk.box k' hb) ?_
    cases hp : sideP r kd with
    | none => rfl
    | some s => rw [hp] at hs; rw [h] at hs; cases hs.1
  · have h : ok = true := by simpa using h
    cases hp : sideP r kd with
    | none => rw [hp] at hs; have : ok = false := hs; rw [h] at this; cases this
    | some s =>
      rw [hp] at hs hQ
      obtain ⟨_, rfl, rfl, rfl, x1, x2⟩ := hs
      refine ⟨_, _, _, _, _, _, _, _, _, _, rowcs (i := 11) (m := s.r2.row q2) y42 rfl, c40 (r := s.r2) fun H104 k104 => ⟨fun hr => ?_, fun hr => ?_⟩⟩
      · have hQ : ∀ H' o r1 q1 r2 q2 ok, Kp No H H' → SideR H0 (some s) o r1 q1 r2 q2 ok → QSo Q o r1 q1 r2 q2 ok H' := fun H' o r1 q1 r2 q2 ok k hs => hQ H' o r1 q1 r2 q2 ok k (by
          show SideR H0 (if isRefP s.r2 = true then some s else _) _ _ _ _ _ _
          rw [if_pos hr]; exact hs)
        refine ⟨_, _, _, _, _, _, _, _, _, _, _, _, _, _, _, _, _, _, _, _, _, (k104.row y42 id).all, ?_⟩
        exact ret21 (k104.row z42 id) rfl s.o s.r1 q1 s.r2 q2 fun H' k' => hQ H' _ _ q1 _ q2 true ((kk.no2 k104).box k' hb) ⟨rfl, rfl, rfl, rfl, x1, x2⟩
      · have y104 := k104.row y42 id
        have kB := kk.no2 k104
        refine ⟨_, _, _, _, _, _, _, _, _, _, rowcs (i := 11) (m := s.r2.row q2) y104 rfl, c41 (x2.no (k0.no2 kB)) fun H166 k166 H173 e173 => ?_⟩
        have k173 : Kp No H166 H173 := (Kp.refl No H166).push' e173
        have w173 : Row H173 H166.size 25 zeroV.row := Row.new' e173
        refine ⟨w173.mayw (by simp), fun H175 e175 => ?_⟩
        have w175 : Row H175 H166.size 25 ((constP s.r2 s.k2).getD zeroV).row := w173.fill' e175 rfl
        have k175 : Kp No H166 H175 := k173.box ((Kp.refl _ _).sets' e175 (.inl rfl)) (Nat.le_refl _)
        have kC : Kp No H104 H175 := k166.no2 k175
        have kD : Kp No H H175 := kB.no2 kC
        have y175 := kC.row y104 id
        have z175 := kC.row (k104.row z42 id) id
        have s104 := k104.size
        have s166 := k166.size
        have hQ : ∀ H' o r1 q1 r2 q2 ok, Kp No H H' → SideR H0 (match constP s.r2 s.k2 with | none => none | some c => if s.o = 6 ∨ c.k = 1 then some s else none) o r1 q1 r2 q2 ok → QSo Q o r1 q1 r2 q2 ok H' := fun H' o r1 q1 r2 q2 ok k hs => hQ H' o r1 q1 r2 q2 ok k (by
          show SideR H0 (if isRefP s.r2 = true then some s else _) _ _ _ _ _ _
          rw [if_neg (by rw [hr]; decide)]; exact hs)
        refine ⟨_, _, _, _, _, _, _, _, _, _, _, _, _, _, _, _, _, _, _, _, _, y175.all, fun hc => ⟨_, y175.cell_of (i := 0) rfl, fun h6 => ?_, fun h6 => ?_⟩, fun hc => ?_⟩
        · obtain ⟨c, hc⟩ := Option.isSome_iff_exists.1 hc
          rw [hc] at hQ
          have := ret21 (K := fun x0 x1 x2 x3 x4 x5 x6 x7 x8 x9 x10 y1 y2 y3 y4 y5 y6 y7 y8 y9 y10 H' => Q x0 x1 x2 x3 x4 x5 x6 x7 x8 x9 x10 y1 y2 y3 y4 y5 y6 y7 y8 y9 y10 true H') z175 rfl s.o s.r1 q1 s.r2 q2 fun H' k' => hQ H' s.o s.r1 q1 s.r2 q2 true (kD.box k' hb) (by
            show SideR H0 (if s.o = 6 ∨ c.k = 1 then some s else none) _ _ _ _ _ _
            rw [if_pos (.inl (of_decide_eq_true h6))]; exact ⟨rfl, rfl, rfl, rfl, x1, x2⟩)
          refine ⟨this.1, fun H' e => ⟨?_, this.2 H' e⟩⟩
          exact (y175.sets_ne' e (by show H16.size ≠ H1.size; omega)).cell_of (i := 0) rfl
        · obtain ⟨c, hc⟩ := Option.isSome_iff_exists.1 hc
          rw [hc] at hQ w175
          have := ret21 (K := fun x0 x1 x2 x3 x4 x5 x6 x7 x8 x9 x10 y1 y2 y3 y4 y5 y6 y7 y8 y9 y10 H' => Q x0 x1 x2 x3 x4 x5 x6 x7 x8 x9 x10 y1 y2 y3 y4 y5 y6 y7 y8 y9 y10 (decide (c.k = 1)) H') z175 rfl s.o s.r1 q1 s.r2 q2 fun H' k' => hQ H' s.o s.r1 q1 s.r2 q2 (decide (c.k = 1)) (kD.box k' hb) (by
            show SideR H0 (if s.o = 6 ∨ c.k = 1 then some s else none) _ _ _ _ _ _
            by_cases hk : c.k = 1
            · rw [if_pos (.inr hk)]; exact ⟨decide_eq_true hk, rfl, rfl, rfl, x1, x2⟩
            · rw [if_neg (fun h => h.elim (of_decide_eq_false h6) hk)]; exact decide_eq_false hk)
          refine ⟨_, w175.cell_of (i := 0) rfl, this.1, fun H' e => ⟨?_, ?_, this.2 H' e⟩⟩
          · exact (w175.sets_ne' e (by show H166.size ≠ H1.size; omega)).cell_of (i := 0) rfl
          · exact (y175.sets_ne' e (by show H16.size ≠ H1.size; omega)).cell_of (i := 0) rfl
        · have hc : constP s.r2 s.k2 = none := by simpa using hc
          rw [hc] at hQ
          exact ret21 z175 rfl s.o s.r1 q1 s.r2 q2 fun H' k' => hQ H' s.o s.r1 q1 s.r2 q2 false (kD.box k' hb) rfl

/-! ## compared -/
def sameE (a b : ER) : Bool := decide (a.k = b.k) && (decide (a.o = b.o) && ((decide (a.vk = b.vk) && (decide (a.vi = b.vi) && (seq a.vs b.vs && (a.vb == b.vb)))) && (seq a.v b.v && (decide (a.p = b.p) && seq a.a b.a))))
theorem seq_dec' (a b : ByteArray) : seq a b = decide (a = b) := by
  exact seq_dec a b
theorem sameE_iff (a b : ER) : sameE a b = true ↔ a = b := by
  constructor
  · intro h
    simp only [sameE, seq_dec', Bool.and_eq_true, decide_eq_true_eq, beq_iff_eq] at h
    obtain ⟨h1, h2, ⟨h3, h4, h5, h6⟩, h7, h8, h9⟩ := h
    cases a; cases b
    simp only at *
    subst h1 h2 h3 h4 h5 h6 h7 h8 h9
    rfl
  · rintro rfl
    simp [sameE, seq_dec']
theorem c30 {a b : ER} {qa qb : Sl} {Q : Bool → Hp → Prop} (ha : qa.n = 0) (hb : qb.n = 0) (hQ : ∀ H', Kp No H H' → Q (sameE a b) H') :
    F30 a.k a.o a.vk a.vi a.vs a.vb a.v a.p a.a qa b.k b.o b.vk b.vi b.vs b.vb b.v b.p b.a qb H Q := by
  intro H1 e1 H3 e3
  have k3 : Kp No H H3 := ((Kp.refl No H).push' e1).push' e3
  have x : Row H3 H.size 41 (a.row qa) := (Row.new' e1).push' e3
  have y : Row H3 H1.size 41 (b.row qb) := Row.new' e3
  have hq := hQ H3 k3
  refine ⟨_, x.cell_of (i := 0) rfl, _, y.cell_of (i := 0) rfl, fun h1 => ⟨_, rowc (i := 1) x rfl, _, rowc (i := 1) y rfl, fun h2 => ⟨_, _, _, _, rowcs (i := 2) (m := a.val.row) x rfl, _, _, _, _, rowcs (i := 2) (m := b.val.row) y rfl, fun h3 => ⟨_, rowc (i := 6) x rfl, _, rowc (i := 6) y rfl, fun h4 => ⟨_, rowc (i := 7) x rfl, _, rowc (i := 7) y rfl, fun h5 => ⟨_, rowc (i := 8) x rfl, _, rowc (i := 8) y rfl, fun h6 => ⟨_, rowc (i := 9) x rfl, _, rowc (i := 9) y rfl, ?_⟩, fun h6 => ?_⟩, fun h5 => ?_⟩, fun h4 => ?_⟩, fun h3 => ?_⟩, fun h2 => ?_⟩, fun h1 => ?_⟩
  · refine ⟨fun h => absurd (of_decide_eq_true h) (by omega), fun _ => fun X hX => hX _ _ ⟨fun h => absurd (of_decide_eq_true h) (by omega), fun _ => ?_⟩⟩
    rw [sameE, h1, h2, show (decide (a.vk = b.vk) && (decide (a.vi = b.vi) && (seq a.vs b.vs && (a.vb == b.vb)))) = true from h3, h4, h5, h6] at hq
    exact hq
  · rw [sameE, h1, h2, show (decide (a.vk = b.vk) && (decide (a.vi = b.vi) && (seq a.vs b.vs && (a.vb == b.vb)))) = true from h3, h4, h5, h6] at hq
    exact hq
  · rw [sameE, h1, h2, show (decide (a.vk = b.vk) && (decide (a.vi = b.vi) && (seq a.vs b.vs && (a.vb == b.vb)))) = true from h3, h4, h5] at hq
    exact hq
  · rw [sameE, h1, h2, show (decide (a.vk = b.vk) && (decide (a.vi = b.vi) && (seq a.vs b.vs && (a.vb == b.vb)))) = true from h3, h4] at hq
    exact hq
  · rw [sameE, h1, h2, show (decide (a.vk = b.vk) && (decide (a.vi = b.vi) && (seq a.vs b.vs && (a.vb == b.vb)))) = false from h3] at hq
    exact hq
  · rw [sameE, h1, h2] at hq
    exact hq
  · rw [sameE, h1] at hq
    exact hq

/-! ## leaves -/
theorem Fo.two : ∀ {kd : Fo}, kd.len = 2 → ∃ r1 k1 r2 k2, kd = .cons r1 k1 (.cons r2 k2 .nil)
  | .cons r1 k1 (.cons r2 k2 .nil), _ => ⟨r1, k1, r2, k2, rfl⟩
  | .nil, h => by cases h
  | .cons _ _ .nil, h => by cases h
  | .cons _ _ (.cons _ _ (.cons _ _ _)), h => by simp [Fo.len] at h
theorem Fo.pairs {P : Fo → Prop} (h : ∀ kd, (∀ r1 k1 r2 k2, kd = .cons r1 k1 (.cons r2 k2 .nil) → P k1 ∧ P k2) → P kd) (kd : Fo) : P kd := by
  have : ∀ f : Fo, P f ∧ (∀ r k s, f = .cons r k s → P k ∧ ∀ r2 k2 s2, s = .cons r2 k2 s2 → P k2) ∧ ∀ r k s, f = .cons r k s → P k := by
    intro f
    induction f with
    | nil => exact ⟨h _ fun _ _ _ _ e => (by cases e), fun _ _ _ e => (by cases e), fun _ _ _ e => (by cases e)⟩
    | cons r k s ihk ihs =>
      refine ⟨h _ fun r1 k1 r2 k2 e => ?_, fun r' k' s' e => ?_, fun r' k' s' e => ?_⟩
      · cases e; exact ⟨ihk.1, ihs.2.2 _ _ _ rfl⟩
      · cases e; exact ⟨ihk.1, fun r2 k2 s2 e => ihs.2.2 _ _ _ e⟩
      · cases e; exact ihk.1
  exact (this kd).1
def leavesP : ER → Fo → List (ER × Fo)
  | r, .cons r1 k1 (.cons r2 k2 .nil) => if r.k = 5 ∧ r.o = 12 then leavesP r1 k1 ++ leavesP r2 k2 else [(r, .cons r1 k1 (.cons r2 k2 .nil))]
  | r, kd => [(r, kd)]
theorem leavesP_one {r : ER} {kd : Fo} (h : ¬ (r.k = 5 ∧ r.o = 12 ∧ kd.len = 2)) : leavesP r kd = [(r, kd)] := by
  unfold leavesP
  split
  · rw [if_neg (fun g => h ⟨g.1, g.2, rfl⟩)]
  · rfl
def eF : Fmt (ER × Sl) 41 10 := ⟨fun x => x.1.row x.2, fun _ => rfl, by
  intro x v hv
  simp only [List.mem_cons, List.not_mem_nil, or_false] at hv
  rcases hv with rfl | rfl | rfl | rfl | rfl | rfl | rfl | rfl | rfl | rfl <;> rfl, by decide⟩
abbrev WE := (ER × Sl) × (ER × Fo)
/-- A list of expressions of its own, their kids as they were. -/
structure LvH (H0 H : Hp) (sl : Sl) (W : List WE) (B : Nat) : Prop where
  l : Lst eF H sl (W.map Prod.fst)
  x : ∀ w ∈ W, w.1.1 = w.2.1 ∧ Xk H0 w.1.2 w.2.2
  b : ∀ b, sl.at b → B ≤ b
theorem LvH.no {H' : Hp} {sl : Sl} {W : List WE} {B : Nat} (h : LvH H0 H sl W B) (k : Kp No H H') : LvH H0 H' sl W B := ⟨h.l.kp k fun _ _ => id, h.x, h.b⟩
abbrev XL := Int → Int → Int → Int → ByteArray → Bool → ByteArray → Int → ByteArray → Sl → Hp → (Sl → Hp → Prop) → Prop
theorem c35_one {X : XL} {Q : Sl → Hp → Prop} {b : Nat} {B : Nat} (x : Row H b 41 (r.row q)) (hB : B ≤ H.size) (hx : Xk H0 q kd) (hQ : ∀ sl W H', W.map Prod.snd = [(r, kd)] → LvH H0 H' sl W B → Kp No H H' → Q sl H') : F35_1 X Q ⟨b, 0, none⟩ false H := by
  refine ⟨fun h => (by cases h), fun _ => ⟨_, _, _, _, _, _, _, _, _, _, x.all, fun H77 e77 => ?_⟩⟩
  have y : Row H77 H.size 41 (r.row q) := Row.new' e77
  refine hQ _ [((r, q), (r, kd))] H77 rfl ⟨⟨.inr ⟨H.size, [], rfl, by simpa [eF] using y, by simp [eF], by simp [eF], Nat.le_refl _, (by show (1 : Nat) ≤ 9223372036854775807; decide)⟩⟩, fun w hw => ?_, fun b hb => ?_⟩ ((Kp.refl No H).push' e77)
  · rw [List.mem_singleton] at hw; subst hw; exact ⟨rfl, hx⟩
  · have : H.size = b := by simpa [Sl.at] using hb
    omega
theorem c35_x {X : XL} (hX : ∀ (p0_0 : Int) (p0_1 : Int) (p0_2 : Int) (p0_3 : Int) (p0_4 : ByteArray) (p0_5 : Bool) (p0_6 : ByteArray) (p0_7 : Int) (p0_8 : ByteArray) (p0_9 : Sl) (H : Hp) (Q : Sl → Hp → Prop), F35b X p0_0 p0_1 p0_2 p0_3 p0_4 p0_5 p0_6 p0_7 p0_8 p0_9 H Q → X p0_0 p0_1 p0_2 p0_3 p0_4 p0_5 p0_6 p0_7 p0_8 p0_9 H Q) :
    ∀ (kd : Fo) (r : ER) {q : Sl} {H0 H : Hp} {Q : Sl → Hp → Prop}, Kp No H0 H → Xk H0 q kd → (leavesP r kd).length ≤ 100000 → (∀ sl W H', W.map Prod.snd = leavesP r kd → LvH H0 H' sl W H.size → Kp No H H' → Q sl H') →
      X r.k r.o r.vk r.vi r.vs r.vb r.v r.p r.a q H Q := by
  have gen : ∀ (kd : Fo) (r : ER) {q : Sl} {H0 H : Hp} {Q : Sl → Hp → Prop}, Xk H0 q kd → (¬ (r.k = 5 ∧ r.o = 12 ∧ kd.len = 2) → (∀ sl W H', W.map Prod.snd = [(r, kd)] → LvH H0 H' sl W H.size → Kp No H H' → Q sl H')) →
      (r.k = 5 ∧ r.o = 12 ∧ kd.len = 2 → ∀ H1, H1 = Array.push H (.cells (r.row q).toArray 41) → F35_1 X Q ⟨H.size, 0, none⟩ true H1) → X r.k r.o r.vk r.vi r.vs r.vb r.v r.p r.a q H Q := by
    intro kd r q H0 H Q hx hQ hj
    refine hX _ _ _ _ _ _ _ _ _ _ _ _ fun H1 e1 => ?_
    have x : Row H1 H.size 41 (r.row q) := Row.new' e1
    have k1 : Kp No H H1 := (Kp.refl No H).push' e1
    have hn := hx.n
    have s1 := size_push' e1
    have one : ¬ (r.k = 5 ∧ r.o = 12 ∧ kd.len = 2) → F35_1 X Q ⟨H.size, 0, none⟩ false H1 := fun h => c35_one x (by omega) hx fun sl W H' h1 h2 k' => hQ h sl W H' h1 h2 (k1.no2 k')
    refine ⟨_, x.cell_of (i := 0) rfl, fun h1 => ⟨_, rowc (i := 1) x rfl, fun h2 => ⟨_, rowc (i := 9) x rfl, ?_⟩, fun h2 => one fun h => of_decide_eq_false h2 h.2.1⟩, fun h1 => one fun h => of_decide_eq_false h1 h.1⟩
    by_cases hl : kd.len = 2
    · rw [show decide ((q.n : Int) = 2) = true from decide_eq_true (by omega)]
      exact hj ⟨of_decide_eq_true h1, of_decide_eq_true h2, hl⟩ H1 e1
    · rw [show decide ((q.n : Int) = 2) = false from decide_eq_false (by omega)]
      exact one fun h => hl h.2.2
  intro kd
  induction kd using Fo.pairs with
  | h kd ih =>
    intro r q H0 H Q k0 hx hl hQ
    refine gen kd r hx (fun h => by rw [leavesP_one h] at hQ; exact hQ) fun hj H1 e1 => ?_
    obtain ⟨r1, k1, r2, k2, rfl⟩ := Fo.two hj.2.2
    obtain ⟨ih1, ih2⟩ := ih r1 k1 r2 k2 rfl
    rw [leavesP, if_pos ⟨hj.1, hj.2.1⟩] at hl hQ
    rw [List.length_append] at hl
    have x : Row H1 H.size 41 (r.row q) := Row.new' e1
    have kA : Kp No H H1 := (Kp.refl No H).push' e1
    have hn := hx.n
    have s1 := size_push' e1
    have hlen : (Fo.cons r1 k1 (.cons r2 k2 .nil)).len = 2 := rfl
    obtain ⟨a, q1, ea, ca, x1⟩ := hx.kid0
    obtain ⟨a', q2, ea', ca', x2⟩ := hx.kid1
    rw [ea] at ea'; cases ea'
    have kB := k0.no2 kA
    refine ⟨fun _ => ⟨_, rowc (i := 9) x rfl, a, ea, by omega, by omega, _, _, _, _, _, _, _, _, _, _, kB.cz ca (by simp), _, rowc (i := 9) x rfl, a, ea, by omega, by omega, _, _, _, _, _, _, _, _, _, _, kB.cz ca' (by simp), ?_⟩, fun h => (by cases h)⟩
    refine ih1 r1 kB x1 (by omega) fun sl1 W1 H50 w1 l1 k50 => ?_
    have kC := kB.no2 k50
    have xx := k50.row x id
    refine ⟨kC.cz ca' (by simp), rowc (i := 9) xx rfl, rowc (i := 9) xx rfl, ih2 r2 kC x2 (by omega) fun sl2 W2 H56 w2 l2 k56 => ?_⟩
    have x56 := k56.row xx id
    have l1' := l1.no k56
    refine ⟨rowc (i := 9) x56 rfl, rowc (i := 9) x56 rfl, l1'.l.append l2.l.rd rfl ?_ ?_ fun r63 H61 l3 k61 b3 => ?_⟩
    · have h1 := congrArg List.length w1; have h2 := congrArg List.length w2
      rw [List.length_map] at h1 h2
      rw [List.length_map, List.length_map]; omega
    · have h1 := congrArg List.length w1; have h2 := congrArg List.length w2
      rw [List.length_map] at h1 h2
      rw [List.length_map, List.length_map]; omega
    · have s50 := k50.size
      have s56 := k56.size
      have kD : Kp No H1 H61 := (k50.no2 k56).trans k61 fun b hb => .inr (l1.b b hb)
      have x61 : Row H61 H.size 41 (r.row q) := k61.row x56 fun hb => by have := l1.b _ hb; omega
      refine ⟨rowc (i := 9) x61 rfl, rowc (i := 9) x61 rfl, hQ r63 (W1 ++ W2) H61 (by rw [List.map_append, w1, w2]) ⟨by rw [List.map_append]; exact l3, fun w hw => ?_, fun b hb => ?_⟩ (kA.no2 kD)⟩
      · rcases List.mem_append.1 hw with hw | hw
        · exact l1.x w hw
        · exact l2.x w hw
      · rcases b3 b hb with h | h
        · have := l1.b b h; omega
        · omega
theorem c35 {Q : Sl → Hp → Prop} (k0 : Kp No H0 H) (hx : Xk H0 q kd) (hl : (leavesP r kd).length ≤ 100000) (hQ : ∀ sl W H', W.map Prod.snd = leavesP r kd → LvH H0 H' sl W H.size → Kp No H H' → Q sl H') : F35 r.k r.o r.vk r.vi r.vs r.vb r.v r.p r.a q H Q :=
  fun X hX => c35_x hX kd r k0 hx hl hQ
end
end Go.Hw
