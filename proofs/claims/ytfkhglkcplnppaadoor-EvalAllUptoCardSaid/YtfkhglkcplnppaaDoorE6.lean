/- eval: an expression's value. Own work of this session. -/
import Derived.Test.YtfkhglkcplnppaaDoorE3
set_option linter.unusedVariables false
namespace Go.Hw
open Go

def v0 (l : List VT) : VT := (l[0]?).getD zeroV
def v1 (l : List VT) : VT := (l[1]?).getD zeroV
def ev1 (m : EnvM) (r : ER) (len : Nat) (q : List VT × Int) : VT × Int :=
 if r.k = 1 then (if vld ⟨r.vk, r.vi, r.vs, r.vb⟩ = true then (⟨r.vk, r.vi, r.vs, r.vb⟩, 0) else (zeroV, 12))
 else if r.k = 2 then (if (eventP m r.v r.p).2 ≠ 0 then (zeroV, (eventP m r.v r.p).2) else attrP m.types (eventP m r.v r.p).1 r.a)
 else if r.k = 3 then aggP m r
 else if r.k = 4 then (if len ≠ 1 then (zeroV, 60) else if q.2 ≠ 0 then (zeroV, q.2) else unP r.o (v0 q.1))
 else if r.k = 5 then (if len ≠ 2 then (zeroV, 60) else if q.2 ≠ 0 then (zeroV, q.2) else binP r.o (v0 q.1) (v1 q.1))
 else (zeroV, 60)
def evK (m : EnvM) : Fo → List VT × Int
 | .nil => ([], 0)
 | .cons r k s => if (ev1 m r k.len (evK m k)).2 ≠ 0 then ([], (ev1 m r k.len (evK m k)).2) else ((ev1 m r k.len (evK m k)).1 :: (evK m s).1, (evK m s).2)
def evalP (m : EnvM) (r : ER) (k : Fo) : VT × Int := ev1 m r k.len (evK m k)
def pad (l : List VT) : List Value := (l ++ List.replicate (2 - l.length) zeroV).flatMap vF.f

section
variable {p0 p1 : Sl} {p2 p3 : ByteArray} {p4 : Int} {p5 p6 : Sl} {m : EnvM} {B : Nat}
 {X : Sl → Sl → ByteArray → ByteArray → Int → Sl → Sl → Int → Int → Int → Int → ByteArray → Bool → ByteArray → Int → ByteArray → Sl → Hp → (Int → Int → ByteArray → Bool → Int → Hp → Prop) → Prop}

abbrev envRow (p0 p1 : Sl) (p2 p3 : ByteArray) (p4 : Int) (p5 p6 : Sl) : List Value := [Sl.v p0, Sl.v p1, .string p2, .string p3, .int .i64 p4, Sl.v p5, Sl.v p6]

theorem ev_one {kd : Fo}
  (ih : ∀ (H0 H7 : Hp) (Q : Int → Int → ByteArray → Bool → Int → Hp → Prop) (b1 b2 b3 w : Nat) (r : ER) (sl : Sl) (i : Nat) (pre : List VT) (H : Hp) (X3 : Int → Hp → Prop), EnvH H0 p0 p1 p2 p3 p4 p5 p6 m → WantsH H0 → Kp No H0 H7 → B ≤ H0.size →
   Row H7 b1 90 (envRow p0 p1 p2 p3 p4 p5 p6) → Row H7 b2 41 (r.row sl) → Row H7 b3 38 zeroV.row → b1 ≠ w → b2 ≠ w → b3 ≠ w → H0.size ≤ w → H0.size ≤ b3 → (∀ y H, F38_L3b X Q X3 ⟨b1, 0, none⟩ ⟨b2, 0, none⟩ ⟨b3, 0, none⟩ ⟨w, 0, none⟩ sl (sl.n : Int) y H → X3 y H) →
   sl.n = i + kd.len → sl.n ≤ 2 → FoH B H0 sl.b i kd → pre.length = i → Row H w 109 (pad pre) → Kp (fun x => x = w) H7 H →
   (∀ vs H', evK m kd = (vs, 0) → Row H' w 109 (pad (pre ++ vs)) → (pre ++ vs).length = sl.n → Kp (fun x => x = w) H7 H' → F38_2 X Q ⟨b2, 0, none⟩ ⟨b3, 0, none⟩ ⟨w, 0, none⟩ H') →
   (∀ n H', (evK m kd).2 = n → n ≠ 0 → Kp No H0 H' → Q 0 0 E false n H') → X3 (i : Int) H)
  {H : Hp} {r : ER} {q : Sl} {Q : Int → Int → ByteArray → Bool → Int → Hp → Prop} (h : EnvH H p0 p1 p2 p3 p4 p5 p6 m) (hw : WantsH H) (hB : B ≤ H.size) (hn : q.n = kd.len) (hf : FoH B H q.b 0 kd)
  (hQ : ∀ H', Kp No H H' → Q (evalP m r kd).1.k (evalP m r kd).1.n (evalP m r kd).1.s (evalP m r kd).1.b (evalP m r kd).2 H') : F38b X p0 p1 p2 p3 p4 p5 p6 r.k r.o r.vk r.vi r.vs r.vb r.v r.p r.a q H Q := by
 intro H1 e1 H3 e3 H5 e5
 have k1 : Kp No H H1 := (Kp.refl _ _).push' e1
 have k3 : Kp No H H3 := k1.push' e3
 have k5 : Kp No H H5 := k3.push' e5
 have r1 : Row H5 H.size 90 (envRow p0 p1 p2 p3 p4 p5 p6) := ((Row.new' e1).push' e3).push' e5
 have r2 : Row H5 H1.size 41 (r.row q) := (Row.new' e3).push' e5
 have r3 : Row H5 H3.size 38 zeroV.row := Row.new' e5
 have s1 := size_push' e1
 have s3 := size_push' e3
 have s5 := size_push' e5
 have out : ∀ {Hx : Hp} (v : VT) (n : Int), Kp No H Hx → Row Hx H3.size 38 zeroV.row → evalP m r kd = (v, n) → mayw Hx ⟨H3.size, 0, none⟩ 4 0 ∧ ∀ H' : Hp, H' = sets Hx ⟨H3.size, 0, none⟩ [(.int .i64 v.k), (.int .i64 v.n), (.string v.s), (.bool v.b)] 0 →
   (∃ (x6 : Int) (x7 : Int) (x8 : ByteArray) (x9 : Bool), cells H' ⟨H3.size, 0, none⟩ [(.int .i64 x6), (.int .i64 x7), (.string x8), (.bool x9)] 0 ∧ (Q x6 x7 x8 x9 n H')) := fun {Hx} v n k rr e => by
  refine ret4 (K := fun a b c d H' => Q a b c d n H') rr rfl v fun H' _ k' => ?_
  have q := hQ H' (k.box k' (by omega))
  rw [e] at q
  exact q
 unfold evalP ev1 at out
 have lit : ∀ {Hx : Hp}, Row Hx H1.size 41 (r.row q) → cells Hx (Addr.add ⟨H1.size, 0, none⟩ 2) [(.int .i64 r.vk), (.int .i64 r.vi), (.string r.vs), (.bool r.vb)] 0 := fun rr => by
  rw [add_mk]; exact rr.cells rfl
 refine ⟨r.k, r2.cell_of rfl, fun g1 => ?_, fun g1 => ⟨fun g2 => ?_, fun g2 => ⟨fun g3 => ?_, fun g3 => ?_⟩⟩⟩
 ·-- a literal
  rw [if_pos (of_decide_eq_true g1)] at out
  refine ⟨_, _, _, _, lit r2, c46 (v := ⟨r.vk, r.vi, r.vs, r.vb⟩) fun H15 k15 => ⟨fun g => ?_, fun g => ?_⟩⟩
  ·exact out zeroV 12 (k5.no2 k15) (k15.row r3 id) (by rw [if_neg (by intro e; rw [e] at g; cases g)])
  ·exact ⟨_, _, _, _, lit (k15.row r2 id), out ⟨r.vk, r.vi, r.vs, r.vb⟩ 0 (k5.no2 k15) (k15.row r3 id) (by rw [if_pos (by cases e : vld ⟨r.vk, r.vi, r.vs, r.vb⟩; rw [e] at g; cases g; rfl)])⟩
 ·-- a reference
  rw [if_neg (of_decide_eq_false g1), if_pos (of_decide_eq_true g2)] at out
  refine ⟨_, _, _, _, _, _, _, r1.all, _, _, _, _, _, _, _, _, _, _, r2.all, c56 (h.no k5) fun s H60 k60 hs H66 e66 => ?_⟩
  have k66 : Kp No H5 H66 := k60.push' e66
  have r66 := Row.new' e66
  refine ⟨r66.mayw (by simp), fun H68 e68 => ?_⟩
  have r68 : Row H68 H60.size 36 [.string (eventP m r.v r.p).1.ty, .int .i64 (eventP m r.v r.p).1.time, Sl.v s] := r66.fill' e68 rfl
  have k68 : Kp No H5 H68 := k66.sets' e68 (.inr k60.size)
  have k608 : Kp No H60 H68 := ((Kp.refl _ _).push' e66).sets' e68 (.inr (Nat.le_refl _))
  refine ⟨fun g => ?_, fun g => ⟨_, _, _, r68.all, r.a, rowc (k68.row r2 id) rfl, p6, rowc (k68.row r1 id) rfl, c28 (hs.kp0 k608) (h.types.no (k5.no2 k68)) fun H88 k88 => ?_⟩⟩
  ·exact out zeroV _ (k5.no2 k68) (k68.row r3 id) (by rw [if_pos (of_decide_eq_true g)])
  ·exact out (attrP m.types (eventP m r.v r.p).1 r.a).1 (attrP m.types (eventP m r.v r.p).1 r.a).2 ((k5.no2 k68).no2 k88) ((k68.no2 k88).row r3 id) (by rw [if_neg (of_decide_eq_false g)])
 ·-- a function
  rw [if_neg (of_decide_eq_false g1), if_neg (of_decide_eq_false g2), if_pos (of_decide_eq_true g3)] at out
  refine ⟨_, _, _, _, _, _, _, r1.all, _, _, _, _, _, _, _, _, _, _, r2.all, c57 (h.no k5) fun H123 k123 => ?_⟩
  exact out (aggP m r).1 (aggP m r).2 (k5.no2 k123) (k123.row r3 id) rfl
 rw [if_neg (of_decide_eq_false g1), if_neg (of_decide_eq_false g2), if_neg (of_decide_eq_false g3)] at out
 have op : ∀ (a : Nat), (a = 1 ∧ r.k = 4 ∨ a = 2 ∧ r.k = 5) → F38_1 X Q ⟨H.size, 0, none⟩ ⟨H1.size, 0, none⟩ ⟨H3.size, 0, none⟩ true H5 := by
  intro a ha
  have wa : IntKind.i64.wrap (IntKind.i64.wrap (r.k - 4) + 1) = (a : Int) := by
   rcases ha with ⟨rfl, e⟩ | ⟨rfl, e⟩ <;> rw [e] <;> rfl
  have out' : ∀ {Hx : Hp} (v : VT) (n : Int), Kp No H Hx → Row Hx H3.size 38 zeroV.row → (if kd.len ≠ a then (zeroV, 60) else if (evK m kd).2 ≠ 0 then (zeroV, (evK m kd).2) else if r.k = 4 then unP r.o (v0 (evK m kd).1) else binP r.o (v0 (evK m kd).1) (v1 (evK m kd).1)) = (v, n) →
    mayw Hx ⟨H3.size, 0, none⟩ 4 0 ∧ ∀ H' : Hp, H' = sets Hx ⟨H3.size, 0, none⟩ [(.int .i64 v.k), (.int .i64 v.n), (.string v.s), (.bool v.b)] 0 →
    (∃ (x6 : Int) (x7 : Int) (x8 : ByteArray) (x9 : Bool), cells H' ⟨H3.size, 0, none⟩ [(.int .i64 x6), (.int .i64 x7), (.string x8), (.bool x9)] 0 ∧ (Q x6 x7 x8 x9 n H')) := by
   intro Hx v n k rr e
   refine out v n k rr ?_
   rcases ha with ⟨rfl, e4⟩ | ⟨rfl, e5⟩
   ·rw [if_pos e4]; rw [if_pos e4] at e; exact e
   ·rw [if_neg (by omega), if_pos e5]; rw [if_neg (by omega : ¬ r.k = 4)] at e; exact e
  refine ⟨fun _ => ⟨q, rowc r2 rfl, r.k, r2.cell_of rfl, ?_⟩, fun h => (by cases h)⟩
  rw [wa]
  refine ⟨fun g => ?_, fun g H157 e157 => ?_⟩
  ·have g := of_decide_eq_true g
   exact out' zeroV 60 k5 r3 (by rw [if_pos (by omega)])
  have g : q.n = a := by have := of_decide_eq_false g; omega
  have k157 : Kp No H5 H157 := (Kp.refl _ _).push' e157
  have r4 : Row H157 H5.size 109 (pad []) := Row.new' e157
  have r2' := k157.row r2 id
  refine ⟨q, rowc r2' rfl, ?_⟩
  intro X3 hX3
  have hne : ¬ (kd.len ≠ a) := by omega
  rw [if_neg hne] at out'
  refine ih H H157 Q H.size H1.size H3.size H5.size r q 0 [] H157 X3 h hw (k5.no2 k157) hB (k157.row r1 id) r2' (k157.row r3 id) (by omega) (by omega) (by omega) (by omega) (by omega) hX3 (by omega) (by omega) hf rfl r4 (Kp.refl _ _) ?_ ?_
  ·intro vs H' he hr hlen kx
   have kk : Kp No H H' := (k5.no2 k157).trans kx fun b hb => .inr (by have hb : b = H5.size := hb; omega)
   have rr2 := kx.row r2' (by show H1.size ≠ H5.size; omega)
   have rr3 := kx.row (k157.row r3 id) (by show H3.size ≠ H5.size; omega)
   rw [he, if_neg (show ¬ ((vs, (0 : Int)).2 ≠ 0) from fun h => h rfl)] at out'
   simp only [List.nil_append] at hr hlen
   rcases ha with ⟨rfl, e4⟩ | ⟨rfl, e5⟩
   ·obtain ⟨a, rfl⟩ : ∃ a, vs = [a] := by
     match vs, hlen with
     | [a], _ => exact ⟨a, rfl⟩
     | [], h => simp at h; omega
     | _ :: _ :: _, h => simp at h; omega
    refine ⟨r.k, rr2.cell_of rfl, fun _ => ⟨r.o, rowc rr2 rfl, by omega, by omega, a.k, a.n, a.s, a.b, ?_, c58 (hw.no kk) fun H244 k244 => ?_⟩, fun g => absurd e4 (of_decide_eq_false g)⟩
    ·rw [add_mk]; exact hr.cells rfl
    ·exact out' (unP r.o a).1 (unP r.o a).2 (kk.no2 k244) (k244.row rr3 id) (by rw [if_pos e4]; rfl)
   ·obtain ⟨a, b, rfl⟩ : ∃ a b, vs = [a, b] := by
     match vs, hlen with
     | [a, b], _ => exact ⟨a, b, rfl⟩
     | [], h => simp at h; omega
     | [_], h => simp at h; omega
     | _ :: _ :: _ :: _, h => simp at h; omega
    refine ⟨r.k, rr2.cell_of rfl, fun g => absurd (of_decide_eq_true g) (by omega), fun _ => ⟨r.o, rowc rr2 rfl, by omega, by omega, a.k, a.n, a.s, a.b, ?_, by omega, by omega, b.k, b.n, b.s, b.b, ?_, c59 (hw.no kk) fun H244 k244 => ?_⟩⟩
    ·rw [add_mk]; exact hr.cells rfl
    ·rw [add_mk]; exact hr.cells rfl
    ·exact out' (binP r.o a b).1 (binP r.o a b).2 (kk.no2 k244) (k244.row rr3 id) (by rw [if_neg (by omega)]; rfl)
  ·intro n H' he hn0 kk
   have q' := hQ H' kk
   have e : evalP m r kd = (zeroV, n) := by
    unfold evalP ev1
    rw [if_neg (of_decide_eq_false g1), if_neg (of_decide_eq_false g2), if_neg (of_decide_eq_false g3)]
    rcases ha with ⟨rfl, e4⟩ | ⟨rfl, e5⟩
    ·rw [if_pos e4, if_neg (by omega), if_pos (by rw [he]; exact hn0), he]
    ·rw [if_neg (by omega), if_pos e5, if_neg (by omega), if_pos (by rw [he]; exact hn0), he]
   rw [e] at q'
   exact q'
 refine ⟨fun g4 => ?_, fun g4 => ?_⟩
 ·rw [g4]; exact op 1 (.inl ⟨rfl, of_decide_eq_true g4⟩)
 ·by_cases g5 : r.k = 5
  ·rw [decide_eq_true g5]; exact op 2 (.inr ⟨rfl, g5⟩)
  ·rw [decide_eq_false g5]
   exact ⟨fun h => (by cases h), fun _ => out zeroV 60 k5 r3 (by rw [if_neg (of_decide_eq_false g4), if_neg g5])⟩

theorem ev_row (hX : ∀ p0_0 p0_1 p0_2 p0_3 p0_4 p0_5 p0_6 p1_0 p1_1 p1_2 p1_3 p1_4 p1_5 p1_6 p1_7 p1_8 p1_9 H Q, F38b X p0_0 p0_1 p0_2 p0_3 p0_4 p0_5 p0_6 p1_0 p1_1 p1_2 p1_3 p1_4 p1_5 p1_6 p1_7 p1_8 p1_9 H Q → X p0_0 p0_1 p0_2 p0_3 p0_4 p0_5 p0_6 p1_0 p1_1 p1_2 p1_3 p1_4 p1_5 p1_6 p1_7 p1_8 p1_9 H Q) :
  ∀ (kd : Fo) (H0 H7 : Hp) (Q : Int → Int → ByteArray → Bool → Int → Hp → Prop) (b1 b2 b3 w : Nat) (r : ER) (sl : Sl) (i : Nat) (pre : List VT) (H : Hp) (X3 : Int → Hp → Prop), EnvH H0 p0 p1 p2 p3 p4 p5 p6 m → WantsH H0 → Kp No H0 H7 → B ≤ H0.size →
   Row H7 b1 90 (envRow p0 p1 p2 p3 p4 p5 p6) → Row H7 b2 41 (r.row sl) → Row H7 b3 38 zeroV.row → b1 ≠ w → b2 ≠ w → b3 ≠ w → H0.size ≤ w → H0.size ≤ b3 → (∀ y H, F38_L3b X Q X3 ⟨b1, 0, none⟩ ⟨b2, 0, none⟩ ⟨b3, 0, none⟩ ⟨w, 0, none⟩ sl (sl.n : Int) y H → X3 y H) →
   sl.n = i + kd.len → sl.n ≤ 2 → FoH B H0 sl.b i kd → pre.length = i → Row H w 109 (pad pre) → Kp (fun x => x = w) H7 H →
   (∀ vs H', evK m kd = (vs, 0) → Row H' w 109 (pad (pre ++ vs)) → (pre ++ vs).length = sl.n → Kp (fun x => x = w) H7 H' → F38_2 X Q ⟨b2, 0, none⟩ ⟨b3, 0, none⟩ ⟨w, 0, none⟩ H') →
   (∀ n H', (evK m kd).2 = n → n ≠ 0 → Kp No H0 H' → Q 0 0 E false n H') → X3 (i : Int) H := by
 intro kd
 induction kd with
 | nil =>
  intro H0 H7 Q b1 b2 b3 w r sl i pre H X3 h hw k7 hB r1 r2 r3 n1 n2 n3 l1 l2 hX3 hn h2 hf hp hr k q1 q2
  simp only [Fo.len] at hn
  exact hX3 _ _ ⟨fun g => absurd (of_decide_eq_true g) (by omega), fun _ => q1 [] H rfl (by rw [List.append_nil]; exact hr) (by simp; omega) k⟩
 | cons r' kd' s ihk ihs =>
  intro H0 H7 Q b1 b2 b3 w r sl i pre H X3 h hw k7 hB r1 r2 r3 n1 n2 n3 l1 l2 hX3 hn h2 hf hp hr k q1 q2
  obtain ⟨a, q, ea, hb, hc, hqn, hfk, hfs⟩ := hf
  simp only [Fo.len] at hn
  have kk : Kp No H0 H := k7.trans k fun b hb => .inr (by have hb : b = w := hb; omega)
  have it : ((i : Int)).toNat = i := by omega
  have ab : (a.add (i * 10)).block = a.block := by unfold Addr.add; split <;> rfl
  refine hX3 _ _ ⟨fun _ => ⟨a, ea, by omega, by omega, r'.k, r'.o, r'.vk, r'.vi, r'.vs, r'.vb, r'.v, r'.p, r'.a, q, by rw [it]; exact kk.cells (by rw [ab]; omega) id hc, fun H187 e187 => ?_⟩, fun g => absurd (of_decide_eq_false g) (by omega)⟩
  have k187 : Kp No H H187 := (Kp.refl _ _).push' e187
  have r187 := Row.new' e187
  refine ⟨r187.mayw (by simp), fun H189 e189 => ?_⟩
  have r189 : Row H189 H.size 41 (r'.row q) := r187.fill' e189 rfl
  have k189 : Kp No H H189 := k187.sets' e189 (.inr (Nat.le_refl _))
  have kk189 := kk.no2 k189
  have rr1 := (k.trans (k189.mono fun _ _ h => h.elim) fun b hb => .inl hb).row r1 n1
  have rr3 := (k.trans (k189.mono fun _ _ h => h.elim) fun b hb => .inl hb).row r3 n3
  refine ⟨_, _, _, _, _, _, _, rr1.all, _, _, _, _, _, _, _, _, _, _, r189.all, hX _ _ _ _ _ _ _ _ _ _ _ _ _ _ _ _ _ _ _ (ev_one ihk (h.no kk189) (hw.no kk189) (by have := kk189.size; omega) hqn (hfk.kp kk189 fun _ _ => id) fun H211 k211 => ⟨by omega, by omega, ?_⟩)⟩
  have hev : ev1 m r' kd'.len (evK m kd') = evalP m r' kd' := rfl
  generalize evalP m r' kd' = v at hev
  have hr211 := (k189.no2 k211).row hr id
  have k7w : Kp (fun x => x = w) H7 H211 := k.trans ((k189.no2 k211).mono fun _ _ h => h.elim) fun b hb => .inl hb
  have rr3' := k211.row rr3 id
  rw [add_mk, it]
  have hsm : i < 2 := by omega
  have hpl : (pad pre).length = 8 := by
   unfold pad
   rw [fl_len vF.len]
   simp
   omega
  refine ⟨hr211.mayw (by rw [hpl]; omega), fun H220 e220 => ?_⟩
  have r220 : Row H220 w 109 (pad (pre ++ [v.1])) := by
   have := hr211.sets' (oo := 0 + i * 4) e220 (by rw [hpl]; simp; omega)
   have e : over (pad pre) (0 + i * 4) [(.int .i64 v.1.k), (.int .i64 v.1.n), (.string v.1.s), (.bool v.1.b)] = pad (pre ++ [v.1]) := by
    match pre, hp with
    | [], hp => simp only [List.length_nil] at hp; subst hp; rfl
    | [x], hp => simp only [List.length_cons, List.length_nil] at hp; subst hp; rfl
    | _ :: _ :: _, hp => simp at hp; omega
   rwa [e] at this
  have k220 : Kp (fun x => x = w) H211 H220 := (Kp.refl _ _).sets' e220 (.inl rfl)
  have k7' : Kp (fun x => x = w) H7 H220 := k7w.trans k220 fun b hb => .inl hb
  have kk220 : Kp No H0 H220 := k7.trans k7' fun b hb => .inr (by have hb : b = w := hb; omega)
  refine ⟨fun g => ?_, fun g => ?_⟩
  ·have g := of_decide_eq_true g
   refine ret4 (K := fun a b c d H' => Q a b c d v.2 H') (k220.row rr3' n3) rfl zeroV fun H' _ k' => ?_
   refine q2 v.2 H' ?_ g (kk220.box k' l2)
   rw [evK, hev, if_pos g]
  ·have g : v.2 = 0 := Decidable.of_not_not (of_decide_eq_false g)
   have he : evK m (.cons r' kd' s) = (v.1 :: (evK m s).1, (evK m s).2) := by rw [evK, hev, if_neg (fun h => h g)]
   rw [wr (by omega) (by omega), show ((i : Int) + 1) = ((i + 1 : Nat) : Int) from by omega]
   refine ihs H0 H7 Q b1 b2 b3 w r sl (i + 1) (pre ++ [v.1]) H220 X3 h hw k7 hB r1 r2 r3 n1 n2 n3 l1 l2 hX3 (by omega) h2 hfs (by simp; omega) r220 k7' (fun vs H' e1 e2 e3 e4 => ?_) (fun n H' e1 e2 e3 => q2 n H' (by rw [he]; exact e1) e2 e3)
   refine q1 (v.1 :: vs) H' (by rw [he, e1]) ?_ ?_ e4
   ·simpa only [List.append_assoc, List.singleton_append] using e2
   ·simpa only [List.append_assoc, List.singleton_append] using e3

theorem c38 {H : Hp} {r : ER} {q : Sl} {kd : Fo} {Q : Int → Int → ByteArray → Bool → Int → Hp → Prop} (h : EnvH H p0 p1 p2 p3 p4 p5 p6 m) (hw : WantsH H) (hn : q.n = kd.len) (hf : FoH H.size H q.b 0 kd)
  (hQ : ∀ H', Kp No H H' → Q (evalP m r kd).1.k (evalP m r kd).1.n (evalP m r kd).1.s (evalP m r kd).1.b (evalP m r kd).2 H') : F38 p0 p1 p2 p3 p4 p5 p6 r.k r.o r.vk r.vi r.vs r.vb r.v r.p r.a q H Q := by
 intro X hX
 exact hX _ _ _ _ _ _ _ _ _ _ _ _ _ _ _ _ _ _ _ (ev_one (ev_row hX kd) h hw (Nat.le_refl _) hn hf hQ)
end
end Go.Hw
