/- Expressions in memory; references, constants, sides of a relation. A relation's sides; what is solved. Own work of this session. -/
import Derived.Test.YtkdjcmfmflljlaaDoorE2
set_option linter.unusedVariables false
namespace Go.Hw
open Go

structure ER where
  k : Int
  o : Int
  vk : Int
  vi : Int
  vs : ByteArray
  vb : Bool
  v : ByteArray
  p : Int
  a : ByteArray
  deriving DecidableEq
/-- Expressions beside one another, each with its kids. -/
inductive Fo
  | nil
  | cons (r : ER) (kids rest : Fo)
abbrev ER.row (r : ER) (s : Sl) : List Value := [(.int .i64 r.k), (.int .i64 r.o), (.int .i64 r.vk), (.int .i64 r.vi), (.string r.vs), (.bool r.vb), (.string r.v), (.int .i64 r.p), (.string r.a), (Sl.v s)]
def ER.val (r : ER) : VT := ⟨r.vk, r.vi, r.vs, r.vb⟩
def zeroE : ER := ⟨0, 0, 0, 0, E, false, E, 0, E⟩
def valE (v : VT) : ER := ⟨1, 0, v.k, v.n, v.s, v.b, E, 0, E⟩
def refE (v : ByteArray) (p : Int) (a : ByteArray) : ER := ⟨2, 0, 0, 0, E, false, v, p, a⟩
def fnE (o : Int) (v : ByteArray) (p : Int) (a : ByteArray) : ER := ⟨3, o, 0, 0, E, false, v, p, a⟩
def opE (k o : Int) : ER := ⟨k, o, 0, 0, E, false, E, 0, E⟩
def Fo.len : Fo → Nat
  | .nil => 0
  | .cons _ _ s => s.len + 1
def Fo.hd : Fo → ER
  | .nil => zeroE
  | .cons r _ _ => r
def FoK (H : Hp) : Option Addr → Nat → Fo → Prop
  | _, _, .nil => True
  | p, i, .cons r k s => ∃ a q, p = some a ∧ cells H (a.add (i * 10)) (r.row q) 0 ∧ q.n = k.len ∧ FoK H q.b 0 k ∧ FoK H p (i + 1) s
theorem FoK.no {H H' : Hp} (k : Kp No H H') : ∀ {f : Fo} {p : Option Addr} {i : Nat}, FoK H p i f → FoK H' p i f
  | .nil, _, _, _ => trivial
  | .cons r kd s, p, i, ⟨a, q, e, hc, hn, h1, h2⟩ => ⟨a, q, e, k.cells (cells_block hc (fun h => by cases h)) id hc, hn, h1.no k, h2.no k⟩
/-- A list of expressions. -/
structure Xk (H : Hp) (q : Sl) (kd : Fo) : Prop where
  n : q.n = kd.len
  f : FoK H q.b 0 kd
theorem Xk.no {H H' : Hp} {q : Sl} {kd : Fo} (h : Xk H q kd) (k : Kp No H H') : Xk H' q kd := ⟨h.n, h.f.no k⟩
theorem Xk.nil (H : Hp) : Xk H Sl.nil .nil := ⟨rfl, trivial⟩
theorem Xk.zero {H : Hp} {q : Sl} (h : q.n = 0) : Xk H q .nil := ⟨h, trivial⟩

section
variable {H H0 : Hp} {r r0 r1 : ER} {q : Sl} {kd k0 k1 s : Fo}
theorem Xk.kid0 (h : Xk H q (.cons r0 k0 s)) : ∃ a q0, q.b = some a ∧ cells H (Addr.add a ((0 : Int).toNat * 10)) (r0.row q0) 0 ∧ Xk H q0 k0 := by
  obtain ⟨_, a, q0, e, hc, hn, h1, _⟩ := h
  exact ⟨a, q0, e, hc, hn, h1⟩
theorem Xk.kid1 (h : Xk H q (.cons r0 k0 (.cons r1 k1 s))) : ∃ a q1, q.b = some a ∧ cells H (Addr.add a ((1 : Int).toNat * 10)) (r1.row q1) 0 ∧ Xk H q1 k1 := by
  obtain ⟨_, a, q0, e, _, _, _, a', q1, e', hc, hn, h1, _⟩ := h
  exact ⟨a', q1, e', hc, hn, h1⟩
theorem rowcs {b t i : Nat} {l m : List Value} (h : Row H b t l) (e : (l.drop i).take m.length = m) : cells H (Addr.add ⟨b, 0, none⟩ i) m 0 := by
  rw [add_mk]; exact h.cells (by rw [Nat.add_zero, Nat.zero_add]; exact e)

/-! ## values made -/
theorem c49 {p0 : Int} {Q : Int → Int → ByteArray → Bool → Hp → Prop} (hQ : ∀ H', Kp No H H' → Q 1 p0 E false H') : F49 p0 H Q := by
  intro H1 e1
  exact ret4 (Row.new' e1) rfl ⟨1, p0, E, false⟩ fun H' _ k => hQ H' (((Kp.refl No H).push' e1).box k (Nat.le_refl _))
theorem c60 {p0 : Bool} {Q : Int → Int → ByteArray → Bool → Hp → Prop} (hQ : ∀ H', Kp No H H' → Q 3 0 E p0 H') : F60 p0 H Q := by
  intro H1 e1
  exact ret4 (Row.new' e1) rfl ⟨3, 0, E, p0⟩ fun H' _ k => hQ H' (((Kp.refl No H).push' e1).box k (Nat.le_refl _))

/-! ## references -/
def isRefP (r : ER) : Bool := decide (r.k = 2) || decide (r.k = 3)
theorem c40 {Q : Bool → Hp → Prop} (hQ : ∀ H', Kp No H H' → Q (isRefP r) H') : F40 r.k r.o r.vk r.vi r.vs r.vb r.v r.p r.a q H Q := by
  intro H1 e1
  have hq := hQ H1 ((Kp.refl No H).push' e1)
  have x1 : Row H1 H.size 41 (r.row q) := Row.new' e1
  refine ⟨_, x1.cell_of (i := 0) rfl, fun h => ?_, fun h => ⟨_, x1.cell_of (i := 0) rfl, ?_⟩⟩
  · rw [isRefP, h, Bool.true_or] at hq; exact hq
  · rw [isRefP, h, Bool.false_or] at hq; exact hq
def turnP (op : Int) : Int := if op = 6 then 6 else if op = 8 then 10 else if op = 9 then 11 else if op = 10 then 8 else if op = 11 then 9 else 0
theorem c61 {p0 : Int} {Q : Int → Hp → Prop} (hQ : Q (turnP p0) H) : F61 p0 H Q := by
  unfold turnP at hQ
  refine ⟨fun h => ?_, fun h => ⟨fun h1 => ?_, fun h1 => ⟨fun h2 => ?_, fun h2 => ⟨fun h3 => ?_, fun h3 => ⟨fun h4 => ?_, fun h4 => ?_⟩⟩⟩⟩⟩
  · rw [if_pos (of_decide_eq_true h)] at hQ; exact hQ
  · rw [if_neg (of_decide_eq_false h), if_pos (of_decide_eq_true h1)] at hQ; exact hQ
  · rw [if_neg (of_decide_eq_false h), if_neg (of_decide_eq_false h1), if_pos (of_decide_eq_true h2)] at hQ; exact hQ
  · rw [if_neg (of_decide_eq_false h), if_neg (of_decide_eq_false h1), if_neg (of_decide_eq_false h2), if_pos (of_decide_eq_true h3)] at hQ; exact hQ
  · rw [if_neg (of_decide_eq_false h), if_neg (of_decide_eq_false h1), if_neg (of_decide_eq_false h2), if_neg (of_decide_eq_false h3), if_pos (of_decide_eq_true h4)] at hQ; exact hQ
  · rw [if_neg (of_decide_eq_false h), if_neg (of_decide_eq_false h1), if_neg (of_decide_eq_false h2), if_neg (of_decide_eq_false h3), if_neg (of_decide_eq_false h4)] at hQ; exact hQ

/-! ## constants -/
def constE (t : Bool) (e : ER) : Option VT := if e.k ≠ 1 then none else if vld e.val = false then none else if t = true ∧ e.vk ≠ 1 then none else some (if t = true then numV (IntKind.i64.wrap (0 - e.vi)) else e.val)
def negP (r : ER) (kd : Fo) : Bool := decide (r.k = 4) && (decide (r.o = 1) && decide (kd.len = 1))
def constP (r : ER) (kd : Fo) : Option VT := constE (negP r kd) (if negP r kd = true then kd.hd else r)
/-- A value and whether there is one, as a function tells them. -/
abbrev QO (Q : Int → Int → ByteArray → Bool → Bool → Hp → Prop) (o : Option VT) (H : Hp) : Prop := Q (o.getD zeroV).k (o.getD zeroV).n (o.getD zeroV).s (o.getD zeroV).b o.isSome H
theorem c41_3 {b0 b1 : Nat} {l : List Value} {e : ER} {t bad : Bool} {Q : Int → Int → ByteArray → Bool → Bool → Hp → Prop} (rb : Row H b0 41 (e.row q)) (rz : Row H b1 25 l) (hl : l.length = 4)
    (hQ : ∀ H', Kp (fun x => x = b1 ∨ H.size ≤ x) H H' → QO Q (if bad = true then none else some (if t = true then numV (IntKind.i64.wrap (0 - e.vi)) else e.val)) H') :
    F41_3 Q ⟨b0, 0, none⟩ ⟨b1, 0, none⟩ t bad H := by
  refine ⟨fun h => ?_, fun h => ⟨fun ht => ?_, fun ht => ?_⟩⟩
  · rw [if_pos h] at hQ
    exact ret4 rz hl zeroV fun H' _ k => hQ H' (k.mono fun _ _ h => .inl h)
  · rw [if_neg (by rw [h]; decide), if_pos ht] at hQ
    refine ⟨_, by rw [show Addr.add (Addr.add ⟨b0, 0, none⟩ 2) 1 = ⟨b0, 3, none⟩ by rw [add_mk, add_mk]]; exact rb.cell_of (i := 3) rfl, c49 fun H1 k1 => ?_⟩
    exact ret4 (k1.row rz id) hl (numV (IntKind.i64.wrap (0 - e.vi))) fun H' _ k => hQ H' ((k1.mono fun _ _ h => h.elim).trans k fun _ h => .inl (.inl h))
  · rw [if_neg (by rw [h]; decide), if_neg (by rw [ht]; decide)] at hQ
    exact ⟨_, _, _, _, rowcs (i := 2) (m := e.val.row) rb rfl, ret4 rz hl e.val fun H' _ k => hQ H' (k.mono fun _ _ h => .inl h)⟩
theorem c41_2 {b0 b1 : Nat} {l : List Value} {e : ER} {t : Bool} {Q : Int → Int → ByteArray → Bool → Bool → Hp → Prop} (rb : Row H b0 41 (e.row q)) (rz : Row H b1 25 l) (hl : l.length = 4)
    (hQ : ∀ H', Kp (fun x => x = b1 ∨ H.size ≤ x) H H' → QO Q (constE t e) H') :
    F41_2 Q ⟨b0, 0, none⟩ ⟨b1, 0, none⟩ t H := by
  unfold constE at hQ
  refine ⟨_, rb.cell_of (i := 0) rfl, fun h => c41_3 (bad := true) rb rz hl fun H' k => ?_, fun h => ⟨_, _, _, _, rowcs (i := 2) (m := e.val.row) rb rfl, c13 (v := e.val) fun H1 k1 => ?_⟩⟩
  · rw [if_pos (of_decide_eq_true h)] at hQ; exact hQ H' k
  · rw [if_neg (of_decide_eq_false h)] at hQ
    have kk : ∀ H', Kp (fun x => x = b1 ∨ H1.size ≤ x) H1 H' → Kp (fun x => x = b1 ∨ H.size ≤ x) H H' := fun H' k => (k1.mono fun _ _ h => h.elim).trans k fun b hb => hb.elim (fun h => .inl (.inl h)) fun h => .inl (.inr (Nat.le_trans k1.size h))
    have rb1 := k1.row rb id
    have rz1 := k1.row rz id
    refine ⟨fun hv => c41_3 (bad := true) rb1 rz1 hl fun H' k => ?_, fun hv => ⟨fun ht => ⟨_, rowc (i := 2) rb1 rfl, c41_3 rb1 rz1 hl fun H' k => ?_⟩, fun ht => c41_3 (bad := false) rb1 rz1 hl fun H' k => ?_⟩⟩
    · have hv : vld e.val = false := by simpa using hv
      have := hQ H' (kk H' k)
      rw [if_pos hv] at this; exact this
    · have hv : ¬ vld e.val = false := by simpa using hv
      have := hQ H' (kk H' k)
      rw [if_neg hv] at this
      by_cases hb : e.vk = 1
      · rw [if_neg (fun h => h.2 hb)] at this
        rw [if_neg (by simpa using hb)]; exact this
      · rw [if_pos ⟨ht, hb⟩] at this
        rw [if_pos (by simpa using hb)]; exact this
    · have hv : ¬ vld e.val = false := by simpa using hv
      have := hQ H' (kk H' k)
      rw [if_neg hv, if_neg (fun h => by rw [ht] at h; cases h.1)] at this
      exact this
theorem c41 {Q : Int → Int → ByteArray → Bool → Bool → Hp → Prop} (hx : Xk H q kd) (hQ : ∀ H', Kp No H H' → QO Q (constP r kd) H') : F41 r.k r.o r.vk r.vi r.vs r.vb r.v r.p r.a q H Q := by
  intro H1 e1 H3 e3
  have k3 : Kp No H H3 := ((Kp.refl No H).push' e1).push' e3
  have s1 := size_push' e1
  have x3 : Row H3 H.size 41 (r.row q) := (Row.new' e1).push' e3
  have z3 : Row H3 H1.size 25 _ := Row.new' e3
  have kk : ∀ H', Kp (fun x => x = H1.size ∨ H3.size ≤ x) H3 H' → Kp No H H' := fun H' k => k3.trans k fun b hb => .inr (by have := k3.size; omega)
  have hf : negP r kd = false → F41_1 Q ⟨H.size, 0, none⟩ ⟨H1.size, 0, none⟩ false H3 := fun h => by
    refine ⟨(fun h => (by cases h)), fun _ => c41_2 x3 z3 rfl fun H' k => ?_⟩
    have := hQ H' (kk H' k)
    rw [constP, h, if_neg (by decide)] at this
    exact this
  refine ⟨_, x3.cell_of (i := 0) rfl, fun h => ⟨_, rowc (i := 1) x3 rfl, fun h1 => ⟨_, rowc (i := 9) x3 rfl, ?_⟩, fun h1 => hf (by rw [negP, h1, Bool.false_and, Bool.and_false])⟩, fun h => hf (by rw [negP, h, Bool.false_and])⟩
  have hn := hx.n
  cases hb : decide (((q.n : Int)) = 2 - 1) with
  | false =>
    have hb := hb
    rw [show (2 : Int) - 1 = 1 from rfl] at hb
    rw [hb]
    refine hf ?_
    rw [negP, h, h1, Bool.true_and, Bool.true_and]
    have := of_decide_eq_false hb
    exact decide_eq_false (by omega)
  | true =>
    have hb := hb
    rw [show (2 : Int) - 1 = 1 from rfl] at hb
    have h2 : kd.len = 1 := by have := of_decide_eq_true hb; omega
    have hneg : negP r kd = true := by rw [negP, h, h1, Bool.true_and, Bool.true_and]; exact decide_eq_true h2
    rw [hb]
    cases kd with
    | nil => simp [Fo.len] at h2
    | cons r0 kk0 s =>
      have hx3 := hx.no k3
      obtain ⟨a, q0, ea, hc, hx0⟩ := hx3.kid0
      refine ⟨fun _ => ⟨_, rowc (i := 9) x3 rfl, a, ea, by omega, by omega, _, _, _, _, _, _, _, _, _, _, hc, x3.mayw (by simp), fun H4 e4 => ?_⟩, fun h => (by cases h)⟩
      have x4 : Row H4 H.size 41 (r0.row q0) := x3.fill' e4 rfl
      have z4 : Row H4 H1.size 25 _ := z3.sets_ne' e4 (by show H1.size ≠ H.size; omega)
      have k4 : Kp (fun x => x = H.size) H3 H4 := (Kp.refl _ _).sets' e4 (.inl rfl)
      refine c41_2 x4 z4 rfl fun H' k => ?_
      have := hQ H' ((k3.trans k4 fun b hb => .inr (by omega)).trans k fun b hb => .inr (by have := k3.size; have := k4.size; omega))
      rw [constP, hneg, if_pos rfl] at this
      exact this
end

def Fo.hdk : Fo → Fo
  | .nil => .nil
  | .cons _ k _ => k
def Fo.tl : Fo → Fo
  | .nil => .nil
  | .cons _ _ s => s
abbrev QS := Int → Int → Int → Int → Int → ByteArray → Bool → ByteArray → Int → ByteArray → Sl → Int → Int → Int → Int → ByteArray → Bool → ByteArray → Int → ByteArray → Sl → Bool → Hp → Prop
abbrev QSo (Q : QS) (o : Int) (r1 : ER) (q1 : Sl) (r2 : ER) (q2 : Sl) (ok : Bool) (H : Hp) : Prop :=
  Q o r1.k r1.o r1.vk r1.vi r1.vs r1.vb r1.v r1.p r1.a q1 r2.k r2.o r2.vk r2.vi r2.vs r2.vb r2.v r2.p r2.a q2 ok H
/-- A relation taken apart. -/
structure Side where
  o : Int
  r1 : ER
  k1 : Fo
  r2 : ER
  k2 : Fo
def SideR (H : Hp) (x : Option Side) (o : Int) (r1 : ER) (q1 : Sl) (r2 : ER) (q2 : Sl) (ok : Bool) : Prop :=
  match x with
  | none => ok = false
  | some s => ok = true ∧ o = s.o ∧ r1 = s.r1 ∧ r2 = s.r2 ∧ Xk H q1 s.k1 ∧ Xk H q2 s.k2
abbrev sideRow (o : Int) (r1 : ER) (q1 : Sl) (r2 : ER) (q2 : Sl) : List Value := .int .i64 o :: (r1.row q1 ++ r2.row q2)
def isNotP (r : ER) (kd : Fo) : Bool := decide (r.k = 4) && (decide (r.o = 2) && (decide (kd.len = 1) && isRefP kd.hd))
def side2P (r : ER) (kd : Fo) : Option Side :=
  if isRefP kd.hd = true then some ⟨r.o, kd.hd, kd.hdk, kd.tl.hd, kd.tl.hdk⟩ else if isRefP kd.tl.hd = true then some ⟨turnP r.o, kd.tl.hd, kd.tl.hdk, kd.hd, kd.hdk⟩ else none
def badP (r : ER) (kd : Fo) : Bool := decide (r.k ≠ 5) || (decide (kd.len ≠ 2) || decide (turnP r.o = 0))
def sideP (r : ER) (kd : Fo) : Option Side :=
  if isRefP r = true then some ⟨6, r, kd, valE (truthV true), .nil⟩
  else if isNotP r kd = true then some ⟨6, kd.hd, kd.hdk, valE (truthV false), .nil⟩
  else if badP r kd = true then none
  else side2P r kd
/-- A leaf that is solved. -/
def solvP (r : ER) (kd : Fo) : Option Side :=
  match sideP r kd with
  | none => none
  | some s => if isRefP s.r2 = true then some s else
    match constP s.r2 s.k2 with
    | none => none
    | some c => if s.o = 6 ∨ c.k = 1 then some s else none

section
variable {H H0 H1 : Hp} {r : ER} {q : Sl} {kd : Fo}
theorem Xk.at0 (h : Xk H q kd) (hl : 0 < kd.len) : ∃ a q0, q.b = some a ∧ cells H (Addr.add a ((0 : Int).toNat * 10)) (kd.hd.row q0) 0 ∧ Xk H q0 kd.hdk := by
  cases kd with
  | nil => cases hl
  | cons r0 k0 s => exact h.kid0
theorem Xk.at1 (h : Xk H q kd) (hl : 1 < kd.len) : ∃ a q1, q.b = some a ∧ cells H (Addr.add a ((1 : Int).toNat * 10)) (kd.tl.hd.row q1) 0 ∧ Xk H q1 kd.tl.hdk := by
  cases kd with
  | nil => simp [Fo.len] at hl
  | cons r0 k0 s =>
    cases s with
    | nil => simp [Fo.len] at hl
    | cons r1 k1 s => exact h.kid1
theorem _root_.Go.Hw.Kp.cz {H0 H : Hp} {a : Addr} {m : List Value} (k : Kp No H0 H) (h : cells H0 a m 0) (hm : m ≠ []) : cells H a m 0 := k.cells (cells_block h hm) id h
theorem ret21 {b : Nat} {l : List Value} {K : Int → Int → Int → Int → Int → ByteArray → Bool → ByteArray → Int → ByteArray → Sl → Int → Int → Int → Int → ByteArray → Bool → ByteArray → Int → ByteArray → Sl → Hp → Prop} (rr : Row H b 89 l) (hl : l.length = 21) (o : Int) (r1 : ER) (q1 : Sl) (r2 : ER) (q2 : Sl)
    (hK : ∀ H', Kp (fun x => x = b) H H' → K o r1.k r1.o r1.vk r1.vi r1.vs r1.vb r1.v r1.p r1.a q1 r2.k r2.o r2.vk r2.vi r2.vs r2.vb r2.v r2.p r2.a q2 H') :
    mayw H ⟨b, 0, none⟩ 21 0 ∧ ∀ H' : Hp, H' = sets H ⟨b, 0, none⟩ (sideRow o r1 q1 r2 q2) 0 →
      (∃ (x0 : Int) (x1 : Int) (x2 : Int) (x3 : Int) (x4 : Int) (x5 : ByteArray) (x6 : Bool) (x7 : ByteArray) (x8 : Int) (x9 : ByteArray) (x10 : Sl) (y1 : Int) (y2 : Int) (y3 : Int) (y4 : Int) (y5 : ByteArray) (y6 : Bool) (y7 : ByteArray) (y8 : Int) (y9 : ByteArray) (y10 : Sl),
        cells H' ⟨b, 0, none⟩ [.int .i64 x0, .int .i64 x1, .int .i64 x2, .int .i64 x3, .int .i64 x4, .string x5, .bool x6, .string x7, .int .i64 x8, .string x9, Sl.v x10, .int .i64 y1, .int .i64 y2, .int .i64 y3, .int .i64 y4, .string y5, .bool y6, .string y7, .int .i64 y8, .string y9, Sl.v y10] 0 ∧ K x0 x1 x2 x3 x4 x5 x6 x7 x8 x9 x10 y1 y2 y3 y4 y5 y6 y7 y8 y9 y10 H') := by
  refine ⟨rr.mayw (by omega), fun H' e => ?_⟩
  have r' : Row H' b 89 (sideRow o r1 q1 r2 q2) := rr.fill' e (by rw [hl]; rfl)
  exact ⟨_, _, _, _, _, _, _, _, _, _, _, _, _, _, _, _, _, _, _, _, _, r'.all, hK H' ((Kp.refl _ _).sets' e (.inl rfl))⟩

theorem c53_2 {b0 b1 : Nat} {l : List Value} {bad : Bool} {Q : QS} (g : Kp No H1 H) (k : Kp No H0 H) (hx : Xk H0 q kd) (x : Row H b0 41 (r.row q)) (z : Row H b1 89 l) (hl : l.length = 21) (hb : H1.size ≤ b1) (hn : bad = false → kd.len = 2)
    (hQ : ∀ H' o r1 q1 r2 q2 ok, Kp No H1 H' → SideR H0 (if bad = true then none else side2P r kd) o r1 q1 r2 q2 ok → QSo Q o r1 q1 r2 q2 ok H') : F53_2 Q ⟨b0, 0, none⟩ ⟨b1, 0, none⟩ bad H := by
  refine ⟨fun h => ?_, fun h => ?_⟩
  · rw [if_pos h] at hQ
    exact ret21 z hl 0 zeroE Sl.nil zeroE Sl.nil fun H' kk => hQ H' 0 zeroE Sl.nil zeroE Sl.nil false (g.box kk hb) rfl
  · have hlen := hn h
    have hqn := hx.n
    rw [if_neg (by rw [h]; decide)] at hQ
    obtain ⟨a, q0, ea, ca, x0⟩ := hx.at0 (by omega)
    obtain ⟨a', q1, ea', ca', x1⟩ := hx.at1 (by omega)
    rw [ea] at ea'; cases ea'
    unfold side2P at hQ
    refine ⟨_, rowc (i := 9) x rfl, a, ea, by omega, by omega, _, _, _, _, _, _, _, _, _, _, k.cz ca (by simp), c40 (r := kd.hd) fun H1' k1 => ⟨fun h0 => ?_, fun h0 => ?_⟩⟩
    · rw [if_pos h0] at hQ
      have xx := k1.row x id
      have kk := k.no2 k1
      have gg := g.no2 k1
      refine ⟨_, rowc (i := 1) xx rfl, _, rowc (i := 9) xx rfl, a, ea, by omega, by omega, _, _, _, _, _, _, _, _, _, _, kk.cz ca (by simp), _, rowc (i := 9) xx rfl, a, ea, by omega, by omega, _, _, _, _, _, _, _, _, _, _, kk.cz ca' (by simp), ?_⟩
      exact ret21 (k1.row z id) hl r.o kd.hd q0 kd.tl.hd q1 fun H' k' => hQ H' r.o kd.hd q0 kd.tl.hd q1 true (gg.box k' hb) ⟨rfl, rfl, rfl, rfl, x0, x1⟩
    · rw [if_neg (by rw [h0]; decide)] at hQ
      have xx := k1.row x id
      have kk := k.no2 k1
      have gg := g.no2 k1
      refine ⟨_, rowc (i := 9) xx rfl, a, ea, by omega, by omega, _, _, _, _, _, _, _, _, _, _, kk.cz ca' (by simp), c40 (r := kd.tl.hd) fun H2 k2 => ⟨fun h1 => ?_, fun h1 => ?_⟩⟩
      · rw [if_pos h1] at hQ
        have xx := k2.row xx id
        have kk := kk.no2 k2
        have gg := gg.no2 k2
        refine ⟨_, rowc (i := 1) xx rfl, _, rowc (i := 9) xx rfl, a, ea, by omega, by omega, _, _, _, _, _, _, _, _, _, _, kk.cz ca' (by simp), _, rowc (i := 9) xx rfl, a, ea, by omega, by omega, _, _, _, _, _, _, _, _, _, _, kk.cz ca (by simp), c61 ⟨kk.cz ca (by simp), rowc (i := 9) xx rfl, kk.cz ca' (by simp), rowc (i := 9) xx rfl, ?_⟩⟩
        exact ret21 (k2.row (k1.row z id) id) hl (turnP r.o) kd.tl.hd q1 kd.hd q0 fun H' k' => hQ H' (turnP r.o) kd.tl.hd q1 kd.hd q0 true (gg.box k' hb) ⟨rfl, rfl, rfl, rfl, x1, x0⟩
      · rw [if_neg (by rw [h1]; decide)] at hQ
        exact ret21 (k2.row (k1.row z id) id) hl 0 zeroE Sl.nil zeroE Sl.nil fun H' kk' => hQ H' 0 zeroE Sl.nil zeroE Sl.nil false ((gg.no2 k2).box kk' hb) rfl
theorem c53_1 {b0 b1 b2 : Nat} {l : List Value} {nt : Bool} {Q : QS} (g : Kp No H1 H) (k : Kp No H0 H) (hx : Xk H0 q kd) (x : Row H b0 41 (r.row q)) (z : Row H b1 89 l) (no : Row H b2 41 ((valE (truthV false)).row Sl.nil)) (hl : l.length = 21) (hb : H1.size ≤ b1) (hn : nt = true → kd.len = 1)
    (hQ : ∀ H' o r1 q1 r2 q2 ok, Kp No H1 H' → SideR H0 (if nt = true then some ⟨6, kd.hd, kd.hdk, valE (truthV false), .nil⟩ else if badP r kd = true then none else side2P r kd) o r1 q1 r2 q2 ok → QSo Q o r1 q1 r2 q2 ok H') : F53_1 Q ⟨b0, 0, none⟩ ⟨b1, 0, none⟩ ⟨b2, 0, none⟩ nt H := by
  have hqn := hx.n
  refine ⟨fun h => ?_, fun h => ?_⟩
  · have hlen := hn h
    rw [if_pos h] at hQ
    obtain ⟨a, q0, ea, ca, x0⟩ := hx.at0 (by omega)
    refine ⟨_, rowc (i := 9) x rfl, a, ea, by omega, by omega, _, _, _, _, _, _, _, _, _, _, k.cz ca (by simp), _, _, _, _, _, _, _, _, _, _, no.all, ?_⟩
    exact ret21 z hl 6 kd.hd q0 (valE (truthV false)) Sl.nil fun H' k' => hQ H' 6 kd.hd q0 (valE (truthV false)) Sl.nil true (g.box k' hb) ⟨rfl, rfl, rfl, rfl, x0, Xk.nil _⟩
  · rw [if_neg (by rw [h]; decide)] at hQ
    have bad : badP r kd = true → F53_2 Q ⟨b0, 0, none⟩ ⟨b1, 0, none⟩ true H := fun hbad => c53_2 g k hx x z hl hb (fun h => by cases h) fun H' o r1 q1 r2 q2 ok k' hs => hQ H' o r1 q1 r2 q2 ok k' (by rw [if_pos hbad]; exact hs)
    refine ⟨_, x.cell_of (i := 0) rfl, fun h1 => bad (by rw [badP, h1, Bool.true_or]), fun h1 => ⟨_, rowc (i := 9) x rfl, fun h2 => bad ?_, fun h2 => ⟨_, rowc (i := 1) x rfl, c61 ?_⟩⟩⟩
    · have : decide (kd.len ≠ 2) = true := decide_eq_true (by have := of_decide_eq_true h2; omega)
      rw [badP, h1, this]; rfl
    · have hlen : kd.len = 2 := by have := of_decide_eq_false h2; omega
      have hbad : badP r kd = decide (turnP r.o = 0) := by
        rw [badP, h1, hlen]; rfl
      rw [hbad] at hQ
      exact c53_2 g k hx x z hl hb (fun _ => hlen) hQ
theorem c53 {Q : QS} (k : Kp No H0 H) (hx : Xk H0 q kd) (hQ : ∀ H' o r1 q1 r2 q2 ok, Kp No H H' → SideR H0 (sideP r kd) o r1 q1 r2 q2 ok → QSo Q o r1 q1 r2 q2 ok H') : F53 r.k r.o r.vk r.vi r.vs r.vb r.v r.p r.a q H Q := by
  intro H1 e1 H3 e3
  have k3 : Kp No H H3 := ((Kp.refl No H).push' e1).push' e3
  have s1 := size_push' e1
  have s3 := size_push' e3
  have x3 : Row H3 H.size 41 (r.row q) := (Row.new' e1).push' e3
  have z3 : Row H3 H1.size 89 (sideRow 0 zeroE Sl.nil zeroE Sl.nil) := Row.new' e3
  refine c60 fun H5 k5 H11 e11 => ?_
  have k11 : Kp No H5 H11 := (Kp.refl No H5).push' e11
  have s5 := k5.size
  have s11 := size_push' e11
  have y11 : Row H11 H5.size 41 (zeroE.row Sl.nil) := Row.new' e11
  refine ⟨y11.mayw (by simp), fun H13 e13 => ?_⟩
  have y13 : Row H13 H5.size 41 ((valE (truthV true)).row Sl.nil) := y11.fill' e13 rfl
  have k13 : Kp No H5 H13 := k11.box ((Kp.refl _ _).sets' e13 (.inl rfl)) (Nat.le_refl _)
  have s13 := size_sets' e13
  refine c60 fun H16 k16 H22 e22 => ?_
  have k22 : Kp No H16 H22 := (Kp.refl No H16).push' e22
  have s16 := k16.size
  have n22 : Row H22 H16.size 41 (zeroE.row Sl.nil) := Row.new' e22
  refine ⟨n22.mayw (by simp), fun H24 e24 => ?_⟩
  have n24 : Row H24 H16.size 41 ((valE (truthV false)).row Sl.nil) := n22.fill' e24 rfl
  have k24 : Kp No H16 H24 := k22.box ((Kp.refl _ _).sets' e24 (.inl rfl)) (Nat.le_refl _)
  have kA : Kp No H3 H24 := (k5.no2 k13).no2 (k16.no2 k24)
  have y24 : Row H24 H5.size 41 ((valE (truthV true)).row Sl.nil) := (k16.no2 k24).row y13 id
  refine ⟨_, _, _, _, _, _, _, _, _, _, (kA.row x3 id).all, c40 (r := r) fun H38 k38 => ?_⟩
  have kB : Kp No H3 H38 := kA.no2 k38
  have kk : Kp No H H38 := k3.no2 kB
  have x := kB.row x3 id
  have z := kB.row z3 id
  have yes := k38.row y24 id
  have no := k38.row n24 id
  have hqn := hx.n
  unfold sideP at hQ
  refine ⟨fun h => ?_, fun h => ?_⟩
  · rw [if_pos h] at hQ
    refine ⟨_, _, _, _, _, _, _, _, _, _, x.all, _, _, _, _, _, _, _, _, _, _, yes.all, ?_⟩
    have hb : H.size ≤ H1.size := by omega
    exact ret21 z rfl 6 r q (valE (truthV true)) Sl.nil fun H' k' => hQ H' 6 r q (valE (truthV true)) Sl.nil true (kk.box k' hb) ⟨rfl, rfl, rfl, rfl, hx, Xk.nil _⟩
  · rw [if_neg (by rw [h]; decide)] at hQ
    have k0 : Kp No H0 H38 := k.no2 kk
    have main : ∀ (nt : Bool) {H' : Hp}, Kp No H38 H' → isNotP r kd = nt → F53_1 Q ⟨H.size, 0, none⟩ ⟨H1.size, 0, none⟩ ⟨H16.size, 0, none⟩ nt H' := fun nt H' k' e =>
      c53_1 (H1 := H) (kk.no2 k') (k0.no2 k') hx (k'.row x id) (k'.row z id) (k'.row no id) rfl (by omega) (fun h => by
        rw [h] at e
        simp only [isNotP, Bool.and_eq_true, decide_eq_true_eq] at e
        exact e.2.2.1) (by rw [e] at hQ; exact hQ)
    refine ⟨_, x.cell_of (i := 0) rfl, fun h1 => ⟨_, rowc (i := 1) x rfl, fun h2 => ⟨_, rowc (i := 9) x rfl, fun h3 => ?_, fun h3 => main false (Kp.refl _ _) ?_⟩, fun h2 => main false (Kp.refl _ _) (by rw [isNotP, h1, h2]; rfl)⟩, fun h1 => main false (Kp.refl _ _) (by rw [isNotP, h1]; rfl)⟩
    · have hlen : kd.len = 1 := by have := of_decide_eq_true h3; omega
      obtain ⟨a, q0, ea, ca, x0⟩ := hx.at0 (by omega)
      refine ⟨_, rowc (i := 9) x rfl, a, ea, by omega, by omega, _, _, _, _, _, _, _, _, _, _, k0.cz ca (by simp), c40 (r := kd.hd) fun H' k' => main _ k' ?_⟩
      rw [isNotP, h1, h2, hlen]; rfl
    · have : decide (kd.len = 1) = false := decide_eq_false (by have := of_decide_eq_false h3; omega)
      rw [isNotP, h1, h2, this]; rfl
end
end Go.Hw
