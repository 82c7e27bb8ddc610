/- The law's own expressions, events, surroundings; Eval, Holds; is, not. Own work of this session. -/
import Derived.Test.YtfkhglkcplnppaaDoorE6
set_option linter.unusedVariables false
namespace Go.Hw
open Go

def FoA (A : Nat → Prop) (H : Hp) : Option Addr → Nat → Fo → Prop
 | _, _, .nil => True
 | p, i, .cons r k s => ∃ a q, p = some a ∧ A a.block ∧ cells H (a.add (i * 10)) (r.row q) 0 ∧ q.n = k.len ∧ FoA A H q.b 0 k ∧ FoA A H p (i + 1) s
theorem ablk (a : Addr) (k : Nat) : (a.add k).block = a.block := by unfold Addr.add; split <;> rfl
theorem FoA.foH {A : Nat → Prop} {H : Hp} : ∀ {f : Fo} {p : Option Addr} {i : Nat}, FoA A H p i f → FoH H.size H p i f
 | .nil, _, _, _ => trivial
 | .cons r k s, p, i, ⟨a, q, e, hb, hc, hn, h1, h2⟩ => by
  have := cells_block hc (fun h => by cases h)
  rw [ablk] at this
  exact ⟨a, q, e, this, hc, hn, h1.foH, h2.foH⟩
theorem FoA.kp {A S : Nat → Prop} {H H' : Hp} (k : Kp S H H') (hS : ∀ b, A b → ¬ S b) : ∀ {f : Fo} {p : Option Addr} {i : Nat}, FoA A H p i f → FoA A H' p i f
 | .nil, _, _, _ => trivial
 | .cons r kd s, p, i, ⟨a, q, e, hb, hc, hn, h1, h2⟩ => by
  refine ⟨a, q, e, hb, k.cells (cells_block hc (fun h => by cases h)) ?_ hc, hn, FoA.kp k hS h1, FoA.kp k hS h2⟩
  rw [ablk]; exact hS _ hb
structure Ex (A : Nat → Prop) (H : Hp) (q : Sl) (kd : Fo) : Prop where
 n : q.n = kd.len
 f : FoA A H q.b 0 kd
theorem Ex.kp {A S : Nat → Prop} {H H' : Hp} {q : Sl} {kd : Fo} (h : Ex A H q kd) (k : Kp S H H') (hS : ∀ b, A b → ¬ S b) : Ex A H' q kd := ⟨h.n, h.f.kp k hS⟩
theorem Ex.no {A : Nat → Prop} {H H' : Hp} {q : Sl} {kd : Fo} (h : Ex A H q kd) (k : Kp No H H') : Ex A H' q kd := h.kp k fun _ _ => id
theorem Ex.nil (A : Nat → Prop) (H : Hp) : Ex A H Sl.nil .nil := ⟨rfl, trivial⟩

def litE (n : Int) : ER := ⟨1, 0, 1, n, E, false, E, 0, E⟩
def refE (v : ByteArray) (p : Int) (a : ByteArray) : ER := ⟨2, 0, 0, 0, E, false, v, p, a⟩
def fnE (o : Int) (v : ByteArray) (p : Int) (a : ByteArray) : ER := ⟨3, o, 0, 0, E, false, v, p, a⟩
def opE (k o : Int) : ER := ⟨k, o, 0, 0, E, false, E, 0, E⟩

section
variable {H H0 : Hp}
theorem ret10 {b : Nat} {l : List Value} {K : Int → Int → Int → Int → ByteArray → Bool → ByteArray → Int → ByteArray → Sl → Hp → Prop} (rr : Row H b 41 l) (hl : l.length = 10) (r : ER) (q : Sl)
  (hK : ∀ H', Row H' b 41 (r.row q) → Kp (fun x => x = b) H H' → K r.k r.o r.vk r.vi r.vs r.vb r.v r.p r.a q H') :
  mayw H ⟨b, 0, none⟩ 10 0 ∧ ∀ H' : Hp, H' = sets H ⟨b, 0, none⟩ [(.int .i64 r.k), (.int .i64 r.o), (.int .i64 r.vk), (.int .i64 r.vi), (.string r.vs), (.bool r.vb), (.string r.v), (.int .i64 r.p), (.string r.a), (Sl.v q)] 0 →
   (∃ (x6 : Int) (x7 : Int) (x8 : Int) (x9 : Int) (x10 : ByteArray) (x11 : Bool) (x12 : ByteArray) (x13 : Int) (x14 : ByteArray) (x15 : Sl), cells H' ⟨b, 0, none⟩ [(.int .i64 x6), (.int .i64 x7), (.int .i64 x8), (.int .i64 x9), (.string x10), (.bool x11), (.string x12), (.int .i64 x13), (.string x14), (Sl.v x15)] 0 ∧ (K x6 x7 x8 x9 x10 x11 x12 x13 x14 x15 H')) := by
 refine ⟨rr.mayw (by omega), fun H' e => ?_⟩
 have r' : Row H' b 41 (r.row q) := rr.fill' e (by simp [hl])
 exact ⟨_, _, _, _, _, _, _, _, _, _, r'.all, hK H' r' ((Kp.refl _ _).sets' e (.inl rfl))⟩

theorem c23 {p0 : Int} {Q : Int → Int → ByteArray → Bool → Hp → Prop} (hQ : ∀ H', Kp No H H' → Q 1 p0 E false H') : F23 p0 H Q := by
 intro H1 e1
 exact ret4 (Row.new' e1) rfl ⟨1, p0, E, false⟩ fun H' _ k => hQ H' (((Kp.refl No H).push' e1).box k (Nat.le_refl _))
abbrev QE := Int → Int → Int → Int → ByteArray → Bool → ByteArray → Int → ByteArray → Sl → Hp → Prop
theorem c14 {o : Int} {v : ByteArray} {p : Int} {a : ByteArray} {Q : QE} (hQ : ∀ H', Kp No H H' → Q 3 o 0 0 E false v p a Sl.nil H') : F14 o v p a H Q := by
 intro H1 e1
 exact ret10 (Row.new' e1) rfl (fnE o v p a) Sl.nil fun H' _ k => hQ H' (((Kp.refl No H).push' e1).box k (Nat.le_refl _))
theorem c16 {v : ByteArray} {p : Int} {a : ByteArray} {Q : QE} (hQ : ∀ H', Kp No H H' → Q 2 0 0 0 E false v p a Sl.nil H') : F16 v p a H Q := by
 intro H1 e1
 exact ret10 (Row.new' e1) rfl (refE v p a) Sl.nil fun H' _ k => hQ H' (((Kp.refl No H).push' e1).box k (Nat.le_refl _))
theorem c19 {n : Int} {Q : QE} (hQ : ∀ H', Kp No H H' → Q 1 0 1 n E false E 0 E Sl.nil H') : F19 n H Q := by
 intro H1 e1
 have k1 : Kp No H H1 := (Kp.refl _ _).push' e1
 refine c23 fun H3 k3 => ?_
 exact ret10 (k3.row (Row.new' e1) id) rfl (litE n) Sl.nil fun H' _ k => hQ H' ((k1.no2 k3).box k (Nat.le_refl _))
theorem c18 {A : Nat → Prop} {o : Int} {ra rb : ER} {qa qb : Sl} {ka kb : Fo} {Q : QE} (ha : Ex A H qa ka) (hb : Ex A H qb kb) (hA : ∀ b, H.size ≤ b → A b)
  (hQ : ∀ q H', Kp No H H' → Ex A H' q (.cons ra ka (.cons rb kb .nil)) → Q 5 o 0 0 E false E 0 E q H') :
  F18 o ra.k ra.o ra.vk ra.vi ra.vs ra.vb ra.v ra.p ra.a qa rb.k rb.o rb.vk rb.vi rb.vs rb.vb rb.v rb.p rb.a qb H Q := by
 intro H1 e1 H3 e3 H5 e5
 have k1 : Kp No H H1 := (Kp.refl _ _).push' e1
 have k3 : Kp No H H3 := k1.push' e3
 have k5 : Kp No H H5 := k3.push' e5
 have r1 : Row H5 H.size 41 (ra.row qa) := ((Row.new' e1).push' e3).push' e5
 have r2 : Row H5 H1.size 41 (rb.row qb) := (Row.new' e3).push' e5
 have s1 := size_push' e1
 have s3 := size_push' e3
 have s5 := size_push' e5
 refine ⟨_, _, _, _, _, _, _, _, _, _, r1.all, _, _, _, _, _, _, _, _, _, _, r2.all, fun H29 e29 => ?_⟩
 have k29 : Kp No H H29 := k5.push' e29
 have r29 : Row H29 H5.size 41 (ra.row qa ++ rb.row qb) := Row.new' e29
 refine ret10 (K := Q) ((Row.new' e5).push' e29) rfl (opE 5 o) (Sl.mk (some ⟨H5.size, 0, none⟩) 2 2) fun H' _ k => ?_
 have kk : Kp No H H' := k29.box k (by omega)
 have rr := k.row r29 (by show H5.size ≠ H3.size; omega)
 refine hQ _ H' kk ⟨rfl, ⟨⟨H5.size, 0, none⟩, qa, rfl, hA _ (by show H.size ≤ H5.size; omega), ?_, ha.n, (ha.no kk).f, ⟨H5.size, 0, none⟩, qb, rfl, hA _ (by show H.size ≤ H5.size; omega), ?_, hb.n, (hb.no kk).f, trivial⟩⟩
 ·rw [add_mk]; exact rr.cells rfl
 ·rw [add_mk]; exact rr.cells rfl

def Stb (B : Nat) (H : Hp) (P : Hp → Prop) : Prop := ∀ (S : Nat → Prop) (H' : Hp), Kp S H H' → (∀ b, B ≤ b → ¬ S b) → P H'
theorem Stb.now {B : Nat} {P : Hp → Prop} (h : Stb B H P) : P H := h No H (Kp.refl _ _) fun _ _ => id
theorem Stb.kp {B B' : Nat} {S : Nat → Prop} {H' : Hp} {P : Hp → Prop} (h : Stb B H P) (k : Kp S H H') (hS : ∀ b, B ≤ b → ¬ S b) (hB : B ≤ B') (hB' : B' ≤ B) : Stb B' H' P := fun S' H'' k' hS' =>
 h (fun b => S b ∨ S' b) H'' ((k.mono fun _ _ h => .inl h).trans (k'.mono fun _ _ h => .inr h) fun b hb => .inl hb) fun b hb hh => hh.elim (hS b hb) (hS' b (by omega))

def evM (t x : Int) (s : ByteArray) : EvM := ⟨S_T, t, [numV x, ⟨2, 0, s, false⟩]⟩
def tyT : List TyM := [(S_T, [(S_x, 1), (S_s, 2)])]
theorem c10 {t x : Int} {s : ByteArray} {Q : ByteArray → Int → Sl → Hp → Prop} (hQ : ∀ q H', Kp No H H' → Stb H.size H' (fun H' => RdL vF H' q (evM t x s).vals) → Q S_T t q H') : F10 t x s H Q := by
 intro H1 e1
 have k1 : Kp No H H1 := (Kp.refl _ _).push' e1
 have s1 := size_push' e1
 refine c23 fun H3 k3 H9 e9 => ?_
 have k9 : Kp No H1 H9 := k3.push' e9
 have r9 : Row H9 H3.size 38 ((evM t x s).vals.flatMap vF.f) := Row.new' e9
 refine ret3 (K := Q) (k9.row (Row.new' e1) id) rfl S_T t _ fun H' k => hQ _ H' ((k1.no2 k9).box k (Nat.le_refl _)) ?_
 have := k3.size
 intro S H'' k' hS
 exact Row.rdl (F := vF) (L := (evM t x s).vals) (n := 2) (k'.row (k.row r9 (by show H3.size ≠ H.size; omega)) (hS _ (by omega))) rfl 2
theorem c12 {Q : Sl → Hp → Prop} (hQ : ∀ q H', Kp No H H' → Stb H.size H' (fun H' => TysH H' q tyT) → Q q H') : F12 H Q := by
 intro H1 e1 H3 e3
 have k3 : Kp No H H3 := ((Kp.refl _ _).push' e1).push' e3
 have r1 : Row H3 H.size 83 ([(S_x, (1 : Int)), (S_s, 2)].flatMap aF.f) := (Row.new' e1).push' e3
 have r3 : Row H3 H1.size 86 ([(S_T, Sl.mk (some ⟨H.size, 0, none⟩) 2 2)].flatMap tF.f) := Row.new' e3
 have s1 := size_push' e1
 refine hQ _ H3 k3 fun S H' k' hS => ?_
 replace r1 := k'.row r1 (hS _ (Nat.le_refl _))
 replace r3 := k'.row r3 (hS _ (by omega))
 refine ⟨by decide, [(S_T, Sl.mk (some ⟨H.size, 0, none⟩) 2 2)], Row.rdl (F := tF) (n := 1) r3 rfl 1, rfl, fun i r t hr ht => ?_⟩
 match i with
 | 0 =>
  simp only [List.getElem?_cons_zero, Option.some.injEq] at hr
  have ht : (S_T, [(S_x, (1 : Int)), (S_s, 2)]) = t := by simpa [tyT] using ht
  subst hr ht
  exact ⟨rfl, Row.rdl (F := aF) (L := [(S_x, (1 : Int)), (S_s, 2)]) (n := 2) r1 rfl 2, by decide⟩
 | i + 1 => simp at hr
theorem EvsH.of {s : Sl} {R : List (ByteArray × Int × Sl)} {evs : List EvM} (h : RdL evF H s R) (hl : evs.length ≤ lim) (hR : R.length = evs.length) (he : ∀ (i : Nat) (r : ByteArray × Int × Sl) (e : EvM), R[i]? = some r → evs[i]? = some e → r.1 = e.ty ∧ r.2.1 = e.time ∧ RdL vF H r.2.2 e.vals) : EvsH H s evs := ⟨hl, R, h, hR, he⟩
def exM : EnvM := ⟨[S_a, S_b, S_c], [[evM 1 5 S_p], [evM 2 7 S_q, evM 3 6 S_r], []], S_b, evM 4 9 S_z, tyT⟩
abbrev QV := Sl → Sl → ByteArray → ByteArray → Int → Sl → Sl → Hp → Prop
theorem ret7 {b : Nat} {l : List Value} {K : QV} (rr : Row H b 43 l) (hl : l.length = 7) (p0 p1 : Sl) (p2 p3 : ByteArray) (p4 : Int) (p5 p6 : Sl) (hK : ∀ H', Kp (fun x => x = b) H H' → Row H' b 43 (envRow p0 p1 p2 p3 p4 p5 p6) → K p0 p1 p2 p3 p4 p5 p6 H') :
  mayw H ⟨b, 0, none⟩ 7 0 ∧ ∀ H' : Hp, H' = sets H ⟨b, 0, none⟩ [(Sl.v p0), (Sl.v p1), (.string p2), (.string p3), (.int .i64 p4), (Sl.v p5), (Sl.v p6)] 0 →
   (∃ (x37 : Sl) (x38 : Sl) (x39 : ByteArray) (x40 : ByteArray) (x41 : Int) (x42 : Sl) (x43 : Sl), cells H' ⟨b, 0, none⟩ [(Sl.v x37), (Sl.v x38), (.string x39), (.string x40), (.int .i64 x41), (Sl.v x42), (Sl.v x43)] 0 ∧ (K x37 x38 x39 x40 x41 x42 x43 H')) := by
 refine ⟨rr.mayw (by omega), fun H' e => ?_⟩
 have r' : Row H' b 43 (envRow p0 p1 p2 p3 p4 p5 p6) := rr.fill' e (by simp [hl])
 exact ⟨_, _, _, _, _, _, _, r'.all, hK H' ((Kp.refl _ _).sets' e (.inl rfl)) r'⟩
theorem c17 {Q : QV} (hQ : ∀ p0 p1 p2 p3 p4 p5 p6 H', Kp No H H' → Stb (H.size + 1) H' (fun H' => EnvH H' p0 p1 p2 p3 p4 p5 p6 exM) → Q p0 p1 p2 p3 p4 p5 p6 H') : F17 H Q := by
 intro H1 e1 H3 e3
 have s1 := size_push' e1
 have s3 := size_push' e3
 have k1 : Kp No H H1 := (Kp.refl _ _).push' e1
 have k3 : Kp No H1 H3 := (Kp.refl _ _).push' e3
 have rv : Row H3 H1.size 9 ([S_a, S_b, S_c].flatMap sF.f) := Row.new' e3
 refine c10 fun q5 H5 k5 v5 H10 e10 => ?_
 have k10 : Kp No H5 H10 := (Kp.refl _ _).push' e10
 have rp : Row H10 H5.size 36 ([(S_T, (1 : Int), q5)].flatMap evF.f) := Row.new' e10
 refine c10 fun q12 H12 k12 v12 => ?_
 refine c10 fun q17 H17 k17 v17 H22 e22 H24 e24 => ?_
 have k22 : Kp No H17 H22 := (Kp.refl _ _).push' e22
 have rq : Row H22 H17.size 36 ([(S_T, (2 : Int), q12), (S_T, (3 : Int), q17)].flatMap evF.f) := Row.new' e22
 have k24 : Kp No H22 H24 := (Kp.refl _ _).push' e24
 have rb : Row H24 H22.size 49 ([Sl.mk (some ⟨H5.size, 0, none⟩) 1 1, Sl.mk (some ⟨H17.size, 0, none⟩) 2 2, Sl.nil].flatMap slF.f) := Row.new' e24
 refine c10 fun q26 H26 k26 v26 => ?_
 refine c12 fun q31 H31 k31 t31 => ?_
 have k3to := k5.no2 (k10.no2 (k12.no2 (k17.no2 (k22.no2 (k24.no2 (k26.no2 k31))))))
 have k1to : Kp No H1 H31 := k3.no2 k3to
 have rr : Row H31 H.size 43 [Sl.v Sl.nil, Sl.v Sl.nil, .string E, .string E, .int .i64 0, Sl.v Sl.nil, Sl.v Sl.nil] := k1to.row (Row.new' e1) id
 refine ret7 (K := Q) rr rfl _ _ S_b S_T 4 q26 q31 fun H' k _ => ?_
 have kH : Kp No H H' := (k1.no2 k1to).box k (Nat.le_refl _)
 have sz3 := k3to.size
 have kp : ∀ {Hx : Hp}, Kp No Hx H31 → Kp (fun x => x = H.size) Hx H' := fun kx => (kx.mono fun _ _ h => h.elim).trans k fun b hb => .inl hb
 have a5 := k5.size
 have a10 := k10.size
 have a12 := k12.size
 have a17 := k17.size
 have a22 := k22.size
 have a24 := k24.size
 have a26 := k26.size
 refine hQ _ _ _ _ _ _ _ H' kH fun S Hf kf hS => ?_
 have kF : ∀ {Hx : Hp}, Kp No Hx H31 → Kp (fun b => b = H.size ∨ S b) Hx Hf := fun kx => ((kp kx).mono fun _ _ h => .inl h).trans (kf.mono fun _ _ h => .inr h) fun b hb => .inl hb
 have nS : ∀ b, H1.size ≤ b → ¬ (b = H.size ∨ S b) := fun b hb h => by
  rcases h with h | h
  ·omega
  ·exact hS b (by omega) h
 have k31 := k31
 have w5 := v5 _ Hf (kF (k10.no2 (k12.no2 (k17.no2 (k22.no2 (k24.no2 (k26.no2 k31))))))) fun b hb => nS b (by omega)
 have w12 := v12 _ Hf (kF (k17.no2 (k22.no2 (k24.no2 (k26.no2 k31))))) fun b hb => nS b (by omega)
 have w17 := v17 _ Hf (kF (k22.no2 (k24.no2 (k26.no2 k31)))) fun b hb => nS b (by omega)
 have w26 := v26 _ Hf (kF k31) fun b hb => nS b (by omega)
 have w31 := t31 _ Hf (kF (Kp.refl _ _)) fun b hb => nS b (by omega)
 have rv' := (kF k3to).row rv (nS _ (Nat.le_refl _))
 have rp' := (kF (k12.no2 (k17.no2 (k22.no2 (k24.no2 (k26.no2 k31)))))).row rp (nS _ (by omega))
 have rq' := (kF (k24.no2 (k26.no2 k31))).row rq (nS _ (by omega))
 have rb' := (kF (k26.no2 k31)).row rb (nS _ (by omega))
 refine ⟨Row.rdl (F := sF) (L := [S_a, S_b, S_c]) (n := 3) rv' rfl 3, by decide, ⟨[Sl.mk (some ⟨H5.size, 0, none⟩) 1 1, Sl.mk (some ⟨H17.size, 0, none⟩) 2 2, Sl.nil], Row.rdl (F := slF) (n := 3) rb' rfl 3, rfl, fun i sl evs hs he => ?_⟩, rfl, rfl, rfl, w26, w31⟩
 match i with
 | 0 =>
  obtain rfl : Sl.mk (some ⟨H5.size, 0, none⟩) 1 1 = sl := by simpa using hs
  obtain rfl : [evM 1 5 S_p] = evs := by simpa [exM] using he
  refine EvsH.of (R := [(S_T, (1 : Int), q5)]) (Row.rdl (F := evF) (n := 1) rp' rfl 1) (by decide) rfl fun i r e hr he => ?_
  match i with
  | 0 =>
   obtain rfl : (S_T, (1 : Int), q5) = r := by simpa using hr
   obtain rfl : evM 1 5 S_p = e := by simpa using he
   exact ⟨rfl, rfl, w5⟩
  | i + 1 => simp at hr
 | 1 =>
  obtain rfl : Sl.mk (some ⟨H17.size, 0, none⟩) 2 2 = sl := by simpa using hs
  obtain rfl : [evM 2 7 S_q, evM 3 6 S_r] = evs := by simpa [exM] using he
  refine EvsH.of (R := [(S_T, (2 : Int), q12), (S_T, (3 : Int), q17)]) (Row.rdl (F := evF) (n := 2) rq' rfl 2) (by decide) rfl fun i r e hr he => ?_
  match i with
  | 0 =>
   obtain rfl : (S_T, (2 : Int), q12) = r := by simpa using hr
   obtain rfl : evM 2 7 S_q = e := by simpa using he
   exact ⟨rfl, rfl, w12⟩
  | 1 =>
   obtain rfl : (S_T, (3 : Int), q17) = r := by simpa using hr
   obtain rfl : evM 3 6 S_r = e := by simpa using he
   exact ⟨rfl, rfl, w17⟩
  | i + 2 => simp at hr
 | 2 =>
  obtain rfl : Sl.nil = sl := by simpa using hs
  obtain rfl : ([] : List EvM) = evs := by simpa [exM] using he
  exact EvsH.of (R := []) (RdL.nil evF Hf) (by decide) rfl fun i r e hr he => by simp at hr
 | i + 3 => simp at hs
end
end Go.Hw
