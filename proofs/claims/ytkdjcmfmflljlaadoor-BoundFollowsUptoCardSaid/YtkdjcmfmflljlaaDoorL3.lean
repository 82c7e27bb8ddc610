/- The law's relations: made tidy, made expressions, joined. Own work of this session. -/
import Derived.Test.YtkdjcmfmflljlaaDoorL1
set_option linter.unusedVariables false
namespace Go.Hw
open Go

/-! ## kids, and in which blocks -/
def FoA (A : Nat → Prop) (H : Hp) : Option Addr → Nat → Fo → Prop
  | _, _, .nil => True
  | p, i, .cons r k s => ∃ a q, p = some a ∧ A a.block ∧ cells H (a.add (i * 10)) (r.row q) 0 ∧ q.n = k.len ∧ FoA A H q.b 0 k ∧ FoA A H p (i + 1) s
theorem ablk (a : Addr) (k : Nat) : (a.add k).block = a.block := by unfold Addr.add; split <;> rfl
theorem FoA.foK {A : Nat → Prop} {H : Hp} : ∀ {f : Fo} {p : Option Addr} {i : Nat}, FoA A H p i f → FoK H p i f
  | .nil, _, _, _ => trivial
  | .cons r k s, p, i, ⟨a, q, e, hb, hc, hn, h1, h2⟩ => ⟨a, q, e, hc, hn, h1.foK, h2.foK⟩
theorem FoA.kp {A S : Nat → Prop} {H H' : Hp} (k : Kp S H H') (hS : ∀ b, A b → ¬ S b) : ∀ {f : Fo} {p : Option Addr} {i : Nat}, FoA A H p i f → FoA A H' p i f
  | .nil, _, _, _ => trivial
  | .cons r kd s, p, i, ⟨a, q, e, hb, hc, hn, h1, h2⟩ => by
    refine ⟨a, q, e, hb, k.cells (cells_block hc (fun h => by cases h)) ?_ hc, hn, FoA.kp k hS h1, FoA.kp k hS h2⟩
    rw [ablk]; exact hS _ hb
theorem FoA.mono {A A' : Nat → Prop} {H : Hp} (h : ∀ b, b < H.size → A b → A' b) : ∀ {f : Fo} {p : Option Addr} {i : Nat}, FoA A H p i f → FoA A' H p i f
  | .nil, _, _, _ => trivial
  | .cons r kd s, p, i, ⟨a, q, e, hb, hc, hn, h1, h2⟩ => by
    have := cells_block hc (fun h => by cases h)
    rw [ablk] at this
    exact ⟨a, q, e, h _ this hb, hc, hn, h1.mono h, h2.mono h⟩
structure Xa (A : Nat → Prop) (H : Hp) (q : Sl) (kd : Fo) : Prop where
  n : q.n = kd.len
  f : FoA A H q.b 0 kd
theorem Xa.xk {A : Nat → Prop} {H : Hp} {q : Sl} {kd : Fo} (h : Xa A H q kd) : Xk H q kd := ⟨h.n, h.f.foK⟩
theorem Xa.kp {A S : Nat → Prop} {H H' : Hp} {q : Sl} {kd : Fo} (h : Xa A H q kd) (k : Kp S H H') (hS : ∀ b, A b → ¬ S b) : Xa A H' q kd := ⟨h.n, h.f.kp k hS⟩
theorem Xa.no {A : Nat → Prop} {H H' : Hp} {q : Sl} {kd : Fo} (h : Xa A H q kd) (k : Kp No H H') : Xa A H' q kd := h.kp k fun _ _ => id
theorem Xa.mono {A A' : Nat → Prop} {H : Hp} {q : Sl} {kd : Fo} (h : Xa A H q kd) (hA : ∀ b, b < H.size → A b → A' b) : Xa A' H q kd := ⟨h.n, h.f.mono hA⟩
theorem Xa.nil (A : Nat → Prop) (H : Hp) : Xa A H Sl.nil .nil := ⟨rfl, trivial⟩

structure RelM where
  o : Int
  l : Int
  r : Int
  c : VT
  f : Int
def rlF : Fmt RelM 31 8 := ⟨fun x => [.int .i64 x.o, .int .i64 x.l, .int .i64 x.r, .int .i64 x.c.k, .int .i64 x.c.n, .string x.c.s, .bool x.c.b, .int .i64 x.f], fun _ => rfl, by
  intro x v hv
  simp only [List.mem_cons, List.not_mem_nil, or_false] at hv
  rcases hv with rfl | rfl | rfl | rfl | rfl | rfl | rfl | rfl <;> rfl, by decide⟩
def mod6 (x : Int) : Int := Int.tmod (IntKind.i64.wrap (Int.tmod x 6 + 6)) 6
def tidyP (x : RelM) : RelM := ⟨IntKind.i64.wrap (6 + mod6 x.o), mod6 x.l, mod6 x.r, if vld x.c = true then x.c else numV 0, if x.f < 0 then 2 else if 4 < x.f then 2 else x.f⟩
def sixL : List ER := [refE S_a 1 S_x, refE S_b 1 S_x, refE S_a 1 S_s, refE S_b 1 S_s, fnE 1 S_c 6 E, refE S_c 1 S_t]
def sixP (i : Int) : ER := sixL.getD i.toNat zeroE
def litP (v : VT) : ER × Fo := if v.k = 1 ∧ v.n < 0 then (opE 4 1, .cons (valE (numV (IntKind.i64.wrap (0 - v.n)))) .nil .nil) else (valE v, .nil)
def condE (x : RelM) : ER × Fo :=
  if x.f = 0 then (opE 5 x.o, .cons (sixP x.l) .nil (.cons (litP x.c).1 (litP x.c).2 .nil))
  else if x.f = 1 then (opE 5 x.o, .cons (litP x.c).1 (litP x.c).2 (.cons (sixP x.l) .nil .nil))
  else if x.f = 2 then (opE 5 x.o, .cons (sixP x.l) .nil (.cons (sixP x.r) .nil .nil))
  else if x.f = 3 then (sixP x.l, .nil)
  else (opE 4 2, .cons (sixP x.l) .nil .nil)
/-- A relation made tidy. -/
structure TOk (x : RelM) : Prop where
  o : 6 ≤ x.o ∧ x.o ≤ 11
  l : 0 ≤ x.l ∧ x.l < 6
  r : 0 ≤ x.r ∧ x.r < 6
  c : vld x.c = true
  f : 0 ≤ x.f ∧ x.f ≤ 4
theorem mod6_ok (x : Int) : 0 ≤ mod6 x ∧ mod6 x < 6 := by
  unfold mod6
  have h1 : -6 < Int.tmod x 6 ∧ Int.tmod x 6 < 6 := ⟨Int.lt_tmod_of_pos x (by decide), Int.tmod_lt_of_pos x (by decide)⟩
  rw [wr (by omega) (by omega)]
  exact ⟨Int.tmod_nonneg 6 (by omega), Int.tmod_lt_of_pos _ (by decide)⟩
theorem tidy_ok (x : RelM) : TOk (tidyP x) := by
  refine ⟨?_, mod6_ok _, mod6_ok _, ?_, ?_⟩
  · have := mod6_ok x.o
    show 6 ≤ IntKind.i64.wrap (6 + mod6 x.o) ∧ IntKind.i64.wrap (6 + mod6 x.o) ≤ 11
    rw [wr (by omega) (by omega)]; omega
  · show vld (if vld x.c = true then x.c else numV 0) = true
    split
    · assumption
    · simp [vld, numV, seq_dec']
  · show 0 ≤ (if x.f < 0 then 2 else if 4 < x.f then 2 else x.f) ∧ (if x.f < 0 then 2 else if 4 < x.f then 2 else x.f) ≤ 4
    split
    · omega
    · split <;> omega
section
variable {H H0 : Hp}
theorem two_kidsA {A : Nat → Prop} {b : Nat} {r1 r2 : ER} {q1 q2 : Sl} {k1 k2 : Fo} (x : Row H b 41 (r1.row q1 ++ r2.row q2)) (hb : A b) (h1 : Xa A H q1 k1) (h2 : Xa A H q2 k2) : Xa A H (Sl.mk (some ⟨b, 0, none⟩) 2 2) (.cons r1 k1 (.cons r2 k2 .nil)) :=
  ⟨rfl, ⟨b, 0, none⟩, q1, rfl, hb, by rw [add_mk]; exact x.cells rfl, h1.n, h1.f, ⟨b, 0, none⟩, q2, rfl, hb, by rw [add_mk]; exact x.cells rfl, h2.n, h2.f, trivial⟩
theorem one_kidA {A : Nat → Prop} {b : Nat} {r1 : ER} {q1 : Sl} {k1 : Fo} (x : Row H b 41 (r1.row q1)) (hb : A b) (h1 : Xa A H q1 k1) : Xa A H (Sl.mk (some ⟨b, 0, none⟩) 1 1) (.cons r1 k1 .nil) :=
  ⟨rfl, ⟨b, 0, none⟩, q1, rfl, hb, by rw [add_mk]; exact x.cells rfl, h1.n, h1.f, trivial⟩
abbrev QEo (Q : QE) (r : ER) (q : Sl) (H : Hp) : Prop := Q r.k r.o r.vk r.vi r.vs r.vb r.v r.p r.a q H
theorem c11' {Q : Sl → Hp → Prop} (hQ : ∀ sl H', RdL eF H' sl (sixL.map fun r => (r, Sl.nil)) → (∀ a, sl.b = some a → H.size ≤ a.block) → Kp No H H' → Q sl H') : F11 H Q := by
  refine c18 fun H1 k1 => c18 fun H2 k2 => c18 fun H3 k3 => c18 fun H4 k4 => c18 fun H5 k5 H6 e6 => ?_
  have k6 : Kp No H5 H6 := (Kp.refl _ _).push' e6
  have y : Row H6 H5.size 41 ((sixL.map fun r => (r, Sl.nil)).flatMap eF.f) := Row.new' e6
  have k5' := k1.no2 (k2.no2 (k3.no2 (k4.no2 k5)))
  exact hQ _ H6 (y.rdl rfl 6) (fun a ha => by cases ha; exact k5'.size) (k5'.no2 k6)
theorem c11 {Q : Sl → Hp → Prop} (hQ : ∀ sl H', RdL eF H' sl (sixL.map fun r => (r, Sl.nil)) → Kp No H H' → Q sl H') : F11 H Q := c11' fun sl H' h _ k => hQ sl H' h k
theorem c50 {v : VT} {Q : QE} (hQ : ∀ q H', Xa (fun b => H.size ≤ b) H' q (litP v).2 → Kp No H H' → QEo Q (litP v).1 q H') : F50 v.k v.n v.s v.b H Q := by
  intro H1 e1 H3 e3
  have k3 : Kp No H H3 := ((Kp.refl No H).push' e1).push' e3
  have s1 := size_push' e1
  have s3 := size_push' e3
  have x3 : Row H3 H.size 25 v.row := (Row.new' e1).push' e3
  have z3 : Row H3 H1.size 41 (zeroE.row Sl.nil) := Row.new' e3
  unfold litP at hQ
  have plain : ¬ (v.k = 1 ∧ v.n < 0) → F50_1 Q ⟨H.size, 0, none⟩ ⟨H1.size, 0, none⟩ false H3 := fun h => by
    rw [if_neg h] at hQ
    refine ⟨fun h => (by cases h), fun _ => ⟨_, _, _, _, x3.all, ?_⟩⟩
    exact ret10 (K := Q) z3 rfl (valE v) Sl.nil fun H' _ k' => hQ Sl.nil H' (Xa.nil _ _) (k3.box k' (by omega))
  refine ⟨_, x3.cell_of (i := 0) rfl, fun h1 => ⟨_, rowc (i := 1) x3 rfl, ?_⟩, fun h1 => plain fun h => of_decide_eq_false h1 h.1⟩
  by_cases h2 : v.n < 0
  · rw [decide_eq_true h2]
    rw [if_pos ⟨of_decide_eq_true h1, h2⟩] at hQ
    refine ⟨fun _ => ⟨_, rowc (i := 1) x3 rfl, c19 fun H17 k17 H29 e29 => ?_⟩, fun h => (by cases h)⟩
    have k29 : Kp No H17 H29 := (Kp.refl _ _).push' e29
    have y29 : Row H29 H17.size 41 ((valE (numV (IntKind.i64.wrap (0 - v.n)))).row Sl.nil) := Row.new' e29
    have z29 := (k17.no2 k29).row z3 id
    have kA := k3.no2 (k17.no2 k29)
    have s17 := k17.size
    exact ret10 (K := Q) z29 rfl (opE 4 1) (Sl.mk (some ⟨H17.size, 0, none⟩) 1 1) fun H' _ k' => hQ _ H' (one_kidA (k'.row y29 (by show H17.size ≠ H1.size; omega)) (by show H.size ≤ H17.size; omega) (Xa.nil _ _)) (kA.box k' (by omega))
  · rw [decide_eq_false h2]
    exact plain fun h => h2 h.2
theorem six_get {i : Int} (h : 0 ≤ i ∧ i < 6) {sl : Sl} (hs : RdL eF H sl (sixL.map fun r => (r, Sl.nil))) : ∃ a, sl.b = some a ∧ 0 ≤ i ∧ i < (sl.n : Int) ∧ cells H (Addr.add a (i.toNat * 10)) ((sixP i).row Sl.nil) 0 := by
  have hn := hs.n
  have hl : (sixL.map fun r => (r, Sl.nil)).length = 6 := rfl
  have g : (sixL.map fun r => (r, Sl.nil))[i.toNat]? = some (sixP i, Sl.nil) := by
    unfold sixP
    rw [List.getElem?_map, List.getD_eq_getElem?_getD, List.getElem?_eq_getElem (by show i.toNat < 6; omega)]; rfl
  obtain ⟨a, ea, _, ca⟩ := hs.get g
  exact ⟨a, ea, h.1, by omega, ca⟩
theorem c29 {x : RelM} {Q : QE} (hx : TOk x) (hQ : ∀ q H', Xa (fun b => H.size ≤ b) H' q (condE x).2 → Kp No H H' → QEo Q (condE x).1 q H') : F29 x.o x.l x.r x.c.k x.c.n x.c.s x.c.b x.f H Q := by
  intro H1 e1 H3 e3
  have k3 : Kp No H H3 := ((Kp.refl No H).push' e1).push' e3
  have s1 := size_push' e1
  have s3 := size_push' e3
  have x3 : Row H3 H.size 31 (rlF.f x) := (Row.new' e1).push' e3
  have z3 : Row H3 H1.size 41 (zeroE.row Sl.nil) := Row.new' e3
  refine c11 fun sl H5 hs k5 => ?_
  have x5 := k5.row x3 id
  refine ⟨_, _, _, _, rowcs (i := 3) (m := x.c.row) x5 rfl, c50 fun q H13 hq k13 H25 e25 => ?_⟩
  have k25 : Kp No H13 H25 := (Kp.refl _ _).push' e25
  have y25 : Row H25 H13.size 41 (zeroE.row Sl.nil) := Row.new' e25
  refine ⟨y25.mayw (by simp), fun H27 e27 => ?_⟩
  have y27 : Row H27 H13.size 41 ((litP x.c).1.row q) := y25.fill' e27 rfl
  have k27 : Kp No H13 H27 := k25.box ((Kp.refl _ _).sets' e27 (.inl rfl)) (Nat.le_refl _)
  have kA : Kp No H5 H27 := k13.no2 k27
  have kB : Kp No H3 H27 := k5.no2 kA
  have kC := k3.no2 kB
  have x27 := kB.row x3 id
  have z27 := kB.row z3 id
  have hs27 := hs.kp0 kA
  have s5 := k5.size
  have s13 := k13.size
  have s27 := kC.size
  have hq27 : Xa (fun b => H.size ≤ b) H27 q (litP x.c).2 := (hq.no k27).mono fun b _ h => by omega
  obtain ⟨a, ea, l0, l1, ca⟩ := six_get hx.l hs27
  unfold condE at hQ
  -- the end: laid into the box and handed back
  have fin : ∀ (r : ER) (qq : Sl) (kd : Fo) (H2 : Hp), Kp No H27 H2 → Xa (fun b => H.size ≤ b ∧ b ≠ H1.size) H2 qq kd → (∀ q H', Xa (fun b => H.size ≤ b) H' q kd → Kp No H H' → QEo Q r q H') →
      mayw H2 ⟨H1.size, 0, none⟩ 10 0 ∧ ∀ H' : Hp, H' = sets H2 ⟨H1.size, 0, none⟩ (r.row qq) 0 → (∃ (x6 : Int) (x7 : Int) (x8 : Int) (x9 : Int) (x10 : ByteArray) (x11 : Bool) (x12 : ByteArray) (x13 : Int) (x14 : ByteArray) (x15 : Sl), cells H' ⟨H1.size, 0, none⟩ [(.int .i64 x6), (.int .i64 x7), (.int .i64 x8), (.int .i64 x9), (.string x10), (.bool x11), (.string x12), (.int .i64 x13), (.string x14), (Sl.v x15)] 0 ∧ (Q x6 x7 x8 x9 x10 x11 x12 x13 x14 x15 H')) := fun r qq kd H2 k2 hk hq =>
    ret10 (K := Q) (k2.row z27 id) rfl r qq fun H' _ k' => hq qq H' ((hk.kp k' fun b h e => h.2 e).mono fun b _ h => h.1) ((kC.no2 k2).box k' (by omega))
  have ne1 : ∀ {kd : Fo} {qq : Sl}, Xa (fun b => H5.size ≤ b) H27 qq kd → Xa (fun b => H.size ≤ b ∧ b ≠ H1.size) H27 qq kd := fun h => h.mono fun b _ hb => ⟨by omega, by omega⟩
  have hqA := ne1 (hq.no k27)
  have two : ∀ (r1 r2 : ER) (q1 q2 : Sl) (k1 k2 : Fo) (H' : Hp), H' = Array.push H27 (.cells (r1.row q1 ++ r2.row q2).toArray 41) → Xa (fun b => H.size ≤ b ∧ b ≠ H1.size) H27 q1 k1 → Xa (fun b => H.size ≤ b ∧ b ≠ H1.size) H27 q2 k2 → Kp No H27 H' ∧ Xa (fun b => H.size ≤ b ∧ b ≠ H1.size) H' (Sl.mk (some ⟨H27.size, 0, none⟩) 2 2) (.cons r1 k1 (.cons r2 k2 .nil)) := fun r1 r2 q1 q2 k1 k2 H' e h1 h2 => by
    have k : Kp No H27 H' := (Kp.refl _ _).push' e
    have y : Row H' H27.size 41 (r1.row q1 ++ r2.row q2) := Row.new' e
    exact ⟨k, two_kidsA y ⟨s27, by have := z27.lt; omega⟩ (h1.no k) (h2.no k)⟩
  refine ⟨_, rowc (i := 7) x27 rfl, fun f0 => ⟨_, x27.cell_of (i := 0) rfl, _, rowc (i := 1) x27 rfl, a, ea, l0, l1, _, _, _, _, _, _, _, _, _, _, ca, _, _, _, _, _, _, _, _, _, _, y27.all, fun H2 e2 => ?_⟩, fun f0 => ⟨fun f1 => ⟨_, x27.cell_of (i := 0) rfl, _, _, _, _, _, _, _, _, _, _, y27.all, _, rowc (i := 1) x27 rfl, a, ea, l0, l1, _, _, _, _, _, _, _, _, _, _, ca, fun H2 e2 => ?_⟩, fun f1 => ⟨fun f2 => ?_, fun f2 => ⟨fun f3 => ⟨_, rowc (i := 1) x27 rfl, a, ea, l0, l1, _, _, _, _, _, _, _, _, _, _, ca, ?_⟩, fun f3 => ⟨_, rowc (i := 1) x27 rfl, a, ea, l0, l1, _, _, _, _, _, _, _, _, _, _, ca, fun H2 e2 => ?_⟩⟩⟩⟩⟩
  · rw [if_pos (of_decide_eq_true f0)] at hQ
    obtain ⟨k2, hk⟩ := two (sixP x.l) (litP x.c).1 Sl.nil q .nil _ H2 e2 (Xa.nil _ _) hqA
    exact ⟨rowc (i := 1) (k2.row x27 id) rfl, (k2.row x27 id).cell_of (i := 0) rfl, fin (opE 5 x.o) _ _ H2 k2 hk hQ⟩
  · rw [if_neg (of_decide_eq_false f0), if_pos (of_decide_eq_true f1)] at hQ
    obtain ⟨k2, hk⟩ := two (litP x.c).1 (sixP x.l) q Sl.nil _ .nil H2 e2 hqA (Xa.nil _ _)
    exact ⟨rowc (i := 1) (k2.row x27 id) rfl, (k2.row x27 id).cell_of (i := 0) rfl, fin (opE 5 x.o) _ _ H2 k2 hk hQ⟩
  · rw [if_neg (of_decide_eq_false f0), if_neg (of_decide_eq_false f1), if_pos (of_decide_eq_true f2)] at hQ
    obtain ⟨a', ea', r0, r1, ca'⟩ := six_get hx.r hs27
    refine ⟨_, x27.cell_of (i := 0) rfl, _, rowc (i := 1) x27 rfl, a, ea, l0, l1, _, _, _, _, _, _, _, _, _, _, ca, _, rowc (i := 2) x27 rfl, a', ea', r0, r1, _, _, _, _, _, _, _, _, _, _, ca', fun H2 e2 => ?_⟩
    obtain ⟨k2, hk⟩ := two (sixP x.l) (sixP x.r) Sl.nil Sl.nil .nil .nil H2 e2 (Xa.nil _ _) (Xa.nil _ _)
    exact ⟨rowc (i := 2) (k2.row x27 id) rfl, rowc (i := 1) (k2.row x27 id) rfl, (k2.row x27 id).cell_of (i := 0) rfl, fin (opE 5 x.o) _ _ H2 k2 hk hQ⟩
  · rw [if_neg (of_decide_eq_false f0), if_neg (of_decide_eq_false f1), if_neg (of_decide_eq_false f2), if_pos (of_decide_eq_true f3)] at hQ
    exact fin (sixP x.l) Sl.nil .nil H27 (Kp.refl _ _) (Xa.nil _ _) hQ
  · rw [if_neg (of_decide_eq_false f0), if_neg (of_decide_eq_false f1), if_neg (of_decide_eq_false f2), if_neg (of_decide_eq_false f3)] at hQ
    have k2 : Kp No H27 H2 := (Kp.refl _ _).push' e2
    have y2 : Row H2 H27.size 41 ((sixP x.l).row Sl.nil) := Row.new' e2
    exact fin (opE 4 2) _ _ H2 k2 (one_kidA y2 ⟨s27, by have := z27.lt; omega⟩ (Xa.nil _ _)) hQ
end
end Go.Hw
