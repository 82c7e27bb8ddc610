/- The law's relations: tidied; joined; what holds; what is told. Own work of this session. -/
import Derived.Test.YtkdjcmfmflljlaaDoorL3
set_option linter.unusedVariables false
namespace Go.Hw
open Go

abbrev QR := Int → Int → Int → Int → Int → ByteArray → Bool → Int → Hp → Prop
abbrev QRo (Q : QR) (x : RelM) (H : Hp) : Prop := Q x.o x.l x.r x.c.k x.c.n x.c.s x.c.b x.f H
def zeroR : RelM := ⟨0, 0, 0, zeroV, 0⟩
def tidiedP (rels : List RelM) : List RelM := (rels.take 40).map tidyP
def andE (a b : ER × Fo) : ER × Fo := (opE 5 12, .cons a.1 a.2 (.cons b.1 b.2 .nil))
def jstep (and : List Bool) (st : List (ER × Fo)) (i : Nat) (x : RelM) : List (ER × Fo) :=
  if st ≠ [] ∧ i < and.length ∧ and.getD i false = true then st.dropLast ++ [andE (st.getLastD (zeroE, .nil)) (condE x)] else st ++ [condE x]
def jSt (rels : List RelM) (and : List Bool) : Nat → List (ER × Fo)
  | 0 => []
  | i + 1 => jstep and (jSt rels and i) i (rels.getD i zeroR)
def joinedP (rels : List RelM) (and : List Bool) : List (ER × Fo) := jSt rels and rels.length
theorem jSt_len (rels : List RelM) (and : List Bool) : ∀ i, (jSt rels and i).length ≤ i
  | 0 => Nat.le_refl _
  | i + 1 => by
    have := jSt_len rels and i
    rw [jSt, jstep]
    split
    · rename_i h
      have : (jSt rels and i).length ≠ 0 := fun e => h.1 (List.eq_nil_of_length_eq_zero e)
      rw [List.length_append, List.length_dropLast, List.length_singleton]; omega
    · rw [List.length_append, List.length_singleton]; omega
def boF : Fmt Bool 4 1 := ⟨fun x => [.bool x], fun _ => rfl, by intro x v hv; simp at hv; rcases hv with rfl; rfl, by decide⟩
section
variable {H H0 : Hp}
theorem c20 {x : RelM} {Q : QR} (hQ : ∀ H', Kp No H H' → QRo Q (tidyP x) H') : F20 x.o x.l x.r x.c.k x.c.n x.c.s x.c.b x.f H Q := by
  intro H1 e1 H3 e3
  have k3 : Kp No H H3 := ((Kp.refl No H).push' e1).push' e3
  have s1 := size_push' e1
  have s3 := size_push' e3
  have x3 : Row H3 H.size 31 (rlF.f x) := (Row.new' e1).push' e3
  have z3 : Row H3 H1.size 31 (rlF.f zeroR) := Row.new' e3
  -- the box after a writing
  have fin2 : ∀ (y : RelM) (H2 : Hp), tidyP x = y → Kp No H H2 → Row H2 H.size 31 (rlF.f y) → Row H2 H1.size 31 (rlF.f zeroR) → F20_2 Q ⟨H.size, 0, none⟩ ⟨H1.size, 0, none⟩ H2 := fun y H2 e k2 r z => by
    refine ⟨_, _, _, _, _, _, _, _, r.all, z.mayw (by simp [rlF]), fun H62 e62 => ?_⟩
    have r62 : Row H62 H1.size 31 (rlF.f y) := z.fill' e62 rfl
    have k62 : Kp (fun x => x = H1.size) H2 H62 := (Kp.refl _ _).sets' e62 (.inl rfl)
    have := hQ H62 (k2.box k62 (by omega))
    rw [e] at this
    exact ⟨_, _, _, _, _, _, _, _, r62.all, this⟩
  have fin1 : ∀ (y : RelM) (H2 : Hp), y = { tidyP x with f := x.f } → Kp No H H2 → Row H2 H.size 31 (rlF.f y) → Row H2 H1.size 31 (rlF.f zeroR) → F20_1 Q ⟨H.size, 0, none⟩ ⟨H1.size, 0, none⟩ H2 := fun y H2 e k2 r z => by
    have two : (x.f < 0 ∨ 4 < x.f) → F20_3 Q ⟨H.size, 0, none⟩ ⟨H1.size, 0, none⟩ true H2 := fun hf => by
      refine ⟨fun _ => ⟨by rw [add_mk]; exact r.some (by simp [rlF]), by rw [add_mk]; exact r.frz _, fun H49 e49 => ?_⟩, fun h => (by cases h)⟩
      rw [add_mk] at e49
      have r49 : Row H49 H.size 31 (rlF.f { y with f := 2 }) := r.set' e49
      have k49 : Kp (fun x => x = H.size) H2 H49 := (Kp.refl _ _).set' e49 (.inl rfl)
      refine fin2 _ H49 ?_ (k2.box k49 (Nat.le_refl _)) r49 (k49.row z (by omega))
      rw [e]
      show RelM.mk (tidyP x).o (tidyP x).l (tidyP x).r (tidyP x).c (if x.f < 0 then 2 else if 4 < x.f then 2 else x.f) = _
      rcases hf with h | h
      · rw [if_pos h]
      · rw [if_neg (show ¬ x.f < 0 by omega), if_pos h]
    have ef : y.f = x.f := by rw [e]
    have one : ¬ x.f < 0 → ¬ 4 < x.f → F20_3 Q ⟨H.size, 0, none⟩ ⟨H1.size, 0, none⟩ false H2 := fun h1 h2 => by
      refine ⟨fun h => (by cases h), fun _ => fin2 y H2 ?_ k2 r z⟩
      rw [e]
      show RelM.mk (tidyP x).o (tidyP x).l (tidyP x).r (tidyP x).c (if x.f < 0 then 2 else if 4 < x.f then 2 else x.f) = _
      rw [if_neg h1, if_neg h2]
    refine ⟨_, rowc (i := 7) r rfl, fun h => two (.inl (by rw [← ef]; exact of_decide_eq_true h)), fun h => ⟨_, rowc (i := 7) r rfl, ?_⟩⟩
    have h0 : ¬ x.f < 0 := by rw [← ef]; exact of_decide_eq_false h
    by_cases h4 : (4 : Int) < y.f
    · rw [decide_eq_true h4]; exact two (.inr (by rw [← ef]; exact h4))
    · rw [decide_eq_false h4]; exact one h0 (by rw [← ef]; exact h4)
  refine ⟨_, x3.cell_of (i := 0) rfl, x3.some (by simp [rlF]), x3.frz 0, fun H7 e7 => ?_⟩
  have x7 : Row H7 H.size 31 (rlF.f { x with o := IntKind.i64.wrap (6 + mod6 x.o) }) := x3.set' (i := 0) e7
  have k7 : Kp (fun x => x = H.size) H3 H7 := (Kp.refl _ _).set' e7 (.inl rfl)
  refine ⟨_, rowc (i := 1) x7 rfl, by rw [add_mk]; exact x7.some (by simp [rlF]), by rw [add_mk]; exact x7.frz _, fun H13 e13 => ?_⟩
  rw [add_mk] at e13
  have x13 : Row H13 H.size 31 (rlF.f { x with o := IntKind.i64.wrap (6 + mod6 x.o), l := mod6 x.l }) := x7.set' e13
  have k13 : Kp (fun x => x = H.size) H7 H13 := (Kp.refl _ _).set' e13 (.inl rfl)
  refine ⟨_, rowc (i := 2) x13 rfl, by rw [add_mk]; exact x13.some (by simp [rlF]), by rw [add_mk]; exact x13.frz _, fun H19 e19 => ?_⟩
  rw [add_mk] at e19
  have x19 : Row H19 H.size 31 (rlF.f { x with o := IntKind.i64.wrap (6 + mod6 x.o), l := mod6 x.l, r := mod6 x.r }) := x13.set' e19
  have k19 : Kp (fun x => x = H.size) H13 H19 := (Kp.refl _ _).set' e19 (.inl rfl)
  have z19 := k19.row (k13.row (k7.row z3 (by omega)) (by omega)) (by omega)
  have kA : Kp No H H19 := ((k3.box k7 (Nat.le_refl _)).box k13 (Nat.le_refl _)).box k19 (Nat.le_refl _)
  refine ⟨_, _, _, _, rowcs (i := 3) (m := x.c.row) x19 rfl, c13 (v := x.c) fun H28 k28 => ⟨fun hv => ?_, fun hv => ?_⟩⟩
  · have hv : vld x.c = false := by simpa using hv
    have x28 := k28.row x19 id
    refine ⟨by rw [add_mk]; exact x28.mayw (by simp [rlF]), fun H34 e34 => ?_⟩
    rw [add_mk] at e34
    have x34 : Row H34 H.size 31 (rlF.f { x with o := IntKind.i64.wrap (6 + mod6 x.o), l := mod6 x.l, r := mod6 x.r, c := numV 0 }) := x28.sets' e34 (by simp [rlF])
    have k34 : Kp (fun x => x = H.size) H28 H34 := (Kp.refl _ _).sets' e34 (.inl rfl)
    refine fin1 _ H34 ?_ ((kA.no2 k28).box k34 (Nat.le_refl _)) x34 (k34.row (k28.row z19 id) (by omega))
    unfold tidyP
    rw [hv, if_neg (by decide)]
  · have hv : vld x.c = true := by simpa using hv
    refine fin1 _ H28 ?_ (kA.no2 k28) (k28.row x19 id) (k28.row z19 id)
    unfold tidyP
    rw [hv, if_pos rfl]
theorem c7 {sl : Sl} {rels : List RelM} {Q : Sl → Hp → Prop} (h : RdL rlF H sl rels) (hn : rels.length ≤ 9223372036854775807) (hQ : ∀ r H', Lst rlF H' r (tidiedP rels) → (∀ b, r.at b → H.size ≤ b) → Kp No H H' → Q r H') : F7 sl H Q := by
  have hln := h.n
  intro X hX
  suffices ∀ d i r H', i + d = min 40 rels.length → Lst rlF H' r ((rels.take i).map tidyP) → (∀ b, r.at b → H.size ≤ b) → Kp No H H' → X r i H' from this _ 0 Sl.nil H (Nat.zero_add _) (Lst.nil _ _) (fun b hb => by cases hb) (Kp.refl _ _)
  intro d
  induction d with
  | zero =>
    intro i r H' hi lr br k
    have e : (rels.take i).map tidyP = tidiedP rels := by
      unfold tidiedP
      congr 1
      by_cases hl : rels.length ≤ 40
      · rw [List.take_of_length_le (by omega), List.take_of_length_le hl]
      · rw [show i = 40 by omega]
    rw [e] at lr
    refine hX _ _ _ ⟨fun h1 => ⟨fun h2 => ?_, fun _ => hQ r H' lr br k⟩, fun _ => hQ r H' lr br k⟩
    have := of_decide_eq_true h1
    have := of_decide_eq_true h2
    omega
  | succ d ih =>
    intro i r H' hi lr br k
    obtain ⟨x, gx⟩ : ∃ x, rels[i]? = some x := ⟨_, List.getElem?_eq_getElem (by omega)⟩
    have htk := take_snoc gx
    obtain ⟨a, ea, han, ca⟩ := (h.kp0 k).get gx
    have en : ((i : Nat) : Int).toNat = i := by omega
    refine hX _ _ _ ⟨fun _ => ⟨fun _ => ⟨a, ea, by omega, by omega, _, _, _, _, _, _, _, _, by rw [en]; exact ca, c20 (x := x) fun H20 k20 H30 e30 => ?_⟩, fun h => absurd (of_decide_eq_false h) (by omega)⟩, fun h => absurd (of_decide_eq_false h) (by omega)⟩
    have k30 : Kp No H20 H30 := (Kp.refl _ _).push' e30
    have y30 : Row H30 H20.size 31 (rlF.f zeroR) := Row.new' e30
    refine ⟨y30.mayw (by simp [rlF]), fun H32 e32 => ?_⟩
    have y32 : Row H32 H20.size 31 (rlF.f (tidyP x)) := y30.fill' e32 rfl
    have k32 : Kp No H20 H32 := k30.box ((Kp.refl _ _).sets' e32 (.inl rfl)) (Nat.le_refl _)
    refine ⟨_, _, _, _, _, _, _, _, y32.all, fun H44 e44 => ?_⟩
    have k44 : Kp No H32 H44 := (Kp.refl _ _).push' e44
    have b44 : Row H44 H32.size 31 (rlF.f (tidyP x)) := Row.new' e44
    have kA := k20.no2 (k32.no2 k44)
    have hl : ((rels.take i).map tidyP).length ≤ 40 := by rw [List.length_map, List.length_take]; omega
    refine (lr.kp kA fun _ _ => id).append1 b44 rfl (by omega) (by omega) fun r48 H46 l46 k46 b46 => ?_
    rw [wr (by omega) (by omega), show ((i : Int) + 1) = ((i + 1 : Nat) : Int) by omega]
    refine ih (i + 1) r48 H46 (by omega) ?_ (fun b hb => ?_) ((k.no2 kA).trans k46 fun b hb => .inr (br b hb))
    · rw [htk, List.map_append]; exact l46
    · rcases b46 b hb with e | e
      · exact br b e
      · have := (k.no2 (k20.no2 k32)).size
        have := k44.size
        omega

/-! ## joined -/
/-- Conditions with a row of their own, their kids elsewhere. -/
structure JL (H : Hp) (sl : Sl) (W : List WE) : Prop where
  l : Lst eF H sl (W.map Prod.fst)
  x : ∀ w ∈ W, w.1.1 = w.2.1 ∧ Xa (fun b => ¬ sl.at b) H w.1.2 w.2.2
theorem JL.cs {sl : Sl} {W : List WE} (h : JL H sl W) : CsH H sl W := ⟨h.l.rd, fun w hw => ⟨(h.x w hw).1, (h.x w hw).2.xk⟩⟩
theorem JL.no {H' : Hp} {sl : Sl} {W : List WE} (h : JL H sl W) (k : Kp No H H') : JL H' sl W := ⟨h.l.kp k fun _ _ => id, fun w hw => ⟨(h.x w hw).1, (h.x w hw).2.no k⟩⟩
theorem c10 {sl an : Sl} {rels : List RelM} {and : List Bool} {Q : Sl → Hp → Prop} (h : RdL rlF H sl rels) (ha : RdL boF H an and) (hn : rels.length ≤ 40) (hal : and.length ≤ 9223372036854775807) (ht : ∀ x ∈ rels, TOk x)
    (hQ : ∀ r W H', W.map Prod.snd = joinedP rels and → JL H' r W → Kp No H H' → Q r H') : F10 sl an H Q := by
  have hln := h.n
  have han := ha.n
  intro X hX
  suffices ∀ d i r W H', i + d = rels.length → W.map Prod.snd = jSt rels and i → JL H' r W → (∀ b, r.at b → H.size ≤ b) → Kp No H H' → X r i H' from this _ 0 Sl.nil [] H (Nat.zero_add _) rfl ⟨Lst.nil _ _, fun w hw => by cases hw⟩ (fun b hb => by cases hb) (Kp.refl _ _)
  intro d
  induction d with
  | zero =>
    intro i r W H' hi hw lr br k
    refine hX _ _ _ ⟨fun hh => absurd (of_decide_eq_true hh) (by omega), fun _ => ?_⟩
    rw [show i = rels.length by omega] at hw
    exact hQ r W H' hw lr k
  | succ d ih =>
    intro i r W H' hi hw lr br k
    obtain ⟨x, gx⟩ : ∃ x, rels[i]? = some x := ⟨_, List.getElem?_eq_getElem (by omega)⟩
    have gd : rels.getD i zeroR = x := by rw [List.getD_eq_getElem?_getD, gx]; rfl
    have htx := ht x (List.mem_of_getElem? gx)
    obtain ⟨a, ea, hab, ca⟩ := (h.kp0 k).get gx
    have en : ((i : Nat) : Int).toNat = i := by omega
    have hjs : jSt rels and (i + 1) = jstep and (jSt rels and i) i x := by rw [jSt, gd]
    have hWl : W.length = (jSt rels and i).length := by rw [← hw, List.length_map]
    have hjl := jSt_len rels and i
    have hrn := lr.l.n
    rw [List.length_map] at hrn
    refine hX _ _ _ ⟨fun _ => ⟨a, ea, by omega, by omega, _, _, _, _, _, _, _, _, by rw [en]; exact ca, c29 htx fun q H22 hq k22 H34 e34 => ?_⟩, fun hh => absurd (of_decide_eq_false hh) (by omega)⟩
    have k34 : Kp No H22 H34 := (Kp.refl _ _).push' e34
    have y34 : Row H34 H22.size 41 (zeroE.row Sl.nil) := Row.new' e34
    refine ⟨y34.mayw (by simp), fun H36 e36 => ?_⟩
    have y36 : Row H36 H22.size 41 ((condE x).1.row q) := y34.fill' e36 rfl
    have k36 : Kp No H22 H36 := k34.box ((Kp.refl _ _).sets' e36 (.inl rfl)) (Nat.le_refl _)
    have kA := k22.no2 k36
    have kB := k.no2 kA
    have lr36 := lr.no kA
    have rlt : ∀ b, r.at b → b < H'.size := fun b hb => lr.l.lt hb
    have hq36 : Xa (fun b => ¬ r.at b) H36 q (condE x).2 := (hq.no k36).mono fun b _ hb hh => by have := rlt b hh; omega
    have s22 := k22.size
    -- put behind
    have push : (jstep and (jSt rels and i) i x = jSt rels and i ++ [condE x]) → F10_4 Q X sl an r i ⟨H22.size, 0, none⟩ false H36 := fun hj => by
      refine ⟨fun h => (by cases h), fun _ => ⟨_, _, _, _, _, _, _, _, _, _, y36.all, fun H103 e103 => ?_⟩⟩
      have k103 : Kp No H36 H103 := (Kp.refl _ _).push' e103
      have b103 : Row H103 H36.size 41 (eF.f ((condE x).1, q)) := Row.new' e103
      have lr3 := lr36.no k103
      have s103 := size_push' e103
      refine lr3.l.append1 b103 rfl (by rw [List.length_map]; omega) (by rw [List.length_map]; omega) fun r107 H105 l105 k105 b105 => ?_
      unfold F10_3
      rw [wr (by omega) (by omega), show ((i : Int) + 1) = ((i + 1 : Nat) : Int) by omega]
      have s36 := kB.size
      refine ih (i + 1) r107 (W ++ [(((condE x).1, q), condE x)]) H105 (by omega) ?_ ⟨by rw [List.map_append]; exact l105, fun w hw' => ?_⟩ (fun b hb => ?_) ((kB.no2 k103).trans k105 fun b hb => .inr (br b hb))
      · rw [List.map_append, hw, hjs, hj]; rfl
      · have nw : ∀ {kd : Fo} {qq : Sl}, Xa (fun b => ¬ r.at b) H36 qq kd → Xa (fun b => ¬ r107.at b) H105 qq kd := fun hx => by
          have h1 : Xa (fun b => ¬ r.at b ∧ b < H36.size) H36 _ _ := hx.mono fun b hb h => ⟨h, hb⟩
          refine ((h1.no k103).kp k105 fun b h => h.1).mono fun b _ h hh => ?_
          rcases b105 b hh with e | e
          · exact h.1 e
          · omega
        rcases List.mem_append.1 hw' with hw' | hw'
        · exact ⟨(lr36.x w hw').1, nw (lr36.x w hw').2⟩
        · rw [List.mem_singleton] at hw'; subst hw'
          exact ⟨rfl, nw hq36⟩
      · rcases b105 b hb with e | e
        · exact br b e
        · omega
    -- joined with the last
    have join : W ≠ [] → (jstep and (jSt rels and i) i x = (jSt rels and i).dropLast ++ [andE ((jSt rels and i).getLastD (zeroE, .nil)) (condE x)]) → F10_4 Q X sl an r i ⟨H22.size, 0, none⟩ true H36 := fun hne hj => by
      obtain ⟨W0, w, rfl⟩ : ∃ W0 w, W = W0 ++ [w] := ⟨W.dropLast, W.getLast hne, (List.dropLast_concat_getLast _).symm⟩
      have hlen : r.n = W0.length + 1 := by rw [hrn]; simp
      have hj0 : jSt rels and i = W0.map Prod.snd ++ [w.2] := by rw [← hw, List.map_append]; rfl
      have gw : ((W0 ++ [w]).map Prod.fst)[W0.length]? = some w.1 := by rw [List.getElem?_map, List.getElem?_append_right (Nat.le_refl _), Nat.sub_self]; rfl
      obtain ⟨b, eb, hbn, cb⟩ := lr36.l.rd.get gw
      have ei : IntKind.i64.wrap ((r.n : Int) - 1) = (W0.length : Int) := by rw [hlen, wr (by omega) (by omega)]; omega
      have et : ((W0.length : Nat) : Int).toNat = W0.length := by omega
      rw [hj0] at hj
      rw [List.dropLast_concat, List.getLastD_concat] at hj
      refine ⟨fun _ => ?_, fun h => (by cases h)⟩
      rw [ei, et]
      obtain ⟨hwe, hwx⟩ := lr36.x w (List.mem_append_right _ (List.mem_singleton.2 rfl))
      refine ⟨b, eb, by omega, by omega, _, _, _, _, _, _, _, _, _, _, cb, _, _, _, _, _, _, _, _, _, _, y36.all, fun H82 e82 => ?_⟩
      have k82 : Kp No H36 H82 := (Kp.refl _ _).push' e82
      have y82 : Row H82 H36.size 41 (w.1.1.row w.1.2 ++ (condE x).1.row q) := Row.new' e82
      have lr82 := lr36.no k82
      have hr36 : ¬ r.at H36.size := fun hb => by have := lr36.l.lt hb; omega
      have hkids : Xa (fun b => ¬ r.at b) H82 (Sl.mk (some ⟨H36.size, 0, none⟩) 2 2) (andE w.2 (condE x)).2 := by
        rw [hwe] at y82
        exact two_kidsA y82 hr36 (hwx.no k82) (hq36.no k82)
      obtain ⟨b', eb', ab', hb', hm, hwr⟩ := lr82.l.set (i := W0.length) (by simp) ((opE 5 12), Sl.mk (some ⟨H36.size, 0, none⟩) 2 2)
      refine ⟨b', eb', by omega, by omega, hm, fun H88 e88 => ?_⟩
      obtain ⟨l88, k88⟩ := hwr H88 e88
      have hset : ((W0 ++ [w]).map Prod.fst).set W0.length (opE 5 12, Sl.mk (some ⟨H36.size, 0, none⟩) 2 2) = (W0 ++ [(((opE 5 12), Sl.mk (some ⟨H36.size, 0, none⟩) 2 2), andE w.2 (condE x))]).map Prod.fst := by
        rw [List.map_append, List.map_append, List.set_append_right _ _ (by rw [List.length_map]; exact Nat.le_refl _), List.length_map, Nat.sub_self]; rfl
      rw [hset] at l88
      unfold F10_3
      rw [wr (by omega) (by omega), show ((i : Int) + 1) = ((i + 1 : Nat) : Int) by omega]
      refine ih (i + 1) r _ H88 (by omega) ?_ ⟨l88, fun z hz => ?_⟩ br ((kB.no2 k82).trans k88 fun b hb => .inr (br b hb))
      · rw [List.map_append, hjs, hj0, hj]; rfl
      · rcases List.mem_append.1 hz with hz | hz
        · have := lr82.x z (List.mem_append_left _ hz)
          exact ⟨this.1, this.2.kp k88 fun b h => h⟩
        · rw [List.mem_singleton] at hz; subst hz
          exact ⟨rfl, hkids.kp k88 fun b h => h⟩
    have hW0 : (0 < r.n) ↔ jSt rels and i ≠ [] := by
      rw [hrn, hWl]
      exact List.length_pos_iff
    refine ⟨fun h0 => ⟨fun h1 => ?_, fun h1 => push ?_⟩, fun h0 => push ?_⟩
    · have hi1 : i < and.length := by have := of_decide_eq_true h1; omega
      have hj0 := hW0.1 (by have := of_decide_eq_true h0; omega)
      obtain ⟨b, gb⟩ : ∃ b, and[i]? = some b := ⟨_, List.getElem?_eq_getElem hi1⟩
      have gbd : and.getD i false = b := by rw [List.getD_eq_getElem?_getD, gb]; rfl
      obtain ⟨c, ec, hcn, cc⟩ := (ha.kp0 kB).get gb
      refine ⟨c, ec, by omega, by omega, b, by rw [en]; exact cc.1, ?_⟩
      cases b with
      | true =>
        refine join (fun e => hj0 (by rw [← hw, e]; rfl)) ?_
        rw [jstep, if_pos ⟨hj0, hi1, gbd⟩]
      | false =>
        refine push ?_
        rw [jstep, if_neg (fun h => by rw [gbd] at h; cases h.2.2)]
    · rw [jstep, if_neg (fun h => absurd (of_decide_eq_false h1) (by have := h.2.1; omega))]
    · rw [jstep, if_neg (fun h => absurd (hW0.2 h.1) (by have := of_decide_eq_false h0; omega))]
end
end Go.Hw
